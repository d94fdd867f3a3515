/- A part of the proof (GmA5a): an abstract machine, what it does, and what the functions of the program come to on it. -/
import Derived.KernelRfl
import Derived.Test.YtdpmglimjmecgaaGmP3
set_option linter.unusedVariables false
namespace Go.Gm.A5
open Go Go.Gm
abbrev f_main_main : FuncId := 0
abbrev f_gosem_cut : FuncId := 1
abbrev f_gosem_cut_init : FuncId := 2
abbrev f_milestonelaw5_MatchAll : FuncId := 3
abbrev f_milestonelaw5_MatchWords : FuncId := 4
abbrev f_milestonelaw5_MatchRules : FuncId := 5
abbrev f_milestonelaw5_MatchTimes : FuncId := 6
abbrev f_milestonelaw5_MatchKnown : FuncId := 7
abbrev f_milestonelaw5_MatchNone : FuncId := 8
abbrev f_milestonelaw5_MatchTurned : FuncId := 9
abbrev f_milestonelaw5_MatchCounts : FuncId := 10
abbrev f_milestonelaw5_MatchSets : FuncId := 11
abbrev f_milestonelaw5_known : FuncId := 12
abbrev f_milestonelaw4_Few : FuncId := 13
abbrev f_milestonelaw4_One : FuncId := 14
abbrev f_milestonelaw5_Word : FuncId := 15
abbrev f_match_Match : FuncId := 16
abbrev f_milestoneref5_Match : FuncId := 17
abbrev f_match_Null : FuncId := 18
abbrev f_milestoneref5_Null : FuncId := 19
abbrev f_milestonelaw5_within : FuncId := 20
abbrev f_match_Words : FuncId := 21
abbrev f_milestoneref5_Words : FuncId := 22
abbrev f_milestoneref1_Ints : FuncId := 23
abbrev f_milestonelaw5_Of : FuncId := 24
abbrev f_milestonelaw5_turned : FuncId := 25
abbrev f_milestonelaw5_many : FuncId := 26
abbrev f_milestonelaw5_wider : FuncId := 27
abbrev f_milestonelaw4_size : FuncId := 28
abbrev f_milestonelaw4_Raw_Make : FuncId := 29
abbrev f_match_matcher_ends : FuncId := 30
abbrev f_match_matcher_flat : FuncId := 31
abbrev f_milestoneref5_ends : FuncId := 32
abbrev f_milestoneref5_one : FuncId := 33
abbrev f_slices_Clone_int : FuncId := 34
abbrev f_slices_Clone_int_int : FuncId := 35
abbrev f_milestoneref5_Next : FuncId := 36
abbrev f_milestoneref4_Parse : FuncId := 37
abbrev f_milestonelaw4_within : FuncId := 38
abbrev f_milestonelaw4_Raw_part : FuncId := 39
abbrev f_match_matcher_step : FuncId := 40
abbrev f_match_matcher_none : FuncId := 41
abbrev f_match_together : FuncId := 42
abbrev f_match_matcher_again : FuncId := 43
abbrev f_milestoneref5_both : FuncId := 44
abbrev f_milestoneref5_often : FuncId := 45
abbrev f_milestoneref5_repeat : FuncId := 46
abbrev f_milestoneref4_reader_union : FuncId := 47
abbrev f_milestoneref4_reader_fail : FuncId := 48
abbrev f_slices_Clone_bool : FuncId := 49
abbrev f_milestoneref4_reader_join : FuncId := 50
abbrev f_milestoneref4_reader_next : FuncId := 51
abbrev f_milestoneref4_reader_piece : FuncId := 52
abbrev f_milestoneref4_reader_atom : FuncId := 53
abbrev f_milestoneref4_reader_times : FuncId := 54
abbrev f_milestoneref4_mode : FuncId := 55
abbrev f_milestoneref4_reader_class : FuncId := 56
abbrev f_milestoneref4_reader_group : FuncId := 57
abbrev f_runtime_boundsError_Error : FuncId := 58
abbrev f_runtime_boundsError_RuntimeError : FuncId := 59
abbrev f_runtime_errorString_Error : FuncId := 60
abbrev f_runtime_errorString_RuntimeError : FuncId := 61
abbrev f_runtime_plainError_Error : FuncId := 62
abbrev f_runtime_plainError_RuntimeError : FuncId := 63
abbrev f_runtime_errorAddressString_Error : FuncId := 64
abbrev f_runtime_errorAddressString_RuntimeError : FuncId := 65
abbrev f_runtime_TypeAssertionError_Error : FuncId := 66
abbrev f_runtime_TypeAssertionError_RuntimeError : FuncId := 67
abbrev f_runtime_PanicNilError_Error : FuncId := 68
abbrev f_runtime_PanicNilError_RuntimeError : FuncId := 69
abbrev f_internal_abi_Type_Align : FuncId := 70
abbrev f_internal_runtime_maps_unhashableTypeError_Error : FuncId := 71
abbrev f_internal_runtime_maps_unhashableTypeError_RuntimeError : FuncId := 72
abbrev f_internal_abi_Kind_String : FuncId := 73
noncomputable def milestonelaw5_MatchAll_c1 : MCode := .seq [25] (.seq [24] (.region [⟨some 24, .op (.mv (.tmp 10)), none⟩,
  ⟨some 25, .op (.bin .leq .scalar (.tmp 24) (.const (.int .i64 8))), none⟩]) (.cond (.tmp 25) .skip (.exit 0))) (.seq [38] (.block 1 (.seq [28, 29, 30, 31] (.region [⟨some 28, .op (.mv (.tmp 1)), none⟩,
  ⟨some 29, .op (.mv (.tmp 10)), none⟩,
  ⟨some 30, .op (.mv (.tmp 2)), none⟩,
  ⟨some 31, .call f_milestonelaw5_Word [(.tmp 28), (.tmp 29), (.tmp 30)], none⟩,
  ⟨some 11, .op (.mv (.tmp 31)), none⟩]) (.seq [11, 32, 33, 34, 35, 36, 37] (.regionD 53 [⟨0, ⟨some 53, .op (.load (some 5) (.tmp 9)), none⟩, []⟩,
  ⟨1, ⟨some 54, .op (.mv (.tmp 11)), none⟩, []⟩,
  ⟨3, ⟨some 56, .op (.load (some 5) (.tmp 9)), none⟩, []⟩,
  ⟨4, ⟨some 57, .op (.mv (.tmp 11)), none⟩, []⟩,
  ⟨2, ⟨some 55, .call f_match_Match [(.tmp 53), (.tmp 54)], none⟩, [(56, ⟨some 56, .op (.load (some 5) (.tmp 9)), none⟩)]⟩,
  ⟨5, ⟨some 58, .call f_milestoneref5_Match [(.tmp 56), (.tmp 57)], none⟩, []⟩,
  ⟨6, ⟨some 59, .op (.bin .neq .bool (.tmp 55) (.tmp 58)), none⟩, []⟩] [(32, 53), (33, 54), (34, 55), (35, 56), (36, 57), (37, 58), (38, 59)]) (.cond (.tmp 38) (.seq [1, 2, 3, 9, 10, 38] (.region [⟨some 8, .op (.mv (.const (.bool false))), none⟩]) .ret) .skip)))) (.region [⟨some 26, .op (.mv (.tmp 10)), none⟩,
  ⟨some 27, .op (.bin .add .scalar (.tmp 26) (.const (.int .i64 1))), none⟩,
  ⟨some 10, .op (.mv (.tmp 27)), none⟩]))
noncomputable def milestonelaw5_MatchAll_c2 : MCode := .seq [3, 9, 39, 40, 41, 42, 43, 44, 45, 46, 47, 48, 49, 50, 51, 52] (.regionD 53 [⟨0, ⟨some 53, .op (.load (some 5) (.tmp 9)), none⟩, []⟩,
  ⟨1, ⟨some 54, .op (.mv (.tmp 3)), none⟩, []⟩,
  ⟨3, ⟨some 56, .op (.load (some 5) (.tmp 9)), none⟩, []⟩,
  ⟨4, ⟨some 57, .op (.mv (.tmp 3)), none⟩, []⟩,
  ⟨2, ⟨some 55, .call f_match_Match [(.tmp 53), (.tmp 54)], none⟩, [(56, ⟨some 56, .op (.load (some 5) (.tmp 9)), none⟩)]⟩,
  ⟨5, ⟨some 58, .call f_milestoneref5_Match [(.tmp 56), (.tmp 57)], none⟩, []⟩,
  ⟨6, ⟨some 59, .op (.bin .eql .bool (.tmp 55) (.tmp 58)), none⟩, []⟩,
  ⟨7, ⟨some 60, .op (.mv (.tmp 59)), none⟩, []⟩,
  ⟨8, ⟨some 61, .op (.load (some 5) (.tmp 9)), some (60, true)⟩, []⟩,
  ⟨10, ⟨some 63, .op (.load (some 5) (.tmp 9)), some (60, true)⟩, []⟩,
  ⟨9, ⟨some 62, .call f_match_Null [(.tmp 61)], some (60, true)⟩, [(63, ⟨some 63, .op (.load (some 5) (.tmp 9)), some (60, true)⟩)]⟩,
  ⟨11, ⟨some 64, .call f_milestoneref5_Null [(.tmp 63)], some (60, true)⟩, []⟩,
  ⟨12, ⟨some 65, .op (.bin .eql .bool (.tmp 62) (.tmp 64)), some (60, true)⟩, []⟩,
  ⟨13, ⟨some 66, .op (.pick (.tmp 60) (.tmp 65) (.const (.bool false))), none⟩, []⟩,
  ⟨14, ⟨some 67, .op (.mv (.tmp 66)), none⟩, []⟩] [(39, 53), (40, 54), (41, 55), (42, 56), (43, 57), (44, 58), (45, 59), (46, 60), (47, 61), (48, 62), (49, 63), (50, 64), (51, 65), (52, 66), (8, 67)]) .ret
def milestonelaw5_MatchAll_rs : Res := [(8, none)]
noncomputable def milestonelaw5_MatchAll_mf : MFn := ⟨53, milestonelaw5_MatchAll_rs, .seq [8] (.region [⟨some 8, .op (.mv (.const (.bool false))), none⟩]) (.seq [13] (.seq [12] (.region [⟨some 12, .call f_milestonelaw5_known [], none⟩,
  ⟨some 13, .op (.un .not (.tmp 12)), none⟩]) (.cond (.tmp 13) (.seq [0, 1, 2, 3, 13] (.region [⟨some 8, .op (.mv (.const (.bool false))), none⟩]) .ret) .skip)) (.seq [21] (.seq [14, 15, 16, 17, 18, 19, 20] (.region [⟨some 14, .op (.mv (.tmp 0)), none⟩,
  ⟨some 15, .call f_milestonelaw4_Few [(.tmp 14)], none⟩,
  ⟨some 16, .op (.un .not (.tmp 15)), none⟩,
  ⟨some 17, .op (.mv (.tmp 16)), none⟩,
  ⟨some 18, .op (.mv (.tmp 3)), some (17, false)⟩,
  ⟨some 19, .op (.lenSl (.tmp 18)), some (17, false)⟩,
  ⟨some 20, .op (.bin .gtr .scalar (.tmp 19) (.const (.int .i64 20))), some (17, false)⟩,
  ⟨some 21, .op (.pick (.tmp 17) (.const (.bool true)) (.tmp 20)), none⟩]) (.cond (.tmp 21) (.seq [0, 1, 2, 3, 21] (.region [⟨some 8, .op (.mv (.const (.bool true))), none⟩]) .ret) .skip)) (.seq [0, 22, 23] (.region [⟨some 22, .op (.mv (.tmp 0)), none⟩,
  ⟨some 23, .call f_milestonelaw4_One [(.tmp 22)], none⟩,
  ⟨some 9, .op (.alloc [.int .i64 0, .int .i64 0, .int .i64 0, .int .i64 0, .nils]), none⟩,
  ⟨none, .op (.store 5 (.tmp 9) (.tmp 23)), none⟩]) (.seq [1, 2, 10, 25] (.seq [] (.region [⟨some 10, .op (.mv (.const (.int .i64 0))), none⟩]) (.block 0 (.loop [26, 27] milestonelaw5_MatchAll_c1))) (.lab milestonelaw5_MatchAll_c2)))))⟩
noncomputable def milestonelaw5_MatchAll_l1 (T : Tab) (k j0 : Nat) (ns1 few2 raw3 n9 k10 : AV) (h : Heap) : Option (AV × Heap) :=
  loopB T k milestonelaw5_MatchAll_rs j0 [26, 27] milestonelaw5_MatchAll_c1 [.blk 0, .seq [1, 2, 10, 25] (.lab milestonelaw5_MatchAll_c2)] [.undef, ns1, few2, raw3, .undef, .undef, .undef, .undef, .undef, n9, k10, .undef, .undef, .undef, .undef, .undef, .undef, .undef, .undef, .undef, .undef, .undef, .undef, .undef, .undef, .undef, .undef, .undef, .undef, .undef, .undef, .undef, .undef, .undef, .undef, .undef, .undef, .undef, .undef, .undef, .undef, .undef, .undef, .undef, .undef, .undef, .undef, .undef, .undef, .undef, .undef, .undef, .undef] h
noncomputable def milestonelaw5_MatchAll_b2 (T : Tab) (k : Nat) (raw3 n9 : AV) (h : Heap) : Option (AV × Heap) :=
  evB T k milestonelaw5_MatchAll_rs milestonelaw5_MatchAll_c2 [] [.undef, .undef, .undef, raw3, .undef, .undef, .undef, .undef, .undef, n9, .undef, .undef, .undef, .undef, .undef, .undef, .undef, .undef, .undef, .undef, .undef, .undef, .undef, .undef, .undef, .undef, .undef, .undef, .undef, .undef, .undef, .undef, .undef, .undef, .undef, .undef, .undef, .undef, .undef, .undef, .undef, .undef, .undef, .undef, .undef, .undef, .undef, .undef, .undef, .undef, .undef, .undef, .undef] h
theorem milestonelaw5_MatchAll_b2_eq (T : Tab) (k : Nat) (raw3 n9 : AV) (h : Heap) : milestonelaw5_MatchAll_b2 T k raw3 n9 h =
    oa (ldN 5 h n9) fun t53_1 =>
    oa (ldN 5 h n9) fun t56_2 =>
    ob (evalFn T k f_match_Match [t53_1, raw3] h) fun t55_3 h_4 =>
    chk ((sameB (pure1 h_4 (ldN 5 h_4 n9)) t56_2 && true)) <|
    ob (evalFn T k f_milestoneref5_Match [t56_2, raw3] h_4) fun t58_5 h_6 =>
    oa (binV .eql .bool t55_3 t58_5) fun t59_7 =>
    ob (gd t59_7 true (pure1 h_6 (ldN 5 h_6 n9)) h_6) fun t61_8 h_9 =>
    ob (gd t59_7 true (pure1 h_9 (ldN 5 h_9 n9)) h_9) fun t63_10 h_11 =>
    ob (gd t59_7 true (evalFn T k f_match_Null [t61_8] h_11) h_11) fun t62_12 h_13 =>
    chk (gdB t59_7 true (gdB t59_7 true (sameB (pure1 h_13 (ldN 5 h_13 n9)) t63_10) && true)) <|
    ob (gd t59_7 true (evalFn T k f_milestoneref5_Null [t63_10] h_13) h_13) fun t64_14 h_15 =>
    ob (gd t59_7 true (pure1 h_15 (binV .eql .bool t62_12 t64_14)) h_15) fun t65_16 h_17 =>
    oa (pickV t59_7 t65_16 (.bool false)) fun t66_18 =>
    some (t66_18, h_17) := blockEq (by kernel_rfl)
theorem milestonelaw5_MatchAll_l1_eq (T : Tab) (k j0 : Nat) (ns1 few2 raw3 n9 k10 : AV) (h : Heap) : milestonelaw5_MatchAll_l1 T k (j0 + 1) ns1 few2 raw3 n9 k10 h =
    oa (binV .leq .scalar k10 (.int .i64 8)) fun t25_1 =>
    cond2 t25_1
      (
      ob (evalFn T k f_milestonelaw5_Word [ns1, k10, few2] h) fun t31_2 h_3 =>
      oa (ldN 5 h_3 n9) fun t53_4 =>
      oa (ldN 5 h_3 n9) fun t56_5 =>
      ob (evalFn T k f_match_Match [t53_4, t31_2] h_3) fun t55_6 h_7 =>
      chk ((sameB (pure1 h_7 (ldN 5 h_7 n9)) t56_5 && true)) <|
      ob (evalFn T k f_milestoneref5_Match [t56_5, t31_2] h_7) fun t58_8 h_9 =>
      oa (binV .neq .bool t55_6 t58_8) fun t59_10 =>
      cond2 t59_10
        (
        some ((.bool false), h_9)
        )
        (
        oa (binV .add .scalar k10 (.int .i64 1)) fun t27_11 =>
        milestonelaw5_MatchAll_l1 T k j0 ns1 few2 raw3 n9 t27_11 h_9
        )
      )
      (
      milestonelaw5_MatchAll_b2 T k raw3 n9 h
      ) := loopEq (by kernel_rfl)
theorem milestonelaw5_MatchAll_eq (T : Tab) (k : Nat) (l0 ns1 few2 raw3 : AV) (h : Heap) : runF T k milestonelaw5_MatchAll_mf [l0, ns1, few2, raw3] h =
    ob (evalFn T k f_milestonelaw5_known [] h) fun t12_1 h_2 =>
    oa (unV .not t12_1) fun t13_3 =>
    cond2 t13_3
      (
      some ((.bool false), h_2)
      )
      (
      ob (evalFn T k f_milestonelaw4_Few [l0] h_2) fun t15_4 h_5 =>
      oa (unV .not t15_4) fun t16_6 =>
      ob (gd t16_6 false (some (raw3, h_5)) h_5) fun t18_7 h_8 =>
      ob (gd t16_6 false (pure1 h_8 (lenS t18_7)) h_8) fun t19_9 h_10 =>
      ob (gd t16_6 false (pure1 h_10 (binV .gtr .scalar t19_9 (.int .i64 20))) h_10) fun t20_11 h_12 =>
      oa (pickV t16_6 (.bool true) t20_11) fun t21_13 =>
      cond2 t21_13
        (
        some ((.bool true), h_12)
        )
        (
        ob (evalFn T k f_milestonelaw4_One [l0] h_12) fun t23_14 h_15 =>
        ob (newVar h_15 [.int .i64 0, .int .i64 0, .int .i64 0, .int .i64 0, .nils]) fun n9_16 h_17 =>
        oh (stN 5 h_17 n9_16 t23_14) fun h_18 =>
        milestonelaw5_MatchAll_l1 T k k ns1 few2 raw3 n9_16 (.int .i64 0) h_18
        )
      ) := runEq (by kernel_rfl)
noncomputable def milestonelaw5_MatchWords_c1 : MCode := .seq [33] (.seq [30, 31, 32] (.region [⟨some 30, .op (.mv (.tmp 9)), none⟩,
  ⟨some 31, .op (.mv (.tmp 7)), none⟩,
  ⟨some 32, .op (.lenSl (.tmp 31)), none⟩,
  ⟨some 33, .op (.bin .lss .scalar (.tmp 30) (.tmp 32)), none⟩]) (.cond (.tmp 33) .skip (.exit 0))) (.seq [54] (.block 1 (.seq [36, 37, 38, 39, 40, 41, 42, 43, 44, 45, 46, 47, 48, 49, 50, 51, 52, 53] (.regionD 68 [⟨0, ⟨some 68, .op (.mv (.tmp 7)), none⟩, []⟩,
  ⟨1, ⟨some 69, .op (.mv (.tmp 9)), none⟩, []⟩,
  ⟨2, ⟨some 70, .op (.idxSl 1 (.tmp 68) (.tmp 69)), none⟩, []⟩,
  ⟨3, ⟨some 71, .op (.load none (.tmp 70)), none⟩, []⟩,
  ⟨4, ⟨some 72, .op (.mv (.tmp 8)), none⟩, []⟩,
  ⟨5, ⟨some 73, .op (.mv (.tmp 9)), none⟩, []⟩,
  ⟨6, ⟨some 74, .op (.idxSl 1 (.tmp 72) (.tmp 73)), none⟩, []⟩,
  ⟨7, ⟨some 75, .op (.load none (.tmp 74)), none⟩, []⟩,
  ⟨8, ⟨some 76, .call f_milestoneref1_Ints [(.tmp 71), (.tmp 75)], none⟩, []⟩,
  ⟨9, ⟨some 77, .op (.un .not (.tmp 76)), none⟩, []⟩,
  ⟨10, ⟨some 78, .op (.mv (.tmp 77)), none⟩, []⟩,
  ⟨11, ⟨some 79, .op (.load (some 5) (.tmp 5)), some (78, false)⟩, []⟩,
  ⟨12, ⟨some 80, .op (.mv (.tmp 7)), some (78, false)⟩, []⟩,
  ⟨13, ⟨some 81, .op (.mv (.tmp 9)), some (78, false)⟩, []⟩,
  ⟨14, ⟨some 82, .op (.idxSl 1 (.tmp 80) (.tmp 81)), some (78, false)⟩, []⟩,
  ⟨15, ⟨some 83, .op (.load none (.tmp 82)), some (78, false)⟩, []⟩,
  ⟨16, ⟨some 84, .call f_match_Match [(.tmp 79), (.tmp 83)], some (78, false)⟩, []⟩,
  ⟨17, ⟨some 85, .op (.un .not (.tmp 84)), some (78, false)⟩, []⟩,
  ⟨18, ⟨some 86, .op (.pick (.tmp 78) (.const (.bool true)) (.tmp 85)), none⟩, []⟩] [(36, 68), (37, 69), (38, 70), (39, 71), (40, 72), (41, 73), (42, 74), (43, 75), (44, 76), (45, 77), (46, 78), (47, 79), (48, 80), (49, 81), (50, 82), (51, 83), (52, 84), (53, 85), (54, 86)]) (.cond (.tmp 54) (.seq [5, 7, 8, 9, 54] (.region [⟨some 4, .op (.mv (.const (.bool false))), none⟩]) .ret) .skip))) (.region [⟨some 34, .op (.mv (.tmp 9)), none⟩,
  ⟨some 35, .op (.bin .add .scalar (.tmp 34) (.const (.int .i64 1))), none⟩,
  ⟨some 9, .op (.mv (.tmp 35)), none⟩]))
noncomputable def milestonelaw5_MatchWords_c2 : MCode := .seq [5, 7, 55, 56, 57, 58, 59, 60, 61, 62, 63, 64, 65, 66, 67] (.region [⟨some 55, .op (.load (some 5) (.tmp 5)), none⟩,
  ⟨some 56, .call f_match_Null [(.tmp 55)], none⟩,
  ⟨some 57, .op (.mv (.tmp 7)), none⟩,
  ⟨some 58, .op (.lenSl (.tmp 57)), none⟩,
  ⟨some 59, .op (.bin .gtr .scalar (.tmp 58) (.const (.int .i64 0))), none⟩,
  ⟨some 60, .op (.mv (.tmp 59)), none⟩,
  ⟨some 61, .op (.mv (.tmp 7)), some (60, true)⟩,
  ⟨some 62, .op (.idxSl 1 (.tmp 61) (.const (.int .i64 0))), some (60, true)⟩,
  ⟨some 63, .op (.load none (.tmp 62)), some (60, true)⟩,
  ⟨some 64, .op (.lenSl (.tmp 63)), some (60, true)⟩,
  ⟨some 65, .op (.bin .eql .scalar (.tmp 64) (.const (.int .i64 0))), some (60, true)⟩,
  ⟨some 66, .op (.pick (.tmp 60) (.tmp 65) (.const (.bool false))), none⟩,
  ⟨some 67, .op (.bin .eql .bool (.tmp 56) (.tmp 66)), none⟩,
  ⟨some 4, .op (.mv (.tmp 67)), none⟩]) .ret
def milestonelaw5_MatchWords_rs : Res := [(4, none)]
noncomputable def milestonelaw5_MatchWords_mf : MFn := ⟨68, milestonelaw5_MatchWords_rs, .seq [4] (.region [⟨some 4, .op (.mv (.const (.bool false))), none⟩]) (.seq [11] (.seq [10] (.region [⟨some 10, .call f_milestonelaw5_known [], none⟩,
  ⟨some 11, .op (.un .not (.tmp 10)), none⟩]) (.cond (.tmp 11) (.seq [0, 1, 11] (.region [⟨some 4, .op (.mv (.const (.bool false))), none⟩]) .ret) .skip)) (.seq [14] (.seq [12, 13] (.region [⟨some 12, .op (.mv (.tmp 0)), none⟩,
  ⟨some 13, .call f_milestonelaw4_Few [(.tmp 12)], none⟩,
  ⟨some 14, .op (.un .not (.tmp 13)), none⟩]) (.cond (.tmp 14) (.seq [0, 1, 14] (.region [⟨some 4, .op (.mv (.const (.bool true))), none⟩]) .ret) .skip)) (.seq [0, 1, 15, 16, 17, 18] (.region [⟨some 15, .op (.mv (.tmp 0)), none⟩,
  ⟨some 16, .call f_milestonelaw4_One [(.tmp 15)], none⟩,
  ⟨some 17, .op (.mv (.tmp 1)), none⟩,
  ⟨some 18, .call f_milestonelaw5_within [(.tmp 17), (.const (.int .i64 4))], none⟩,
  ⟨some 5, .op (.alloc [.int .i64 0, .int .i64 0, .int .i64 0, .int .i64 0, .nils]), none⟩,
  ⟨none, .op (.store 5 (.tmp 5) (.tmp 16)), none⟩,
  ⟨some 6, .op (.mv (.tmp 18)), none⟩]) (.seq [6, 19, 20, 21, 22, 23, 24] (.regionD 68 [⟨0, ⟨some 68, .op (.load (some 5) (.tmp 5)), none⟩, []⟩,
  ⟨1, ⟨some 69, .op (.mv (.tmp 6)), none⟩, []⟩,
  ⟨3, ⟨some 71, .op (.load (some 5) (.tmp 5)), none⟩, []⟩,
  ⟨4, ⟨some 72, .op (.mv (.tmp 6)), none⟩, []⟩,
  ⟨2, ⟨some 70, .call f_match_Words [(.tmp 68), (.tmp 69)], none⟩, [(71, ⟨some 71, .op (.load (some 5) (.tmp 5)), none⟩)]⟩,
  ⟨5, ⟨some 73, .call f_milestoneref5_Words [(.tmp 71), (.tmp 72)], none⟩, []⟩,
  ⟨6, ⟨some 74, .op (.mv (.tmp 70)), none⟩, []⟩,
  ⟨7, ⟨some 75, .op (.mv (.tmp 73)), none⟩, []⟩] [(19, 68), (20, 69), (21, 70), (22, 71), (23, 72), (24, 73), (7, 74), (8, 75)]) (.seq [29] (.seq [25, 26, 27, 28] (.region [⟨some 25, .op (.mv (.tmp 7)), none⟩,
  ⟨some 26, .op (.lenSl (.tmp 25)), none⟩,
  ⟨some 27, .op (.mv (.tmp 8)), none⟩,
  ⟨some 28, .op (.lenSl (.tmp 27)), none⟩,
  ⟨some 29, .op (.bin .neq .scalar (.tmp 26) (.tmp 28)), none⟩]) (.cond (.tmp 29) (.seq [5, 7, 8, 29] (.region [⟨some 4, .op (.mv (.const (.bool false))), none⟩]) .ret) .skip)) (.seq [8, 9, 33] (.seq [] (.region [⟨some 9, .op (.mv (.const (.int .i64 0))), none⟩]) (.block 0 (.loop [34, 35] milestonelaw5_MatchWords_c1))) (.lab milestonelaw5_MatchWords_c2)))))))⟩
noncomputable def milestonelaw5_MatchWords_l1 (T : Tab) (k j0 : Nat) (n5 a7 b8 i9 : AV) (h : Heap) : Option (AV × Heap) :=
  loopB T k milestonelaw5_MatchWords_rs j0 [34, 35] milestonelaw5_MatchWords_c1 [.blk 0, .seq [8, 9, 33] (.lab milestonelaw5_MatchWords_c2)] [.undef, .undef, .undef, .undef, .undef, n5, .undef, a7, b8, i9, .undef, .undef, .undef, .undef, .undef, .undef, .undef, .undef, .undef, .undef, .undef, .undef, .undef, .undef, .undef, .undef, .undef, .undef, .undef, .undef, .undef, .undef, .undef, .undef, .undef, .undef, .undef, .undef, .undef, .undef, .undef, .undef, .undef, .undef, .undef, .undef, .undef, .undef, .undef, .undef, .undef, .undef, .undef, .undef, .undef, .undef, .undef, .undef, .undef, .undef, .undef, .undef, .undef, .undef, .undef, .undef, .undef, .undef] h
noncomputable def milestonelaw5_MatchWords_b2 (T : Tab) (k : Nat) (n5 a7 : AV) (h : Heap) : Option (AV × Heap) :=
  evB T k milestonelaw5_MatchWords_rs milestonelaw5_MatchWords_c2 [] [.undef, .undef, .undef, .undef, .undef, n5, .undef, a7, .undef, .undef, .undef, .undef, .undef, .undef, .undef, .undef, .undef, .undef, .undef, .undef, .undef, .undef, .undef, .undef, .undef, .undef, .undef, .undef, .undef, .undef, .undef, .undef, .undef, .undef, .undef, .undef, .undef, .undef, .undef, .undef, .undef, .undef, .undef, .undef, .undef, .undef, .undef, .undef, .undef, .undef, .undef, .undef, .undef, .undef, .undef, .undef, .undef, .undef, .undef, .undef, .undef, .undef, .undef, .undef, .undef, .undef, .undef, .undef] h
theorem milestonelaw5_MatchWords_b2_eq (T : Tab) (k : Nat) (n5 a7 : AV) (h : Heap) : milestonelaw5_MatchWords_b2 T k n5 a7 h =
    oa (ldN 5 h n5) fun t55_1 =>
    ob (evalFn T k f_match_Null [t55_1] h) fun t56_2 h_3 =>
    oa (lenS a7) fun t58_4 =>
    oa (binV .gtr .scalar t58_4 (.int .i64 0)) fun t59_5 =>
    ob (gd t59_5 true (some (a7, h_3)) h_3) fun t61_6 h_7 =>
    ob (gd t59_5 true (pure1 h_7 (idxS 1 t61_6 (.int .i64 0))) h_7) fun t62_8 h_9 =>
    ob (gd t59_5 true (pure1 h_9 (ld1 h_9 t62_8)) h_9) fun t63_10 h_11 =>
    ob (gd t59_5 true (pure1 h_11 (lenS t63_10)) h_11) fun t64_12 h_13 =>
    ob (gd t59_5 true (pure1 h_13 (binV .eql .scalar t64_12 (.int .i64 0))) h_13) fun t65_14 h_15 =>
    oa (pickV t59_5 t65_14 (.bool false)) fun t66_16 =>
    oa (binV .eql .bool t56_2 t66_16) fun t67_17 =>
    some (t67_17, h_15) := blockEq (by kernel_rfl)
theorem milestonelaw5_MatchWords_l1_eq (T : Tab) (k j0 : Nat) (n5 a7 b8 i9 : AV) (h : Heap) : milestonelaw5_MatchWords_l1 T k (j0 + 1) n5 a7 b8 i9 h =
    oa (lenS a7) fun t32_1 =>
    oa (binV .lss .scalar i9 t32_1) fun t33_2 =>
    cond2 t33_2
      (
      oa (idxS 1 a7 i9) fun t70_3 =>
      oa (ld1 h t70_3) fun t71_4 =>
      oa (idxS 1 b8 i9) fun t74_5 =>
      oa (ld1 h t74_5) fun t75_6 =>
      ob (evalFn T k f_milestoneref1_Ints [t71_4, t75_6] h) fun t76_7 h_8 =>
      oa (unV .not t76_7) fun t77_9 =>
      ob (gd t77_9 false (pure1 h_8 (ldN 5 h_8 n5)) h_8) fun t79_10 h_11 =>
      ob (gd t77_9 false (some (a7, h_11)) h_11) fun t80_12 h_13 =>
      ob (gd t77_9 false (some (i9, h_13)) h_13) fun t81_14 h_15 =>
      ob (gd t77_9 false (pure1 h_15 (idxS 1 t80_12 t81_14)) h_15) fun t82_16 h_17 =>
      ob (gd t77_9 false (pure1 h_17 (ld1 h_17 t82_16)) h_17) fun t83_18 h_19 =>
      ob (gd t77_9 false (evalFn T k f_match_Match [t79_10, t83_18] h_19) h_19) fun t84_20 h_21 =>
      ob (gd t77_9 false (pure1 h_21 (unV .not t84_20)) h_21) fun t85_22 h_23 =>
      oa (pickV t77_9 (.bool true) t85_22) fun t86_24 =>
      cond2 t86_24
        (
        some ((.bool false), h_23)
        )
        (
        oa (binV .add .scalar i9 (.int .i64 1)) fun t35_25 =>
        milestonelaw5_MatchWords_l1 T k j0 n5 a7 b8 t35_25 h_23
        )
      )
      (
      milestonelaw5_MatchWords_b2 T k n5 a7 h
      ) := loopEq (by kernel_rfl)
theorem milestonelaw5_MatchWords_eq (T : Tab) (k : Nat) (l0 most1 : AV) (h : Heap) : runF T k milestonelaw5_MatchWords_mf [l0, most1] h =
    ob (evalFn T k f_milestonelaw5_known [] h) fun t10_1 h_2 =>
    oa (unV .not t10_1) fun t11_3 =>
    cond2 t11_3
      (
      some ((.bool false), h_2)
      )
      (
      ob (evalFn T k f_milestonelaw4_Few [l0] h_2) fun t13_4 h_5 =>
      oa (unV .not t13_4) fun t14_6 =>
      cond2 t14_6
        (
        some ((.bool true), h_5)
        )
        (
        ob (evalFn T k f_milestonelaw4_One [l0] h_5) fun t16_7 h_8 =>
        ob (evalFn T k f_milestonelaw5_within [most1, (.int .i64 4)] h_8) fun t18_9 h_10 =>
        ob (newVar h_10 [.int .i64 0, .int .i64 0, .int .i64 0, .int .i64 0, .nils]) fun n5_11 h_12 =>
        oh (stN 5 h_12 n5_11 t16_7) fun h_13 =>
        oa (ldN 5 h_13 n5_11) fun t68_14 =>
        oa (ldN 5 h_13 n5_11) fun t71_15 =>
        ob (evalFn T k f_match_Words [t68_14, t18_9] h_13) fun t70_16 h_17 =>
        chk ((sameB (pure1 h_17 (ldN 5 h_17 n5_11)) t71_15 && true)) <|
        ob (evalFn T k f_milestoneref5_Words [t71_15, t18_9] h_17) fun t73_18 h_19 =>
        oa (lenS t70_16) fun t26_20 =>
        oa (lenS t73_18) fun t28_21 =>
        oa (binV .neq .scalar t26_20 t28_21) fun t29_22 =>
        cond2 t29_22
          (
          some ((.bool false), h_19)
          )
          (
          milestonelaw5_MatchWords_l1 T k k n5_11 t70_16 t73_18 (.int .i64 0) h_19
          )
        )
      ) := runEq (by kernel_rfl)
noncomputable def milestonelaw5_MatchRules_c1 : MCode := .seq [136] (.seq [133, 134, 135] (.region [⟨some 133, .op (.mv (.tmp 22)), none⟩,
  ⟨some 134, .op (.mv (.tmp 13)), none⟩,
  ⟨some 135, .op (.lenSl (.tmp 134)), none⟩,
  ⟨some 136, .op (.bin .leq .scalar (.tmp 133) (.tmp 135)), none⟩]) (.cond (.tmp 136) .skip (.exit 0))) (.seq [139, 140, 141, 142, 143, 144, 145, 146, 147, 148, 149, 150, 151, 152, 153] (.block 1 (.regionD 163 [⟨0, ⟨some 163, .op (.mv (.tmp 21)), none⟩, []⟩,
  ⟨1, ⟨some 164, .op (.mv (.tmp 163)), none⟩, []⟩,
  ⟨2, ⟨some 165, .op (.load (some 5) (.tmp 11)), some (164, false)⟩, []⟩,
  ⟨3, ⟨some 166, .op (.mv (.tmp 13)), some (164, false)⟩, []⟩,
  ⟨4, ⟨some 167, .op (.mv (.tmp 22)), some (164, false)⟩, []⟩,
  ⟨5, ⟨some 168, .op (.sliceSl 1 (.tmp 166) none (some (.tmp 167)) none), some (164, false)⟩, []⟩,
  ⟨6, ⟨some 169, .call f_match_Match [(.tmp 165), (.tmp 168)], some (164, false)⟩, []⟩,
  ⟨7, ⟨some 170, .op (.mv (.tmp 169)), some (164, false)⟩, []⟩,
  ⟨8, ⟨some 171, .op (.load (some 5) (.tmp 12)), some (170, true)⟩, []⟩,
  ⟨9, ⟨some 172, .op (.mv (.tmp 13)), some (170, true)⟩, []⟩,
  ⟨10, ⟨some 173, .op (.mv (.tmp 22)), some (170, true)⟩, []⟩,
  ⟨11, ⟨some 174, .op (.sliceSl 1 (.tmp 172) (some (.tmp 173)) none none), some (170, true)⟩, []⟩,
  ⟨12, ⟨some 175, .call f_match_Match [(.tmp 171), (.tmp 174)], some (170, true)⟩, []⟩,
  ⟨13, ⟨some 176, .op (.pick (.tmp 170) (.tmp 175) (.const (.bool false))), some (164, false)⟩, []⟩,
  ⟨14, ⟨some 177, .op (.pick (.tmp 164) (.const (.bool true)) (.tmp 176)), none⟩, []⟩,
  ⟨15, ⟨some 178, .op (.mv (.tmp 177)), none⟩, []⟩] [(139, 163), (140, 164), (141, 165), (142, 166), (143, 167), (144, 168), (145, 169), (146, 170), (147, 171), (148, 172), (149, 173), (150, 174), (151, 175), (152, 176), (153, 177), (21, 178)])) (.region [⟨some 137, .op (.mv (.tmp 22)), none⟩,
  ⟨some 138, .op (.bin .add .scalar (.tmp 137) (.const (.int .i64 1))), none⟩,
  ⟨some 22, .op (.mv (.tmp 138)), none⟩]))
noncomputable def milestonelaw5_MatchRules_c2 : MCode := .seq [13, 17, 18, 21, 154, 155, 156, 157, 158, 159, 160, 161, 162] (.region [⟨some 154, .op (.load (some 5) (.tmp 17)), none⟩,
  ⟨some 155, .op (.mv (.tmp 13)), none⟩,
  ⟨some 156, .call f_match_Match [(.tmp 154), (.tmp 155)], none⟩,
  ⟨some 157, .op (.mv (.tmp 21)), none⟩,
  ⟨some 158, .op (.bin .eql .bool (.tmp 156) (.tmp 157)), none⟩,
  ⟨some 159, .op (.mv (.tmp 158)), none⟩,
  ⟨some 160, .op (.load (some 5) (.tmp 18)), some (159, true)⟩,
  ⟨some 161, .call f_match_Match [(.tmp 160), (.const .nils)], some (159, true)⟩,
  ⟨some 162, .op (.pick (.tmp 159) (.tmp 161) (.const (.bool false))), none⟩,
  ⟨some 10, .op (.mv (.tmp 162)), none⟩]) .ret
def milestonelaw5_MatchRules_rs : Res := [(10, none)]
noncomputable def milestonelaw5_MatchRules_mf : MFn := ⟨163, milestonelaw5_MatchRules_rs, .seq [10] (.region [⟨some 10, .op (.mv (.const (.bool false))), none⟩]) (.seq [24] (.seq [23] (.region [⟨some 23, .call f_milestonelaw5_known [], none⟩,
  ⟨some 24, .op (.un .not (.tmp 23)), none⟩]) (.cond (.tmp 24) (.seq [0, 1, 2, 3, 4, 24] (.region [⟨some 10, .op (.mv (.const (.bool false))), none⟩]) .ret) .skip)) (.seq [32] (.seq [25, 26, 27, 28, 29, 30, 31] (.region [⟨some 25, .op (.mv (.tmp 0)), none⟩,
  ⟨some 26, .call f_milestonelaw4_Few [(.tmp 25)], none⟩,
  ⟨some 27, .op (.un .not (.tmp 26)), none⟩,
  ⟨some 28, .op (.mv (.tmp 27)), none⟩,
  ⟨some 29, .op (.mv (.tmp 1)), some (28, false)⟩,
  ⟨some 30, .call f_milestonelaw4_Few [(.tmp 29)], some (28, false)⟩,
  ⟨some 31, .op (.un .not (.tmp 30)), some (28, false)⟩,
  ⟨some 32, .op (.pick (.tmp 28) (.const (.bool true)) (.tmp 31)), none⟩]) (.cond (.tmp 32) (.seq [0, 1, 2, 3, 4, 32] (.region [⟨some 10, .op (.mv (.const (.bool true))), none⟩]) .ret) .skip)) (.seq [0, 1, 33, 34, 35, 36] (.region [⟨some 33, .op (.mv (.tmp 0)), none⟩,
  ⟨some 34, .call f_milestonelaw4_One [(.tmp 33)], none⟩,
  ⟨some 35, .op (.mv (.tmp 1)), none⟩,
  ⟨some 36, .call f_milestonelaw4_One [(.tmp 35)], none⟩,
  ⟨some 11, .op (.alloc [.int .i64 0, .int .i64 0, .int .i64 0, .int .i64 0, .nils]), none⟩,
  ⟨some 12, .op (.alloc [.int .i64 0, .int .i64 0, .int .i64 0, .int .i64 0, .nils]), none⟩,
  ⟨none, .op (.store 5 (.tmp 11) (.tmp 34)), none⟩,
  ⟨none, .op (.store 5 (.tmp 12) (.tmp 36)), none⟩]) (.seq [2, 3, 4, 37, 38, 39, 40, 41, 42] (.region [⟨some 37, .op (.mv (.tmp 2)), none⟩,
  ⟨some 38, .op (.mv (.tmp 4)), none⟩,
  ⟨some 39, .call f_milestonelaw5_Word [(.tmp 37), (.const (.int .i64 5)), (.tmp 38)], none⟩,
  ⟨some 40, .op (.mv (.tmp 3)), none⟩,
  ⟨some 41, .op (.mv (.tmp 4)), none⟩,
  ⟨some 42, .call f_milestonelaw5_Word [(.tmp 40), (.const (.int .i64 5)), (.tmp 41)], none⟩,
  ⟨some 13, .op (.mv (.tmp 39)), none⟩,
  ⟨some 14, .op (.mv (.tmp 42)), none⟩]) (.seq [43, 44, 45, 46, 47] (.region [⟨some 43, .op (.buildSlice 1 0 [] []), none⟩,
  ⟨some 44, .op (.mv (.tmp 13)), none⟩,
  ⟨some 45, .op (.append 1 8 (.tmp 43) (.tmp 44)), none⟩,
  ⟨some 46, .op (.mv (.tmp 14)), none⟩,
  ⟨some 47, .op (.append 1 8 (.tmp 45) (.tmp 46)), none⟩,
  ⟨some 15, .op (.mv (.tmp 47)), none⟩]) (.seq [48, 49, 50, 51] (.region [⟨some 48, .op (.load (some 5) (.tmp 11)), none⟩,
  ⟨some 49, .op (.load (some 5) (.tmp 12)), none⟩,
  ⟨some 50, .op (.buildSlice 5 2 [.int .i64 0, .int .i64 0, .int .i64 0, .int .i64 0, .nils, .int .i64 0, .int .i64 0, .int .i64 0, .int .i64 0, .nils] [(0, 5, (.tmp 48)), (5, 5, (.tmp 49))]), none⟩,
  ⟨some 51, .op (.build [.int .i64 0, .int .i64 0, .int .i64 0, .int .i64 0, .nils] [(0, 1, (.const (.int .i64 5))), (4, 1, (.tmp 50))]), none⟩,
  ⟨some 16, .op (.alloc [.int .i64 0, .int .i64 0, .int .i64 0, .int .i64 0, .nils]), none⟩,
  ⟨none, .op (.store 5 (.tmp 16) (.tmp 51)), none⟩]) (.seq [52, 53, 54, 55] (.region [⟨some 52, .op (.load (some 5) (.tmp 11)), none⟩,
  ⟨some 53, .op (.load (some 5) (.tmp 12)), none⟩,
  ⟨some 54, .op (.buildSlice 5 2 [.int .i64 0, .int .i64 0, .int .i64 0, .int .i64 0, .nils, .int .i64 0, .int .i64 0, .int .i64 0, .int .i64 0, .nils] [(0, 5, (.tmp 52)), (5, 5, (.tmp 53))]), none⟩,
  ⟨some 55, .op (.build [.int .i64 0, .int .i64 0, .int .i64 0, .int .i64 0, .nils] [(0, 1, (.const (.int .i64 4))), (4, 1, (.tmp 54))]), none⟩,
  ⟨some 17, .op (.alloc [.int .i64 0, .int .i64 0, .int .i64 0, .int .i64 0, .nils]), none⟩,
  ⟨none, .op (.store 5 (.tmp 17) (.tmp 55)), none⟩]) (.seq [56, 57, 58, 59, 60, 61] (.regionD 163 [⟨0, ⟨some 163, .op (.load (some 5) (.tmp 11)), none⟩, []⟩,
  ⟨1, ⟨some 164, .op (.buildSlice 5 1 [.int .i64 0, .int .i64 0, .int .i64 0, .int .i64 0, .nils] [(0, 5, (.tmp 163))]), none⟩, []⟩,
  ⟨2, ⟨some 165, .op (.build [.int .i64 0, .int .i64 0, .int .i64 0, .int .i64 0, .nils] [(0, 1, (.const (.int .i64 6))), (4, 1, (.tmp 164))]), none⟩, []⟩,
  ⟨3, ⟨some 166, .op (.load (some 5) (.tmp 11)), none⟩, []⟩,
  ⟨4, ⟨some 167, .op (.buildSlice 5 1 [.int .i64 0, .int .i64 0, .int .i64 0, .int .i64 0, .nils] [(0, 5, (.tmp 166))]), none⟩, []⟩,
  ⟨5, ⟨some 168, .op (.build [.int .i64 0, .int .i64 0, .int .i64 0, .int .i64 0, .nils] [(0, 1, (.const (.int .i64 7))), (4, 1, (.tmp 167))]), none⟩, []⟩,
  ⟨6, ⟨some 169, .op (.alloc [.int .i64 0, .int .i64 0, .int .i64 0, .int .i64 0, .nils]), none⟩, []⟩,
  ⟨7, ⟨some 170, .op (.alloc [.int .i64 0, .int .i64 0, .int .i64 0, .int .i64 0, .nils]), none⟩, []⟩,
  ⟨8, ⟨some 171, .op (.store 5 (.tmp 169) (.tmp 165)), none⟩, [(166, ⟨some 166, .op (.load (some 5) (.tmp 11)), none⟩)]⟩,
  ⟨9, ⟨some 172, .op (.store 5 (.tmp 170) (.tmp 168)), none⟩, []⟩] [(56, 163), (57, 164), (58, 165), (59, 166), (60, 167), (61, 168), (18, 169), (19, 170)]) (.seq [62, 63, 64] (.region [⟨some 62, .op (.load (some 5) (.tmp 11)), none⟩,
  ⟨some 63, .op (.buildSlice 5 1 [.int .i64 0, .int .i64 0, .int .i64 0, .int .i64 0, .nils] [(0, 5, (.tmp 62))]), none⟩,
  ⟨some 64, .op (.build [.int .i64 0, .int .i64 0, .int .i64 0, .int .i64 0, .nils] [(0, 1, (.const (.int .i64 8))), (4, 1, (.tmp 63))]), none⟩,
  ⟨some 20, .op (.alloc [.int .i64 0, .int .i64 0, .int .i64 0, .int .i64 0, .nils]), none⟩,
  ⟨none, .op (.store 5 (.tmp 20) (.tmp 64)), none⟩]) (.seq [104] (.seq [16, 19, 20, 65, 66, 67, 68, 69, 70, 71, 72, 73, 74, 75, 76, 77, 78, 79, 80, 81, 82, 83, 84, 85, 86, 87, 88, 89, 90, 91, 92, 93, 94, 95, 96, 97, 98, 99, 100, 101, 102, 103] (.regionD 163 [⟨0, ⟨some 163, .op (.load (some 5) (.tmp 16)), none⟩, []⟩,
  ⟨1, ⟨some 164, .op (.mv (.tmp 13)), none⟩, []⟩,
  ⟨3, ⟨some 166, .op (.load (some 5) (.tmp 11)), none⟩, []⟩,
  ⟨4, ⟨some 167, .op (.mv (.tmp 13)), none⟩, []⟩,
  ⟨2, ⟨some 165, .call f_match_Match [(.tmp 163), (.tmp 164)], none⟩, [(166, ⟨some 166, .op (.load (some 5) (.tmp 11)), none⟩)]⟩,
  ⟨5, ⟨some 168, .call f_match_Match [(.tmp 166), (.tmp 167)], none⟩, []⟩,
  ⟨6, ⟨some 169, .op (.mv (.tmp 168)), none⟩, []⟩,
  ⟨7, ⟨some 170, .op (.load (some 5) (.tmp 12)), some (169, false)⟩, []⟩,
  ⟨8, ⟨some 171, .op (.mv (.tmp 13)), some (169, false)⟩, []⟩,
  ⟨9, ⟨some 172, .call f_match_Match [(.tmp 170), (.tmp 171)], some (169, false)⟩, []⟩,
  ⟨10, ⟨some 173, .op (.pick (.tmp 169) (.const (.bool true)) (.tmp 172)), none⟩, []⟩,
  ⟨11, ⟨some 174, .op (.bin .neq .bool (.tmp 165) (.tmp 173)), none⟩, []⟩,
  ⟨12, ⟨some 175, .op (.mv (.tmp 174)), none⟩, []⟩,
  ⟨13, ⟨some 176, .op (.load (some 5) (.tmp 20)), some (175, false)⟩, []⟩,
  ⟨14, ⟨some 177, .op (.mv (.tmp 13)), some (175, false)⟩, []⟩,
  ⟨16, ⟨some 179, .op (.mv (.tmp 13)), some (175, false)⟩, []⟩,
  ⟨17, ⟨some 180, .op (.lenSl (.tmp 179)), some (175, false)⟩, []⟩,
  ⟨18, ⟨some 181, .op (.bin .eql .scalar (.tmp 180) (.const (.int .i64 0))), some (175, false)⟩, []⟩,
  ⟨15, ⟨some 178, .call f_match_Match [(.tmp 176), (.tmp 177)], some (175, false)⟩, []⟩,
  ⟨19, ⟨some 182, .op (.mv (.tmp 181)), some (175, false)⟩, []⟩,
  ⟨20, ⟨some 183, .op (.load (some 5) (.tmp 11)), some (182, false)⟩, []⟩,
  ⟨21, ⟨some 184, .op (.mv (.tmp 13)), some (182, false)⟩, []⟩,
  ⟨22, ⟨some 185, .call f_match_Match [(.tmp 183), (.tmp 184)], some (182, false)⟩, []⟩,
  ⟨23, ⟨some 186, .op (.pick (.tmp 182) (.const (.bool true)) (.tmp 185)), some (175, false)⟩, []⟩,
  ⟨24, ⟨some 187, .op (.bin .neq .bool (.tmp 178) (.tmp 186)), some (175, false)⟩, []⟩,
  ⟨25, ⟨some 188, .op (.pick (.tmp 175) (.const (.bool true)) (.tmp 187)), none⟩, []⟩,
  ⟨26, ⟨some 189, .op (.mv (.tmp 188)), none⟩, []⟩,
  ⟨27, ⟨some 190, .op (.load (some 5) (.tmp 18)), some (189, false)⟩, []⟩,
  ⟨28, ⟨some 191, .op (.mv (.tmp 13)), some (189, false)⟩, []⟩,
  ⟨30, ⟨some 193, .op (.mv (.tmp 13)), some (189, false)⟩, []⟩,
  ⟨31, ⟨some 194, .op (.lenSl (.tmp 193)), some (189, false)⟩, []⟩,
  ⟨32, ⟨some 195, .op (.bin .eql .scalar (.tmp 194) (.const (.int .i64 0))), some (189, false)⟩, []⟩,
  ⟨29, ⟨some 192, .call f_match_Match [(.tmp 190), (.tmp 191)], some (189, false)⟩, []⟩,
  ⟨33, ⟨some 196, .op (.mv (.tmp 195)), some (189, false)⟩, []⟩,
  ⟨34, ⟨some 197, .op (.load (some 5) (.tmp 19)), some (196, false)⟩, []⟩,
  ⟨35, ⟨some 198, .op (.mv (.tmp 13)), some (196, false)⟩, []⟩,
  ⟨36, ⟨some 199, .call f_match_Match [(.tmp 197), (.tmp 198)], some (196, false)⟩, []⟩,
  ⟨37, ⟨some 200, .op (.pick (.tmp 196) (.const (.bool true)) (.tmp 199)), some (189, false)⟩, []⟩,
  ⟨38, ⟨some 201, .op (.bin .neq .bool (.tmp 192) (.tmp 200)), some (189, false)⟩, []⟩,
  ⟨39, ⟨some 202, .op (.pick (.tmp 189) (.const (.bool true)) (.tmp 201)), none⟩, []⟩] [(65, 163), (66, 164), (67, 165), (68, 166), (69, 167), (70, 168), (71, 169), (72, 170), (73, 171), (74, 172), (75, 173), (76, 174), (77, 175), (78, 176), (79, 177), (80, 178), (81, 179), (82, 180), (83, 181), (84, 182), (85, 183), (86, 184), (87, 185), (88, 186), (89, 187), (90, 188), (91, 189), (92, 190), (93, 191), (94, 192), (95, 193), (96, 194), (97, 195), (98, 196), (99, 197), (100, 198), (101, 199), (102, 200), (103, 201), (104, 202)]) (.cond (.tmp 104) (.seq [11, 12, 13, 14, 15, 17, 18, 104] (.region [⟨some 10, .op (.mv (.const (.bool false))), none⟩]) .ret) .skip)) (.seq [118] (.seq [105, 106, 107, 108, 109, 110, 111, 112, 113, 114, 115, 116, 117] (.region [⟨some 105, .op (.load (some 5) (.tmp 11)), none⟩,
  ⟨some 106, .op (.mv (.tmp 13)), none⟩,
  ⟨some 107, .call f_match_Match [(.tmp 105), (.tmp 106)], none⟩,
  ⟨some 108, .op (.mv (.tmp 107)), none⟩,
  ⟨some 109, .op (.load (some 5) (.tmp 12)), some (108, true)⟩,
  ⟨some 110, .op (.mv (.tmp 14)), some (108, true)⟩,
  ⟨some 111, .call f_match_Match [(.tmp 109), (.tmp 110)], some (108, true)⟩,
  ⟨some 112, .op (.pick (.tmp 108) (.tmp 111) (.const (.bool false))), none⟩,
  ⟨some 113, .op (.mv (.tmp 112)), none⟩,
  ⟨some 114, .op (.load (some 5) (.tmp 17)), some (113, true)⟩,
  ⟨some 115, .op (.mv (.tmp 15)), some (113, true)⟩,
  ⟨some 116, .call f_match_Match [(.tmp 114), (.tmp 115)], some (113, true)⟩,
  ⟨some 117, .op (.un .not (.tmp 116)), some (113, true)⟩,
  ⟨some 118, .op (.pick (.tmp 113) (.tmp 117) (.const (.bool false))), none⟩]) (.cond (.tmp 118) (.seq [11, 12, 13, 14, 15, 17, 18, 118] (.region [⟨some 10, .op (.mv (.const (.bool false))), none⟩]) .ret) .skip)) (.seq [132] (.seq [14, 15, 119, 120, 121, 122, 123, 124, 125, 126, 127, 128, 129, 130, 131] (.region [⟨some 119, .op (.load (some 5) (.tmp 18)), none⟩,
  ⟨some 120, .op (.mv (.tmp 13)), none⟩,
  ⟨some 121, .call f_match_Match [(.tmp 119), (.tmp 120)], none⟩,
  ⟨some 122, .op (.mv (.tmp 121)), none⟩,
  ⟨some 123, .op (.load (some 5) (.tmp 18)), some (122, true)⟩,
  ⟨some 124, .op (.mv (.tmp 14)), some (122, true)⟩,
  ⟨some 125, .call f_match_Match [(.tmp 123), (.tmp 124)], some (122, true)⟩,
  ⟨some 126, .op (.pick (.tmp 122) (.tmp 125) (.const (.bool false))), none⟩,
  ⟨some 127, .op (.mv (.tmp 126)), none⟩,
  ⟨some 128, .op (.load (some 5) (.tmp 18)), some (127, true)⟩,
  ⟨some 129, .op (.mv (.tmp 15)), some (127, true)⟩,
  ⟨some 130, .call f_match_Match [(.tmp 128), (.tmp 129)], some (127, true)⟩,
  ⟨some 131, .op (.un .not (.tmp 130)), some (127, true)⟩,
  ⟨some 132, .op (.pick (.tmp 127) (.tmp 131) (.const (.bool false))), none⟩]) (.cond (.tmp 132) (.seq [11, 12, 13, 17, 18, 132] (.region [⟨some 10, .op (.mv (.const (.bool false))), none⟩]) .ret) .skip)) (.seq [] (.region [⟨some 21, .op (.mv (.const (.bool false))), none⟩]) (.seq [11, 12, 22, 136] (.seq [] (.region [⟨some 22, .op (.mv (.const (.int .i64 0))), none⟩]) (.block 0 (.loop [137, 138] milestonelaw5_MatchRules_c1))) (.lab milestonelaw5_MatchRules_c2)))))))))))))))⟩
noncomputable def milestonelaw5_MatchRules_l1 (T : Tab) (k j0 : Nat) (a11 b12 u13 join17 star18 is21 i22 : AV) (h : Heap) : Option (AV × Heap) :=
  loopB T k milestonelaw5_MatchRules_rs j0 [137, 138] milestonelaw5_MatchRules_c1 [.blk 0, .seq [11, 12, 22, 136] (.lab milestonelaw5_MatchRules_c2)] [.undef, .undef, .undef, .undef, .undef, .undef, .undef, .undef, .undef, .undef, .undef, a11, b12, u13, .undef, .undef, .undef, join17, star18, .undef, .undef, is21, i22, .undef, .undef, .undef, .undef, .undef, .undef, .undef, .undef, .undef, .undef, .undef, .undef, .undef, .undef, .undef, .undef, .undef, .undef, .undef, .undef, .undef, .undef, .undef, .undef, .undef, .undef, .undef, .undef, .undef, .undef, .undef, .undef, .undef, .undef, .undef, .undef, .undef, .undef, .undef, .undef, .undef, .undef, .undef, .undef, .undef, .undef, .undef, .undef, .undef, .undef, .undef, .undef, .undef, .undef, .undef, .undef, .undef, .undef, .undef, .undef, .undef, .undef, .undef, .undef, .undef, .undef, .undef, .undef, .undef, .undef, .undef, .undef, .undef, .undef, .undef, .undef, .undef, .undef, .undef, .undef, .undef, .undef, .undef, .undef, .undef, .undef, .undef, .undef, .undef, .undef, .undef, .undef, .undef, .undef, .undef, .undef, .undef, .undef, .undef, .undef, .undef, .undef, .undef, .undef, .undef, .undef, .undef, .undef, .undef, .undef, .undef, .undef, .undef, .undef, .undef, .undef, .undef, .undef, .undef, .undef, .undef, .undef, .undef, .undef, .undef, .undef, .undef, .undef, .undef, .undef, .undef, .undef, .undef, .undef, .undef, .undef, .undef, .undef, .undef, .undef] h
noncomputable def milestonelaw5_MatchRules_b2 (T : Tab) (k : Nat) (u13 join17 star18 is21 : AV) (h : Heap) : Option (AV × Heap) :=
  evB T k milestonelaw5_MatchRules_rs milestonelaw5_MatchRules_c2 [] [.undef, .undef, .undef, .undef, .undef, .undef, .undef, .undef, .undef, .undef, .undef, .undef, .undef, u13, .undef, .undef, .undef, join17, star18, .undef, .undef, is21, .undef, .undef, .undef, .undef, .undef, .undef, .undef, .undef, .undef, .undef, .undef, .undef, .undef, .undef, .undef, .undef, .undef, .undef, .undef, .undef, .undef, .undef, .undef, .undef, .undef, .undef, .undef, .undef, .undef, .undef, .undef, .undef, .undef, .undef, .undef, .undef, .undef, .undef, .undef, .undef, .undef, .undef, .undef, .undef, .undef, .undef, .undef, .undef, .undef, .undef, .undef, .undef, .undef, .undef, .undef, .undef, .undef, .undef, .undef, .undef, .undef, .undef, .undef, .undef, .undef, .undef, .undef, .undef, .undef, .undef, .undef, .undef, .undef, .undef, .undef, .undef, .undef, .undef, .undef, .undef, .undef, .undef, .undef, .undef, .undef, .undef, .undef, .undef, .undef, .undef, .undef, .undef, .undef, .undef, .undef, .undef, .undef, .undef, .undef, .undef, .undef, .undef, .undef, .undef, .undef, .undef, .undef, .undef, .undef, .undef, .undef, .undef, .undef, .undef, .undef, .undef, .undef, .undef, .undef, .undef, .undef, .undef, .undef, .undef, .undef, .undef, .undef, .undef, .undef, .undef, .undef, .undef, .undef, .undef, .undef, .undef, .undef, .undef, .undef, .undef, .undef] h
theorem milestonelaw5_MatchRules_b2_eq (T : Tab) (k : Nat) (u13 join17 star18 is21 : AV) (h : Heap) : milestonelaw5_MatchRules_b2 T k u13 join17 star18 is21 h =
    oa (ldN 5 h join17) fun t154_1 =>
    ob (evalFn T k f_match_Match [t154_1, u13] h) fun t156_2 h_3 =>
    oa (binV .eql .bool t156_2 is21) fun t158_4 =>
    ob (gd t158_4 true (pure1 h_3 (ldN 5 h_3 star18)) h_3) fun t160_5 h_6 =>
    ob (gd t158_4 true (evalFn T k f_match_Match [t160_5, .nils] h_6) h_6) fun t161_7 h_8 =>
    oa (pickV t158_4 t161_7 (.bool false)) fun t162_9 =>
    some (t162_9, h_8) := blockEq (by kernel_rfl)
theorem milestonelaw5_MatchRules_l1_eq (T : Tab) (k j0 : Nat) (a11 b12 u13 join17 star18 is21 i22 : AV) (h : Heap) : milestonelaw5_MatchRules_l1 T k (j0 + 1) a11 b12 u13 join17 star18 is21 i22 h =
    oa (lenS u13) fun t135_1 =>
    oa (binV .leq .scalar i22 t135_1) fun t136_2 =>
    cond2 t136_2
      (
      ob (gd is21 false (pure1 h (ldN 5 h a11)) h) fun t165_3 h_4 =>
      ob (gd is21 false (some (u13, h_4)) h_4) fun t166_5 h_6 =>
      ob (gd is21 false (some (i22, h_6)) h_6) fun t167_7 h_8 =>
      ob (gd is21 false (pure1 h_8 (slSl 1 t166_5 none (some t167_7) none)) h_8) fun t168_9 h_10 =>
      ob (gd is21 false (evalFn T k f_match_Match [t165_3, t168_9] h_10) h_10) fun t169_11 h_12 =>
      ob (gd is21 false (some (t169_11, h_12)) h_12) fun t170_13 h_14 =>
      ob (gd t170_13 true (pure1 h_14 (ldN 5 h_14 b12)) h_14) fun t171_15 h_16 =>
      ob (gd t170_13 true (some (u13, h_16)) h_16) fun t172_17 h_18 =>
      ob (gd t170_13 true (some (i22, h_18)) h_18) fun t173_19 h_20 =>
      ob (gd t170_13 true (pure1 h_20 (slSl 1 t172_17 (some t173_19) none none)) h_20) fun t174_21 h_22 =>
      ob (gd t170_13 true (evalFn T k f_match_Match [t171_15, t174_21] h_22) h_22) fun t175_23 h_24 =>
      ob (gd is21 false (pure1 h_24 (pickV t170_13 t175_23 (.bool false))) h_24) fun t176_25 h_26 =>
      oa (pickV is21 (.bool true) t176_25) fun t177_27 =>
      oa (binV .add .scalar i22 (.int .i64 1)) fun t138_28 =>
      milestonelaw5_MatchRules_l1 T k j0 a11 b12 u13 join17 star18 t177_27 t138_28 h_26
      )
      (
      milestonelaw5_MatchRules_b2 T k u13 join17 star18 is21 h
      ) := loopEq (by kernel_rfl)
theorem milestonelaw5_MatchRules_eq (T : Tab) (k : Nat) (l0 m1 ns2 ms3 few4 : AV) (h : Heap) : runF T k milestonelaw5_MatchRules_mf [l0, m1, ns2, ms3, few4] h =
    ob (evalFn T k f_milestonelaw5_known [] h) fun t23_1 h_2 =>
    oa (unV .not t23_1) fun t24_3 =>
    cond2 t24_3
      (
      some ((.bool false), h_2)
      )
      (
      ob (evalFn T k f_milestonelaw4_Few [l0] h_2) fun t26_4 h_5 =>
      oa (unV .not t26_4) fun t27_6 =>
      ob (gd t27_6 false (some (m1, h_5)) h_5) fun t29_7 h_8 =>
      ob (gd t27_6 false (evalFn T k f_milestonelaw4_Few [t29_7] h_8) h_8) fun t30_9 h_10 =>
      ob (gd t27_6 false (pure1 h_10 (unV .not t30_9)) h_10) fun t31_11 h_12 =>
      oa (pickV t27_6 (.bool true) t31_11) fun t32_13 =>
      cond2 t32_13
        (
        some ((.bool true), h_12)
        )
        (
        ob (evalFn T k f_milestonelaw4_One [l0] h_12) fun t34_14 h_15 =>
        ob (evalFn T k f_milestonelaw4_One [m1] h_15) fun t36_16 h_17 =>
        ob (newVar h_17 [.int .i64 0, .int .i64 0, .int .i64 0, .int .i64 0, .nils]) fun a11_18 h_19 =>
        ob (newVar h_19 [.int .i64 0, .int .i64 0, .int .i64 0, .int .i64 0, .nils]) fun b12_20 h_21 =>
        oh (stN 5 h_21 a11_18 t34_14) fun h_22 =>
        oh (stN 5 h_22 b12_20 t36_16) fun h_23 =>
        ob (evalFn T k f_milestonelaw5_Word [ns2, (.int .i64 5), few4] h_23) fun t39_24 h_25 =>
        ob (evalFn T k f_milestonelaw5_Word [ms3, (.int .i64 5), few4] h_25) fun t42_26 h_27 =>
        ob (buildSl 1 0 [] [] h_27) fun t43_28 h_29 =>
        ob (apnd 1 8 t43_28 t39_24 h_29) fun t45_30 h_31 =>
        ob (apnd 1 8 t45_30 t42_26 h_31) fun t47_32 h_33 =>
        oa (ldN 5 h_33 a11_18) fun t48_34 =>
        oa (ldN 5 h_33 b12_20) fun t49_35 =>
        ob (buildSl 5 2 [.int .i64 0, .int .i64 0, .int .i64 0, .int .i64 0, .nils, .int .i64 0, .int .i64 0, .int .i64 0, .int .i64 0, .nils] [(0, 5, t48_34), (5, 5, t49_35)] h_33) fun t50_36 h_37 =>
        oa (buildV [.int .i64 0, .int .i64 0, .int .i64 0, .int .i64 0, .nils] [(0, 1, (.int .i64 5)), (4, 1, t50_36)]) fun t51_38 =>
        ob (newVar h_37 [.int .i64 0, .int .i64 0, .int .i64 0, .int .i64 0, .nils]) fun union16_39 h_40 =>
        oh (stN 5 h_40 union16_39 t51_38) fun h_41 =>
        oa (ldN 5 h_41 a11_18) fun t52_42 =>
        oa (ldN 5 h_41 b12_20) fun t53_43 =>
        ob (buildSl 5 2 [.int .i64 0, .int .i64 0, .int .i64 0, .int .i64 0, .nils, .int .i64 0, .int .i64 0, .int .i64 0, .int .i64 0, .nils] [(0, 5, t52_42), (5, 5, t53_43)] h_41) fun t54_44 h_45 =>
        oa (buildV [.int .i64 0, .int .i64 0, .int .i64 0, .int .i64 0, .nils] [(0, 1, (.int .i64 4)), (4, 1, t54_44)]) fun t55_46 =>
        ob (newVar h_45 [.int .i64 0, .int .i64 0, .int .i64 0, .int .i64 0, .nils]) fun join17_47 h_48 =>
        oh (stN 5 h_48 join17_47 t55_46) fun h_49 =>
        oa (ldN 5 h_49 a11_18) fun t163_50 =>
        ob (buildSl 5 1 [.int .i64 0, .int .i64 0, .int .i64 0, .int .i64 0, .nils] [(0, 5, t163_50)] h_49) fun t164_51 h_52 =>
        oa (buildV [.int .i64 0, .int .i64 0, .int .i64 0, .int .i64 0, .nils] [(0, 1, (.int .i64 6)), (4, 1, t164_51)]) fun t165_53 =>
        oa (ldN 5 h_52 a11_18) fun t166_54 =>
        ob (buildSl 5 1 [.int .i64 0, .int .i64 0, .int .i64 0, .int .i64 0, .nils] [(0, 5, t166_54)] h_52) fun t167_55 h_56 =>
        oa (buildV [.int .i64 0, .int .i64 0, .int .i64 0, .int .i64 0, .nils] [(0, 1, (.int .i64 7)), (4, 1, t167_55)]) fun t168_57 =>
        ob (newVar h_56 [.int .i64 0, .int .i64 0, .int .i64 0, .int .i64 0, .nils]) fun t169_58 h_59 =>
        ob (newVar h_59 [.int .i64 0, .int .i64 0, .int .i64 0, .int .i64 0, .nils]) fun t170_60 h_61 =>
        oh (stN 5 h_61 t169_58 t165_53) fun h_62 =>
        chk ((sameB (pure1 h_62 (ldN 5 h_62 a11_18)) t166_54 && true)) <|
        oh (stN 5 h_62 t170_60 t168_57) fun h_63 =>
        oa (ldN 5 h_63 a11_18) fun t62_64 =>
        ob (buildSl 5 1 [.int .i64 0, .int .i64 0, .int .i64 0, .int .i64 0, .nils] [(0, 5, t62_64)] h_63) fun t63_65 h_66 =>
        oa (buildV [.int .i64 0, .int .i64 0, .int .i64 0, .int .i64 0, .nils] [(0, 1, (.int .i64 8)), (4, 1, t63_65)]) fun t64_67 =>
        ob (newVar h_66 [.int .i64 0, .int .i64 0, .int .i64 0, .int .i64 0, .nils]) fun maybe20_68 h_69 =>
        oh (stN 5 h_69 maybe20_68 t64_67) fun h_70 =>
        oa (ldN 5 h_70 union16_39) fun t163_71 =>
        oa (ldN 5 h_70 a11_18) fun t166_72 =>
        ob (evalFn T k f_match_Match [t163_71, t39_24] h_70) fun t165_73 h_74 =>
        chk ((sameB (pure1 h_74 (ldN 5 h_74 a11_18)) t166_72 && true)) <|
        ob (evalFn T k f_match_Match [t166_72, t39_24] h_74) fun t168_75 h_76 =>
        ob (gd t168_75 false (pure1 h_76 (ldN 5 h_76 b12_20)) h_76) fun t170_77 h_78 =>
        ob (gd t168_75 false (some (t39_24, h_78)) h_78) fun t171_79 h_80 =>
        ob (gd t168_75 false (evalFn T k f_match_Match [t170_77, t171_79] h_80) h_80) fun t172_81 h_82 =>
        oa (pickV t168_75 (.bool true) t172_81) fun t173_83 =>
        oa (binV .neq .bool t165_73 t173_83) fun t174_84 =>
        ob (gd t174_84 false (pure1 h_82 (ldN 5 h_82 maybe20_68)) h_82) fun t176_85 h_86 =>
        ob (gd t174_84 false (some (t39_24, h_86)) h_86) fun t177_87 h_88 =>
        ob (gd t174_84 false (some (t39_24, h_88)) h_88) fun t179_89 h_90 =>
        ob (gd t174_84 false (pure1 h_90 (lenS t179_89)) h_90) fun t180_91 h_92 =>
        ob (gd t174_84 false (pure1 h_92 (binV .eql .scalar t180_91 (.int .i64 0))) h_92) fun t181_93 h_94 =>
        ob (gd t174_84 false (evalFn T k f_match_Match [t176_85, t177_87] h_94) h_94) fun t178_95 h_96 =>
        ob (gd t174_84 false (some (t181_93, h_96)) h_96) fun t182_97 h_98 =>
        ob (gd t182_97 false (pure1 h_98 (ldN 5 h_98 a11_18)) h_98) fun t183_99 h_100 =>
        ob (gd t182_97 false (some (t39_24, h_100)) h_100) fun t184_101 h_102 =>
        ob (gd t182_97 false (evalFn T k f_match_Match [t183_99, t184_101] h_102) h_102) fun t185_103 h_104 =>
        ob (gd t174_84 false (pure1 h_104 (pickV t182_97 (.bool true) t185_103)) h_104) fun t186_105 h_106 =>
        ob (gd t174_84 false (pure1 h_106 (binV .neq .bool t178_95 t186_105)) h_106) fun t187_107 h_108 =>
        oa (pickV t174_84 (.bool true) t187_107) fun t188_109 =>
        ob (gd t188_109 false (pure1 h_108 (ldN 5 h_108 t169_58)) h_108) fun t190_110 h_111 =>
        ob (gd t188_109 false (some (t39_24, h_111)) h_111) fun t191_112 h_113 =>
        ob (gd t188_109 false (some (t39_24, h_113)) h_113) fun t193_114 h_115 =>
        ob (gd t188_109 false (pure1 h_115 (lenS t193_114)) h_115) fun t194_116 h_117 =>
        ob (gd t188_109 false (pure1 h_117 (binV .eql .scalar t194_116 (.int .i64 0))) h_117) fun t195_118 h_119 =>
        ob (gd t188_109 false (evalFn T k f_match_Match [t190_110, t191_112] h_119) h_119) fun t192_120 h_121 =>
        ob (gd t188_109 false (some (t195_118, h_121)) h_121) fun t196_122 h_123 =>
        ob (gd t196_122 false (pure1 h_123 (ldN 5 h_123 t170_60)) h_123) fun t197_124 h_125 =>
        ob (gd t196_122 false (some (t39_24, h_125)) h_125) fun t198_126 h_127 =>
        ob (gd t196_122 false (evalFn T k f_match_Match [t197_124, t198_126] h_127) h_127) fun t199_128 h_129 =>
        ob (gd t188_109 false (pure1 h_129 (pickV t196_122 (.bool true) t199_128)) h_129) fun t200_130 h_131 =>
        ob (gd t188_109 false (pure1 h_131 (binV .neq .bool t192_120 t200_130)) h_131) fun t201_132 h_133 =>
        oa (pickV t188_109 (.bool true) t201_132) fun t202_134 =>
        cond2 t202_134
          (
          some ((.bool false), h_133)
          )
          (
          oa (ldN 5 h_133 a11_18) fun t105_135 =>
          ob (evalFn T k f_match_Match [t105_135, t39_24] h_133) fun t107_136 h_137 =>
          ob (gd t107_136 true (pure1 h_137 (ldN 5 h_137 b12_20)) h_137) fun t109_138 h_139 =>
          ob (gd t107_136 true (some (t42_26, h_139)) h_139) fun t110_140 h_141 =>
          ob (gd t107_136 true (evalFn T k f_match_Match [t109_138, t110_140] h_141) h_141) fun t111_142 h_143 =>
          oa (pickV t107_136 t111_142 (.bool false)) fun t112_144 =>
          ob (gd t112_144 true (pure1 h_143 (ldN 5 h_143 join17_47)) h_143) fun t114_145 h_146 =>
          ob (gd t112_144 true (some (t47_32, h_146)) h_146) fun t115_147 h_148 =>
          ob (gd t112_144 true (evalFn T k f_match_Match [t114_145, t115_147] h_148) h_148) fun t116_149 h_150 =>
          ob (gd t112_144 true (pure1 h_150 (unV .not t116_149)) h_150) fun t117_151 h_152 =>
          oa (pickV t112_144 t117_151 (.bool false)) fun t118_153 =>
          cond2 t118_153
            (
            some ((.bool false), h_152)
            )
            (
            oa (ldN 5 h_152 t169_58) fun t119_154 =>
            ob (evalFn T k f_match_Match [t119_154, t39_24] h_152) fun t121_155 h_156 =>
            ob (gd t121_155 true (pure1 h_156 (ldN 5 h_156 t169_58)) h_156) fun t123_157 h_158 =>
            ob (gd t121_155 true (some (t42_26, h_158)) h_158) fun t124_159 h_160 =>
            ob (gd t121_155 true (evalFn T k f_match_Match [t123_157, t124_159] h_160) h_160) fun t125_161 h_162 =>
            oa (pickV t121_155 t125_161 (.bool false)) fun t126_163 =>
            ob (gd t126_163 true (pure1 h_162 (ldN 5 h_162 t169_58)) h_162) fun t128_164 h_165 =>
            ob (gd t126_163 true (some (t47_32, h_165)) h_165) fun t129_166 h_167 =>
            ob (gd t126_163 true (evalFn T k f_match_Match [t128_164, t129_166] h_167) h_167) fun t130_168 h_169 =>
            ob (gd t126_163 true (pure1 h_169 (unV .not t130_168)) h_169) fun t131_170 h_171 =>
            oa (pickV t126_163 t131_170 (.bool false)) fun t132_172 =>
            cond2 t132_172
              (
              some ((.bool false), h_171)
              )
              (
              milestonelaw5_MatchRules_l1 T k k a11_18 b12_20 t39_24 join17_47 t169_58 (.bool false) (.int .i64 0) h_171
              )
            )
          )
        )
      ) := runEq (by kernel_rfl)
noncomputable def milestonelaw5_MatchTimes_c1 : MCode := .seq [47] (.seq [45, 46] (.region [⟨some 45, .op (.mv (.tmp 18)), none⟩,
  ⟨some 46, .op (.mv (.tmp 16)), none⟩,
  ⟨some 47, .op (.bin .lss .scalar (.tmp 45) (.tmp 46)), none⟩]) (.cond (.tmp 47) .skip (.exit 2))) (.seq [50, 51, 52, 53, 54, 55] (.block 3 (.region [⟨some 50, .op (.fieldAddr 4 (.tmp 17)), none⟩,
  ⟨some 51, .op (.load none (.tmp 50)), none⟩,
  ⟨some 52, .op (.load (some 5) (.tmp 11)), none⟩,
  ⟨some 53, .op (.buildSlice 5 1 [.int .i64 0, .int .i64 0, .int .i64 0, .int .i64 0, .nils] [(0, 5, (.tmp 52))]), none⟩,
  ⟨some 54, .op (.append 5 56 (.tmp 51) (.tmp 53)), none⟩,
  ⟨some 55, .op (.fieldAddr 4 (.tmp 17)), none⟩,
  ⟨none, .op (.store 1 (.tmp 55) (.tmp 54)), none⟩])) (.region [⟨some 48, .op (.mv (.tmp 18)), none⟩,
  ⟨some 49, .op (.bin .add .scalar (.tmp 48) (.const (.int .i64 1))), none⟩,
  ⟨some 18, .op (.mv (.tmp 49)), none⟩]))
noncomputable def milestonelaw5_MatchTimes_c2 : MCode := .region [⟨some 56, .op (.mv (.tmp 15)), none⟩,
  ⟨some 57, .op (.mv (.tmp 56)), none⟩,
  ⟨some 58, .op (.load (some 5) (.tmp 17)), some (57, false)⟩,
  ⟨some 59, .op (.mv (.tmp 14)), some (57, false)⟩,
  ⟨some 60, .call f_match_Match [(.tmp 58), (.tmp 59)], some (57, false)⟩,
  ⟨some 61, .op (.pick (.tmp 57) (.const (.bool true)) (.tmp 60)), none⟩,
  ⟨some 15, .op (.mv (.tmp 61)), none⟩]
noncomputable def milestonelaw5_MatchTimes_c3 : MCode := .region [⟨some 39, .op (.mv (.tmp 16)), none⟩,
  ⟨some 40, .op (.bin .add .scalar (.tmp 39) (.const (.int .i64 1))), none⟩,
  ⟨some 16, .op (.mv (.tmp 40)), none⟩]
noncomputable def milestonelaw5_MatchTimes_c4 : MCode := .seq [38] (.seq [36, 37] (.region [⟨some 36, .op (.mv (.tmp 16)), none⟩,
  ⟨some 37, .op (.mv (.tmp 13)), none⟩,
  ⟨some 38, .op (.bin .leq .scalar (.tmp 36) (.tmp 37)), none⟩]) (.cond (.tmp 38) .skip (.exit 0))) (.seq [17, 56, 57, 58, 59, 60, 61] (.block 1 (.seq [41, 42, 43, 44] (.region [⟨some 41, .op (.build [.int .i64 0, .int .i64 0, .int .i64 0, .int .i64 0, .nils] [(0, 1, (.const (.int .i64 3)))]), none⟩,
  ⟨some 42, .op (.build [.int .i64 0, .int .i64 0, .int .i64 0, .int .i64 0, .nils] [(0, 1, (.const (.int .i64 3)))]), none⟩,
  ⟨some 43, .op (.buildSlice 5 2 [.int .i64 0, .int .i64 0, .int .i64 0, .int .i64 0, .nils, .int .i64 0, .int .i64 0, .int .i64 0, .int .i64 0, .nils] [(0, 5, (.tmp 41)), (5, 5, (.tmp 42))]), none⟩,
  ⟨some 44, .op (.build [.int .i64 0, .int .i64 0, .int .i64 0, .int .i64 0, .nils] [(0, 1, (.const (.int .i64 4))), (4, 1, (.tmp 43))]), none⟩,
  ⟨some 17, .op (.alloc [.int .i64 0, .int .i64 0, .int .i64 0, .int .i64 0, .nils]), none⟩,
  ⟨none, .op (.store 5 (.tmp 17) (.tmp 44)), none⟩]) (.seq [18, 47] (.seq [] (.region [⟨some 18, .op (.mv (.const (.int .i64 0))), none⟩]) (.block 2 (.loop [48, 49] milestonelaw5_MatchTimes_c1))) (.lab milestonelaw5_MatchTimes_c2)))) (.lab milestonelaw5_MatchTimes_c3))
noncomputable def milestonelaw5_MatchTimes_c5 : MCode := .seq [11, 12, 13, 14, 15, 62, 63, 64, 65, 66, 67, 68, 69, 70] (.region [⟨some 62, .op (.mv (.tmp 12)), none⟩,
  ⟨some 63, .op (.mv (.tmp 13)), none⟩,
  ⟨some 64, .op (.load (some 5) (.tmp 11)), none⟩,
  ⟨some 65, .op (.buildSlice 5 1 [.int .i64 0, .int .i64 0, .int .i64 0, .int .i64 0, .nils] [(0, 5, (.tmp 64))]), none⟩,
  ⟨some 66, .op (.build [.int .i64 0, .int .i64 0, .int .i64 0, .int .i64 0, .nils] [(0, 1, (.const (.int .i64 9))), (2, 1, (.tmp 62)), (3, 1, (.tmp 63)), (4, 1, (.tmp 65))]), none⟩,
  ⟨some 67, .op (.mv (.tmp 14)), none⟩,
  ⟨some 68, .call f_match_Match [(.tmp 66), (.tmp 67)], none⟩,
  ⟨some 69, .op (.mv (.tmp 15)), none⟩,
  ⟨some 70, .op (.bin .eql .bool (.tmp 68) (.tmp 69)), none⟩,
  ⟨some 10, .op (.mv (.tmp 70)), none⟩]) .ret
def milestonelaw5_MatchTimes_rs : Res := [(10, none)]
noncomputable def milestonelaw5_MatchTimes_mf : MFn := ⟨71, milestonelaw5_MatchTimes_rs, .seq [10] (.region [⟨some 10, .op (.mv (.const (.bool false))), none⟩]) (.seq [20] (.seq [19] (.region [⟨some 19, .call f_milestonelaw5_known [], none⟩,
  ⟨some 20, .op (.un .not (.tmp 19)), none⟩]) (.cond (.tmp 20) (.seq [0, 1, 2, 3, 4, 20] (.region [⟨some 10, .op (.mv (.const (.bool false))), none⟩]) .ret) .skip)) (.seq [23] (.seq [21, 22] (.region [⟨some 21, .op (.mv (.tmp 0)), none⟩,
  ⟨some 22, .call f_milestonelaw4_Few [(.tmp 21)], none⟩,
  ⟨some 23, .op (.un .not (.tmp 22)), none⟩]) (.cond (.tmp 23) (.seq [0, 1, 2, 3, 4, 23] (.region [⟨some 10, .op (.mv (.const (.bool true))), none⟩]) .ret) .skip)) (.seq [0, 24, 25] (.region [⟨some 24, .op (.mv (.tmp 0)), none⟩,
  ⟨some 25, .call f_milestonelaw4_One [(.tmp 24)], none⟩,
  ⟨some 11, .op (.alloc [.int .i64 0, .int .i64 0, .int .i64 0, .int .i64 0, .nils]), none⟩,
  ⟨none, .op (.store 5 (.tmp 11) (.tmp 25)), none⟩]) (.seq [1, 26, 27] (.region [⟨some 26, .op (.mv (.tmp 1)), none⟩,
  ⟨some 27, .call f_milestonelaw5_within [(.tmp 26), (.const (.int .i64 4))], none⟩,
  ⟨some 12, .op (.mv (.tmp 27)), none⟩]) (.seq [2, 28, 29, 30, 31] (.region [⟨some 28, .op (.mv (.tmp 12)), none⟩,
  ⟨some 29, .op (.mv (.tmp 2)), none⟩,
  ⟨some 30, .call f_milestonelaw5_within [(.tmp 29), (.const (.int .i64 3))], none⟩,
  ⟨some 31, .op (.bin .add .scalar (.tmp 28) (.tmp 30)), none⟩,
  ⟨some 13, .op (.mv (.tmp 31)), none⟩]) (.seq [3, 4, 32, 33, 34] (.region [⟨some 32, .op (.mv (.tmp 3)), none⟩,
  ⟨some 33, .op (.mv (.tmp 4)), none⟩,
  ⟨some 34, .call f_milestonelaw5_Word [(.tmp 32), (.const (.int .i64 6)), (.tmp 33)], none⟩,
  ⟨some 14, .op (.mv (.tmp 34)), none⟩]) (.seq [] (.region [⟨some 15, .op (.mv (.const (.bool false))), none⟩]) (.seq [16, 38] (.seq [35] (.region [⟨some 35, .op (.mv (.tmp 12)), none⟩,
  ⟨some 16, .op (.mv (.tmp 35)), none⟩]) (.block 0 (.loop [39, 40] milestonelaw5_MatchTimes_c4))) (.lab milestonelaw5_MatchTimes_c5)))))))))⟩
noncomputable def milestonelaw5_MatchTimes_l1 (T : Tab) (k j0 : Nat) (a11 p12 q13 w14 is15 k16 : AV) (h : Heap) : Option (AV × Heap) :=
  loopB T k milestonelaw5_MatchTimes_rs j0 [39, 40] milestonelaw5_MatchTimes_c4 [.blk 0, .seq [16, 38] (.lab milestonelaw5_MatchTimes_c5)] [.undef, .undef, .undef, .undef, .undef, .undef, .undef, .undef, .undef, .undef, .undef, a11, p12, q13, w14, is15, k16, .undef, .undef, .undef, .undef, .undef, .undef, .undef, .undef, .undef, .undef, .undef, .undef, .undef, .undef, .undef, .undef, .undef, .undef, .undef, .undef, .undef, .undef, .undef, .undef, .undef, .undef, .undef, .undef, .undef, .undef, .undef, .undef, .undef, .undef, .undef, .undef, .undef, .undef, .undef, .undef, .undef, .undef, .undef, .undef, .undef, .undef, .undef, .undef, .undef, .undef, .undef, .undef, .undef, .undef] h
noncomputable def milestonelaw5_MatchTimes_l2 (T : Tab) (k j0 j1 : Nat) (a11 p12 q13 w14 is15 k16 n17 i18 : AV) (h : Heap) : Option (AV × Heap) :=
  loopB T k milestonelaw5_MatchTimes_rs j1 [48, 49] milestonelaw5_MatchTimes_c1 [.blk 2, .seq [18, 47] (.lab milestonelaw5_MatchTimes_c2), .blk 1, .seq [17, 56, 57, 58, 59, 60, 61] (.lab milestonelaw5_MatchTimes_c3), .lp j0 [39, 40] milestonelaw5_MatchTimes_c4, .blk 0, .seq [16, 38] (.lab milestonelaw5_MatchTimes_c5)] [.undef, .undef, .undef, .undef, .undef, .undef, .undef, .undef, .undef, .undef, .undef, a11, p12, q13, w14, is15, k16, n17, i18, .undef, .undef, .undef, .undef, .undef, .undef, .undef, .undef, .undef, .undef, .undef, .undef, .undef, .undef, .undef, .undef, .undef, .undef, .undef, .undef, .undef, .undef, .undef, .undef, .undef, .undef, .undef, .undef, .undef, .undef, .undef, .undef, .undef, .undef, .undef, .undef, .undef, .undef, .undef, .undef, .undef, .undef, .undef, .undef, .undef, .undef, .undef, .undef, .undef, .undef, .undef, .undef] h
noncomputable def milestonelaw5_MatchTimes_b3 (T : Tab) (k j0 : Nat) (a11 p12 q13 w14 is15 k16 n17 : AV) (h : Heap) : Option (AV × Heap) :=
  evB T k milestonelaw5_MatchTimes_rs milestonelaw5_MatchTimes_c2 [.blk 1, .seq [17, 56, 57, 58, 59, 60, 61] (.lab milestonelaw5_MatchTimes_c3), .lp j0 [39, 40] milestonelaw5_MatchTimes_c4, .blk 0, .seq [16, 38] (.lab milestonelaw5_MatchTimes_c5)] [.undef, .undef, .undef, .undef, .undef, .undef, .undef, .undef, .undef, .undef, .undef, a11, p12, q13, w14, is15, k16, n17, .undef, .undef, .undef, .undef, .undef, .undef, .undef, .undef, .undef, .undef, .undef, .undef, .undef, .undef, .undef, .undef, .undef, .undef, .undef, .undef, .undef, .undef, .undef, .undef, .undef, .undef, .undef, .undef, .undef, .undef, .undef, .undef, .undef, .undef, .undef, .undef, .undef, .undef, .undef, .undef, .undef, .undef, .undef, .undef, .undef, .undef, .undef, .undef, .undef, .undef, .undef, .undef, .undef] h
noncomputable def milestonelaw5_MatchTimes_b4 (T : Tab) (k j0 : Nat) (a11 p12 q13 w14 is15 k16 : AV) (h : Heap) : Option (AV × Heap) :=
  evB T k milestonelaw5_MatchTimes_rs milestonelaw5_MatchTimes_c3 [.lp j0 [39, 40] milestonelaw5_MatchTimes_c4, .blk 0, .seq [16, 38] (.lab milestonelaw5_MatchTimes_c5)] [.undef, .undef, .undef, .undef, .undef, .undef, .undef, .undef, .undef, .undef, .undef, a11, p12, q13, w14, is15, k16, .undef, .undef, .undef, .undef, .undef, .undef, .undef, .undef, .undef, .undef, .undef, .undef, .undef, .undef, .undef, .undef, .undef, .undef, .undef, .undef, .undef, .undef, .undef, .undef, .undef, .undef, .undef, .undef, .undef, .undef, .undef, .undef, .undef, .undef, .undef, .undef, .undef, .undef, .undef, .undef, .undef, .undef, .undef, .undef, .undef, .undef, .undef, .undef, .undef, .undef, .undef, .undef, .undef, .undef] h
noncomputable def milestonelaw5_MatchTimes_b5 (T : Tab) (k : Nat) (a11 p12 q13 w14 is15 : AV) (h : Heap) : Option (AV × Heap) :=
  evB T k milestonelaw5_MatchTimes_rs milestonelaw5_MatchTimes_c5 [] [.undef, .undef, .undef, .undef, .undef, .undef, .undef, .undef, .undef, .undef, .undef, a11, p12, q13, w14, is15, .undef, .undef, .undef, .undef, .undef, .undef, .undef, .undef, .undef, .undef, .undef, .undef, .undef, .undef, .undef, .undef, .undef, .undef, .undef, .undef, .undef, .undef, .undef, .undef, .undef, .undef, .undef, .undef, .undef, .undef, .undef, .undef, .undef, .undef, .undef, .undef, .undef, .undef, .undef, .undef, .undef, .undef, .undef, .undef, .undef, .undef, .undef, .undef, .undef, .undef, .undef, .undef, .undef, .undef, .undef] h
theorem milestonelaw5_MatchTimes_b4_eq (T : Tab) (k j0 : Nat) (a11 p12 q13 w14 is15 k16 : AV) (h : Heap) : milestonelaw5_MatchTimes_b4 T k j0 a11 p12 q13 w14 is15 k16 h =
    oa (binV .add .scalar k16 (.int .i64 1)) fun t40_1 =>
    milestonelaw5_MatchTimes_l1 T k j0 a11 p12 q13 w14 is15 t40_1 h := blockEq (by kernel_rfl)
theorem milestonelaw5_MatchTimes_b3_eq (T : Tab) (k j0 : Nat) (a11 p12 q13 w14 is15 k16 n17 : AV) (h : Heap) : milestonelaw5_MatchTimes_b3 T k j0 a11 p12 q13 w14 is15 k16 n17 h =
    ob (gd is15 false (pure1 h (ldN 5 h n17)) h) fun t58_1 h_2 =>
    ob (gd is15 false (some (w14, h_2)) h_2) fun t59_3 h_4 =>
    ob (gd is15 false (evalFn T k f_match_Match [t58_1, t59_3] h_4) h_4) fun t60_5 h_6 =>
    oa (pickV is15 (.bool true) t60_5) fun t61_7 =>
    milestonelaw5_MatchTimes_b4 T k j0 a11 p12 q13 w14 t61_7 k16 h_6 := blockEq (by kernel_rfl)
theorem milestonelaw5_MatchTimes_l2_eq (T : Tab) (k j0 j1 : Nat) (a11 p12 q13 w14 is15 k16 n17 i18 : AV) (h : Heap) : milestonelaw5_MatchTimes_l2 T k j0 (j1 + 1) a11 p12 q13 w14 is15 k16 n17 i18 h =
    oa (binV .lss .scalar i18 k16) fun t47_1 =>
    cond2 t47_1
      (
      oa (fldA 4 n17) fun t50_2 =>
      oa (ld1 h t50_2) fun t51_3 =>
      oa (ldN 5 h a11) fun t52_4 =>
      ob (buildSl 5 1 [.int .i64 0, .int .i64 0, .int .i64 0, .int .i64 0, .nils] [(0, 5, t52_4)] h) fun t53_5 h_6 =>
      ob (apnd 5 56 t51_3 t53_5 h_6) fun t54_7 h_8 =>
      oa (fldA 4 n17) fun t55_9 =>
      oh (stN 1 h_8 t55_9 t54_7) fun h_10 =>
      oa (binV .add .scalar i18 (.int .i64 1)) fun t49_11 =>
      milestonelaw5_MatchTimes_l2 T k j0 j1 a11 p12 q13 w14 is15 k16 n17 t49_11 h_10
      )
      (
      milestonelaw5_MatchTimes_b3 T k j0 a11 p12 q13 w14 is15 k16 n17 h
      ) := loopEq (by kernel_rfl)
theorem milestonelaw5_MatchTimes_b5_eq (T : Tab) (k : Nat) (a11 p12 q13 w14 is15 : AV) (h : Heap) : milestonelaw5_MatchTimes_b5 T k a11 p12 q13 w14 is15 h =
    oa (ldN 5 h a11) fun t64_1 =>
    ob (buildSl 5 1 [.int .i64 0, .int .i64 0, .int .i64 0, .int .i64 0, .nils] [(0, 5, t64_1)] h) fun t65_2 h_3 =>
    oa (buildV [.int .i64 0, .int .i64 0, .int .i64 0, .int .i64 0, .nils] [(0, 1, (.int .i64 9)), (2, 1, p12), (3, 1, q13), (4, 1, t65_2)]) fun t66_4 =>
    ob (evalFn T k f_match_Match [t66_4, w14] h_3) fun t68_5 h_6 =>
    oa (binV .eql .bool t68_5 is15) fun t70_7 =>
    some (t70_7, h_6) := blockEq (by kernel_rfl)
theorem milestonelaw5_MatchTimes_l1_eq (T : Tab) (k j0 : Nat) (a11 p12 q13 w14 is15 k16 : AV) (h : Heap) : milestonelaw5_MatchTimes_l1 T k (j0 + 1) a11 p12 q13 w14 is15 k16 h =
    oa (binV .leq .scalar k16 q13) fun t38_1 =>
    cond2 t38_1
      (
      oa (buildV [.int .i64 0, .int .i64 0, .int .i64 0, .int .i64 0, .nils] [(0, 1, (.int .i64 3))]) fun t41_2 =>
      oa (buildV [.int .i64 0, .int .i64 0, .int .i64 0, .int .i64 0, .nils] [(0, 1, (.int .i64 3))]) fun t42_3 =>
      ob (buildSl 5 2 [.int .i64 0, .int .i64 0, .int .i64 0, .int .i64 0, .nils, .int .i64 0, .int .i64 0, .int .i64 0, .int .i64 0, .nils] [(0, 5, t41_2), (5, 5, t42_3)] h) fun t43_4 h_5 =>
      oa (buildV [.int .i64 0, .int .i64 0, .int .i64 0, .int .i64 0, .nils] [(0, 1, (.int .i64 4)), (4, 1, t43_4)]) fun t44_6 =>
      ob (newVar h_5 [.int .i64 0, .int .i64 0, .int .i64 0, .int .i64 0, .nils]) fun n17_7 h_8 =>
      oh (stN 5 h_8 n17_7 t44_6) fun h_9 =>
      milestonelaw5_MatchTimes_l2 T k j0 k a11 p12 q13 w14 is15 k16 n17_7 (.int .i64 0) h_9
      )
      (
      milestonelaw5_MatchTimes_b5 T k a11 p12 q13 w14 is15 h
      ) := loopEq (by kernel_rfl)
theorem milestonelaw5_MatchTimes_eq (T : Tab) (k : Nat) (l0 lo1 more2 ns3 few4 : AV) (h : Heap) : runF T k milestonelaw5_MatchTimes_mf [l0, lo1, more2, ns3, few4] h =
    ob (evalFn T k f_milestonelaw5_known [] h) fun t19_1 h_2 =>
    oa (unV .not t19_1) fun t20_3 =>
    cond2 t20_3
      (
      some ((.bool false), h_2)
      )
      (
      ob (evalFn T k f_milestonelaw4_Few [l0] h_2) fun t22_4 h_5 =>
      oa (unV .not t22_4) fun t23_6 =>
      cond2 t23_6
        (
        some ((.bool true), h_5)
        )
        (
        ob (evalFn T k f_milestonelaw4_One [l0] h_5) fun t25_7 h_8 =>
        ob (newVar h_8 [.int .i64 0, .int .i64 0, .int .i64 0, .int .i64 0, .nils]) fun a11_9 h_10 =>
        oh (stN 5 h_10 a11_9 t25_7) fun h_11 =>
        ob (evalFn T k f_milestonelaw5_within [lo1, (.int .i64 4)] h_11) fun t27_12 h_13 =>
        ob (evalFn T k f_milestonelaw5_within [more2, (.int .i64 3)] h_13) fun t30_14 h_15 =>
        oa (binV .add .scalar t27_12 t30_14) fun t31_16 =>
        ob (evalFn T k f_milestonelaw5_Word [ns3, (.int .i64 6), few4] h_15) fun t34_17 h_18 =>
        milestonelaw5_MatchTimes_l1 T k k a11_9 t27_12 t31_16 t34_17 (.bool false) t27_12 h_18
        )
      ) := runEq (by kernel_rfl)
def milestonelaw5_MatchKnown_rs : Res := [(2, none)]
noncomputable def milestonelaw5_MatchKnown_mf : MFn := ⟨51, milestonelaw5_MatchKnown_rs, .seq [2] (.region [⟨some 2, .op (.mv (.const (.bool false))), none⟩]) (.seq [8] (.seq [7] (.region [⟨some 7, .call f_milestonelaw5_known [], none⟩,
  ⟨some 8, .op (.un .not (.tmp 7)), none⟩]) (.cond (.tmp 8) (.seq [0, 8] (.region [⟨some 2, .op (.mv (.const (.bool false))), none⟩]) .ret) .skip)) (.seq [9] (.region [⟨some 9, .op (.buildSlice 1 20 [.str ⟨#[]⟩, .str ⟨#[]⟩, .str ⟨#[]⟩, .str ⟨#[]⟩, .str ⟨#[]⟩, .str ⟨#[]⟩, .str ⟨#[]⟩, .str ⟨#[]⟩, .str ⟨#[]⟩, .str ⟨#[]⟩, .str ⟨#[]⟩, .str ⟨#[]⟩, .str ⟨#[]⟩, .str ⟨#[]⟩, .str ⟨#[]⟩, .str ⟨#[]⟩, .str ⟨#[]⟩, .str ⟨#[]⟩, .str ⟨#[]⟩, .str ⟨#[]⟩] [(0, 1, (.const (.str ⟨#[119, 42]⟩))), (1, 1, (.const (.str ⟨#[119, 42]⟩))), (2, 1, (.const (.str ⟨#[119, 43]⟩))), (3, 1, (.const (.str ⟨#[119, 98, 124, 99]⟩))), (4, 1, (.const (.str ⟨#[119, 98, 124, 99]⟩))), (5, 1, (.const (.str ⟨#[40, 119, 124, 98, 41, 42, 99]⟩))), (6, 1, (.const (.str ⟨#[40, 119, 124, 98, 41, 42, 99]⟩))), (7, 1, (.const (.str ⟨#[119, 123, 50, 44, 51, 125]⟩))), (8, 1, (.const (.str ⟨#[119, 123, 50, 44, 51, 125]⟩))), (9, 1, (.const (.str ⟨#[119, 123, 48, 44, 48, 125]⟩))), (10, 1, (.const (.str ⟨#[48, 42]⟩))), (11, 1, (.const (.str ⟨#[48]⟩))), (12, 1, (.const (.str ⟨#[95]⟩))), (13, 1, (.const (.str ⟨#[40, 119, 98, 41, 43]⟩))), (14, 1, (.const (.str ⟨#[46, 102, 46]⟩))), (15, 1, (.const (.str ⟨#[91, 119, 116, 93, 63, 98]⟩))), (16, 1, (.const (.str ⟨#[40, 119, 42, 41, 42]⟩))), (17, 1, (.const (.str ⟨#[40, 95, 124, 119, 41, 123, 51, 44, 51, 125]⟩))), (18, 1, (.const (.str ⟨#[119, 123, 50, 44, 51, 125, 98]⟩))), (19, 1, (.const (.str ⟨#[48, 124, 119]⟩)))]), none⟩,
  ⟨some 3, .op (.mv (.tmp 9)), none⟩]) (.seq [10, 11, 12, 13, 14, 15, 16, 17, 18, 19, 20, 21, 22, 23, 24, 25, 26, 27, 28, 29, 30] (.region [⟨some 10, .op (.buildSlice 1 0 [] []), none⟩,
  ⟨some 11, .op (.buildSlice 1 3 [.int .i64 0, .int .i64 0, .int .i64 0] [(0, 1, (.const (.int .i64 0))), (1, 1, (.const (.int .i64 0))), (2, 1, (.const (.int .i64 0)))]), none⟩,
  ⟨some 12, .op (.buildSlice 1 0 [] []), none⟩,
  ⟨some 13, .op (.buildSlice 1 2 [.int .i64 0, .int .i64 0] [(0, 1, (.const (.int .i64 0))), (1, 1, (.const (.int .i64 1)))]), none⟩,
  ⟨some 14, .op (.buildSlice 1 3 [.int .i64 0, .int .i64 0, .int .i64 0] [(0, 1, (.const (.int .i64 0))), (1, 1, (.const (.int .i64 1))), (2, 1, (.const (.int .i64 2)))]), none⟩,
  ⟨some 15, .op (.buildSlice 1 5 [.int .i64 0, .int .i64 0, .int .i64 0, .int .i64 0, .int .i64 0] [(0, 1, (.const (.int .i64 0))), (1, 1, (.const (.int .i64 1))), (2, 1, (.const (.int .i64 1))), (3, 1, (.const (.int .i64 0))), (4, 1, (.const (.int .i64 2)))]), none⟩,
  ⟨some 16, .op (.buildSlice 1 3 [.int .i64 0, .int .i64 0, .int .i64 0] [(0, 1, (.const (.int .i64 0))), (1, 1, (.const (.int .i64 2))), (2, 1, (.const (.int .i64 1)))]), none⟩,
  ⟨some 17, .op (.buildSlice 1 3 [.int .i64 0, .int .i64 0, .int .i64 0] [(0, 1, (.const (.int .i64 0))), (1, 1, (.const (.int .i64 0))), (2, 1, (.const (.int .i64 0)))]), none⟩,
  ⟨some 18, .op (.buildSlice 1 1 [.int .i64 0] [(0, 1, (.const (.int .i64 0)))]), none⟩,
  ⟨some 19, .op (.buildSlice 1 0 [] []), none⟩,
  ⟨some 20, .op (.buildSlice 1 0 [] []), none⟩,
  ⟨some 21, .op (.buildSlice 1 0 [] []), none⟩,
  ⟨some 22, .op (.buildSlice 1 0 [] []), none⟩,
  ⟨some 23, .op (.buildSlice 1 4 [.int .i64 0, .int .i64 0, .int .i64 0, .int .i64 0] [(0, 1, (.const (.int .i64 0))), (1, 1, (.const (.int .i64 1))), (2, 1, (.const (.int .i64 0))), (3, 1, (.const (.int .i64 1)))]), none⟩,
  ⟨some 24, .op (.buildSlice 1 3 [.int .i64 0, .int .i64 0, .int .i64 0] [(0, 1, (.const (.int .i64 4))), (1, 1, (.const (.int .i64 3))), (2, 1, (.const (.int .i64 2)))]), none⟩,
  ⟨some 25, .op (.buildSlice 1 2 [.int .i64 0, .int .i64 0] [(0, 1, (.const (.int .i64 4))), (1, 1, (.const (.int .i64 1)))]), none⟩,
  ⟨some 26, .op (.buildSlice 1 2 [.int .i64 0, .int .i64 0] [(0, 1, (.const (.int .i64 0))), (1, 1, (.const (.int .i64 0)))]), none⟩,
  ⟨some 27, .op (.buildSlice 1 2 [.int .i64 0, .int .i64 0] [(0, 1, (.const (.int .i64 0))), (1, 1, (.const (.int .i64 0)))]), none⟩,
  ⟨some 28, .op (.buildSlice 1 3 [.int .i64 0, .int .i64 0, .int .i64 0] [(0, 1, (.const (.int .i64 0))), (1, 1, (.const (.int .i64 0))), (2, 1, (.const (.int .i64 1)))]), none⟩,
  ⟨some 29, .op (.buildSlice 1 1 [.int .i64 0] [(0, 1, (.const (.int .i64 0)))]), none⟩,
  ⟨some 30, .op (.buildSlice 1 20 [.nils, .nils, .nils, .nils, .nils, .nils, .nils, .nils, .nils, .nils, .nils, .nils, .nils, .nils, .nils, .nils, .nils, .nils, .nils, .nils] [(0, 1, (.tmp 10)), (1, 1, (.tmp 11)), (2, 1, (.tmp 12)), (3, 1, (.tmp 13)), (4, 1, (.tmp 14)), (5, 1, (.tmp 15)), (6, 1, (.tmp 16)), (7, 1, (.tmp 17)), (8, 1, (.tmp 18)), (9, 1, (.tmp 19)), (10, 1, (.tmp 20)), (11, 1, (.tmp 21)), (12, 1, (.tmp 22)), (13, 1, (.tmp 23)), (14, 1, (.tmp 24)), (15, 1, (.tmp 25)), (16, 1, (.tmp 26)), (17, 1, (.tmp 27)), (18, 1, (.tmp 28)), (19, 1, (.tmp 29))]), none⟩,
  ⟨some 4, .op (.mv (.tmp 30)), none⟩]) (.seq [31] (.region [⟨some 31, .op (.buildSlice 1 20 [.bool false, .bool false, .bool false, .bool false, .bool false, .bool false, .bool false, .bool false, .bool false, .bool false, .bool false, .bool false, .bool false, .bool false, .bool false, .bool false, .bool false, .bool false, .bool false, .bool false] [(0, 1, (.const (.bool true))), (1, 1, (.const (.bool true))), (2, 1, (.const (.bool false))), (3, 1, (.const (.bool true))), (4, 1, (.const (.bool false))), (5, 1, (.const (.bool true))), (6, 1, (.const (.bool false))), (7, 1, (.const (.bool true))), (8, 1, (.const (.bool false))), (9, 1, (.const (.bool true))), (10, 1, (.const (.bool true))), (11, 1, (.const (.bool false))), (12, 1, (.const (.bool true))), (13, 1, (.const (.bool true))), (14, 1, (.const (.bool true))), (15, 1, (.const (.bool true))), (16, 1, (.const (.bool true))), (17, 1, (.const (.bool true))), (18, 1, (.const (.bool true))), (19, 1, (.const (.bool true)))]), none⟩,
  ⟨some 5, .op (.mv (.tmp 31)), none⟩]) (.seq [0, 32, 33, 34, 35] (.region [⟨some 32, .op (.mv (.tmp 0)), none⟩,
  ⟨some 33, .op (.mv (.tmp 3)), none⟩,
  ⟨some 34, .op (.lenSl (.tmp 33)), none⟩,
  ⟨some 35, .call f_milestonelaw5_within [(.tmp 32), (.tmp 34)], none⟩,
  ⟨some 6, .op (.mv (.tmp 35)), none⟩]) (.seq [3, 4, 5, 6, 36, 37, 38, 39, 40, 41, 42, 43, 44, 45, 46, 47, 48, 49, 50] (.regionD 51 [⟨0, ⟨some 51, .op (.mv (.tmp 3)), none⟩, []⟩,
  ⟨1, ⟨some 52, .op (.mv (.tmp 6)), none⟩, []⟩,
  ⟨2, ⟨some 53, .op (.idxSl 1 (.tmp 51) (.tmp 52)), none⟩, []⟩,
  ⟨3, ⟨some 54, .op (.load none (.tmp 53)), none⟩, []⟩,
  ⟨5, ⟨some 56, .op (.mv (.tmp 4)), none⟩, []⟩,
  ⟨6, ⟨some 57, .op (.mv (.tmp 6)), none⟩, []⟩,
  ⟨7, ⟨some 58, .op (.idxSl 1 (.tmp 56) (.tmp 57)), none⟩, []⟩,
  ⟨8, ⟨some 59, .op (.load none (.tmp 58)), none⟩, []⟩,
  ⟨10, ⟨some 61, .op (.mv (.tmp 5)), none⟩, []⟩,
  ⟨11, ⟨some 62, .op (.mv (.tmp 6)), none⟩, []⟩,
  ⟨12, ⟨some 63, .op (.idxSl 1 (.tmp 61) (.tmp 62)), none⟩, []⟩,
  ⟨13, ⟨some 64, .op (.load none (.tmp 63)), none⟩, []⟩,
  ⟨4, ⟨some 55, .call f_milestonelaw5_Of [(.tmp 54)], none⟩, [(59, ⟨some 59, .op (.load none (.tmp 58)), none⟩), (64, ⟨some 64, .op (.load none (.tmp 63)), none⟩)]⟩,
  ⟨9, ⟨some 60, .call f_match_Match [(.tmp 55), (.tmp 59)], none⟩, [(64, ⟨some 64, .op (.load none (.tmp 63)), none⟩)]⟩,
  ⟨14, ⟨some 65, .op (.bin .eql .bool (.tmp 60) (.tmp 64)), none⟩, []⟩,
  ⟨15, ⟨some 66, .op (.mv (.tmp 65)), none⟩, []⟩] [(36, 51), (37, 52), (38, 53), (39, 54), (40, 55), (41, 56), (42, 57), (43, 58), (44, 59), (45, 60), (46, 61), (47, 62), (48, 63), (49, 64), (50, 65), (2, 66)]) .ret))))))⟩
theorem milestonelaw5_MatchKnown_eq (T : Tab) (k : Nat) (which0 : AV) (h : Heap) : runF T k milestonelaw5_MatchKnown_mf [which0] h =
    ob (evalFn T k f_milestonelaw5_known [] h) fun t7_1 h_2 =>
    oa (unV .not t7_1) fun t8_3 =>
    cond2 t8_3
      (
      some ((.bool false), h_2)
      )
      (
      ob (buildSl 1 20 [.str ⟨#[]⟩, .str ⟨#[]⟩, .str ⟨#[]⟩, .str ⟨#[]⟩, .str ⟨#[]⟩, .str ⟨#[]⟩, .str ⟨#[]⟩, .str ⟨#[]⟩, .str ⟨#[]⟩, .str ⟨#[]⟩, .str ⟨#[]⟩, .str ⟨#[]⟩, .str ⟨#[]⟩, .str ⟨#[]⟩, .str ⟨#[]⟩, .str ⟨#[]⟩, .str ⟨#[]⟩, .str ⟨#[]⟩, .str ⟨#[]⟩, .str ⟨#[]⟩] [(0, 1, (.str ⟨#[119, 42]⟩)), (1, 1, (.str ⟨#[119, 42]⟩)), (2, 1, (.str ⟨#[119, 43]⟩)), (3, 1, (.str ⟨#[119, 98, 124, 99]⟩)), (4, 1, (.str ⟨#[119, 98, 124, 99]⟩)), (5, 1, (.str ⟨#[40, 119, 124, 98, 41, 42, 99]⟩)), (6, 1, (.str ⟨#[40, 119, 124, 98, 41, 42, 99]⟩)), (7, 1, (.str ⟨#[119, 123, 50, 44, 51, 125]⟩)), (8, 1, (.str ⟨#[119, 123, 50, 44, 51, 125]⟩)), (9, 1, (.str ⟨#[119, 123, 48, 44, 48, 125]⟩)), (10, 1, (.str ⟨#[48, 42]⟩)), (11, 1, (.str ⟨#[48]⟩)), (12, 1, (.str ⟨#[95]⟩)), (13, 1, (.str ⟨#[40, 119, 98, 41, 43]⟩)), (14, 1, (.str ⟨#[46, 102, 46]⟩)), (15, 1, (.str ⟨#[91, 119, 116, 93, 63, 98]⟩)), (16, 1, (.str ⟨#[40, 119, 42, 41, 42]⟩)), (17, 1, (.str ⟨#[40, 95, 124, 119, 41, 123, 51, 44, 51, 125]⟩)), (18, 1, (.str ⟨#[119, 123, 50, 44, 51, 125, 98]⟩)), (19, 1, (.str ⟨#[48, 124, 119]⟩))] h_2) fun t9_4 h_5 =>
      ob (buildSl 1 0 [] [] h_5) fun t10_6 h_7 =>
      ob (buildSl 1 3 [.int .i64 0, .int .i64 0, .int .i64 0] [(0, 1, (.int .i64 0)), (1, 1, (.int .i64 0)), (2, 1, (.int .i64 0))] h_7) fun t11_8 h_9 =>
      ob (buildSl 1 0 [] [] h_9) fun t12_10 h_11 =>
      ob (buildSl 1 2 [.int .i64 0, .int .i64 0] [(0, 1, (.int .i64 0)), (1, 1, (.int .i64 1))] h_11) fun t13_12 h_13 =>
      ob (buildSl 1 3 [.int .i64 0, .int .i64 0, .int .i64 0] [(0, 1, (.int .i64 0)), (1, 1, (.int .i64 1)), (2, 1, (.int .i64 2))] h_13) fun t14_14 h_15 =>
      ob (buildSl 1 5 [.int .i64 0, .int .i64 0, .int .i64 0, .int .i64 0, .int .i64 0] [(0, 1, (.int .i64 0)), (1, 1, (.int .i64 1)), (2, 1, (.int .i64 1)), (3, 1, (.int .i64 0)), (4, 1, (.int .i64 2))] h_15) fun t15_16 h_17 =>
      ob (buildSl 1 3 [.int .i64 0, .int .i64 0, .int .i64 0] [(0, 1, (.int .i64 0)), (1, 1, (.int .i64 2)), (2, 1, (.int .i64 1))] h_17) fun t16_18 h_19 =>
      ob (buildSl 1 3 [.int .i64 0, .int .i64 0, .int .i64 0] [(0, 1, (.int .i64 0)), (1, 1, (.int .i64 0)), (2, 1, (.int .i64 0))] h_19) fun t17_20 h_21 =>
      ob (buildSl 1 1 [.int .i64 0] [(0, 1, (.int .i64 0))] h_21) fun t18_22 h_23 =>
      ob (buildSl 1 0 [] [] h_23) fun t19_24 h_25 =>
      ob (buildSl 1 0 [] [] h_25) fun t20_26 h_27 =>
      ob (buildSl 1 0 [] [] h_27) fun t21_28 h_29 =>
      ob (buildSl 1 0 [] [] h_29) fun t22_30 h_31 =>
      ob (buildSl 1 4 [.int .i64 0, .int .i64 0, .int .i64 0, .int .i64 0] [(0, 1, (.int .i64 0)), (1, 1, (.int .i64 1)), (2, 1, (.int .i64 0)), (3, 1, (.int .i64 1))] h_31) fun t23_32 h_33 =>
      ob (buildSl 1 3 [.int .i64 0, .int .i64 0, .int .i64 0] [(0, 1, (.int .i64 4)), (1, 1, (.int .i64 3)), (2, 1, (.int .i64 2))] h_33) fun t24_34 h_35 =>
      ob (buildSl 1 2 [.int .i64 0, .int .i64 0] [(0, 1, (.int .i64 4)), (1, 1, (.int .i64 1))] h_35) fun t25_36 h_37 =>
      ob (buildSl 1 2 [.int .i64 0, .int .i64 0] [(0, 1, (.int .i64 0)), (1, 1, (.int .i64 0))] h_37) fun t26_38 h_39 =>
      ob (buildSl 1 2 [.int .i64 0, .int .i64 0] [(0, 1, (.int .i64 0)), (1, 1, (.int .i64 0))] h_39) fun t27_40 h_41 =>
      ob (buildSl 1 3 [.int .i64 0, .int .i64 0, .int .i64 0] [(0, 1, (.int .i64 0)), (1, 1, (.int .i64 0)), (2, 1, (.int .i64 1))] h_41) fun t28_42 h_43 =>
      ob (buildSl 1 1 [.int .i64 0] [(0, 1, (.int .i64 0))] h_43) fun t29_44 h_45 =>
      ob (buildSl 1 20 [.nils, .nils, .nils, .nils, .nils, .nils, .nils, .nils, .nils, .nils, .nils, .nils, .nils, .nils, .nils, .nils, .nils, .nils, .nils, .nils] [(0, 1, t10_6), (1, 1, t11_8), (2, 1, t12_10), (3, 1, t13_12), (4, 1, t14_14), (5, 1, t15_16), (6, 1, t16_18), (7, 1, t17_20), (8, 1, t18_22), (9, 1, t19_24), (10, 1, t20_26), (11, 1, t21_28), (12, 1, t22_30), (13, 1, t23_32), (14, 1, t24_34), (15, 1, t25_36), (16, 1, t26_38), (17, 1, t27_40), (18, 1, t28_42), (19, 1, t29_44)] h_45) fun t30_46 h_47 =>
      ob (buildSl 1 20 [.bool false, .bool false, .bool false, .bool false, .bool false, .bool false, .bool false, .bool false, .bool false, .bool false, .bool false, .bool false, .bool false, .bool false, .bool false, .bool false, .bool false, .bool false, .bool false, .bool false] [(0, 1, (.bool true)), (1, 1, (.bool true)), (2, 1, (.bool false)), (3, 1, (.bool true)), (4, 1, (.bool false)), (5, 1, (.bool true)), (6, 1, (.bool false)), (7, 1, (.bool true)), (8, 1, (.bool false)), (9, 1, (.bool true)), (10, 1, (.bool true)), (11, 1, (.bool false)), (12, 1, (.bool true)), (13, 1, (.bool true)), (14, 1, (.bool true)), (15, 1, (.bool true)), (16, 1, (.bool true)), (17, 1, (.bool true)), (18, 1, (.bool true)), (19, 1, (.bool true))] h_47) fun t31_48 h_49 =>
      oa (lenS t9_4) fun t34_50 =>
      ob (evalFn T k f_milestonelaw5_within [which0, t34_50] h_49) fun t35_51 h_52 =>
      oa (idxS 1 t9_4 t35_51) fun t53_53 =>
      oa (ld1 h_52 t53_53) fun t54_54 =>
      oa (idxS 1 t30_46 t35_51) fun t58_55 =>
      oa (ld1 h_52 t58_55) fun t59_56 =>
      oa (idxS 1 t31_48 t35_51) fun t63_57 =>
      oa (ld1 h_52 t63_57) fun t64_58 =>
      ob (evalFn T k f_milestonelaw5_Of [t54_54] h_52) fun t55_59 h_60 =>
      chk ((sameB (pure1 h_60 (ld1 h_60 t58_55)) t59_56 && (sameB (pure1 h_60 (ld1 h_60 t63_57)) t64_58 && true))) <|
      ob (evalFn T k f_match_Match [t55_59, t59_56] h_60) fun t60_61 h_62 =>
      chk ((sameB (pure1 h_62 (ld1 h_62 t63_57)) t64_58 && true)) <|
      oa (binV .eql .bool t60_61 t64_58) fun t65_63 =>
      some (t65_63, h_62)
      ) := runEq (by kernel_rfl)
noncomputable def milestonelaw5_MatchNone_c1 : MCode := .seq [46, 47, 48] (.region [⟨some 46, .op (.build [.int .i64 0, .int .i64 0, .int .i64 0, .int .i64 0, .nils] [(0, 1, (.const (.int .i64 1))), (1, 1, (.const (.int .i64 31)))]), none⟩,
  ⟨some 47, .op (.buildSlice 5 1 [.int .i64 0, .int .i64 0, .int .i64 0, .int .i64 0, .nils] [(0, 5, (.tmp 46))]), none⟩,
  ⟨some 48, .op (.build [.int .i64 0, .int .i64 0, .int .i64 0, .int .i64 0, .nils] [(0, 1, (.const (.int .i64 6))), (4, 1, (.tmp 47))]), none⟩,
  ⟨some 13, .op (.alloc [.int .i64 0, .int .i64 0, .int .i64 0, .int .i64 0, .nils]), none⟩,
  ⟨none, .op (.store 5 (.tmp 13) (.tmp 48)), none⟩]) (.seq [9, 10, 11, 12, 13, 49, 50, 51, 52, 53, 54, 55, 56, 57, 58, 59, 60, 61, 62, 63, 64, 65, 66, 67, 68, 69, 70, 71, 72, 73, 74, 75, 76, 77, 78, 79, 80, 81, 82, 83, 84, 85, 86, 87, 88, 89, 90, 91, 92, 93, 94, 95, 96] (.regionD 97 [⟨0, ⟨some 97, .op (.load (some 5) (.tmp 10)), none⟩, []⟩,
  ⟨1, ⟨some 98, .op (.mv (.tmp 11)), none⟩, []⟩,
  ⟨2, ⟨some 99, .call f_match_Match [(.tmp 97), (.tmp 98)], none⟩, []⟩,
  ⟨3, ⟨some 100, .op (.un .not (.tmp 99)), none⟩, []⟩,
  ⟨4, ⟨some 101, .op (.mv (.tmp 100)), none⟩, []⟩,
  ⟨5, ⟨some 102, .op (.load (some 5) (.tmp 9)), some (101, true)⟩, []⟩,
  ⟨6, ⟨some 103, .op (.load (some 5) (.tmp 10)), some (101, true)⟩, []⟩,
  ⟨7, ⟨some 104, .op (.buildSlice 5 2 [.int .i64 0, .int .i64 0, .int .i64 0, .int .i64 0, .nils, .int .i64 0, .int .i64 0, .int .i64 0, .int .i64 0, .nils] [(0, 5, (.tmp 102)), (5, 5, (.tmp 103))]), some (101, true)⟩, []⟩,
  ⟨8, ⟨some 105, .op (.build [.int .i64 0, .int .i64 0, .int .i64 0, .int .i64 0, .nils] [(0, 1, (.const (.int .i64 4))), (4, 1, (.tmp 104))]), some (101, true)⟩, []⟩,
  ⟨9, ⟨some 106, .op (.mv (.tmp 11)), some (101, true)⟩, []⟩,
  ⟨10, ⟨some 107, .call f_match_Match [(.tmp 105), (.tmp 106)], some (101, true)⟩, []⟩,
  ⟨11, ⟨some 108, .op (.un .not (.tmp 107)), some (101, true)⟩, []⟩,
  ⟨12, ⟨some 109, .op (.pick (.tmp 101) (.tmp 108) (.const (.bool false))), none⟩, []⟩,
  ⟨13, ⟨some 110, .op (.mv (.tmp 109)), none⟩, []⟩,
  ⟨14, ⟨some 111, .op (.load (some 5) (.tmp 10)), some (110, true)⟩, []⟩,
  ⟨15, ⟨some 112, .op (.load (some 5) (.tmp 9)), some (110, true)⟩, []⟩,
  ⟨16, ⟨some 113, .op (.buildSlice 5 2 [.int .i64 0, .int .i64 0, .int .i64 0, .int .i64 0, .nils, .int .i64 0, .int .i64 0, .int .i64 0, .int .i64 0, .nils] [(0, 5, (.tmp 111)), (5, 5, (.tmp 112))]), some (110, true)⟩, []⟩,
  ⟨17, ⟨some 114, .op (.build [.int .i64 0, .int .i64 0, .int .i64 0, .int .i64 0, .nils] [(0, 1, (.const (.int .i64 5))), (4, 1, (.tmp 113))]), some (110, true)⟩, []⟩,
  ⟨18, ⟨some 115, .op (.mv (.tmp 11)), some (110, true)⟩, []⟩,
  ⟨20, ⟨some 117, .op (.load (some 5) (.tmp 9)), some (110, true)⟩, []⟩,
  ⟨21, ⟨some 118, .op (.mv (.tmp 11)), some (110, true)⟩, []⟩,
  ⟨19, ⟨some 116, .call f_match_Match [(.tmp 114), (.tmp 115)], some (110, true)⟩, [(117, ⟨some 117, .op (.load (some 5) (.tmp 9)), some (110, true)⟩)]⟩,
  ⟨22, ⟨some 119, .call f_match_Match [(.tmp 117), (.tmp 118)], some (110, true)⟩, []⟩,
  ⟨23, ⟨some 120, .op (.bin .eql .bool (.tmp 116) (.tmp 119)), some (110, true)⟩, []⟩,
  ⟨24, ⟨some 121, .op (.pick (.tmp 110) (.tmp 120) (.const (.bool false))), none⟩, []⟩,
  ⟨25, ⟨some 122, .op (.mv (.tmp 121)), none⟩, []⟩,
  ⟨26, ⟨some 123, .op (.load (some 5) (.tmp 13)), some (122, true)⟩, []⟩,
  ⟨27, ⟨some 124, .op (.mv (.tmp 11)), some (122, true)⟩, []⟩,
  ⟨28, ⟨some 125, .call f_match_Match [(.tmp 123), (.tmp 124)], some (122, true)⟩, []⟩,
  ⟨29, ⟨some 126, .op (.pick (.tmp 122) (.tmp 125) (.const (.bool false))), none⟩, []⟩,
  ⟨30, ⟨some 127, .op (.mv (.tmp 126)), none⟩, []⟩,
  ⟨31, ⟨some 128, .op (.load (some 5) (.tmp 13)), some (127, true)⟩, []⟩,
  ⟨32, ⟨some 129, .op (.mv (.tmp 12)), some (127, true)⟩, []⟩,
  ⟨33, ⟨some 130, .call f_match_Match [(.tmp 128), (.tmp 129)], some (127, true)⟩, []⟩,
  ⟨34, ⟨some 131, .op (.un .not (.tmp 130)), some (127, true)⟩, []⟩,
  ⟨35, ⟨some 132, .op (.pick (.tmp 127) (.tmp 131) (.const (.bool false))), none⟩, []⟩,
  ⟨36, ⟨some 133, .op (.mv (.tmp 132)), none⟩, []⟩,
  ⟨37, ⟨some 134, .op (.load (some 5) (.tmp 9)), some (133, true)⟩, []⟩,
  ⟨38, ⟨some 135, .op (.mv (.tmp 12)), some (133, true)⟩, []⟩,
  ⟨39, ⟨some 136, .call f_match_Match [(.tmp 134), (.tmp 135)], some (133, true)⟩, []⟩,
  ⟨40, ⟨some 137, .op (.un .not (.tmp 136)), some (133, true)⟩, []⟩,
  ⟨41, ⟨some 138, .op (.pick (.tmp 133) (.tmp 137) (.const (.bool false))), none⟩, []⟩,
  ⟨42, ⟨some 139, .op (.mv (.tmp 138)), none⟩, []⟩,
  ⟨43, ⟨some 140, .op (.load (some 5) (.tmp 10)), some (139, true)⟩, []⟩,
  ⟨44, ⟨some 141, .call f_match_Words [(.tmp 140), (.const (.int .i64 3))], some (139, true)⟩, []⟩,
  ⟨45, ⟨some 142, .op (.lenSl (.tmp 141)), some (139, true)⟩, []⟩,
  ⟨46, ⟨some 143, .op (.bin .eql .scalar (.tmp 142) (.const (.int .i64 0))), some (139, true)⟩, []⟩,
  ⟨47, ⟨some 144, .op (.pick (.tmp 139) (.tmp 143) (.const (.bool false))), none⟩, []⟩,
  ⟨48, ⟨some 145, .op (.mv (.tmp 144)), none⟩, []⟩] [(49, 97), (50, 98), (51, 99), (52, 100), (53, 101), (54, 102), (55, 103), (56, 104), (57, 105), (58, 106), (59, 107), (60, 108), (61, 109), (62, 110), (63, 111), (64, 112), (65, 113), (66, 114), (67, 115), (68, 116), (69, 117), (70, 118), (71, 119), (72, 120), (73, 121), (74, 122), (75, 123), (76, 124), (77, 125), (78, 126), (79, 127), (80, 128), (81, 129), (82, 130), (83, 131), (84, 132), (85, 133), (86, 134), (87, 135), (88, 136), (89, 137), (90, 138), (91, 139), (92, 140), (93, 141), (94, 142), (95, 143), (96, 144), (8, 145)]) .ret)
def milestonelaw5_MatchNone_rs : Res := [(8, none)]
noncomputable def milestonelaw5_MatchNone_mf : MFn := ⟨97, milestonelaw5_MatchNone_rs, .seq [8] (.region [⟨some 8, .op (.mv (.const (.bool false))), none⟩]) (.seq [15] (.seq [14] (.region [⟨some 14, .call f_milestonelaw5_known [], none⟩,
  ⟨some 15, .op (.un .not (.tmp 14)), none⟩]) (.cond (.tmp 15) (.seq [0, 1, 2, 3, 15] (.region [⟨some 8, .op (.mv (.const (.bool false))), none⟩]) .ret) .skip)) (.seq [18] (.seq [16, 17] (.region [⟨some 16, .op (.mv (.tmp 0)), none⟩,
  ⟨some 17, .call f_milestonelaw4_Few [(.tmp 16)], none⟩,
  ⟨some 18, .op (.un .not (.tmp 17)), none⟩]) (.cond (.tmp 18) (.seq [0, 1, 2, 3, 18] (.region [⟨some 8, .op (.mv (.const (.bool true))), none⟩]) .ret) .skip)) (.seq [0, 19, 20] (.region [⟨some 19, .op (.mv (.tmp 0)), none⟩,
  ⟨some 20, .call f_milestonelaw4_One [(.tmp 19)], none⟩,
  ⟨some 9, .op (.alloc [.int .i64 0, .int .i64 0, .int .i64 0, .int .i64 0, .nils]), none⟩,
  ⟨none, .op (.store 5 (.tmp 9) (.tmp 20)), none⟩]) (.seq [21] (.region [⟨some 21, .op (.build [.int .i64 0, .int .i64 0, .int .i64 0, .int .i64 0, .nils] [(0, 1, (.const (.int .i64 2)))]), none⟩,
  ⟨some 10, .op (.alloc [.int .i64 0, .int .i64 0, .int .i64 0, .int .i64 0, .nils]), none⟩,
  ⟨none, .op (.store 5 (.tmp 10) (.tmp 21)), none⟩]) (.seq [1, 22, 23] (.region [⟨some 22, .op (.mv (.tmp 1)), none⟩,
  ⟨some 23, .call f_milestonelaw5_Word [(.tmp 22), (.const (.int .i64 6)), (.const (.int .i64 4))], none⟩,
  ⟨some 11, .op (.mv (.tmp 23)), none⟩]) (.seq [24, 25, 26] (.region [⟨some 24, .op (.buildSlice 1 0 [] []), none⟩,
  ⟨some 25, .op (.mv (.tmp 11)), none⟩,
  ⟨some 26, .op (.append 1 8 (.tmp 24) (.tmp 25)), none⟩,
  ⟨some 12, .op (.mv (.tmp 26)), none⟩]) (.seq [2, 3, 32, 33, 34, 35, 36, 37, 38, 39, 40, 41, 42, 43, 44, 45] (.seq [27, 28, 29, 30, 31] (.region [⟨some 27, .op (.mv (.tmp 3)), none⟩,
  ⟨some 28, .op (.bin .lss .scalar (.tmp 27) (.const (.int .i64 0))), none⟩,
  ⟨some 29, .op (.mv (.tmp 28)), none⟩,
  ⟨some 30, .op (.mv (.tmp 3)), some (29, false)⟩,
  ⟨some 31, .op (.bin .gtr .scalar (.tmp 30) (.const (.int .i64 4))), some (29, false)⟩,
  ⟨some 32, .op (.pick (.tmp 29) (.const (.bool true)) (.tmp 31)), none⟩]) (.cond (.tmp 32) (.region [⟨some 33, .op (.mv (.tmp 12)), none⟩,
  ⟨some 34, .op (.mv (.tmp 2)), none⟩,
  ⟨some 35, .op (.mv (.tmp 12)), none⟩,
  ⟨some 36, .op (.lenSl (.tmp 35)), none⟩,
  ⟨some 37, .op (.bin .add .scalar (.tmp 36) (.const (.int .i64 1))), none⟩,
  ⟨some 38, .call f_milestonelaw5_within [(.tmp 34), (.tmp 37)], none⟩,
  ⟨some 39, .op (.sliceSl 1 (.tmp 33) none (some (.tmp 38)) none), none⟩,
  ⟨some 40, .op (.mv (.tmp 3)), none⟩,
  ⟨some 41, .op (.buildSlice 1 1 [.int .i64 0] [(0, 1, (.tmp 40))]), none⟩,
  ⟨some 42, .op (.append 1 8 (.tmp 39) (.tmp 41)), none⟩,
  ⟨some 12, .op (.mv (.tmp 42)), none⟩]) (.region [⟨some 43, .op (.mv (.tmp 12)), none⟩,
  ⟨some 44, .op (.buildSlice 1 1 [.int .i64 0] [(0, 1, (.const (.int .i64 5)))]), none⟩,
  ⟨some 45, .op (.append 1 8 (.tmp 43) (.tmp 44)), none⟩,
  ⟨some 12, .op (.mv (.tmp 45)), none⟩]))) (.lab milestonelaw5_MatchNone_c1))))))))⟩
noncomputable def milestonelaw5_MatchNone_b1 (T : Tab) (k : Nat) (a9 e10 w11 x12 : AV) (h : Heap) : Option (AV × Heap) :=
  evB T k milestonelaw5_MatchNone_rs milestonelaw5_MatchNone_c1 [] [.undef, .undef, .undef, .undef, .undef, .undef, .undef, .undef, .undef, a9, e10, w11, x12, .undef, .undef, .undef, .undef, .undef, .undef, .undef, .undef, .undef, .undef, .undef, .undef, .undef, .undef, .undef, .undef, .undef, .undef, .undef, .undef, .undef, .undef, .undef, .undef, .undef, .undef, .undef, .undef, .undef, .undef, .undef, .undef, .undef, .undef, .undef, .undef, .undef, .undef, .undef, .undef, .undef, .undef, .undef, .undef, .undef, .undef, .undef, .undef, .undef, .undef, .undef, .undef, .undef, .undef, .undef, .undef, .undef, .undef, .undef, .undef, .undef, .undef, .undef, .undef, .undef, .undef, .undef, .undef, .undef, .undef, .undef, .undef, .undef, .undef, .undef, .undef, .undef, .undef, .undef, .undef, .undef, .undef, .undef, .undef] h
theorem milestonelaw5_MatchNone_b1_eq (T : Tab) (k : Nat) (a9 e10 w11 x12 : AV) (h : Heap) : milestonelaw5_MatchNone_b1 T k a9 e10 w11 x12 h =
    oa (buildV [.int .i64 0, .int .i64 0, .int .i64 0, .int .i64 0, .nils] [(0, 1, (.int .i64 1)), (1, 1, (.int .i64 31))]) fun t46_1 =>
    ob (buildSl 5 1 [.int .i64 0, .int .i64 0, .int .i64 0, .int .i64 0, .nils] [(0, 5, t46_1)] h) fun t47_2 h_3 =>
    oa (buildV [.int .i64 0, .int .i64 0, .int .i64 0, .int .i64 0, .nils] [(0, 1, (.int .i64 6)), (4, 1, t47_2)]) fun t48_4 =>
    ob (newVar h_3 [.int .i64 0, .int .i64 0, .int .i64 0, .int .i64 0, .nils]) fun all13_5 h_6 =>
    oh (stN 5 h_6 all13_5 t48_4) fun h_7 =>
    oa (ldN 5 h_7 e10) fun t97_8 =>
    ob (evalFn T k f_match_Match [t97_8, w11] h_7) fun t99_9 h_10 =>
    oa (unV .not t99_9) fun t100_11 =>
    ob (gd t100_11 true (pure1 h_10 (ldN 5 h_10 a9)) h_10) fun t102_12 h_13 =>
    ob (gd t100_11 true (pure1 h_13 (ldN 5 h_13 e10)) h_13) fun t103_14 h_15 =>
    ob (gd t100_11 true (buildSl 5 2 [.int .i64 0, .int .i64 0, .int .i64 0, .int .i64 0, .nils, .int .i64 0, .int .i64 0, .int .i64 0, .int .i64 0, .nils] [(0, 5, t102_12), (5, 5, t103_14)] h_15) h_15) fun t104_16 h_17 =>
    ob (gd t100_11 true (pure1 h_17 (buildV [.int .i64 0, .int .i64 0, .int .i64 0, .int .i64 0, .nils] [(0, 1, (.int .i64 4)), (4, 1, t104_16)])) h_17) fun t105_18 h_19 =>
    ob (gd t100_11 true (some (w11, h_19)) h_19) fun t106_20 h_21 =>
    ob (gd t100_11 true (evalFn T k f_match_Match [t105_18, t106_20] h_21) h_21) fun t107_22 h_23 =>
    ob (gd t100_11 true (pure1 h_23 (unV .not t107_22)) h_23) fun t108_24 h_25 =>
    oa (pickV t100_11 t108_24 (.bool false)) fun t109_26 =>
    ob (gd t109_26 true (pure1 h_25 (ldN 5 h_25 e10)) h_25) fun t111_27 h_28 =>
    ob (gd t109_26 true (pure1 h_28 (ldN 5 h_28 a9)) h_28) fun t112_29 h_30 =>
    ob (gd t109_26 true (buildSl 5 2 [.int .i64 0, .int .i64 0, .int .i64 0, .int .i64 0, .nils, .int .i64 0, .int .i64 0, .int .i64 0, .int .i64 0, .nils] [(0, 5, t111_27), (5, 5, t112_29)] h_30) h_30) fun t113_31 h_32 =>
    ob (gd t109_26 true (pure1 h_32 (buildV [.int .i64 0, .int .i64 0, .int .i64 0, .int .i64 0, .nils] [(0, 1, (.int .i64 5)), (4, 1, t113_31)])) h_32) fun t114_33 h_34 =>
    ob (gd t109_26 true (some (w11, h_34)) h_34) fun t115_35 h_36 =>
    ob (gd t109_26 true (pure1 h_36 (ldN 5 h_36 a9)) h_36) fun t117_37 h_38 =>
    ob (gd t109_26 true (some (w11, h_38)) h_38) fun t118_39 h_40 =>
    ob (gd t109_26 true (evalFn T k f_match_Match [t114_33, t115_35] h_40) h_40) fun t116_41 h_42 =>
    chk (gdB t109_26 true (gdB t109_26 true (sameB (pure1 h_42 (ldN 5 h_42 a9)) t117_37) && true)) <|
    ob (gd t109_26 true (evalFn T k f_match_Match [t117_37, t118_39] h_42) h_42) fun t119_43 h_44 =>
    ob (gd t109_26 true (pure1 h_44 (binV .eql .bool t116_41 t119_43)) h_44) fun t120_45 h_46 =>
    oa (pickV t109_26 t120_45 (.bool false)) fun t121_47 =>
    ob (gd t121_47 true (pure1 h_46 (ldN 5 h_46 all13_5)) h_46) fun t123_48 h_49 =>
    ob (gd t121_47 true (some (w11, h_49)) h_49) fun t124_50 h_51 =>
    ob (gd t121_47 true (evalFn T k f_match_Match [t123_48, t124_50] h_51) h_51) fun t125_52 h_53 =>
    oa (pickV t121_47 t125_52 (.bool false)) fun t126_54 =>
    ob (gd t126_54 true (pure1 h_53 (ldN 5 h_53 all13_5)) h_53) fun t128_55 h_56 =>
    ob (gd t126_54 true (some (x12, h_56)) h_56) fun t129_57 h_58 =>
    ob (gd t126_54 true (evalFn T k f_match_Match [t128_55, t129_57] h_58) h_58) fun t130_59 h_60 =>
    ob (gd t126_54 true (pure1 h_60 (unV .not t130_59)) h_60) fun t131_61 h_62 =>
    oa (pickV t126_54 t131_61 (.bool false)) fun t132_63 =>
    ob (gd t132_63 true (pure1 h_62 (ldN 5 h_62 a9)) h_62) fun t134_64 h_65 =>
    ob (gd t132_63 true (some (x12, h_65)) h_65) fun t135_66 h_67 =>
    ob (gd t132_63 true (evalFn T k f_match_Match [t134_64, t135_66] h_67) h_67) fun t136_68 h_69 =>
    ob (gd t132_63 true (pure1 h_69 (unV .not t136_68)) h_69) fun t137_70 h_71 =>
    oa (pickV t132_63 t137_70 (.bool false)) fun t138_72 =>
    ob (gd t138_72 true (pure1 h_71 (ldN 5 h_71 e10)) h_71) fun t140_73 h_74 =>
    ob (gd t138_72 true (evalFn T k f_match_Words [t140_73, (.int .i64 3)] h_74) h_74) fun t141_75 h_76 =>
    ob (gd t138_72 true (pure1 h_76 (lenS t141_75)) h_76) fun t142_77 h_78 =>
    ob (gd t138_72 true (pure1 h_78 (binV .eql .scalar t142_77 (.int .i64 0))) h_78) fun t143_79 h_80 =>
    oa (pickV t138_72 t143_79 (.bool false)) fun t144_81 =>
    some (t144_81, h_80) := blockEq (by kernel_rfl)
theorem milestonelaw5_MatchNone_eq (T : Tab) (k : Nat) (l0 ns1 at2 bad3 : AV) (h : Heap) : runF T k milestonelaw5_MatchNone_mf [l0, ns1, at2, bad3] h =
    ob (evalFn T k f_milestonelaw5_known [] h) fun t14_1 h_2 =>
    oa (unV .not t14_1) fun t15_3 =>
    cond2 t15_3
      (
      some ((.bool false), h_2)
      )
      (
      ob (evalFn T k f_milestonelaw4_Few [l0] h_2) fun t17_4 h_5 =>
      oa (unV .not t17_4) fun t18_6 =>
      cond2 t18_6
        (
        some ((.bool true), h_5)
        )
        (
        ob (evalFn T k f_milestonelaw4_One [l0] h_5) fun t20_7 h_8 =>
        ob (newVar h_8 [.int .i64 0, .int .i64 0, .int .i64 0, .int .i64 0, .nils]) fun a9_9 h_10 =>
        oh (stN 5 h_10 a9_9 t20_7) fun h_11 =>
        oa (buildV [.int .i64 0, .int .i64 0, .int .i64 0, .int .i64 0, .nils] [(0, 1, (.int .i64 2))]) fun t21_12 =>
        ob (newVar h_11 [.int .i64 0, .int .i64 0, .int .i64 0, .int .i64 0, .nils]) fun e10_13 h_14 =>
        oh (stN 5 h_14 e10_13 t21_12) fun h_15 =>
        ob (evalFn T k f_milestonelaw5_Word [ns1, (.int .i64 6), (.int .i64 4)] h_15) fun t23_16 h_17 =>
        ob (buildSl 1 0 [] [] h_17) fun t24_18 h_19 =>
        ob (apnd 1 8 t24_18 t23_16 h_19) fun t26_20 h_21 =>
        oa (binV .lss .scalar bad3 (.int .i64 0)) fun t28_22 =>
        ob (gd t28_22 false (some (bad3, h_21)) h_21) fun t30_23 h_24 =>
        ob (gd t28_22 false (pure1 h_24 (binV .gtr .scalar t30_23 (.int .i64 4))) h_24) fun t31_25 h_26 =>
        oa (pickV t28_22 (.bool true) t31_25) fun t32_27 =>
        cond2 t32_27
          (
          oa (lenS t26_20) fun t36_28 =>
          oa (binV .add .scalar t36_28 (.int .i64 1)) fun t37_29 =>
          ob (evalFn T k f_milestonelaw5_within [at2, t37_29] h_26) fun t38_30 h_31 =>
          oa (slSl 1 t26_20 none (some t38_30) none) fun t39_32 =>
          ob (buildSl 1 1 [.int .i64 0] [(0, 1, bad3)] h_31) fun t41_33 h_34 =>
          ob (apnd 1 8 t39_32 t41_33 h_34) fun t42_35 h_36 =>
          milestonelaw5_MatchNone_b1 T k a9_9 e10_13 t23_16 t42_35 h_36
          )
          (
          ob (buildSl 1 1 [.int .i64 0] [(0, 1, (.int .i64 5))] h_26) fun t44_37 h_38 =>
          ob (apnd 1 8 t26_20 t44_37 h_38) fun t45_39 h_40 =>
          milestonelaw5_MatchNone_b1 T k a9_9 e10_13 t23_16 t45_39 h_40
          )
        )
      ) := runEq (by kernel_rfl)
noncomputable def milestonelaw5_MatchTurned_c1 : MCode := .seq [33] (.seq [32] (.region [⟨some 32, .op (.mv (.tmp 12)), none⟩,
  ⟨some 33, .op (.bin .gtr .scalar (.tmp 32) (.const (.int .i64 0))), none⟩]) (.cond (.tmp 33) .skip (.exit 2))) (.seq [36, 37, 38, 39, 40, 41, 42, 43] (.block 3 (.region [⟨some 36, .op (.mv (.tmp 11)), none⟩,
  ⟨some 37, .op (.mv (.tmp 10)), none⟩,
  ⟨some 38, .op (.mv (.tmp 12)), none⟩,
  ⟨some 39, .op (.bin .sub .scalar (.tmp 38) (.const (.int .i64 1))), none⟩,
  ⟨some 40, .op (.idxSl 1 (.tmp 37) (.tmp 39)), none⟩,
  ⟨some 41, .op (.load none (.tmp 40)), none⟩,
  ⟨some 42, .op (.buildSlice 1 1 [.int .i64 0] [(0, 1, (.tmp 41))]), none⟩,
  ⟨some 43, .op (.append 1 8 (.tmp 36) (.tmp 42)), none⟩,
  ⟨some 11, .op (.mv (.tmp 43)), none⟩])) (.region [⟨some 34, .op (.mv (.tmp 12)), none⟩,
  ⟨some 35, .op (.bin .sub .scalar (.tmp 34) (.const (.int .i64 1))), none⟩,
  ⟨some 12, .op (.mv (.tmp 35)), none⟩]))
noncomputable def milestonelaw5_MatchTurned_c2 : MCode := .seq [10, 11, 44, 45, 46, 47, 48, 49] (.regionD 56 [⟨0, ⟨some 56, .op (.load (some 5) (.tmp 7)), none⟩, []⟩,
  ⟨1, ⟨some 57, .op (.mv (.tmp 10)), none⟩, []⟩,
  ⟨3, ⟨some 59, .op (.load (some 5) (.tmp 8)), none⟩, []⟩,
  ⟨4, ⟨some 60, .op (.mv (.tmp 11)), none⟩, []⟩,
  ⟨2, ⟨some 58, .call f_match_Match [(.tmp 56), (.tmp 57)], none⟩, [(59, ⟨some 59, .op (.load (some 5) (.tmp 8)), none⟩)]⟩,
  ⟨5, ⟨some 61, .call f_match_Match [(.tmp 59), (.tmp 60)], none⟩, []⟩,
  ⟨6, ⟨some 62, .op (.bin .neq .bool (.tmp 58) (.tmp 61)), none⟩, []⟩] [(44, 56), (45, 57), (46, 58), (47, 59), (48, 60), (49, 61), (50, 62)]) (.cond (.tmp 50) (.seq [1, 2, 7, 8, 9, 50] (.region [⟨some 6, .op (.mv (.const (.bool false))), none⟩]) .ret) .skip)
noncomputable def milestonelaw5_MatchTurned_c3 : MCode := .region [⟨some 24, .op (.mv (.tmp 9)), none⟩,
  ⟨some 25, .op (.bin .add .scalar (.tmp 24) (.const (.int .i64 1))), none⟩,
  ⟨some 9, .op (.mv (.tmp 25)), none⟩]
noncomputable def milestonelaw5_MatchTurned_c4 : MCode := .seq [23] (.seq [22] (.region [⟨some 22, .op (.mv (.tmp 9)), none⟩,
  ⟨some 23, .op (.bin .leq .scalar (.tmp 22) (.const (.int .i64 7))), none⟩]) (.cond (.tmp 23) .skip (.exit 0))) (.seq [50] (.block 1 (.seq [26, 27, 28, 29] (.region [⟨some 26, .op (.mv (.tmp 1)), none⟩,
  ⟨some 27, .op (.mv (.tmp 9)), none⟩,
  ⟨some 28, .op (.mv (.tmp 2)), none⟩,
  ⟨some 29, .call f_milestonelaw5_Word [(.tmp 26), (.tmp 27), (.tmp 28)], none⟩,
  ⟨some 10, .op (.mv (.tmp 29)), none⟩]) (.seq [] (.region [⟨some 11, .op (.mv (.const .nils)), none⟩]) (.seq [12, 33] (.seq [30, 31] (.region [⟨some 30, .op (.mv (.tmp 10)), none⟩,
  ⟨some 31, .op (.lenSl (.tmp 30)), none⟩,
  ⟨some 12, .op (.mv (.tmp 31)), none⟩]) (.block 2 (.loop [34, 35] milestonelaw5_MatchTurned_c1))) (.lab milestonelaw5_MatchTurned_c2))))) (.lab milestonelaw5_MatchTurned_c3))
noncomputable def milestonelaw5_MatchTurned_c5 : MCode := .seq [7, 8, 51, 52, 53, 54, 55] (.regionD 56 [⟨0, ⟨some 56, .op (.load (some 5) (.tmp 7)), none⟩, []⟩,
  ⟨2, ⟨some 58, .op (.load (some 5) (.tmp 8)), none⟩, []⟩,
  ⟨1, ⟨some 57, .call f_match_Null [(.tmp 56)], none⟩, [(58, ⟨some 58, .op (.load (some 5) (.tmp 8)), none⟩)]⟩,
  ⟨3, ⟨some 59, .call f_match_Null [(.tmp 58)], none⟩, []⟩,
  ⟨4, ⟨some 60, .op (.bin .eql .bool (.tmp 57) (.tmp 59)), none⟩, []⟩,
  ⟨5, ⟨some 61, .op (.mv (.tmp 60)), none⟩, []⟩] [(51, 56), (52, 57), (53, 58), (54, 59), (55, 60), (6, 61)]) .ret
def milestonelaw5_MatchTurned_rs : Res := [(6, none)]
noncomputable def milestonelaw5_MatchTurned_mf : MFn := ⟨56, milestonelaw5_MatchTurned_rs, .seq [6] (.region [⟨some 6, .op (.mv (.const (.bool false))), none⟩]) (.seq [14] (.seq [13] (.region [⟨some 13, .call f_milestonelaw5_known [], none⟩,
  ⟨some 14, .op (.un .not (.tmp 13)), none⟩]) (.cond (.tmp 14) (.seq [0, 1, 2, 14] (.region [⟨some 6, .op (.mv (.const (.bool false))), none⟩]) .ret) .skip)) (.seq [17] (.seq [15, 16] (.region [⟨some 15, .op (.mv (.tmp 0)), none⟩,
  ⟨some 16, .call f_milestonelaw4_Few [(.tmp 15)], none⟩,
  ⟨some 17, .op (.un .not (.tmp 16)), none⟩]) (.cond (.tmp 17) (.seq [0, 1, 2, 17] (.region [⟨some 6, .op (.mv (.const (.bool true))), none⟩]) .ret) .skip)) (.seq [0, 18, 19] (.region [⟨some 18, .op (.mv (.tmp 0)), none⟩,
  ⟨some 19, .call f_milestonelaw4_One [(.tmp 18)], none⟩,
  ⟨some 7, .op (.alloc [.int .i64 0, .int .i64 0, .int .i64 0, .int .i64 0, .nils]), none⟩,
  ⟨none, .op (.store 5 (.tmp 7) (.tmp 19)), none⟩]) (.seq [20, 21] (.region [⟨some 20, .op (.load (some 5) (.tmp 7)), none⟩,
  ⟨some 21, .call f_milestonelaw5_turned [(.tmp 20)], none⟩,
  ⟨some 8, .op (.alloc [.int .i64 0, .int .i64 0, .int .i64 0, .int .i64 0, .nils]), none⟩,
  ⟨none, .op (.store 5 (.tmp 8) (.tmp 21)), none⟩]) (.seq [1, 2, 9, 23] (.seq [] (.region [⟨some 9, .op (.mv (.const (.int .i64 0))), none⟩]) (.block 0 (.loop [24, 25] milestonelaw5_MatchTurned_c4))) (.lab milestonelaw5_MatchTurned_c5))))))⟩
noncomputable def milestonelaw5_MatchTurned_l1 (T : Tab) (k j0 : Nat) (ns1 few2 n7 m8 k9 : AV) (h : Heap) : Option (AV × Heap) :=
  loopB T k milestonelaw5_MatchTurned_rs j0 [24, 25] milestonelaw5_MatchTurned_c4 [.blk 0, .seq [1, 2, 9, 23] (.lab milestonelaw5_MatchTurned_c5)] [.undef, ns1, few2, .undef, .undef, .undef, .undef, n7, m8, k9, .undef, .undef, .undef, .undef, .undef, .undef, .undef, .undef, .undef, .undef, .undef, .undef, .undef, .undef, .undef, .undef, .undef, .undef, .undef, .undef, .undef, .undef, .undef, .undef, .undef, .undef, .undef, .undef, .undef, .undef, .undef, .undef, .undef, .undef, .undef, .undef, .undef, .undef, .undef, .undef, .undef, .undef, .undef, .undef, .undef, .undef] h
noncomputable def milestonelaw5_MatchTurned_l2 (T : Tab) (k j0 j1 : Nat) (ns1 few2 n7 m8 k9 w10 b11 i12 : AV) (h : Heap) : Option (AV × Heap) :=
  loopB T k milestonelaw5_MatchTurned_rs j1 [34, 35] milestonelaw5_MatchTurned_c1 [.blk 2, .seq [12, 33] (.lab milestonelaw5_MatchTurned_c2), .blk 1, .seq [50] (.lab milestonelaw5_MatchTurned_c3), .lp j0 [24, 25] milestonelaw5_MatchTurned_c4, .blk 0, .seq [1, 2, 9, 23] (.lab milestonelaw5_MatchTurned_c5)] [.undef, ns1, few2, .undef, .undef, .undef, .undef, n7, m8, k9, w10, b11, i12, .undef, .undef, .undef, .undef, .undef, .undef, .undef, .undef, .undef, .undef, .undef, .undef, .undef, .undef, .undef, .undef, .undef, .undef, .undef, .undef, .undef, .undef, .undef, .undef, .undef, .undef, .undef, .undef, .undef, .undef, .undef, .undef, .undef, .undef, .undef, .undef, .undef, .undef, .undef, .undef, .undef, .undef, .undef] h
noncomputable def milestonelaw5_MatchTurned_b3 (T : Tab) (k j0 : Nat) (ns1 few2 n7 m8 k9 w10 b11 : AV) (h : Heap) : Option (AV × Heap) :=
  evB T k milestonelaw5_MatchTurned_rs milestonelaw5_MatchTurned_c2 [.blk 1, .seq [50] (.lab milestonelaw5_MatchTurned_c3), .lp j0 [24, 25] milestonelaw5_MatchTurned_c4, .blk 0, .seq [1, 2, 9, 23] (.lab milestonelaw5_MatchTurned_c5)] [.undef, ns1, few2, .undef, .undef, .undef, .undef, n7, m8, k9, w10, b11, .undef, .undef, .undef, .undef, .undef, .undef, .undef, .undef, .undef, .undef, .undef, .undef, .undef, .undef, .undef, .undef, .undef, .undef, .undef, .undef, .undef, .undef, .undef, .undef, .undef, .undef, .undef, .undef, .undef, .undef, .undef, .undef, .undef, .undef, .undef, .undef, .undef, .undef, .undef, .undef, .undef, .undef, .undef, .undef] h
noncomputable def milestonelaw5_MatchTurned_b4 (T : Tab) (k j0 : Nat) (ns1 few2 n7 m8 k9 : AV) (h : Heap) : Option (AV × Heap) :=
  evB T k milestonelaw5_MatchTurned_rs milestonelaw5_MatchTurned_c3 [.lp j0 [24, 25] milestonelaw5_MatchTurned_c4, .blk 0, .seq [1, 2, 9, 23] (.lab milestonelaw5_MatchTurned_c5)] [.undef, ns1, few2, .undef, .undef, .undef, .undef, n7, m8, k9, .undef, .undef, .undef, .undef, .undef, .undef, .undef, .undef, .undef, .undef, .undef, .undef, .undef, .undef, .undef, .undef, .undef, .undef, .undef, .undef, .undef, .undef, .undef, .undef, .undef, .undef, .undef, .undef, .undef, .undef, .undef, .undef, .undef, .undef, .undef, .undef, .undef, .undef, .undef, .undef, .undef, .undef, .undef, .undef, .undef, .undef] h
noncomputable def milestonelaw5_MatchTurned_b5 (T : Tab) (k : Nat) (n7 m8 : AV) (h : Heap) : Option (AV × Heap) :=
  evB T k milestonelaw5_MatchTurned_rs milestonelaw5_MatchTurned_c5 [] [.undef, .undef, .undef, .undef, .undef, .undef, .undef, n7, m8, .undef, .undef, .undef, .undef, .undef, .undef, .undef, .undef, .undef, .undef, .undef, .undef, .undef, .undef, .undef, .undef, .undef, .undef, .undef, .undef, .undef, .undef, .undef, .undef, .undef, .undef, .undef, .undef, .undef, .undef, .undef, .undef, .undef, .undef, .undef, .undef, .undef, .undef, .undef, .undef, .undef, .undef, .undef, .undef, .undef, .undef, .undef] h
theorem milestonelaw5_MatchTurned_b4_eq (T : Tab) (k j0 : Nat) (ns1 few2 n7 m8 k9 : AV) (h : Heap) : milestonelaw5_MatchTurned_b4 T k j0 ns1 few2 n7 m8 k9 h =
    oa (binV .add .scalar k9 (.int .i64 1)) fun t25_1 =>
    milestonelaw5_MatchTurned_l1 T k j0 ns1 few2 n7 m8 t25_1 h := blockEq (by kernel_rfl)
theorem milestonelaw5_MatchTurned_b3_eq (T : Tab) (k j0 : Nat) (ns1 few2 n7 m8 k9 w10 b11 : AV) (h : Heap) : milestonelaw5_MatchTurned_b3 T k j0 ns1 few2 n7 m8 k9 w10 b11 h =
    oa (ldN 5 h n7) fun t56_1 =>
    oa (ldN 5 h m8) fun t59_2 =>
    ob (evalFn T k f_match_Match [t56_1, w10] h) fun t58_3 h_4 =>
    chk ((sameB (pure1 h_4 (ldN 5 h_4 m8)) t59_2 && true)) <|
    ob (evalFn T k f_match_Match [t59_2, b11] h_4) fun t61_5 h_6 =>
    oa (binV .neq .bool t58_3 t61_5) fun t62_7 =>
    cond2 t62_7
      (
      some ((.bool false), h_6)
      )
      (
      milestonelaw5_MatchTurned_b4 T k j0 ns1 few2 n7 m8 k9 h_6
      ) := blockEq (by kernel_rfl)
theorem milestonelaw5_MatchTurned_l2_eq (T : Tab) (k j0 j1 : Nat) (ns1 few2 n7 m8 k9 w10 b11 i12 : AV) (h : Heap) : milestonelaw5_MatchTurned_l2 T k j0 (j1 + 1) ns1 few2 n7 m8 k9 w10 b11 i12 h =
    oa (binV .gtr .scalar i12 (.int .i64 0)) fun t33_1 =>
    cond2 t33_1
      (
      oa (binV .sub .scalar i12 (.int .i64 1)) fun t39_2 =>
      oa (idxS 1 w10 t39_2) fun t40_3 =>
      oa (ld1 h t40_3) fun t41_4 =>
      ob (buildSl 1 1 [.int .i64 0] [(0, 1, t41_4)] h) fun t42_5 h_6 =>
      ob (apnd 1 8 b11 t42_5 h_6) fun t43_7 h_8 =>
      oa (binV .sub .scalar i12 (.int .i64 1)) fun t35_9 =>
      milestonelaw5_MatchTurned_l2 T k j0 j1 ns1 few2 n7 m8 k9 w10 t43_7 t35_9 h_8
      )
      (
      milestonelaw5_MatchTurned_b3 T k j0 ns1 few2 n7 m8 k9 w10 b11 h
      ) := loopEq (by kernel_rfl)
theorem milestonelaw5_MatchTurned_b5_eq (T : Tab) (k : Nat) (n7 m8 : AV) (h : Heap) : milestonelaw5_MatchTurned_b5 T k n7 m8 h =
    oa (ldN 5 h n7) fun t56_1 =>
    oa (ldN 5 h m8) fun t58_2 =>
    ob (evalFn T k f_match_Null [t56_1] h) fun t57_3 h_4 =>
    chk ((sameB (pure1 h_4 (ldN 5 h_4 m8)) t58_2 && true)) <|
    ob (evalFn T k f_match_Null [t58_2] h_4) fun t59_5 h_6 =>
    oa (binV .eql .bool t57_3 t59_5) fun t60_7 =>
    some (t60_7, h_6) := blockEq (by kernel_rfl)
theorem milestonelaw5_MatchTurned_l1_eq (T : Tab) (k j0 : Nat) (ns1 few2 n7 m8 k9 : AV) (h : Heap) : milestonelaw5_MatchTurned_l1 T k (j0 + 1) ns1 few2 n7 m8 k9 h =
    oa (binV .leq .scalar k9 (.int .i64 7)) fun t23_1 =>
    cond2 t23_1
      (
      ob (evalFn T k f_milestonelaw5_Word [ns1, k9, few2] h) fun t29_2 h_3 =>
      oa (lenS t29_2) fun t31_4 =>
      milestonelaw5_MatchTurned_l2 T k j0 k ns1 few2 n7 m8 k9 t29_2 .nils t31_4 h_3
      )
      (
      milestonelaw5_MatchTurned_b5 T k n7 m8 h
      ) := loopEq (by kernel_rfl)
theorem milestonelaw5_MatchTurned_eq (T : Tab) (k : Nat) (l0 ns1 few2 : AV) (h : Heap) : runF T k milestonelaw5_MatchTurned_mf [l0, ns1, few2] h =
    ob (evalFn T k f_milestonelaw5_known [] h) fun t13_1 h_2 =>
    oa (unV .not t13_1) fun t14_3 =>
    cond2 t14_3
      (
      some ((.bool false), h_2)
      )
      (
      ob (evalFn T k f_milestonelaw4_Few [l0] h_2) fun t16_4 h_5 =>
      oa (unV .not t16_4) fun t17_6 =>
      cond2 t17_6
        (
        some ((.bool true), h_5)
        )
        (
        ob (evalFn T k f_milestonelaw4_One [l0] h_5) fun t19_7 h_8 =>
        ob (newVar h_8 [.int .i64 0, .int .i64 0, .int .i64 0, .int .i64 0, .nils]) fun n7_9 h_10 =>
        oh (stN 5 h_10 n7_9 t19_7) fun h_11 =>
        oa (ldN 5 h_11 n7_9) fun t20_12 =>
        ob (evalFn T k f_milestonelaw5_turned [t20_12] h_11) fun t21_13 h_14 =>
        ob (newVar h_14 [.int .i64 0, .int .i64 0, .int .i64 0, .int .i64 0, .nils]) fun m8_15 h_16 =>
        oh (stN 5 h_16 m8_15 t21_13) fun h_17 =>
        milestonelaw5_MatchTurned_l1 T k k ns1 few2 n7_9 m8_15 (.int .i64 0) h_17
        )
      ) := runEq (by kernel_rfl)
noncomputable def milestonelaw5_MatchCounts_c1 : MCode := .seq [36] (.seq [34, 35] (.region [⟨some 34, .op (.mv (.tmp 13)), none⟩,
  ⟨some 35, .op (.mv (.tmp 7)), none⟩,
  ⟨some 36, .op (.bin .leq .scalar (.tmp 34) (.tmp 35)), none⟩]) (.cond (.tmp 36) .skip (.exit 0))) (.seq [39, 40, 41, 42, 43] (.block 1 (.region [⟨some 39, .op (.mv (.tmp 11)), none⟩,
  ⟨some 40, .op (.mv (.tmp 12)), none⟩,
  ⟨some 41, .op (.bin .add .scalar (.tmp 39) (.tmp 40)), none⟩,
  ⟨some 42, .op (.mv (.tmp 12)), none⟩,
  ⟨some 43, .op (.bin .mul .scalar (.tmp 42) (.const (.int .i64 5))), none⟩,
  ⟨some 11, .op (.mv (.tmp 41)), none⟩,
  ⟨some 12, .op (.mv (.tmp 43)), none⟩])) (.region [⟨some 37, .op (.mv (.tmp 13)), none⟩,
  ⟨some 38, .op (.bin .add .scalar (.tmp 37) (.const (.int .i64 1))), none⟩,
  ⟨some 13, .op (.mv (.tmp 38)), none⟩]))
noncomputable def milestonelaw5_MatchCounts_c2 : MCode := .seq [44, 45] (.region [⟨some 44, .op (.mv (.tmp 8)), none⟩,
  ⟨some 45, .op (.build [.int .i64 0, .int .i64 0, .int .i64 0, .int .i64 0, .nils] [(0, 1, (.const (.int .i64 1))), (1, 1, (.tmp 44))]), none⟩,
  ⟨some 14, .op (.alloc [.int .i64 0, .int .i64 0, .int .i64 0, .int .i64 0, .nils]), none⟩,
  ⟨none, .op (.store 5 (.tmp 14) (.tmp 45)), none⟩]) (.seq [9, 46, 47, 48, 49, 50] (.region [⟨some 46, .op (.load (some 5) (.tmp 14)), none⟩,
  ⟨some 47, .op (.mv (.tmp 9)), none⟩,
  ⟨some 48, .op (.build [.int .i64 0, .int .i64 0, .int .i64 0, .int .i64 0, .nils] [(0, 1, (.const (.int .i64 1))), (1, 1, (.tmp 47))]), none⟩,
  ⟨some 49, .op (.buildSlice 5 2 [.int .i64 0, .int .i64 0, .int .i64 0, .int .i64 0, .nils, .int .i64 0, .int .i64 0, .int .i64 0, .int .i64 0, .nils] [(0, 5, (.tmp 46)), (5, 5, (.tmp 48))]), none⟩,
  ⟨some 50, .op (.build [.int .i64 0, .int .i64 0, .int .i64 0, .int .i64 0, .nils] [(0, 1, (.const (.int .i64 4))), (4, 1, (.tmp 49))]), none⟩,
  ⟨some 15, .op (.alloc [.int .i64 0, .int .i64 0, .int .i64 0, .int .i64 0, .nils]), none⟩,
  ⟨none, .op (.store 5 (.tmp 15) (.tmp 50)), none⟩]) (.seq [51, 52, 53] (.region [⟨some 51, .op (.build [.int .i64 0, .int .i64 0, .int .i64 0, .int .i64 0, .nils] [(0, 1, (.const (.int .i64 1))), (1, 1, (.const (.int .i64 31)))]), none⟩,
  ⟨some 52, .op (.buildSlice 5 1 [.int .i64 0, .int .i64 0, .int .i64 0, .int .i64 0, .nils] [(0, 5, (.tmp 51))]), none⟩,
  ⟨some 53, .op (.build [.int .i64 0, .int .i64 0, .int .i64 0, .int .i64 0, .nils] [(0, 1, (.const (.int .i64 6))), (4, 1, (.tmp 52))]), none⟩,
  ⟨some 16, .op (.alloc [.int .i64 0, .int .i64 0, .int .i64 0, .int .i64 0, .nils]), none⟩,
  ⟨none, .op (.store 5 (.tmp 16) (.tmp 53)), none⟩]) (.seq [59] (.seq [11, 16, 54, 55, 56, 57, 58] (.region [⟨some 54, .op (.load (some 5) (.tmp 16)), none⟩,
  ⟨some 55, .op (.mv (.tmp 7)), none⟩,
  ⟨some 56, .call f_match_Words [(.tmp 54), (.tmp 55)], none⟩,
  ⟨some 57, .op (.lenSl (.tmp 56)), none⟩,
  ⟨some 58, .op (.mv (.tmp 11)), none⟩,
  ⟨some 59, .op (.bin .neq .scalar (.tmp 57) (.tmp 58)), none⟩]) (.cond (.tmp 59) (.seq [7, 8, 10, 14, 15, 59] (.region [⟨some 6, .op (.mv (.const (.bool false))), none⟩]) .ret) .skip)) (.seq [14, 15, 60, 61, 62, 63, 64, 65, 66, 67] (.regionD 101 [⟨0, ⟨some 101, .op (.load (some 5) (.tmp 14)), none⟩, []⟩,
  ⟨1, ⟨some 102, .op (.mv (.tmp 7)), none⟩, []⟩,
  ⟨4, ⟨some 105, .op (.load (some 5) (.tmp 15)), none⟩, []⟩,
  ⟨5, ⟨some 106, .op (.mv (.tmp 7)), none⟩, []⟩,
  ⟨2, ⟨some 103, .call f_match_Words [(.tmp 101), (.tmp 102)], none⟩, [(105, ⟨some 105, .op (.load (some 5) (.tmp 15)), none⟩)]⟩,
  ⟨3, ⟨some 104, .op (.lenSl (.tmp 103)), none⟩, []⟩,
  ⟨6, ⟨some 107, .call f_match_Words [(.tmp 105), (.tmp 106)], none⟩, []⟩,
  ⟨7, ⟨some 108, .op (.lenSl (.tmp 107)), none⟩, []⟩,
  ⟨8, ⟨some 109, .op (.mv (.tmp 104)), none⟩, []⟩,
  ⟨9, ⟨some 110, .op (.mv (.tmp 108)), none⟩, []⟩] [(60, 101), (61, 102), (62, 103), (63, 104), (64, 105), (65, 106), (66, 107), (67, 108), (17, 109), (18, 110)]) (.seq [7, 8, 10, 17, 18, 68, 69, 70, 71, 72, 73, 74, 75, 76, 77, 78, 79, 80, 81, 82, 83, 84, 85, 86, 87, 88, 89, 90, 91, 92, 93, 94, 95, 96, 97, 98, 99, 100] (.region [⟨some 68, .op (.mv (.tmp 7)), none⟩,
  ⟨some 69, .op (.bin .lss .scalar (.tmp 68) (.const (.int .i64 1))), none⟩,
  ⟨some 70, .op (.mv (.tmp 69)), none⟩,
  ⟨some 71, .op (.mv (.tmp 17)), some (70, true)⟩,
  ⟨some 72, .op (.bin .eql .scalar (.tmp 71) (.const (.int .i64 0))), some (70, true)⟩,
  ⟨some 73, .op (.pick (.tmp 70) (.tmp 72) (.const (.bool false))), none⟩,
  ⟨some 74, .op (.mv (.tmp 73)), none⟩,
  ⟨some 75, .op (.mv (.tmp 7)), some (74, false)⟩,
  ⟨some 76, .op (.bin .geq .scalar (.tmp 75) (.const (.int .i64 1))), some (74, false)⟩,
  ⟨some 77, .op (.mv (.tmp 76)), some (74, false)⟩,
  ⟨some 78, .op (.mv (.tmp 17)), some (77, true)⟩,
  ⟨some 79, .op (.mv (.tmp 8)), some (77, true)⟩,
  ⟨some 80, .call f_milestonelaw5_many [(.tmp 79)], some (77, true)⟩,
  ⟨some 81, .op (.bin .eql .scalar (.tmp 78) (.tmp 80)), some (77, true)⟩,
  ⟨some 82, .op (.pick (.tmp 77) (.tmp 81) (.const (.bool false))), some (74, false)⟩,
  ⟨some 83, .op (.pick (.tmp 74) (.const (.bool true)) (.tmp 82)), none⟩,
  ⟨some 84, .op (.mv (.tmp 83)), none⟩,
  ⟨some 85, .op (.mv (.tmp 7)), some (84, true)⟩,
  ⟨some 86, .op (.bin .lss .scalar (.tmp 85) (.const (.int .i64 2))), some (84, true)⟩,
  ⟨some 87, .op (.mv (.tmp 86)), some (84, true)⟩,
  ⟨some 88, .op (.mv (.tmp 18)), some (87, true)⟩,
  ⟨some 89, .op (.bin .eql .scalar (.tmp 88) (.const (.int .i64 0))), some (87, true)⟩,
  ⟨some 90, .op (.pick (.tmp 87) (.tmp 89) (.const (.bool false))), some (84, true)⟩,
  ⟨some 91, .op (.mv (.tmp 90)), some (84, true)⟩,
  ⟨some 92, .op (.mv (.tmp 7)), some (91, false)⟩,
  ⟨some 93, .op (.bin .geq .scalar (.tmp 92) (.const (.int .i64 2))), some (91, false)⟩,
  ⟨some 94, .op (.mv (.tmp 93)), some (91, false)⟩,
  ⟨some 95, .op (.mv (.tmp 18)), some (94, true)⟩,
  ⟨some 96, .op (.mv (.tmp 10)), some (94, true)⟩,
  ⟨some 97, .op (.bin .eql .scalar (.tmp 95) (.tmp 96)), some (94, true)⟩,
  ⟨some 98, .op (.pick (.tmp 94) (.tmp 97) (.const (.bool false))), some (91, false)⟩,
  ⟨some 99, .op (.pick (.tmp 91) (.const (.bool true)) (.tmp 98)), some (84, true)⟩,
  ⟨some 100, .op (.pick (.tmp 84) (.tmp 99) (.const (.bool false))), none⟩,
  ⟨some 6, .op (.mv (.tmp 100)), none⟩]) .ret)))))
def milestonelaw5_MatchCounts_rs : Res := [(6, none)]
noncomputable def milestonelaw5_MatchCounts_mf : MFn := ⟨101, milestonelaw5_MatchCounts_rs, .seq [6] (.region [⟨some 6, .op (.mv (.const (.bool false))), none⟩]) (.seq [20] (.seq [19] (.region [⟨some 19, .call f_milestonelaw5_known [], none⟩,
  ⟨some 20, .op (.un .not (.tmp 19)), none⟩]) (.cond (.tmp 20) (.seq [0, 1, 2, 20] (.region [⟨some 6, .op (.mv (.const (.bool false))), none⟩]) .ret) .skip)) (.seq [2, 21, 22] (.region [⟨some 21, .op (.mv (.tmp 2)), none⟩,
  ⟨some 22, .call f_milestonelaw5_within [(.tmp 21), (.const (.int .i64 4))], none⟩,
  ⟨some 7, .op (.mv (.tmp 22)), none⟩]) (.seq [0, 1, 23, 24, 25, 26, 27, 28] (.region [⟨some 23, .op (.mv (.tmp 0)), none⟩,
  ⟨some 24, .call f_milestonelaw5_within [(.tmp 23), (.const (.int .i64 31))], none⟩,
  ⟨some 25, .op (.bin .add .scalar (.const (.int .i64 1)) (.tmp 24)), none⟩,
  ⟨some 26, .op (.mv (.tmp 1)), none⟩,
  ⟨some 27, .call f_milestonelaw5_within [(.tmp 26), (.const (.int .i64 31))], none⟩,
  ⟨some 28, .op (.bin .add .scalar (.const (.int .i64 1)) (.tmp 27)), none⟩,
  ⟨some 8, .op (.mv (.tmp 25)), none⟩,
  ⟨some 9, .op (.mv (.tmp 28)), none⟩]) (.seq [29, 30, 31, 32, 33] (.region [⟨some 29, .op (.mv (.tmp 8)), none⟩,
  ⟨some 30, .call f_milestonelaw5_many [(.tmp 29)], none⟩,
  ⟨some 31, .op (.mv (.tmp 9)), none⟩,
  ⟨some 32, .call f_milestonelaw5_many [(.tmp 31)], none⟩,
  ⟨some 33, .op (.bin .mul .scalar (.tmp 30) (.tmp 32)), none⟩,
  ⟨some 10, .op (.mv (.tmp 33)), none⟩]) (.seq [] (.region [⟨some 11, .op (.mv (.const (.int .i64 0))), none⟩]) (.seq [] (.region [⟨some 12, .op (.mv (.const (.int .i64 1))), none⟩]) (.seq [12, 13, 36] (.seq [] (.region [⟨some 13, .op (.mv (.const (.int .i64 0))), none⟩]) (.block 0 (.loop [37, 38] milestonelaw5_MatchCounts_c1))) (.lab milestonelaw5_MatchCounts_c2))))))))⟩
noncomputable def milestonelaw5_MatchCounts_l1 (T : Tab) (k j0 : Nat) (k7 x8 y9 count10 all11 p12 i13 : AV) (h : Heap) : Option (AV × Heap) :=
  loopB T k milestonelaw5_MatchCounts_rs j0 [37, 38] milestonelaw5_MatchCounts_c1 [.blk 0, .seq [12, 13, 36] (.lab milestonelaw5_MatchCounts_c2)] [.undef, .undef, .undef, .undef, .undef, .undef, .undef, k7, x8, y9, count10, all11, p12, i13, .undef, .undef, .undef, .undef, .undef, .undef, .undef, .undef, .undef, .undef, .undef, .undef, .undef, .undef, .undef, .undef, .undef, .undef, .undef, .undef, .undef, .undef, .undef, .undef, .undef, .undef, .undef, .undef, .undef, .undef, .undef, .undef, .undef, .undef, .undef, .undef, .undef, .undef, .undef, .undef, .undef, .undef, .undef, .undef, .undef, .undef, .undef, .undef, .undef, .undef, .undef, .undef, .undef, .undef, .undef, .undef, .undef, .undef, .undef, .undef, .undef, .undef, .undef, .undef, .undef, .undef, .undef, .undef, .undef, .undef, .undef, .undef, .undef, .undef, .undef, .undef, .undef, .undef, .undef, .undef, .undef, .undef, .undef, .undef, .undef, .undef, .undef] h
noncomputable def milestonelaw5_MatchCounts_b2 (T : Tab) (k : Nat) (k7 x8 y9 count10 all11 : AV) (h : Heap) : Option (AV × Heap) :=
  evB T k milestonelaw5_MatchCounts_rs milestonelaw5_MatchCounts_c2 [] [.undef, .undef, .undef, .undef, .undef, .undef, .undef, k7, x8, y9, count10, all11, .undef, .undef, .undef, .undef, .undef, .undef, .undef, .undef, .undef, .undef, .undef, .undef, .undef, .undef, .undef, .undef, .undef, .undef, .undef, .undef, .undef, .undef, .undef, .undef, .undef, .undef, .undef, .undef, .undef, .undef, .undef, .undef, .undef, .undef, .undef, .undef, .undef, .undef, .undef, .undef, .undef, .undef, .undef, .undef, .undef, .undef, .undef, .undef, .undef, .undef, .undef, .undef, .undef, .undef, .undef, .undef, .undef, .undef, .undef, .undef, .undef, .undef, .undef, .undef, .undef, .undef, .undef, .undef, .undef, .undef, .undef, .undef, .undef, .undef, .undef, .undef, .undef, .undef, .undef, .undef, .undef, .undef, .undef, .undef, .undef, .undef, .undef, .undef, .undef] h
theorem milestonelaw5_MatchCounts_b2_eq (T : Tab) (k : Nat) (k7 x8 y9 count10 all11 : AV) (h : Heap) : milestonelaw5_MatchCounts_b2 T k k7 x8 y9 count10 all11 h =
    oa (buildV [.int .i64 0, .int .i64 0, .int .i64 0, .int .i64 0, .nils] [(0, 1, (.int .i64 1)), (1, 1, x8)]) fun t45_1 =>
    ob (newVar h [.int .i64 0, .int .i64 0, .int .i64 0, .int .i64 0, .nils]) fun set14_2 h_3 =>
    oh (stN 5 h_3 set14_2 t45_1) fun h_4 =>
    oa (ldN 5 h_4 set14_2) fun t46_5 =>
    oa (buildV [.int .i64 0, .int .i64 0, .int .i64 0, .int .i64 0, .nils] [(0, 1, (.int .i64 1)), (1, 1, y9)]) fun t48_6 =>
    ob (buildSl 5 2 [.int .i64 0, .int .i64 0, .int .i64 0, .int .i64 0, .nils, .int .i64 0, .int .i64 0, .int .i64 0, .int .i64 0, .nils] [(0, 5, t46_5), (5, 5, t48_6)] h_4) fun t49_7 h_8 =>
    oa (buildV [.int .i64 0, .int .i64 0, .int .i64 0, .int .i64 0, .nils] [(0, 1, (.int .i64 4)), (4, 1, t49_7)]) fun t50_9 =>
    ob (newVar h_8 [.int .i64 0, .int .i64 0, .int .i64 0, .int .i64 0, .nils]) fun join15_10 h_11 =>
    oh (stN 5 h_11 join15_10 t50_9) fun h_12 =>
    oa (buildV [.int .i64 0, .int .i64 0, .int .i64 0, .int .i64 0, .nils] [(0, 1, (.int .i64 1)), (1, 1, (.int .i64 31))]) fun t51_13 =>
    ob (buildSl 5 1 [.int .i64 0, .int .i64 0, .int .i64 0, .int .i64 0, .nils] [(0, 5, t51_13)] h_12) fun t52_14 h_15 =>
    oa (buildV [.int .i64 0, .int .i64 0, .int .i64 0, .int .i64 0, .nils] [(0, 1, (.int .i64 6)), (4, 1, t52_14)]) fun t53_16 =>
    ob (newVar h_15 [.int .i64 0, .int .i64 0, .int .i64 0, .int .i64 0, .nils]) fun star16_17 h_18 =>
    oh (stN 5 h_18 star16_17 t53_16) fun h_19 =>
    oa (ldN 5 h_19 star16_17) fun t54_20 =>
    ob (evalFn T k f_match_Words [t54_20, k7] h_19) fun t56_21 h_22 =>
    oa (lenS t56_21) fun t57_23 =>
    oa (binV .neq .scalar t57_23 all11) fun t59_24 =>
    cond2 t59_24
      (
      some ((.bool false), h_22)
      )
      (
      oa (ldN 5 h_22 set14_2) fun t101_25 =>
      oa (ldN 5 h_22 join15_10) fun t105_26 =>
      ob (evalFn T k f_match_Words [t101_25, k7] h_22) fun t103_27 h_28 =>
      chk ((sameB (pure1 h_28 (ldN 5 h_28 join15_10)) t105_26 && true)) <|
      oa (lenS t103_27) fun t104_29 =>
      ob (evalFn T k f_match_Words [t105_26, k7] h_28) fun t107_30 h_31 =>
      oa (lenS t107_30) fun t108_32 =>
      oa (binV .lss .scalar k7 (.int .i64 1)) fun t69_33 =>
      ob (gd t69_33 true (some (t104_29, h_31)) h_31) fun t71_34 h_35 =>
      ob (gd t69_33 true (pure1 h_35 (binV .eql .scalar t71_34 (.int .i64 0))) h_35) fun t72_36 h_37 =>
      oa (pickV t69_33 t72_36 (.bool false)) fun t73_38 =>
      ob (gd t73_38 false (some (k7, h_37)) h_37) fun t75_39 h_40 =>
      ob (gd t73_38 false (pure1 h_40 (binV .geq .scalar t75_39 (.int .i64 1))) h_40) fun t76_41 h_42 =>
      ob (gd t73_38 false (some (t76_41, h_42)) h_42) fun t77_43 h_44 =>
      ob (gd t77_43 true (some (t104_29, h_44)) h_44) fun t78_45 h_46 =>
      ob (gd t77_43 true (some (x8, h_46)) h_46) fun t79_47 h_48 =>
      ob (gd t77_43 true (evalFn T k f_milestonelaw5_many [t79_47] h_48) h_48) fun t80_49 h_50 =>
      ob (gd t77_43 true (pure1 h_50 (binV .eql .scalar t78_45 t80_49)) h_50) fun t81_51 h_52 =>
      ob (gd t73_38 false (pure1 h_52 (pickV t77_43 t81_51 (.bool false))) h_52) fun t82_53 h_54 =>
      oa (pickV t73_38 (.bool true) t82_53) fun t83_55 =>
      ob (gd t83_55 true (some (k7, h_54)) h_54) fun t85_56 h_57 =>
      ob (gd t83_55 true (pure1 h_57 (binV .lss .scalar t85_56 (.int .i64 2))) h_57) fun t86_58 h_59 =>
      ob (gd t83_55 true (some (t86_58, h_59)) h_59) fun t87_60 h_61 =>
      ob (gd t87_60 true (some (t108_32, h_61)) h_61) fun t88_62 h_63 =>
      ob (gd t87_60 true (pure1 h_63 (binV .eql .scalar t88_62 (.int .i64 0))) h_63) fun t89_64 h_65 =>
      ob (gd t83_55 true (pure1 h_65 (pickV t87_60 t89_64 (.bool false))) h_65) fun t90_66 h_67 =>
      ob (gd t83_55 true (some (t90_66, h_67)) h_67) fun t91_68 h_69 =>
      ob (gd t91_68 false (some (k7, h_69)) h_69) fun t92_70 h_71 =>
      ob (gd t91_68 false (pure1 h_71 (binV .geq .scalar t92_70 (.int .i64 2))) h_71) fun t93_72 h_73 =>
      ob (gd t91_68 false (some (t93_72, h_73)) h_73) fun t94_74 h_75 =>
      ob (gd t94_74 true (some (t108_32, h_75)) h_75) fun t95_76 h_77 =>
      ob (gd t94_74 true (some (count10, h_77)) h_77) fun t96_78 h_79 =>
      ob (gd t94_74 true (pure1 h_79 (binV .eql .scalar t95_76 t96_78)) h_79) fun t97_80 h_81 =>
      ob (gd t91_68 false (pure1 h_81 (pickV t94_74 t97_80 (.bool false))) h_81) fun t98_82 h_83 =>
      ob (gd t83_55 true (pure1 h_83 (pickV t91_68 (.bool true) t98_82)) h_83) fun t99_84 h_85 =>
      oa (pickV t83_55 t99_84 (.bool false)) fun t100_86 =>
      some (t100_86, h_85)
      ) := blockEq (by kernel_rfl)
theorem milestonelaw5_MatchCounts_l1_eq (T : Tab) (k j0 : Nat) (k7 x8 y9 count10 all11 p12 i13 : AV) (h : Heap) : milestonelaw5_MatchCounts_l1 T k (j0 + 1) k7 x8 y9 count10 all11 p12 i13 h =
    oa (binV .leq .scalar i13 k7) fun t36_1 =>
    cond2 t36_1
      (
      oa (binV .add .scalar all11 p12) fun t41_2 =>
      oa (binV .mul .scalar p12 (.int .i64 5)) fun t43_3 =>
      oa (binV .add .scalar i13 (.int .i64 1)) fun t38_4 =>
      milestonelaw5_MatchCounts_l1 T k j0 k7 x8 y9 count10 t41_2 t43_3 t38_4 h
      )
      (
      milestonelaw5_MatchCounts_b2 T k k7 x8 y9 count10 all11 h
      ) := loopEq (by kernel_rfl)
theorem milestonelaw5_MatchCounts_eq (T : Tab) (k : Nat) (a0 b1 most2 : AV) (h : Heap) : runF T k milestonelaw5_MatchCounts_mf [a0, b1, most2] h =
    ob (evalFn T k f_milestonelaw5_known [] h) fun t19_1 h_2 =>
    oa (unV .not t19_1) fun t20_3 =>
    cond2 t20_3
      (
      some ((.bool false), h_2)
      )
      (
      ob (evalFn T k f_milestonelaw5_within [most2, (.int .i64 4)] h_2) fun t22_4 h_5 =>
      ob (evalFn T k f_milestonelaw5_within [a0, (.int .i64 31)] h_5) fun t24_6 h_7 =>
      oa (binV .add .scalar (.int .i64 1) t24_6) fun t25_8 =>
      ob (evalFn T k f_milestonelaw5_within [b1, (.int .i64 31)] h_7) fun t27_9 h_10 =>
      oa (binV .add .scalar (.int .i64 1) t27_9) fun t28_11 =>
      ob (evalFn T k f_milestonelaw5_many [t25_8] h_10) fun t30_12 h_13 =>
      ob (evalFn T k f_milestonelaw5_many [t28_11] h_13) fun t32_14 h_15 =>
      oa (binV .mul .scalar t30_12 t32_14) fun t33_16 =>
      milestonelaw5_MatchCounts_l1 T k k t22_4 t25_8 t28_11 t33_16 (.int .i64 0) (.int .i64 1) (.int .i64 0) h_15
      ) := runEq (by kernel_rfl)
noncomputable def milestonelaw5_MatchSets_c1 : MCode := .seq [59] (.seq [58] (.region [⟨some 58, .op (.mv (.tmp 16)), none⟩,
  ⟨some 59, .op (.bin .leq .scalar (.tmp 58) (.const (.int .i64 6))), none⟩]) (.cond (.tmp 59) .skip (.exit 0))) (.seq [73] (.block 1 (.seq [62, 63, 64] (.region [⟨some 62, .op (.mv (.tmp 4)), none⟩,
  ⟨some 63, .op (.mv (.tmp 16)), none⟩,
  ⟨some 64, .call f_milestonelaw5_Word [(.tmp 62), (.tmp 63), (.const (.int .i64 4))], none⟩,
  ⟨some 17, .op (.mv (.tmp 64)), none⟩]) (.seq [17, 65, 66, 67, 68, 69, 70, 71, 72] (.region [⟨some 65, .op (.load (some 5) (.tmp 14)), none⟩,
  ⟨some 66, .op (.mv (.tmp 17)), none⟩,
  ⟨some 67, .call f_match_Match [(.tmp 65), (.tmp 66)], none⟩,
  ⟨some 68, .op (.mv (.tmp 67)), none⟩,
  ⟨some 69, .op (.load (some 5) (.tmp 15)), some (68, true)⟩,
  ⟨some 70, .op (.mv (.tmp 17)), some (68, true)⟩,
  ⟨some 71, .call f_match_Match [(.tmp 69), (.tmp 70)], some (68, true)⟩,
  ⟨some 72, .op (.un .not (.tmp 71)), some (68, true)⟩,
  ⟨some 73, .op (.pick (.tmp 68) (.tmp 72) (.const (.bool false))), none⟩]) (.cond (.tmp 73) (.seq [4, 14, 15, 16, 73] (.region [⟨some 10, .op (.mv (.const (.bool false))), none⟩]) .ret) .skip)))) (.region [⟨some 60, .op (.mv (.tmp 16)), none⟩,
  ⟨some 61, .op (.bin .add .scalar (.tmp 60) (.const (.int .i64 1))), none⟩,
  ⟨some 16, .op (.mv (.tmp 61)), none⟩]))
noncomputable def milestonelaw5_MatchSets_c2 : MCode := .seq [14, 15, 74, 75, 76, 77, 78] (.regionD 79 [⟨0, ⟨some 79, .op (.load (some 5) (.tmp 14)), none⟩, []⟩,
  ⟨2, ⟨some 81, .op (.load (some 5) (.tmp 15)), none⟩, []⟩,
  ⟨1, ⟨some 80, .call f_milestoneref5_Null [(.tmp 79)], none⟩, [(81, ⟨some 81, .op (.load (some 5) (.tmp 15)), none⟩)]⟩,
  ⟨3, ⟨some 82, .call f_match_Null [(.tmp 81)], none⟩, []⟩,
  ⟨4, ⟨some 83, .op (.bin .eql .bool (.tmp 80) (.tmp 82)), none⟩, []⟩,
  ⟨5, ⟨some 84, .op (.mv (.tmp 83)), none⟩, []⟩] [(74, 79), (75, 80), (76, 81), (77, 82), (78, 83), (10, 84)]) .ret
def milestonelaw5_MatchSets_rs : Res := [(10, none)]
noncomputable def milestonelaw5_MatchSets_mf : MFn := ⟨79, milestonelaw5_MatchSets_rs, .seq [10] (.region [⟨some 10, .op (.mv (.const (.bool false))), none⟩]) (.seq [19] (.seq [18] (.region [⟨some 18, .call f_milestonelaw5_known [], none⟩,
  ⟨some 19, .op (.un .not (.tmp 18)), none⟩]) (.cond (.tmp 19) (.seq [0, 1, 2, 3, 4, 19] (.region [⟨some 10, .op (.mv (.const (.bool false))), none⟩]) .ret) .skip)) (.seq [22] (.seq [20, 21] (.region [⟨some 20, .op (.mv (.tmp 3)), none⟩,
  ⟨some 21, .call f_milestonelaw4_Few [(.tmp 20)], none⟩,
  ⟨some 22, .op (.un .not (.tmp 21)), none⟩]) (.cond (.tmp 22) (.seq [0, 1, 2, 3, 4, 22] (.region [⟨some 10, .op (.mv (.const (.bool true))), none⟩]) .ret) .skip)) (.seq [0, 2, 23, 24, 25, 26, 27] (.region [⟨some 23, .op (.mv (.tmp 0)), none⟩,
  ⟨some 24, .call f_milestonelaw5_within [(.tmp 23), (.const (.int .i64 31))], none⟩,
  ⟨some 25, .op (.bin .add .scalar (.const (.int .i64 1)) (.tmp 24)), none⟩,
  ⟨some 26, .op (.mv (.tmp 2)), none⟩,
  ⟨some 27, .call f_milestonelaw5_within [(.tmp 26), (.const (.int .i64 5))], none⟩,
  ⟨some 11, .op (.mv (.tmp 25)), none⟩,
  ⟨some 12, .op (.mv (.tmp 27)), none⟩]) (.seq [28, 29] (.region [⟨some 28, .op (.mv (.tmp 11)), none⟩,
  ⟨some 29, .op (.build [.int .i64 0, .int .i64 0, .int .i64 0, .int .i64 0, .nils] [(0, 1, (.const (.int .i64 1))), (1, 1, (.tmp 28))]), none⟩,
  ⟨some 13, .op (.alloc [.int .i64 0, .int .i64 0, .int .i64 0, .int .i64 0, .nils]), none⟩,
  ⟨none, .op (.store 5 (.tmp 13) (.tmp 29)), none⟩]) (.seq [51] (.seq [11, 12, 13, 30, 31, 32, 33, 34, 35, 36, 37, 38, 39, 40, 41, 42, 43, 44, 45, 46, 47, 48, 49, 50] (.region [⟨some 30, .op (.load (some 5) (.tmp 13)), none⟩,
  ⟨some 31, .op (.mv (.tmp 12)), none⟩,
  ⟨some 32, .op (.buildSlice 1 1 [.int .i64 0] [(0, 1, (.tmp 31))]), none⟩,
  ⟨some 33, .call f_match_Match [(.tmp 30), (.tmp 32)], none⟩,
  ⟨some 34, .op (.mv (.tmp 11)), none⟩,
  ⟨some 35, .op (.mv (.tmp 12)), none⟩,
  ⟨some 36, .op (.convI .u64 (.tmp 35)), none⟩,
  ⟨some 37, .op (.bin .shr .scalar (.tmp 34) (.tmp 36)), none⟩,
  ⟨some 38, .op (.bin .and .scalar (.tmp 37) (.const (.int .i64 1))), none⟩,
  ⟨some 39, .op (.bin .eql .scalar (.tmp 38) (.const (.int .i64 1))), none⟩,
  ⟨some 40, .op (.bin .neq .bool (.tmp 33) (.tmp 39)), none⟩,
  ⟨some 41, .op (.mv (.tmp 40)), none⟩,
  ⟨some 42, .op (.load (some 5) (.tmp 13)), some (41, false)⟩,
  ⟨some 43, .call f_match_Match [(.tmp 42), (.const .nils)], some (41, false)⟩,
  ⟨some 44, .op (.pick (.tmp 41) (.const (.bool true)) (.tmp 43)), none⟩,
  ⟨some 45, .op (.mv (.tmp 44)), none⟩,
  ⟨some 46, .op (.load (some 5) (.tmp 13)), some (45, false)⟩,
  ⟨some 47, .op (.mv (.tmp 12)), some (45, false)⟩,
  ⟨some 48, .op (.mv (.tmp 12)), some (45, false)⟩,
  ⟨some 49, .op (.buildSlice 1 2 [.int .i64 0, .int .i64 0] [(0, 1, (.tmp 47)), (1, 1, (.tmp 48))]), some (45, false)⟩,
  ⟨some 50, .call f_match_Match [(.tmp 46), (.tmp 49)], some (45, false)⟩,
  ⟨some 51, .op (.pick (.tmp 45) (.const (.bool true)) (.tmp 50)), none⟩]) (.cond (.tmp 51) (.seq [1, 3, 4, 51] (.region [⟨some 10, .op (.mv (.const (.bool false))), none⟩]) .ret) .skip)) (.seq [3, 52, 53] (.region [⟨some 52, .op (.mv (.tmp 3)), none⟩,
  ⟨some 53, .call f_milestonelaw4_One [(.tmp 52)], none⟩,
  ⟨some 14, .op (.alloc [.int .i64 0, .int .i64 0, .int .i64 0, .int .i64 0, .nils]), none⟩,
  ⟨none, .op (.store 5 (.tmp 14) (.tmp 53)), none⟩]) (.seq [1, 54, 55, 56, 57] (.regionD 79 [⟨0, ⟨some 79, .op (.load (some 5) (.tmp 14)), none⟩, []⟩,
  ⟨1, ⟨some 80, .op (.mv (.tmp 1)), none⟩, []⟩,
  ⟨4, ⟨some 83, .op (.alloc [.int .i64 0, .int .i64 0, .int .i64 0, .int .i64 0, .nils]), none⟩, []⟩,
  ⟨2, ⟨some 81, .call f_milestonelaw5_within [(.tmp 80), (.const (.int .i64 32))], none⟩, [(79, ⟨some 79, .op (.load (some 5) (.tmp 14)), none⟩)]⟩,
  ⟨3, ⟨some 82, .call f_milestonelaw5_wider [(.tmp 79), (.tmp 81)], none⟩, []⟩,
  ⟨5, ⟨some 84, .op (.store 5 (.tmp 83) (.tmp 82)), none⟩, []⟩] [(54, 79), (55, 80), (56, 81), (57, 82), (15, 83)]) (.seq [4, 16, 59] (.seq [] (.region [⟨some 16, .op (.mv (.const (.int .i64 0))), none⟩]) (.block 0 (.loop [60, 61] milestonelaw5_MatchSets_c1))) (.lab milestonelaw5_MatchSets_c2)))))))))⟩
noncomputable def milestonelaw5_MatchSets_l1 (T : Tab) (k j0 : Nat) (ns4 n14 big15 k16 : AV) (h : Heap) : Option (AV × Heap) :=
  loopB T k milestonelaw5_MatchSets_rs j0 [60, 61] milestonelaw5_MatchSets_c1 [.blk 0, .seq [4, 16, 59] (.lab milestonelaw5_MatchSets_c2)] [.undef, .undef, .undef, .undef, ns4, .undef, .undef, .undef, .undef, .undef, .undef, .undef, .undef, .undef, n14, big15, k16, .undef, .undef, .undef, .undef, .undef, .undef, .undef, .undef, .undef, .undef, .undef, .undef, .undef, .undef, .undef, .undef, .undef, .undef, .undef, .undef, .undef, .undef, .undef, .undef, .undef, .undef, .undef, .undef, .undef, .undef, .undef, .undef, .undef, .undef, .undef, .undef, .undef, .undef, .undef, .undef, .undef, .undef, .undef, .undef, .undef, .undef, .undef, .undef, .undef, .undef, .undef, .undef, .undef, .undef, .undef, .undef, .undef, .undef, .undef, .undef, .undef, .undef] h
noncomputable def milestonelaw5_MatchSets_b2 (T : Tab) (k : Nat) (n14 big15 : AV) (h : Heap) : Option (AV × Heap) :=
  evB T k milestonelaw5_MatchSets_rs milestonelaw5_MatchSets_c2 [] [.undef, .undef, .undef, .undef, .undef, .undef, .undef, .undef, .undef, .undef, .undef, .undef, .undef, .undef, n14, big15, .undef, .undef, .undef, .undef, .undef, .undef, .undef, .undef, .undef, .undef, .undef, .undef, .undef, .undef, .undef, .undef, .undef, .undef, .undef, .undef, .undef, .undef, .undef, .undef, .undef, .undef, .undef, .undef, .undef, .undef, .undef, .undef, .undef, .undef, .undef, .undef, .undef, .undef, .undef, .undef, .undef, .undef, .undef, .undef, .undef, .undef, .undef, .undef, .undef, .undef, .undef, .undef, .undef, .undef, .undef, .undef, .undef, .undef, .undef, .undef, .undef, .undef, .undef] h
theorem milestonelaw5_MatchSets_b2_eq (T : Tab) (k : Nat) (n14 big15 : AV) (h : Heap) : milestonelaw5_MatchSets_b2 T k n14 big15 h =
    oa (ldN 5 h n14) fun t79_1 =>
    oa (ldN 5 h big15) fun t81_2 =>
    ob (evalFn T k f_milestoneref5_Null [t79_1] h) fun t80_3 h_4 =>
    chk ((sameB (pure1 h_4 (ldN 5 h_4 big15)) t81_2 && true)) <|
    ob (evalFn T k f_match_Null [t81_2] h_4) fun t82_5 h_6 =>
    oa (binV .eql .bool t80_3 t82_5) fun t83_7 =>
    some (t83_7, h_6) := blockEq (by kernel_rfl)
theorem milestonelaw5_MatchSets_l1_eq (T : Tab) (k j0 : Nat) (ns4 n14 big15 k16 : AV) (h : Heap) : milestonelaw5_MatchSets_l1 T k (j0 + 1) ns4 n14 big15 k16 h =
    oa (binV .leq .scalar k16 (.int .i64 6)) fun t59_1 =>
    cond2 t59_1
      (
      ob (evalFn T k f_milestonelaw5_Word [ns4, k16, (.int .i64 4)] h) fun t64_2 h_3 =>
      oa (ldN 5 h_3 n14) fun t65_4 =>
      ob (evalFn T k f_match_Match [t65_4, t64_2] h_3) fun t67_5 h_6 =>
      ob (gd t67_5 true (pure1 h_6 (ldN 5 h_6 big15)) h_6) fun t69_7 h_8 =>
      ob (gd t67_5 true (some (t64_2, h_8)) h_8) fun t70_9 h_10 =>
      ob (gd t67_5 true (evalFn T k f_match_Match [t69_7, t70_9] h_10) h_10) fun t71_11 h_12 =>
      ob (gd t67_5 true (pure1 h_12 (unV .not t71_11)) h_12) fun t72_13 h_14 =>
      oa (pickV t67_5 t72_13 (.bool false)) fun t73_15 =>
      cond2 t73_15
        (
        some ((.bool false), h_14)
        )
        (
        oa (binV .add .scalar k16 (.int .i64 1)) fun t61_16 =>
        milestonelaw5_MatchSets_l1 T k j0 ns4 n14 big15 t61_16 h_14
        )
      )
      (
      milestonelaw5_MatchSets_b2 T k n14 big15 h
      ) := loopEq (by kernel_rfl)
theorem milestonelaw5_MatchSets_eq (T : Tab) (k : Nat) (a0 b1 mode2 l3 ns4 : AV) (h : Heap) : runF T k milestonelaw5_MatchSets_mf [a0, b1, mode2, l3, ns4] h =
    ob (evalFn T k f_milestonelaw5_known [] h) fun t18_1 h_2 =>
    oa (unV .not t18_1) fun t19_3 =>
    cond2 t19_3
      (
      some ((.bool false), h_2)
      )
      (
      ob (evalFn T k f_milestonelaw4_Few [l3] h_2) fun t21_4 h_5 =>
      oa (unV .not t21_4) fun t22_6 =>
      cond2 t22_6
        (
        some ((.bool true), h_5)
        )
        (
        ob (evalFn T k f_milestonelaw5_within [a0, (.int .i64 31)] h_5) fun t24_7 h_8 =>
        oa (binV .add .scalar (.int .i64 1) t24_7) fun t25_9 =>
        ob (evalFn T k f_milestonelaw5_within [mode2, (.int .i64 5)] h_8) fun t27_10 h_11 =>
        oa (buildV [.int .i64 0, .int .i64 0, .int .i64 0, .int .i64 0, .nils] [(0, 1, (.int .i64 1)), (1, 1, t25_9)]) fun t29_12 =>
        ob (newVar h_11 [.int .i64 0, .int .i64 0, .int .i64 0, .int .i64 0, .nils]) fun set13_13 h_14 =>
        oh (stN 5 h_14 set13_13 t29_12) fun h_15 =>
        oa (ldN 5 h_15 set13_13) fun t30_16 =>
        ob (buildSl 1 1 [.int .i64 0] [(0, 1, t27_10)] h_15) fun t32_17 h_18 =>
        ob (evalFn T k f_match_Match [t30_16, t32_17] h_18) fun t33_19 h_20 =>
        oa (convV .u64 t27_10) fun t36_21 =>
        oa (binV .shr .scalar t25_9 t36_21) fun t37_22 =>
        oa (binV .and .scalar t37_22 (.int .i64 1)) fun t38_23 =>
        oa (binV .eql .scalar t38_23 (.int .i64 1)) fun t39_24 =>
        oa (binV .neq .bool t33_19 t39_24) fun t40_25 =>
        ob (gd t40_25 false (pure1 h_20 (ldN 5 h_20 set13_13)) h_20) fun t42_26 h_27 =>
        ob (gd t40_25 false (evalFn T k f_match_Match [t42_26, .nils] h_27) h_27) fun t43_28 h_29 =>
        oa (pickV t40_25 (.bool true) t43_28) fun t44_30 =>
        ob (gd t44_30 false (pure1 h_29 (ldN 5 h_29 set13_13)) h_29) fun t46_31 h_32 =>
        ob (gd t44_30 false (some (t27_10, h_32)) h_32) fun t47_33 h_34 =>
        ob (gd t44_30 false (some (t27_10, h_34)) h_34) fun t48_35 h_36 =>
        ob (gd t44_30 false (buildSl 1 2 [.int .i64 0, .int .i64 0] [(0, 1, t47_33), (1, 1, t48_35)] h_36) h_36) fun t49_37 h_38 =>
        ob (gd t44_30 false (evalFn T k f_match_Match [t46_31, t49_37] h_38) h_38) fun t50_39 h_40 =>
        oa (pickV t44_30 (.bool true) t50_39) fun t51_41 =>
        cond2 t51_41
          (
          some ((.bool false), h_40)
          )
          (
          ob (evalFn T k f_milestonelaw4_One [l3] h_40) fun t53_42 h_43 =>
          ob (newVar h_43 [.int .i64 0, .int .i64 0, .int .i64 0, .int .i64 0, .nils]) fun n14_44 h_45 =>
          oh (stN 5 h_45 n14_44 t53_42) fun h_46 =>
          oa (ldN 5 h_46 n14_44) fun t79_47 =>
          ob (newVar h_46 [.int .i64 0, .int .i64 0, .int .i64 0, .int .i64 0, .nils]) fun t83_48 h_49 =>
          ob (evalFn T k f_milestonelaw5_within [b1, (.int .i64 32)] h_49) fun t81_50 h_51 =>
          chk ((sameB (pure1 h_51 (ldN 5 h_51 n14_44)) t79_47 && true)) <|
          ob (evalFn T k f_milestonelaw5_wider [t79_47, t81_50] h_51) fun t82_52 h_53 =>
          oh (stN 5 h_53 t83_48 t82_52) fun h_54 =>
          milestonelaw5_MatchSets_l1 T k k ns4 n14_44 t83_48 (.int .i64 0) h_54
          )
        )
      ) := runEq (by kernel_rfl)
def milestonelaw5_known_rs : Res := [(0, none)]
noncomputable def milestonelaw5_known_mf : MFn := ⟨26, milestonelaw5_known_rs, .seq [0] (.region [⟨some 0, .op (.mv (.const (.bool false))), none⟩]) (.seq [2] (.region [⟨some 2, .op (.build [.int .i64 0, .int .i64 0, .int .i64 0, .int .i64 0, .nils] [(0, 1, (.const (.int .i64 1))), (1, 1, (.const (.int .i64 1)))]), none⟩,
  ⟨some 1, .op (.alloc [.int .i64 0, .int .i64 0, .int .i64 0, .int .i64 0, .nils]), none⟩,
  ⟨none, .op (.store 5 (.tmp 1) (.tmp 2)), none⟩]) (.seq [1, 3, 4, 5, 6, 7, 8, 9, 10, 11, 12, 13, 14, 15, 16, 17, 18, 19, 20, 21, 22, 23, 24, 25] (.region [⟨some 3, .op (.build [.int .i64 0, .int .i64 0, .int .i64 0, .int .i64 0, .nils] [(0, 1, (.const (.int .i64 3)))]), none⟩,
  ⟨some 4, .call f_match_Match [(.tmp 3), (.const .nils)], none⟩,
  ⟨some 5, .op (.mv (.tmp 4)), none⟩,
  ⟨some 6, .op (.load (some 5) (.tmp 1)), some (5, true)⟩,
  ⟨some 7, .op (.buildSlice 1 1 [.int .i64 0] [(0, 1, (.const (.int .i64 0)))]), some (5, true)⟩,
  ⟨some 8, .call f_match_Match [(.tmp 6), (.tmp 7)], some (5, true)⟩,
  ⟨some 9, .op (.pick (.tmp 5) (.tmp 8) (.const (.bool false))), none⟩,
  ⟨some 10, .op (.mv (.tmp 9)), none⟩,
  ⟨some 11, .op (.load (some 5) (.tmp 1)), some (10, true)⟩,
  ⟨some 12, .op (.buildSlice 1 1 [.int .i64 0] [(0, 1, (.const (.int .i64 1)))]), some (10, true)⟩,
  ⟨some 13, .call f_match_Match [(.tmp 11), (.tmp 12)], some (10, true)⟩,
  ⟨some 14, .op (.un .not (.tmp 13)), some (10, true)⟩,
  ⟨some 15, .op (.pick (.tmp 10) (.tmp 14) (.const (.bool false))), none⟩,
  ⟨some 16, .op (.mv (.tmp 15)), none⟩,
  ⟨some 17, .op (.build [.int .i64 0, .int .i64 0, .int .i64 0, .int .i64 0, .nils] [(0, 1, (.const (.int .i64 3)))]), some (16, true)⟩,
  ⟨some 18, .call f_match_Null [(.tmp 17)], some (16, true)⟩,
  ⟨some 19, .op (.pick (.tmp 16) (.tmp 18) (.const (.bool false))), none⟩,
  ⟨some 20, .op (.mv (.tmp 19)), none⟩,
  ⟨some 21, .op (.load (some 5) (.tmp 1)), some (20, true)⟩,
  ⟨some 22, .call f_match_Words [(.tmp 21), (.const (.int .i64 1))], some (20, true)⟩,
  ⟨some 23, .op (.lenSl (.tmp 22)), some (20, true)⟩,
  ⟨some 24, .op (.bin .eql .scalar (.tmp 23) (.const (.int .i64 1))), some (20, true)⟩,
  ⟨some 25, .op (.pick (.tmp 20) (.tmp 24) (.const (.bool false))), none⟩,
  ⟨some 0, .op (.mv (.tmp 25)), none⟩]) .ret))⟩
theorem milestonelaw5_known_eq (T : Tab) (k : Nat) (h : Heap) : runF T k milestonelaw5_known_mf [] h =
    oa (buildV [.int .i64 0, .int .i64 0, .int .i64 0, .int .i64 0, .nils] [(0, 1, (.int .i64 1)), (1, 1, (.int .i64 1))]) fun t2_1 =>
    ob (newVar h [.int .i64 0, .int .i64 0, .int .i64 0, .int .i64 0, .nils]) fun w1_2 h_3 =>
    oh (stN 5 h_3 w1_2 t2_1) fun h_4 =>
    oa (buildV [.int .i64 0, .int .i64 0, .int .i64 0, .int .i64 0, .nils] [(0, 1, (.int .i64 3))]) fun t3_5 =>
    ob (evalFn T k f_match_Match [t3_5, .nils] h_4) fun t4_6 h_7 =>
    ob (gd t4_6 true (pure1 h_7 (ldN 5 h_7 w1_2)) h_7) fun t6_8 h_9 =>
    ob (gd t4_6 true (buildSl 1 1 [.int .i64 0] [(0, 1, (.int .i64 0))] h_9) h_9) fun t7_10 h_11 =>
    ob (gd t4_6 true (evalFn T k f_match_Match [t6_8, t7_10] h_11) h_11) fun t8_12 h_13 =>
    oa (pickV t4_6 t8_12 (.bool false)) fun t9_14 =>
    ob (gd t9_14 true (pure1 h_13 (ldN 5 h_13 w1_2)) h_13) fun t11_15 h_16 =>
    ob (gd t9_14 true (buildSl 1 1 [.int .i64 0] [(0, 1, (.int .i64 1))] h_16) h_16) fun t12_17 h_18 =>
    ob (gd t9_14 true (evalFn T k f_match_Match [t11_15, t12_17] h_18) h_18) fun t13_19 h_20 =>
    ob (gd t9_14 true (pure1 h_20 (unV .not t13_19)) h_20) fun t14_21 h_22 =>
    oa (pickV t9_14 t14_21 (.bool false)) fun t15_23 =>
    ob (gd t15_23 true (pure1 h_22 (buildV [.int .i64 0, .int .i64 0, .int .i64 0, .int .i64 0, .nils] [(0, 1, (.int .i64 3))])) h_22) fun t17_24 h_25 =>
    ob (gd t15_23 true (evalFn T k f_match_Null [t17_24] h_25) h_25) fun t18_26 h_27 =>
    oa (pickV t15_23 t18_26 (.bool false)) fun t19_28 =>
    ob (gd t19_28 true (pure1 h_27 (ldN 5 h_27 w1_2)) h_27) fun t21_29 h_30 =>
    ob (gd t19_28 true (evalFn T k f_match_Words [t21_29, (.int .i64 1)] h_30) h_30) fun t22_31 h_32 =>
    ob (gd t19_28 true (pure1 h_32 (lenS t22_31)) h_32) fun t23_33 h_34 =>
    ob (gd t19_28 true (pure1 h_34 (binV .eql .scalar t23_33 (.int .i64 1))) h_34) fun t24_35 h_36 =>
    oa (pickV t19_28 t24_35 (.bool false)) fun t25_37 =>
    some (t25_37, h_36) := runEq (by kernel_rfl)
def milestonelaw4_Few_rs : Res := [(2, none)]
noncomputable def milestonelaw4_Few_mf : MFn := ⟨6, milestonelaw4_Few_rs, .seq [2] (.region [⟨some 2, .op (.mv (.const (.bool false))), none⟩]) (.seq [0, 3, 4, 5] (.region [⟨some 3, .op (.mv (.tmp 0)), none⟩,
  ⟨some 4, .call f_milestonelaw4_size [(.tmp 3), (.const (.int .i64 0))], none⟩,
  ⟨some 5, .op (.bin .leq .scalar (.tmp 4) (.const (.int .i64 14))), none⟩,
  ⟨some 2, .op (.mv (.tmp 5)), none⟩]) .ret)⟩
theorem milestonelaw4_Few_eq (T : Tab) (k : Nat) (l0 : AV) (h : Heap) : runF T k milestonelaw4_Few_mf [l0] h =
    ob (evalFn T k f_milestonelaw4_size [l0, (.int .i64 0)] h) fun t4_1 h_2 =>
    oa (binV .leq .scalar t4_1 (.int .i64 14)) fun t5_3 =>
    some (t5_3, h_2) := runEq (by kernel_rfl)
def milestonelaw4_One_rs : Res := [(2, some (some 5))]
noncomputable def milestonelaw4_One_mf : MFn := ⟨11, milestonelaw4_One_rs, .seq [] (.region [⟨some 2, .op (.alloc [.int .i64 0, .int .i64 0, .int .i64 0, .int .i64 0, .nils]), none⟩]) (.seq [5] (.seq [3, 4] (.region [⟨some 3, .op (.mv (.tmp 0)), none⟩,
  ⟨some 4, .op (.lenSl (.tmp 3)), none⟩,
  ⟨some 5, .op (.bin .eql .scalar (.tmp 4) (.const (.int .i64 0))), none⟩]) (.cond (.tmp 5) (.seq [0, 5, 6] (.region [⟨some 6, .op (.build [.int .i64 0, .int .i64 0, .int .i64 0, .int .i64 0, .nils] [(0, 1, (.const (.int .i64 1))), (1, 1, (.const (.int .i64 1)))]), none⟩,
  ⟨none, .op (.store 5 (.tmp 2) (.tmp 6)), none⟩]) .ret) .skip)) (.seq [0, 7, 8, 9, 10] (.region [⟨some 7, .op (.mv (.tmp 0)), none⟩,
  ⟨some 8, .op (.idxSl 3 (.tmp 7) (.const (.int .i64 0))), none⟩,
  ⟨some 9, .op (.load (some 3) (.tmp 8)), none⟩,
  ⟨some 10, .call f_milestonelaw4_Raw_Make [(.tmp 9)], none⟩,
  ⟨none, .op (.store 5 (.tmp 2) (.tmp 10)), none⟩]) .ret))⟩
theorem milestonelaw4_One_eq (T : Tab) (k : Nat) (l0 : AV) (h : Heap) : runF T k milestonelaw4_One_mf [l0] h =
    ob (newVar h [.int .i64 0, .int .i64 0, .int .i64 0, .int .i64 0, .nils]) fun t2_1 h_2 =>
    oa (lenS l0) fun t4_3 =>
    oa (binV .eql .scalar t4_3 (.int .i64 0)) fun t5_4 =>
    cond2 t5_4
      (
      oa (buildV [.int .i64 0, .int .i64 0, .int .i64 0, .int .i64 0, .nils] [(0, 1, (.int .i64 1)), (1, 1, (.int .i64 1))]) fun t6_5 =>
      oh (stN 5 h_2 t2_1 t6_5) fun h_6 =>
      oa (ldN 5 h_6 t2_1) fun t2_7 =>
      some (t2_7, h_6)
      )
      (
      oa (idxS 3 l0 (.int .i64 0)) fun t8_8 =>
      oa (ldN 3 h_2 t8_8) fun t9_9 =>
      ob (evalFn T k f_milestonelaw4_Raw_Make [t9_9] h_2) fun t10_10 h_11 =>
      oh (stN 5 h_11 t2_1 t10_10) fun h_12 =>
      oa (ldN 5 h_12 t2_1) fun t2_13 =>
      some (t2_13, h_12)
      ) := runEq (by kernel_rfl)
noncomputable def milestonelaw5_Word_c1 : MCode := .seq [17] (.seq [9, 10, 11, 12, 13, 14, 15, 16] (.region [⟨some 9, .op (.mv (.tmp 8)), none⟩,
  ⟨some 10, .op (.mv (.tmp 0)), none⟩,
  ⟨some 11, .op (.lenSl (.tmp 10)), none⟩,
  ⟨some 12, .op (.bin .lss .scalar (.tmp 9) (.tmp 11)), none⟩,
  ⟨some 13, .op (.mv (.tmp 12)), none⟩,
  ⟨some 14, .op (.mv (.tmp 8)), some (13, true)⟩,
  ⟨some 15, .op (.mv (.tmp 1)), some (13, true)⟩,
  ⟨some 16, .op (.bin .lss .scalar (.tmp 14) (.tmp 15)), some (13, true)⟩,
  ⟨some 17, .op (.pick (.tmp 13) (.tmp 16) (.const (.bool false))), none⟩]) (.cond (.tmp 17) .skip (.exit 0))) (.seq [20, 21, 22, 23, 24, 25, 26, 27, 28, 29, 30] (.block 1 (.regionD 32 [⟨0, ⟨some 32, .op (.mv (.tmp 7)), none⟩, []⟩,
  ⟨1, ⟨some 33, .op (.mv (.tmp 0)), none⟩, []⟩,
  ⟨2, ⟨some 34, .op (.mv (.tmp 8)), none⟩, []⟩,
  ⟨3, ⟨some 35, .op (.idxSl 1 (.tmp 33) (.tmp 34)), none⟩, []⟩,
  ⟨4, ⟨some 36, .op (.load none (.tmp 35)), none⟩, []⟩,
  ⟨5, ⟨some 37, .op (.mv (.tmp 2)), none⟩, []⟩,
  ⟨6, ⟨some 38, .call f_milestonelaw5_within [(.tmp 37), (.const (.int .i64 5))], none⟩, [(36, ⟨some 36, .op (.load none (.tmp 35)), none⟩)]⟩,
  ⟨7, ⟨some 39, .op (.bin .add .scalar (.const (.int .i64 1)) (.tmp 38)), none⟩, []⟩,
  ⟨8, ⟨some 40, .call f_milestonelaw5_within [(.tmp 36), (.tmp 39)], none⟩, []⟩,
  ⟨9, ⟨some 41, .op (.buildSlice 1 1 [.int .i64 0] [(0, 1, (.tmp 40))]), none⟩, []⟩,
  ⟨10, ⟨some 42, .op (.append 1 8 (.tmp 32) (.tmp 41)), none⟩, []⟩,
  ⟨11, ⟨some 43, .op (.mv (.tmp 42)), none⟩, []⟩] [(20, 32), (21, 33), (22, 34), (23, 35), (24, 36), (25, 37), (26, 38), (27, 39), (28, 40), (29, 41), (30, 42), (7, 43)])) (.region [⟨some 18, .op (.mv (.tmp 8)), none⟩,
  ⟨some 19, .op (.bin .add .scalar (.tmp 18) (.const (.int .i64 1))), none⟩,
  ⟨some 8, .op (.mv (.tmp 19)), none⟩]))
def milestonelaw5_Word_rs : Res := [(6, none)]
noncomputable def milestonelaw5_Word_mf : MFn := ⟨32, milestonelaw5_Word_rs, .seq [6] (.region [⟨some 6, .op (.mv (.const .nils)), none⟩]) (.seq [] (.region [⟨some 7, .op (.mv (.const .nils)), none⟩]) (.seq [0, 1, 2, 8, 17] (.seq [] (.region [⟨some 8, .op (.mv (.const (.int .i64 0))), none⟩]) (.block 0 (.loop [18, 19] milestonelaw5_Word_c1))) (.seq [7, 31] (.region [⟨some 31, .op (.mv (.tmp 7)), none⟩,
  ⟨some 6, .op (.mv (.tmp 31)), none⟩]) .ret)))⟩
noncomputable def milestonelaw5_Word_l1 (T : Tab) (k j0 : Nat) (ns0 most1 few2 w7 i8 : AV) (h : Heap) : Option (AV × Heap) :=
  loopB T k milestonelaw5_Word_rs j0 [18, 19] milestonelaw5_Word_c1 [.blk 0, .seq [0, 1, 2, 8, 17] (.seq [7, 31] (.region [⟨some 31, .op (.mv (.tmp 7)), none⟩,
  ⟨some 6, .op (.mv (.tmp 31)), none⟩]) .ret)] [ns0, most1, few2, .undef, .undef, .undef, .undef, w7, i8, .undef, .undef, .undef, .undef, .undef, .undef, .undef, .undef, .undef, .undef, .undef, .undef, .undef, .undef, .undef, .undef, .undef, .undef, .undef, .undef, .undef, .undef, .undef] h
theorem milestonelaw5_Word_l1_eq (T : Tab) (k j0 : Nat) (ns0 most1 few2 w7 i8 : AV) (h : Heap) : milestonelaw5_Word_l1 T k (j0 + 1) ns0 most1 few2 w7 i8 h =
    oa (lenS ns0) fun t11_1 =>
    oa (binV .lss .scalar i8 t11_1) fun t12_2 =>
    ob (gd t12_2 true (some (i8, h)) h) fun t14_3 h_4 =>
    ob (gd t12_2 true (some (most1, h_4)) h_4) fun t15_5 h_6 =>
    ob (gd t12_2 true (pure1 h_6 (binV .lss .scalar t14_3 t15_5)) h_6) fun t16_7 h_8 =>
    oa (pickV t12_2 t16_7 (.bool false)) fun t17_9 =>
    cond2 t17_9
      (
      oa (idxS 1 ns0 i8) fun t35_10 =>
      oa (ld1 h_8 t35_10) fun t36_11 =>
      ob (evalFn T k f_milestonelaw5_within [few2, (.int .i64 5)] h_8) fun t38_12 h_13 =>
      chk ((sameB (pure1 h_13 (ld1 h_13 t35_10)) t36_11 && true)) <|
      oa (binV .add .scalar (.int .i64 1) t38_12) fun t39_14 =>
      ob (evalFn T k f_milestonelaw5_within [t36_11, t39_14] h_13) fun t40_15 h_16 =>
      ob (buildSl 1 1 [.int .i64 0] [(0, 1, t40_15)] h_16) fun t41_17 h_18 =>
      ob (apnd 1 8 w7 t41_17 h_18) fun t42_19 h_20 =>
      oa (binV .add .scalar i8 (.int .i64 1)) fun t19_21 =>
      milestonelaw5_Word_l1 T k j0 ns0 most1 few2 t42_19 t19_21 h_20
      )
      (
      some (w7, h_8)
      ) := loopEq (by kernel_rfl)
theorem milestonelaw5_Word_eq (T : Tab) (k : Nat) (ns0 most1 few2 : AV) (h : Heap) : runF T k milestonelaw5_Word_mf [ns0, most1, few2] h =
    milestonelaw5_Word_l1 T k k ns0 most1 few2 .nils (.int .i64 0) h := runEq (by kernel_rfl)
def match_Match_rs : Res := [(4, none)]
noncomputable def match_Match_mf : MFn := ⟨19, match_Match_rs, .seq [0, 4] (.region [⟨some 2, .op (.box (.tmp 0)), none⟩,
  ⟨some 4, .op (.mv (.const (.bool false))), none⟩]) (.seq [6, 7, 8, 9] (.region [⟨some 6, .op (.mv (.tmp 1)), none⟩,
  ⟨some 7, .op (.mkMap (.row [.i .i64, .i .i64])), none⟩,
  ⟨some 8, .op (.build [.nils, .nils, .nilmap] [(1, 1, (.tmp 6)), (2, 1, (.tmp 7))]), none⟩,
  ⟨some 9, .op (.box (.tmp 8)), none⟩,
  ⟨some 5, .op (.mv (.tmp 9)), none⟩]) (.seq [1, 2, 5, 10, 11, 12, 13, 14, 15, 16, 17, 18] (.region [⟨some 10, .op (.mv (.tmp 5)), none⟩,
  ⟨some 11, .op (.mv (.tmp 5)), none⟩,
  ⟨some 12, .op (.load (some 5) (.tmp 2)), none⟩,
  ⟨some 13, .call f_match_matcher_flat [(.tmp 11), (.tmp 12)], none⟩,
  ⟨some 14, .call f_match_matcher_ends [(.tmp 10), (.tmp 13), (.const (.int .i64 0))], none⟩,
  ⟨some 15, .op (.mv (.tmp 1)), none⟩,
  ⟨some 16, .op (.lenSl (.tmp 15)), none⟩,
  ⟨some 17, .op (.idxSl 1 (.tmp 14) (.tmp 16)), none⟩,
  ⟨some 18, .op (.load none (.tmp 17)), none⟩,
  ⟨some 4, .op (.mv (.tmp 18)), none⟩]) .ret))⟩
theorem match_Match_eq (T : Tab) (k : Nat) (n0 word1 : AV) (h : Heap) : runF T k match_Match_mf [n0, word1] h =
    ob (newVar h (AV.cells n0)) fun n2_1 h_2 =>
    ob (some (.map h_2.length, h_2 ++ [.map (.row [.i .i64, .i .i64]) []])) fun t7_3 h_4 =>
    oa (buildV [.nils, .nils, .nilmap] [(1, 1, word1), (2, 1, t7_3)]) fun t8_5 =>
    ob (newVar h_4 (AV.cells t8_5)) fun t9_6 h_7 =>
    oa (ldN 5 h_7 n2_1) fun t12_8 =>
    ob (evalFn T k f_match_matcher_flat [t9_6, t12_8] h_7) fun t13_9 h_10 =>
    ob (evalFn T k f_match_matcher_ends [t9_6, t13_9, (.int .i64 0)] h_10) fun t14_11 h_12 =>
    oa (lenS word1) fun t16_13 =>
    oa (idxS 1 t14_11 t16_13) fun t17_14 =>
    oa (ld1 h_12 t17_14) fun t18_15 =>
    some (t18_15, h_12) := runEq (by kernel_rfl)
def milestoneref5_Match_rs : Res := [(4, none)]
noncomputable def milestoneref5_Match_mf : MFn := ⟨18, milestoneref5_Match_rs, .seq [0, 4] (.region [⟨some 2, .op (.box (.tmp 0)), none⟩,
  ⟨some 4, .op (.mv (.const (.bool false))), none⟩]) (.seq [2, 6, 7, 8, 9, 10, 11, 12] (.regionD 18 [⟨0, ⟨some 18, .op (.load (some 5) (.tmp 2)), none⟩, []⟩,
  ⟨1, ⟨some 19, .op (.mv (.tmp 1)), none⟩, []⟩,
  ⟨2, ⟨some 20, .op (.mv (.tmp 1)), none⟩, []⟩,
  ⟨3, ⟨some 21, .op (.lenSl (.tmp 20)), none⟩, []⟩,
  ⟨4, ⟨some 22, .op (.bin .add .scalar (.tmp 21) (.const (.int .i64 1))), none⟩, []⟩,
  ⟨5, ⟨some 23, .call f_milestoneref5_one [(.tmp 22), (.const (.int .i64 0))], none⟩, [(18, ⟨some 18, .op (.load (some 5) (.tmp 2)), none⟩)]⟩,
  ⟨6, ⟨some 24, .call f_milestoneref5_ends [(.tmp 18), (.tmp 19), (.tmp 23)], none⟩, []⟩,
  ⟨7, ⟨some 25, .op (.mv (.tmp 24)), none⟩, []⟩] [(6, 18), (7, 19), (8, 20), (9, 21), (10, 22), (11, 23), (12, 24), (5, 25)]) (.seq [1, 5, 13, 14, 15, 16, 17] (.region [⟨some 13, .op (.mv (.tmp 5)), none⟩,
  ⟨some 14, .op (.mv (.tmp 1)), none⟩,
  ⟨some 15, .op (.lenSl (.tmp 14)), none⟩,
  ⟨some 16, .op (.idxSl 1 (.tmp 13) (.tmp 15)), none⟩,
  ⟨some 17, .op (.load none (.tmp 16)), none⟩,
  ⟨some 4, .op (.mv (.tmp 17)), none⟩]) .ret))⟩
theorem milestoneref5_Match_eq (T : Tab) (k : Nat) (n0 word1 : AV) (h : Heap) : runF T k milestoneref5_Match_mf [n0, word1] h =
    ob (newVar h (AV.cells n0)) fun n2_1 h_2 =>
    oa (ldN 5 h_2 n2_1) fun t18_3 =>
    oa (lenS word1) fun t21_4 =>
    oa (binV .add .scalar t21_4 (.int .i64 1)) fun t22_5 =>
    ob (evalFn T k f_milestoneref5_one [t22_5, (.int .i64 0)] h_2) fun t23_6 h_7 =>
    chk ((sameB (pure1 h_7 (ldN 5 h_7 n2_1)) t18_3 && true)) <|
    ob (evalFn T k f_milestoneref5_ends [t18_3, word1, t23_6] h_7) fun t24_8 h_9 =>
    oa (lenS word1) fun t15_10 =>
    oa (idxS 1 t24_8 t15_10) fun t16_11 =>
    oa (ld1 h_9 t16_11) fun t17_12 =>
    some (t17_12, h_9) := runEq (by kernel_rfl)
def match_Null_rs : Res := [(2, none)]
noncomputable def match_Null_mf : MFn := ⟨5, match_Null_rs, .seq [0, 2] (.region [⟨some 1, .op (.box (.tmp 0)), none⟩,
  ⟨some 2, .op (.mv (.const (.bool false))), none⟩]) (.seq [1, 3, 4] (.region [⟨some 3, .op (.load (some 5) (.tmp 1)), none⟩,
  ⟨some 4, .call f_match_Match [(.tmp 3), (.const .nils)], none⟩,
  ⟨some 2, .op (.mv (.tmp 4)), none⟩]) .ret)⟩
theorem match_Null_eq (T : Tab) (k : Nat) (n0 : AV) (h : Heap) : runF T k match_Null_mf [n0] h =
    ob (newVar h (AV.cells n0)) fun n1_1 h_2 =>
    oa (ldN 5 h_2 n1_1) fun t3_3 =>
    ob (evalFn T k f_match_Match [t3_3, .nils] h_2) fun t4_4 h_5 =>
    some (t4_4, h_5) := runEq (by kernel_rfl)
noncomputable def milestoneref5_Null_c1 : MCode := .seq [36] (.seq [32, 33, 34, 35] (.region [⟨some 32, .op (.mv (.tmp 3)), none⟩,
  ⟨some 33, .op (.fieldAddr 4 (.tmp 1)), none⟩,
  ⟨some 34, .op (.load none (.tmp 33)), none⟩,
  ⟨some 35, .op (.lenSl (.tmp 34)), none⟩,
  ⟨some 36, .op (.bin .lss .scalar (.tmp 32) (.tmp 35)), none⟩]) (.cond (.tmp 36) .skip (.exit 1))) (.seq [45] (.block 2 (.seq [39, 40, 41, 42, 43, 44] (.region [⟨some 39, .op (.fieldAddr 4 (.tmp 1)), none⟩,
  ⟨some 40, .op (.load none (.tmp 39)), none⟩,
  ⟨some 41, .op (.mv (.tmp 3)), none⟩,
  ⟨some 42, .op (.idxSl 5 (.tmp 40) (.tmp 41)), none⟩,
  ⟨some 43, .op (.load (some 5) (.tmp 42)), none⟩,
  ⟨some 44, .call f_milestoneref5_Null [(.tmp 43)], none⟩,
  ⟨some 45, .op (.un .not (.tmp 44)), none⟩]) (.cond (.tmp 45) (.seq [1, 3, 45] (.region [⟨some 2, .op (.mv (.const (.bool false))), none⟩]) .ret) .skip))) (.region [⟨some 37, .op (.mv (.tmp 3)), none⟩,
  ⟨some 38, .op (.bin .add .scalar (.tmp 37) (.const (.int .i64 1))), none⟩,
  ⟨some 3, .op (.mv (.tmp 38)), none⟩]))
noncomputable def milestoneref5_Null_c2 : MCode := .seq [52] (.seq [48, 49, 50, 51] (.region [⟨some 48, .op (.mv (.tmp 4)), none⟩,
  ⟨some 49, .op (.fieldAddr 4 (.tmp 1)), none⟩,
  ⟨some 50, .op (.load none (.tmp 49)), none⟩,
  ⟨some 51, .op (.lenSl (.tmp 50)), none⟩,
  ⟨some 52, .op (.bin .lss .scalar (.tmp 48) (.tmp 51)), none⟩]) (.cond (.tmp 52) .skip (.exit 3))) (.seq [60] (.block 4 (.seq [55, 56, 57, 58, 59] (.region [⟨some 55, .op (.fieldAddr 4 (.tmp 1)), none⟩,
  ⟨some 56, .op (.load none (.tmp 55)), none⟩,
  ⟨some 57, .op (.mv (.tmp 4)), none⟩,
  ⟨some 58, .op (.idxSl 5 (.tmp 56) (.tmp 57)), none⟩,
  ⟨some 59, .op (.load (some 5) (.tmp 58)), none⟩,
  ⟨some 60, .call f_milestoneref5_Null [(.tmp 59)], none⟩]) (.cond (.tmp 60) (.seq [1, 4, 60] (.region [⟨some 2, .op (.mv (.const (.bool true))), none⟩]) .ret) .skip))) (.region [⟨some 53, .op (.mv (.tmp 4)), none⟩,
  ⟨some 54, .op (.bin .add .scalar (.tmp 53) (.const (.int .i64 1))), none⟩,
  ⟨some 4, .op (.mv (.tmp 54)), none⟩]))
noncomputable def milestoneref5_Null_c3 : MCode := .cond (.tmp 7) (.seq [1, 6, 7] (.region [⟨some 2, .op (.mv (.const (.bool true))), none⟩]) .ret) (.seq [7, 12] (.region [⟨some 12, .op (.bin .eql .scalar (.tmp 6) (.const (.int .i64 7))), none⟩,
  ⟨some 11, .op (.mv (.tmp 12)), none⟩]) (.cond (.tmp 11) (.seq [1, 6, 11, 13, 14, 15, 16, 17] (.region [⟨some 13, .op (.fieldAddr 4 (.tmp 1)), none⟩,
  ⟨some 14, .op (.load none (.tmp 13)), none⟩,
  ⟨some 15, .op (.idxSl 5 (.tmp 14) (.const (.int .i64 0))), none⟩,
  ⟨some 16, .op (.load (some 5) (.tmp 15)), none⟩,
  ⟨some 17, .call f_milestoneref5_Null [(.tmp 16)], none⟩,
  ⟨some 2, .op (.mv (.tmp 17)), none⟩]) .ret) (.seq [11, 19] (.region [⟨some 19, .op (.bin .eql .scalar (.tmp 6) (.const (.int .i64 9))), none⟩,
  ⟨some 18, .op (.mv (.tmp 19)), none⟩]) (.cond (.tmp 18) (.seq [1, 6, 18, 20, 21, 22, 23, 24, 25, 26, 27, 28, 29] (.region [⟨some 20, .op (.fieldAddr 2 (.tmp 1)), none⟩,
  ⟨some 21, .op (.load none (.tmp 20)), none⟩,
  ⟨some 22, .op (.bin .eql .scalar (.tmp 21) (.const (.int .i64 0))), none⟩,
  ⟨some 23, .op (.mv (.tmp 22)), none⟩,
  ⟨some 24, .op (.fieldAddr 4 (.tmp 1)), some (23, false)⟩,
  ⟨some 25, .op (.load none (.tmp 24)), some (23, false)⟩,
  ⟨some 26, .op (.idxSl 5 (.tmp 25) (.const (.int .i64 0))), some (23, false)⟩,
  ⟨some 27, .op (.load (some 5) (.tmp 26)), some (23, false)⟩,
  ⟨some 28, .call f_milestoneref5_Null [(.tmp 27)], some (23, false)⟩,
  ⟨some 29, .op (.pick (.tmp 23) (.const (.bool true)) (.tmp 28)), none⟩,
  ⟨some 2, .op (.mv (.tmp 29)), none⟩]) .ret) (.seq [18, 31] (.region [⟨some 31, .op (.bin .eql .scalar (.tmp 6) (.const (.int .i64 4))), none⟩,
  ⟨some 30, .op (.mv (.tmp 31)), none⟩]) (.cond (.tmp 30) (.seq [1, 3, 36] (.seq [6, 30] (.region [⟨some 3, .op (.mv (.const (.int .i64 0))), none⟩]) (.block 1 (.loop [37, 38] milestoneref5_Null_c1))) (.seq [] (.region [⟨some 2, .op (.mv (.const (.bool true))), none⟩]) .ret)) (.seq [6, 30, 47] (.region [⟨some 47, .op (.bin .eql .scalar (.tmp 6) (.const (.int .i64 5))), none⟩,
  ⟨some 46, .op (.mv (.tmp 47)), none⟩]) (.cond (.tmp 46) (.seq [46] (.region [⟨some 4, .op (.mv (.const (.int .i64 0))), none⟩]) (.block 3 (.loop [53, 54] milestoneref5_Null_c2))) .skip))))))))
def milestoneref5_Null_rs : Res := [(2, none)]
noncomputable def milestoneref5_Null_mf : MFn := ⟨61, milestoneref5_Null_rs, .seq [0, 2] (.region [⟨some 1, .op (.box (.tmp 0)), none⟩,
  ⟨some 2, .op (.mv (.const (.bool false))), none⟩]) (.seq [1, 4, 46, 52] (.seq [5] (.region [⟨some 5, .op (.fieldAddr 0 (.tmp 1)), none⟩,
  ⟨some 6, .op (.load none (.tmp 5)), none⟩]) (.block 0 (.seq [10] (.seq [8] (.region [⟨some 8, .op (.bin .eql .scalar (.tmp 6) (.const (.int .i64 3))), none⟩,
  ⟨some 7, .op (.mv (.tmp 8)), none⟩]) (.cond (.tmp 7) .skip (.seq [9] (.region [⟨some 9, .op (.bin .eql .scalar (.tmp 6) (.const (.int .i64 6))), none⟩,
  ⟨some 7, .op (.mv (.tmp 9)), none⟩]) (.cond (.tmp 7) .skip (.region [⟨some 10, .op (.bin .eql .scalar (.tmp 6) (.const (.int .i64 8))), none⟩,
  ⟨some 7, .op (.mv (.tmp 10)), none⟩]))))) (.lab milestoneref5_Null_c3)))) (.seq [] (.region [⟨some 2, .op (.mv (.const (.bool false))), none⟩]) .ret))⟩
noncomputable def milestoneref5_Null_b1 (T : Tab) (k : Nat) (n1 t6 t7 : AV) (h : Heap) : Option (AV × Heap) :=
  evB T k milestoneref5_Null_rs milestoneref5_Null_c3 [.blk 0, .seq [1, 4, 46, 52] (.seq [] (.region [⟨some 2, .op (.mv (.const (.bool false))), none⟩]) .ret)] [.undef, n1, .undef, .undef, .undef, .undef, t6, t7, .undef, .undef, .undef, .undef, .undef, .undef, .undef, .undef, .undef, .undef, .undef, .undef, .undef, .undef, .undef, .undef, .undef, .undef, .undef, .undef, .undef, .undef, .undef, .undef, .undef, .undef, .undef, .undef, .undef, .undef, .undef, .undef, .undef, .undef, .undef, .undef, .undef, .undef, .undef, .undef, .undef, .undef, .undef, .undef, .undef, .undef, .undef, .undef, .undef, .undef, .undef, .undef, .undef] h
noncomputable def milestoneref5_Null_l2 (T : Tab) (k j0 : Nat) (n1 i3 : AV) (h : Heap) : Option (AV × Heap) :=
  loopB T k milestoneref5_Null_rs j0 [37, 38] milestoneref5_Null_c1 [.blk 1, .seq [1, 3, 36] (.seq [] (.region [⟨some 2, .op (.mv (.const (.bool true))), none⟩]) .ret), .blk 0, .seq [1, 4, 46, 52] (.seq [] (.region [⟨some 2, .op (.mv (.const (.bool false))), none⟩]) .ret)] [.undef, n1, .undef, i3, .undef, .undef, .undef, .undef, .undef, .undef, .undef, .undef, .undef, .undef, .undef, .undef, .undef, .undef, .undef, .undef, .undef, .undef, .undef, .undef, .undef, .undef, .undef, .undef, .undef, .undef, .undef, .undef, .undef, .undef, .undef, .undef, .undef, .undef, .undef, .undef, .undef, .undef, .undef, .undef, .undef, .undef, .undef, .undef, .undef, .undef, .undef, .undef, .undef, .undef, .undef, .undef, .undef, .undef, .undef, .undef, .undef] h
noncomputable def milestoneref5_Null_l3 (T : Tab) (k j0 : Nat) (n1 i4 : AV) (h : Heap) : Option (AV × Heap) :=
  loopB T k milestoneref5_Null_rs j0 [53, 54] milestoneref5_Null_c2 [.blk 3, .blk 0, .seq [1, 4, 46, 52] (.seq [] (.region [⟨some 2, .op (.mv (.const (.bool false))), none⟩]) .ret)] [.undef, n1, .undef, .undef, i4, .undef, .undef, .undef, .undef, .undef, .undef, .undef, .undef, .undef, .undef, .undef, .undef, .undef, .undef, .undef, .undef, .undef, .undef, .undef, .undef, .undef, .undef, .undef, .undef, .undef, .undef, .undef, .undef, .undef, .undef, .undef, .undef, .undef, .undef, .undef, .undef, .undef, .undef, .undef, .undef, .undef, .undef, .undef, .undef, .undef, .undef, .undef, .undef, .undef, .undef, .undef, .undef, .undef, .undef, .undef, .undef] h
theorem milestoneref5_Null_l2_eq (T : Tab) (k j0 : Nat) (n1 i3 : AV) (h : Heap) : milestoneref5_Null_l2 T k (j0 + 1) n1 i3 h =
    oa (fldA 4 n1) fun t33_1 =>
    oa (ld1 h t33_1) fun t34_2 =>
    oa (lenS t34_2) fun t35_3 =>
    oa (binV .lss .scalar i3 t35_3) fun t36_4 =>
    cond2 t36_4
      (
      oa (fldA 4 n1) fun t39_5 =>
      oa (ld1 h t39_5) fun t40_6 =>
      oa (idxS 5 t40_6 i3) fun t42_7 =>
      oa (ldN 5 h t42_7) fun t43_8 =>
      ob (evalFn T k f_milestoneref5_Null [t43_8] h) fun t44_9 h_10 =>
      oa (unV .not t44_9) fun t45_11 =>
      cond2 t45_11
        (
        some ((.bool false), h_10)
        )
        (
        oa (binV .add .scalar i3 (.int .i64 1)) fun t38_12 =>
        milestoneref5_Null_l2 T k j0 n1 t38_12 h_10
        )
      )
      (
      some ((.bool true), h)
      ) := loopEq (by kernel_rfl)
theorem milestoneref5_Null_l3_eq (T : Tab) (k j0 : Nat) (n1 i4 : AV) (h : Heap) : milestoneref5_Null_l3 T k (j0 + 1) n1 i4 h =
    oa (fldA 4 n1) fun t49_1 =>
    oa (ld1 h t49_1) fun t50_2 =>
    oa (lenS t50_2) fun t51_3 =>
    oa (binV .lss .scalar i4 t51_3) fun t52_4 =>
    cond2 t52_4
      (
      oa (fldA 4 n1) fun t55_5 =>
      oa (ld1 h t55_5) fun t56_6 =>
      oa (idxS 5 t56_6 i4) fun t58_7 =>
      oa (ldN 5 h t58_7) fun t59_8 =>
      ob (evalFn T k f_milestoneref5_Null [t59_8] h) fun t60_9 h_10 =>
      cond2 t60_9
        (
        some ((.bool true), h_10)
        )
        (
        oa (binV .add .scalar i4 (.int .i64 1)) fun t54_11 =>
        milestoneref5_Null_l3 T k j0 n1 t54_11 h_10
        )
      )
      (
      some ((.bool false), h)
      ) := loopEq (by kernel_rfl)
theorem milestoneref5_Null_b1_eq (T : Tab) (k : Nat) (n1 t6 t7 : AV) (h : Heap) : milestoneref5_Null_b1 T k n1 t6 t7 h =
    cond2 t7
      (
      some ((.bool true), h)
      )
      (
      oa (binV .eql .scalar t6 (.int .i64 7)) fun t12_1 =>
      cond2 t12_1
        (
        oa (fldA 4 n1) fun t13_2 =>
        oa (ld1 h t13_2) fun t14_3 =>
        oa (idxS 5 t14_3 (.int .i64 0)) fun t15_4 =>
        oa (ldN 5 h t15_4) fun t16_5 =>
        ob (evalFn T k f_milestoneref5_Null [t16_5] h) fun t17_6 h_7 =>
        some (t17_6, h_7)
        )
        (
        oa (binV .eql .scalar t6 (.int .i64 9)) fun t19_8 =>
        cond2 t19_8
          (
          oa (fldA 2 n1) fun t20_9 =>
          oa (ld1 h t20_9) fun t21_10 =>
          oa (binV .eql .scalar t21_10 (.int .i64 0)) fun t22_11 =>
          ob (gd t22_11 false (pure1 h (fldA 4 n1)) h) fun t24_12 h_13 =>
          ob (gd t22_11 false (pure1 h_13 (ld1 h_13 t24_12)) h_13) fun t25_14 h_15 =>
          ob (gd t22_11 false (pure1 h_15 (idxS 5 t25_14 (.int .i64 0))) h_15) fun t26_16 h_17 =>
          ob (gd t22_11 false (pure1 h_17 (ldN 5 h_17 t26_16)) h_17) fun t27_18 h_19 =>
          ob (gd t22_11 false (evalFn T k f_milestoneref5_Null [t27_18] h_19) h_19) fun t28_20 h_21 =>
          oa (pickV t22_11 (.bool true) t28_20) fun t29_22 =>
          some (t29_22, h_21)
          )
          (
          oa (binV .eql .scalar t6 (.int .i64 4)) fun t31_23 =>
          cond2 t31_23
            (
            milestoneref5_Null_l2 T k k n1 (.int .i64 0) h
            )
            (
            oa (binV .eql .scalar t6 (.int .i64 5)) fun t47_24 =>
            cond2 t47_24
              (
              milestoneref5_Null_l3 T k k n1 (.int .i64 0) h
              )
              (
              some ((.bool false), h)
              )
            )
          )
        )
      ) := blockEq (by kernel_rfl)
theorem milestoneref5_Null_eq (T : Tab) (k : Nat) (n0 : AV) (h : Heap) : runF T k milestoneref5_Null_mf [n0] h =
    ob (newVar h (AV.cells n0)) fun n1_1 h_2 =>
    oa (fldA 0 n1_1) fun t5_3 =>
    oa (ld1 h_2 t5_3) fun t6_4 =>
    oa (binV .eql .scalar t6_4 (.int .i64 3)) fun t8_5 =>
    cond2 t8_5
      (
      milestoneref5_Null_b1 T k n1_1 t6_4 t8_5 h_2
      )
      (
      oa (binV .eql .scalar t6_4 (.int .i64 6)) fun t9_6 =>
      cond2 t9_6
        (
        milestoneref5_Null_b1 T k n1_1 t6_4 t9_6 h_2
        )
        (
        oa (binV .eql .scalar t6_4 (.int .i64 8)) fun t10_7 =>
        milestoneref5_Null_b1 T k n1_1 t6_4 t10_7 h_2
        )
      ) := runEq (by kernel_rfl)
def milestonelaw5_within_rs : Res := [(4, none)]
noncomputable def milestonelaw5_within_mf : MFn := ⟨15, milestonelaw5_within_rs, .seq [4] (.region [⟨some 4, .op (.mv (.const (.int .i64 0))), none⟩]) (.seq [0, 6, 7, 8] (.region [⟨some 6, .op (.mv (.tmp 0)), none⟩,
  ⟨some 7, .op (.mv (.tmp 1)), none⟩,
  ⟨some 8, .op (.bin .rem .scalar (.tmp 6) (.tmp 7)), none⟩,
  ⟨some 5, .op (.mv (.tmp 8)), none⟩]) (.seq [1, 10, 11, 12, 13] (.seq [9] (.region [⟨some 9, .op (.mv (.tmp 5)), none⟩,
  ⟨some 10, .op (.bin .lss .scalar (.tmp 9) (.const (.int .i64 0))), none⟩]) (.cond (.tmp 10) (.region [⟨some 11, .op (.mv (.tmp 5)), none⟩,
  ⟨some 12, .op (.mv (.tmp 1)), none⟩,
  ⟨some 13, .op (.bin .add .scalar (.tmp 11) (.tmp 12)), none⟩,
  ⟨some 5, .op (.mv (.tmp 13)), none⟩]) .skip)) (.seq [5, 14] (.region [⟨some 14, .op (.mv (.tmp 5)), none⟩,
  ⟨some 4, .op (.mv (.tmp 14)), none⟩]) .ret)))⟩
theorem milestonelaw5_within_eq (T : Tab) (k : Nat) (at0 n1 : AV) (h : Heap) : runF T k milestonelaw5_within_mf [at0, n1] h =
    oa (binV .rem .scalar at0 n1) fun t8_1 =>
    oa (binV .lss .scalar t8_1 (.int .i64 0)) fun t10_2 =>
    cond2 t10_2
      (
      oa (binV .add .scalar t8_1 n1) fun t13_3 =>
      some (t13_3, h)
      )
      (
      some (t8_1, h)
      ) := runEq (by kernel_rfl)
noncomputable def match_Words_c1 : MCode := .seq [] (.region [⟨some 31, .op (.bin .lss .scalar (.tmp 30) (.const (.int .i64 5))), none⟩]) (.seq [31] (.cond (.tmp 31) .skip (.exit 4)) (.seq [10, 33, 34, 35, 36, 37, 38, 39, 40] (.block 5 (.seq [32] (.region [⟨some 32, .op (.mv (.tmp 30)), none⟩,
  ⟨some 10, .op (.mv (.tmp 32)), none⟩]) (.region [⟨some 33, .op (.mv (.tmp 7)), none⟩,
  ⟨some 34, .op (.mv (.tmp 9)), none⟩,
  ⟨some 35, .call f_slices_Clone_int [(.tmp 34)], none⟩,
  ⟨some 36, .op (.mv (.tmp 10)), none⟩,
  ⟨some 37, .op (.buildSlice 1 1 [.int .i64 0] [(0, 1, (.tmp 36))]), none⟩,
  ⟨some 38, .op (.append 1 8 (.tmp 35) (.tmp 37)), none⟩,
  ⟨some 39, .op (.buildSlice 1 1 [.nils] [(0, 1, (.tmp 38))]), none⟩,
  ⟨some 40, .op (.append 1 24 (.tmp 33) (.tmp 39)), none⟩,
  ⟨some 7, .op (.mv (.tmp 40)), none⟩]))) (.region [⟨some 41, .op (.bin .add .scalar (.tmp 30) (.const (.int .i64 1))), none⟩,
  ⟨some 30, .op (.mv (.tmp 41)), none⟩])))
noncomputable def match_Words_c2 : MCode := .seq [] (.region [⟨some 19, .op (.bin .lss .scalar (.tmp 18) (.tmp 17)), none⟩]) (.seq [19] (.cond (.tmp 19) .skip (.exit 2)) (.seq [9, 30, 31] (.block 3 (.seq [20, 21] (.region [⟨some 20, .op (.idxSl 1 (.tmp 16) (.tmp 18)), none⟩,
  ⟨some 21, .op (.load none (.tmp 20)), none⟩,
  ⟨some 9, .op (.mv (.tmp 21)), none⟩]) (.seq [24, 25, 26, 27, 28, 29] (.seq [22, 23] (.region [⟨some 22, .op (.load (some 5) (.tmp 2)), none⟩,
  ⟨some 23, .op (.mv (.tmp 9)), none⟩,
  ⟨some 24, .call f_match_Match [(.tmp 22), (.tmp 23)], none⟩]) (.cond (.tmp 24) (.region [⟨some 25, .op (.mv (.tmp 5)), none⟩,
  ⟨some 26, .op (.mv (.tmp 9)), none⟩,
  ⟨some 27, .call f_slices_Clone_int [(.tmp 26)], none⟩,
  ⟨some 28, .op (.buildSlice 1 1 [.nils] [(0, 1, (.tmp 27))]), none⟩,
  ⟨some 29, .op (.append 1 24 (.tmp 25) (.tmp 28)), none⟩,
  ⟨some 5, .op (.mv (.tmp 29)), none⟩]) .skip)) (.seq [] (.region [⟨some 30, .op (.mv (.const (.int .i64 0))), none⟩]) (.block 4 (.loop [41] match_Words_c1)))))) (.region [⟨some 42, .op (.bin .add .scalar (.tmp 18) (.const (.int .i64 1))), none⟩,
  ⟨some 18, .op (.mv (.tmp 42)), none⟩])))
noncomputable def match_Words_c3 : MCode := .seq [] (.region [⟨some 15, .op (.bin .lss .scalar (.tmp 14) (.tmp 13)), none⟩]) (.seq [15] (.cond (.tmp 15) .skip (.exit 0)) (.seq [7, 43] (.block 1 (.seq [] (.region [⟨some 7, .op (.mv (.const .nils)), none⟩]) (.seq [16, 17, 18, 19] (.seq [6] (.region [⟨some 16, .op (.mv (.tmp 6)), none⟩,
  ⟨some 17, .op (.lenSl (.tmp 16)), none⟩,
  ⟨some 18, .op (.mv (.const (.int .i64 0))), none⟩]) (.block 2 (.loop [42] match_Words_c2))) (.region [⟨some 43, .op (.mv (.tmp 7)), none⟩,
  ⟨some 6, .op (.mv (.tmp 43)), none⟩])))) (.region [⟨some 44, .op (.bin .add .scalar (.tmp 14) (.const (.int .i64 1))), none⟩,
  ⟨some 14, .op (.mv (.tmp 44)), none⟩])))
noncomputable def match_Words_c4 : MCode := .seq [5, 45, 46] (.region [⟨some 45, .op (.mv (.tmp 5)), none⟩,
  ⟨some 46, .call f_slices_Clone_int_int [(.tmp 45)], none⟩,
  ⟨some 4, .op (.mv (.tmp 46)), none⟩]) .ret
def match_Words_rs : Res := [(4, none)]
noncomputable def match_Words_mf : MFn := ⟨47, match_Words_rs, .seq [0, 4] (.region [⟨some 2, .op (.box (.tmp 0)), none⟩,
  ⟨some 4, .op (.mv (.const .nils)), none⟩]) (.seq [] (.region [⟨some 5, .op (.mv (.const .nils)), none⟩]) (.seq [11] (.region [⟨some 11, .op (.buildSlice 1 1 [.nils] [(0, 1, (.const .nils))]), none⟩,
  ⟨some 6, .op (.mv (.tmp 11)), none⟩]) (.seq [2, 6, 13, 14, 15] (.seq [1, 12] (.region [⟨some 12, .op (.mv (.tmp 1)), none⟩,
  ⟨some 13, .op (.bin .add .scalar (.tmp 12) (.const (.int .i64 1))), none⟩,
  ⟨some 14, .op (.mv (.const (.int .i64 0))), none⟩]) (.block 0 (.loop [44] match_Words_c3))) (.lab match_Words_c4))))⟩
noncomputable def match_Words_l1 (T : Tab) (k j0 : Nat) (n2 out5 all6 t13 t14 : AV) (h : Heap) : Option (AV × Heap) :=
  loopB T k match_Words_rs j0 [44] match_Words_c3 [.blk 0, .seq [2, 6, 13, 14, 15] (.lab match_Words_c4)] [.undef, .undef, n2, .undef, .undef, out5, all6, .undef, .undef, .undef, .undef, .undef, .undef, t13, t14, .undef, .undef, .undef, .undef, .undef, .undef, .undef, .undef, .undef, .undef, .undef, .undef, .undef, .undef, .undef, .undef, .undef, .undef, .undef, .undef, .undef, .undef, .undef, .undef, .undef, .undef, .undef, .undef, .undef, .undef, .undef, .undef] h
noncomputable def match_Words_l2 (T : Tab) (k j0 j1 : Nat) (n2 out5 longer7 t13 t14 t16 t17 t18 : AV) (h : Heap) : Option (AV × Heap) :=
  loopB T k match_Words_rs j1 [42] match_Words_c2 [.blk 2, .seq [16, 17, 18, 19] (.region [⟨some 43, .op (.mv (.tmp 7)), none⟩,
  ⟨some 6, .op (.mv (.tmp 43)), none⟩]), .blk 1, .seq [7, 43] (.region [⟨some 44, .op (.bin .add .scalar (.tmp 14) (.const (.int .i64 1))), none⟩,
  ⟨some 14, .op (.mv (.tmp 44)), none⟩]), .lp j0 [44] match_Words_c3, .blk 0, .seq [2, 6, 13, 14, 15] (.lab match_Words_c4)] [.undef, .undef, n2, .undef, .undef, out5, .undef, longer7, .undef, .undef, .undef, .undef, .undef, t13, t14, .undef, t16, t17, t18, .undef, .undef, .undef, .undef, .undef, .undef, .undef, .undef, .undef, .undef, .undef, .undef, .undef, .undef, .undef, .undef, .undef, .undef, .undef, .undef, .undef, .undef, .undef, .undef, .undef, .undef, .undef, .undef] h
noncomputable def match_Words_l3 (T : Tab) (k j0 j1 j2 : Nat) (n2 out5 longer7 w9 t13 t14 t16 t17 t18 t30 : AV) (h : Heap) : Option (AV × Heap) :=
  loopB T k match_Words_rs j2 [41] match_Words_c1 [.blk 4, .blk 3, .seq [9, 30, 31] (.region [⟨some 42, .op (.bin .add .scalar (.tmp 18) (.const (.int .i64 1))), none⟩,
  ⟨some 18, .op (.mv (.tmp 42)), none⟩]), .lp j1 [42] match_Words_c2, .blk 2, .seq [16, 17, 18, 19] (.region [⟨some 43, .op (.mv (.tmp 7)), none⟩,
  ⟨some 6, .op (.mv (.tmp 43)), none⟩]), .blk 1, .seq [7, 43] (.region [⟨some 44, .op (.bin .add .scalar (.tmp 14) (.const (.int .i64 1))), none⟩,
  ⟨some 14, .op (.mv (.tmp 44)), none⟩]), .lp j0 [44] match_Words_c3, .blk 0, .seq [2, 6, 13, 14, 15] (.lab match_Words_c4)] [.undef, .undef, n2, .undef, .undef, out5, .undef, longer7, .undef, w9, .undef, .undef, .undef, t13, t14, .undef, t16, t17, t18, .undef, .undef, .undef, .undef, .undef, .undef, .undef, .undef, .undef, .undef, .undef, t30, .undef, .undef, .undef, .undef, .undef, .undef, .undef, .undef, .undef, .undef, .undef, .undef, .undef, .undef, .undef, .undef] h
noncomputable def match_Words_b4 (T : Tab) (k : Nat) (out5 : AV) (h : Heap) : Option (AV × Heap) :=
  evB T k match_Words_rs match_Words_c4 [] [.undef, .undef, .undef, .undef, .undef, out5, .undef, .undef, .undef, .undef, .undef, .undef, .undef, .undef, .undef, .undef, .undef, .undef, .undef, .undef, .undef, .undef, .undef, .undef, .undef, .undef, .undef, .undef, .undef, .undef, .undef, .undef, .undef, .undef, .undef, .undef, .undef, .undef, .undef, .undef, .undef, .undef, .undef, .undef, .undef, .undef, .undef] h
theorem match_Words_l3_eq (T : Tab) (k j0 j1 j2 : Nat) (n2 out5 longer7 w9 t13 t14 t16 t17 t18 t30 : AV) (h : Heap) : match_Words_l3 T k j0 j1 (j2 + 1) n2 out5 longer7 w9 t13 t14 t16 t17 t18 t30 h =
    oa (binV .lss .scalar t30 (.int .i64 5)) fun t31_1 =>
    cond2 t31_1
      (
      ob (evalFn T k f_slices_Clone_int [w9] h) fun t35_2 h_3 =>
      ob (buildSl 1 1 [.int .i64 0] [(0, 1, t30)] h_3) fun t37_4 h_5 =>
      ob (apnd 1 8 t35_2 t37_4 h_5) fun t38_6 h_7 =>
      ob (buildSl 1 1 [.nils] [(0, 1, t38_6)] h_7) fun t39_8 h_9 =>
      ob (apnd 1 24 longer7 t39_8 h_9) fun t40_10 h_11 =>
      oa (binV .add .scalar t30 (.int .i64 1)) fun t41_12 =>
      match_Words_l3 T k j0 j1 j2 n2 out5 t40_10 w9 t13 t14 t16 t17 t18 t41_12 h_11
      )
      (
      oa (binV .add .scalar t18 (.int .i64 1)) fun t42_13 =>
      match_Words_l2 T k j0 j1 n2 out5 longer7 t13 t14 t16 t17 t42_13 h
      ) := loopEq (by kernel_rfl)
theorem match_Words_l2_eq (T : Tab) (k j0 j1 : Nat) (n2 out5 longer7 t13 t14 t16 t17 t18 : AV) (h : Heap) : match_Words_l2 T k j0 (j1 + 1) n2 out5 longer7 t13 t14 t16 t17 t18 h =
    oa (binV .lss .scalar t18 t17) fun t19_1 =>
    cond2 t19_1
      (
      oa (idxS 1 t16 t18) fun t20_2 =>
      oa (ld1 h t20_2) fun t21_3 =>
      oa (ldN 5 h n2) fun t22_4 =>
      ob (evalFn T k f_match_Match [t22_4, t21_3] h) fun t24_5 h_6 =>
      cond2 t24_5
        (
        ob (evalFn T k f_slices_Clone_int [t21_3] h_6) fun t27_7 h_8 =>
        ob (buildSl 1 1 [.nils] [(0, 1, t27_7)] h_8) fun t28_9 h_10 =>
        ob (apnd 1 24 out5 t28_9 h_10) fun t29_11 h_12 =>
        match_Words_l3 T k j0 j1 k n2 t29_11 longer7 t21_3 t13 t14 t16 t17 t18 (.int .i64 0) h_12
        )
        (
        match_Words_l3 T k j0 j1 k n2 out5 longer7 t21_3 t13 t14 t16 t17 t18 (.int .i64 0) h_6
        )
      )
      (
      oa (binV .add .scalar t14 (.int .i64 1)) fun t44_13 =>
      match_Words_l1 T k j0 n2 out5 longer7 t13 t44_13 h
      ) := loopEq (by kernel_rfl)
theorem match_Words_b4_eq (T : Tab) (k : Nat) (out5 : AV) (h : Heap) : match_Words_b4 T k out5 h =
    ob (evalFn T k f_slices_Clone_int_int [out5] h) fun t46_1 h_2 =>
    some (t46_1, h_2) := blockEq (by kernel_rfl)
theorem match_Words_l1_eq (T : Tab) (k j0 : Nat) (n2 out5 all6 t13 t14 : AV) (h : Heap) : match_Words_l1 T k (j0 + 1) n2 out5 all6 t13 t14 h =
    oa (binV .lss .scalar t14 t13) fun t15_1 =>
    cond2 t15_1
      (
      oa (lenS all6) fun t17_2 =>
      match_Words_l2 T k j0 k n2 out5 .nils t13 t14 all6 t17_2 (.int .i64 0) h
      )
      (
      match_Words_b4 T k out5 h
      ) := loopEq (by kernel_rfl)
theorem match_Words_eq (T : Tab) (k : Nat) (n0 most1 : AV) (h : Heap) : runF T k match_Words_mf [n0, most1] h =
    ob (newVar h (AV.cells n0)) fun n2_1 h_2 =>
    ob (buildSl 1 1 [.nils] [(0, 1, .nils)] h_2) fun t11_3 h_4 =>
    oa (binV .add .scalar most1 (.int .i64 1)) fun t13_5 =>
    match_Words_l1 T k k n2_1 .nils t11_3 t13_5 (.int .i64 0) h_4 := runEq (by kernel_rfl)
noncomputable def milestoneref5_Words_c1 : MCode := .region [⟨some 20, .op (.mv (.tmp 6)), none⟩,
  ⟨some 21, .op (.mv (.tmp 1)), none⟩,
  ⟨some 22, .call f_milestoneref5_Next [(.tmp 20), (.tmp 21)], none⟩,
  ⟨some 19, .op (.mv (.tmp 22)), none⟩,
  ⟨some 23, .op (.extract 0 (.tmp 19)), none⟩,
  ⟨some 24, .op (.extract 1 (.tmp 19)), none⟩,
  ⟨some 6, .op (.mv (.tmp 23)), none⟩,
  ⟨some 7, .op (.mv (.tmp 24)), none⟩]
noncomputable def milestoneref5_Words_c2 : MCode := .seq [9] (.seq [7] (.region [⟨some 9, .op (.mv (.tmp 7)), none⟩]) (.cond (.tmp 9) .skip (.exit 0))) (.block 1 (.seq [12, 13, 14, 15, 16, 17, 18] (.seq [10, 11] (.region [⟨some 10, .op (.load (some 5) (.tmp 2)), none⟩,
  ⟨some 11, .op (.mv (.tmp 6)), none⟩,
  ⟨some 12, .call f_milestoneref5_Match [(.tmp 10), (.tmp 11)], none⟩]) (.cond (.tmp 12) (.region [⟨some 13, .op (.mv (.tmp 5)), none⟩,
  ⟨some 14, .op (.buildSlice 1 0 [] []), none⟩,
  ⟨some 15, .op (.mv (.tmp 6)), none⟩,
  ⟨some 16, .op (.append 1 8 (.tmp 14) (.tmp 15)), none⟩,
  ⟨some 17, .op (.buildSlice 1 1 [.nils] [(0, 1, (.tmp 16))]), none⟩,
  ⟨some 18, .op (.append 1 24 (.tmp 13) (.tmp 17)), none⟩,
  ⟨some 5, .op (.mv (.tmp 18)), none⟩]) .skip)) (.lab milestoneref5_Words_c1)))
def milestoneref5_Words_rs : Res := [(4, none)]
noncomputable def milestoneref5_Words_mf : MFn := ⟨26, milestoneref5_Words_rs, .seq [0, 4] (.region [⟨some 2, .op (.box (.tmp 0)), none⟩,
  ⟨some 4, .op (.mv (.const .nils)), none⟩]) (.seq [] (.region [⟨some 5, .op (.mv (.const .nils)), none⟩]) (.seq [8] (.region [⟨some 8, .op (.buildSlice 1 0 [] []), none⟩,
  ⟨some 6, .op (.mv (.tmp 8)), none⟩,
  ⟨some 7, .op (.mv (.const (.bool true))), none⟩]) (.seq [1, 2, 6, 9] (.block 0 (.loop [19, 20, 21, 22, 23, 24] milestoneref5_Words_c2)) (.seq [5, 25] (.region [⟨some 25, .op (.mv (.tmp 5)), none⟩,
  ⟨some 4, .op (.mv (.tmp 25)), none⟩]) .ret))))⟩
noncomputable def milestoneref5_Words_l1 (T : Tab) (k j0 : Nat) (most1 n2 out5 w6 is7 : AV) (h : Heap) : Option (AV × Heap) :=
  loopB T k milestoneref5_Words_rs j0 [19, 20, 21, 22, 23, 24] milestoneref5_Words_c2 [.blk 0, .seq [1, 2, 6, 9] (.seq [5, 25] (.region [⟨some 25, .op (.mv (.tmp 5)), none⟩,
  ⟨some 4, .op (.mv (.tmp 25)), none⟩]) .ret)] [.undef, most1, n2, .undef, .undef, out5, w6, is7, .undef, .undef, .undef, .undef, .undef, .undef, .undef, .undef, .undef, .undef, .undef, .undef, .undef, .undef, .undef, .undef, .undef, .undef] h
noncomputable def milestoneref5_Words_b2 (T : Tab) (k j0 : Nat) (most1 n2 out5 w6 : AV) (h : Heap) : Option (AV × Heap) :=
  evB T k milestoneref5_Words_rs milestoneref5_Words_c1 [.blk 1, .lp j0 [19, 20, 21, 22, 23, 24] milestoneref5_Words_c2, .blk 0, .seq [1, 2, 6, 9] (.seq [5, 25] (.region [⟨some 25, .op (.mv (.tmp 5)), none⟩,
  ⟨some 4, .op (.mv (.tmp 25)), none⟩]) .ret)] [.undef, most1, n2, .undef, .undef, out5, w6, .undef, .undef, .undef, .undef, .undef, .undef, .undef, .undef, .undef, .undef, .undef, .undef, .undef, .undef, .undef, .undef, .undef, .undef, .undef] h
theorem milestoneref5_Words_b2_eq (T : Tab) (k j0 : Nat) (most1 n2 out5 w6 : AV) (h : Heap) : milestoneref5_Words_b2 T k j0 most1 n2 out5 w6 h =
    ob (evalFn T k f_milestoneref5_Next [w6, most1] h) fun t22_1 h_2 =>
    oa (extr 0 t22_1) fun t23_3 =>
    oa (extr 1 t22_1) fun t24_4 =>
    milestoneref5_Words_l1 T k j0 most1 n2 out5 t23_3 t24_4 h_2 := blockEq (by kernel_rfl)
theorem milestoneref5_Words_l1_eq (T : Tab) (k j0 : Nat) (most1 n2 out5 w6 is7 : AV) (h : Heap) : milestoneref5_Words_l1 T k (j0 + 1) most1 n2 out5 w6 is7 h =
    cond2 is7
      (
      oa (ldN 5 h n2) fun t10_1 =>
      ob (evalFn T k f_milestoneref5_Match [t10_1, w6] h) fun t12_2 h_3 =>
      cond2 t12_2
        (
        ob (buildSl 1 0 [] [] h_3) fun t14_4 h_5 =>
        ob (apnd 1 8 t14_4 w6 h_5) fun t16_6 h_7 =>
        ob (buildSl 1 1 [.nils] [(0, 1, t16_6)] h_7) fun t17_8 h_9 =>
        ob (apnd 1 24 out5 t17_8 h_9) fun t18_10 h_11 =>
        milestoneref5_Words_b2 T k j0 most1 n2 t18_10 w6 h_11
        )
        (
        milestoneref5_Words_b2 T k j0 most1 n2 out5 w6 h_3
        )
      )
      (
      some (out5, h)
      ) := loopEq (by kernel_rfl)
theorem milestoneref5_Words_eq (T : Tab) (k : Nat) (n0 most1 : AV) (h : Heap) : runF T k milestoneref5_Words_mf [n0, most1] h =
    ob (newVar h (AV.cells n0)) fun n2_1 h_2 =>
    ob (buildSl 1 0 [] [] h_2) fun t8_3 h_4 =>
    milestoneref5_Words_l1 T k k most1 n2_1 .nils t8_3 (.bool true) h_4 := runEq (by kernel_rfl)
noncomputable def milestoneref1_Ints_c1 : MCode := .seq [14] (.seq [11, 12, 13] (.region [⟨some 11, .op (.mv (.tmp 5)), none⟩,
  ⟨some 12, .op (.mv (.tmp 0)), none⟩,
  ⟨some 13, .op (.lenSl (.tmp 12)), none⟩,
  ⟨some 14, .op (.bin .lss .scalar (.tmp 11) (.tmp 13)), none⟩]) (.cond (.tmp 14) .skip (.exit 0))) (.seq [25] (.block 1 (.seq [17, 18, 19, 20, 21, 22, 23, 24] (.regionD 26 [⟨0, ⟨some 26, .op (.mv (.tmp 0)), none⟩, []⟩,
  ⟨1, ⟨some 27, .op (.mv (.tmp 5)), none⟩, []⟩,
  ⟨2, ⟨some 28, .op (.idxSl 1 (.tmp 26) (.tmp 27)), none⟩, []⟩,
  ⟨3, ⟨some 29, .op (.load none (.tmp 28)), none⟩, []⟩,
  ⟨4, ⟨some 30, .op (.mv (.tmp 1)), none⟩, []⟩,
  ⟨5, ⟨some 31, .op (.mv (.tmp 5)), none⟩, []⟩,
  ⟨6, ⟨some 32, .op (.idxSl 1 (.tmp 30) (.tmp 31)), none⟩, []⟩,
  ⟨7, ⟨some 33, .op (.load none (.tmp 32)), none⟩, []⟩,
  ⟨8, ⟨some 34, .op (.bin .neq .scalar (.tmp 29) (.tmp 33)), none⟩, []⟩] [(17, 26), (18, 27), (19, 28), (20, 29), (21, 30), (22, 31), (23, 32), (24, 33), (25, 34)]) (.cond (.tmp 25) (.seq [0, 1, 5, 25] (.region [⟨some 4, .op (.mv (.const (.bool false))), none⟩]) .ret) .skip))) (.region [⟨some 15, .op (.mv (.tmp 5)), none⟩,
  ⟨some 16, .op (.bin .add .scalar (.tmp 15) (.const (.int .i64 1))), none⟩,
  ⟨some 5, .op (.mv (.tmp 16)), none⟩]))
def milestoneref1_Ints_rs : Res := [(4, none)]
noncomputable def milestoneref1_Ints_mf : MFn := ⟨26, milestoneref1_Ints_rs, .seq [4] (.region [⟨some 4, .op (.mv (.const (.bool false))), none⟩]) (.seq [10] (.seq [6, 7, 8, 9] (.region [⟨some 6, .op (.mv (.tmp 0)), none⟩,
  ⟨some 7, .op (.lenSl (.tmp 6)), none⟩,
  ⟨some 8, .op (.mv (.tmp 1)), none⟩,
  ⟨some 9, .op (.lenSl (.tmp 8)), none⟩,
  ⟨some 10, .op (.bin .neq .scalar (.tmp 7) (.tmp 9)), none⟩]) (.cond (.tmp 10) (.seq [0, 1, 10] (.region [⟨some 4, .op (.mv (.const (.bool false))), none⟩]) .ret) .skip)) (.seq [0, 1, 5, 14] (.seq [] (.region [⟨some 5, .op (.mv (.const (.int .i64 0))), none⟩]) (.block 0 (.loop [15, 16] milestoneref1_Ints_c1))) (.seq [] (.region [⟨some 4, .op (.mv (.const (.bool true))), none⟩]) .ret)))⟩
noncomputable def milestoneref1_Ints_l1 (T : Tab) (k j0 : Nat) (a0 b1 i5 : AV) (h : Heap) : Option (AV × Heap) :=
  loopB T k milestoneref1_Ints_rs j0 [15, 16] milestoneref1_Ints_c1 [.blk 0, .seq [0, 1, 5, 14] (.seq [] (.region [⟨some 4, .op (.mv (.const (.bool true))), none⟩]) .ret)] [a0, b1, .undef, .undef, .undef, i5, .undef, .undef, .undef, .undef, .undef, .undef, .undef, .undef, .undef, .undef, .undef, .undef, .undef, .undef, .undef, .undef, .undef, .undef, .undef, .undef] h
theorem milestoneref1_Ints_l1_eq (T : Tab) (k j0 : Nat) (a0 b1 i5 : AV) (h : Heap) : milestoneref1_Ints_l1 T k (j0 + 1) a0 b1 i5 h =
    oa (lenS a0) fun t13_1 =>
    oa (binV .lss .scalar i5 t13_1) fun t14_2 =>
    cond2 t14_2
      (
      oa (idxS 1 a0 i5) fun t28_3 =>
      oa (ld1 h t28_3) fun t29_4 =>
      oa (idxS 1 b1 i5) fun t32_5 =>
      oa (ld1 h t32_5) fun t33_6 =>
      oa (binV .neq .scalar t29_4 t33_6) fun t34_7 =>
      cond2 t34_7
        (
        some ((.bool false), h)
        )
        (
        oa (binV .add .scalar i5 (.int .i64 1)) fun t16_8 =>
        milestoneref1_Ints_l1 T k j0 a0 b1 t16_8 h
        )
      )
      (
      some ((.bool true), h)
      ) := loopEq (by kernel_rfl)
theorem milestoneref1_Ints_eq (T : Tab) (k : Nat) (a0 b1 : AV) (h : Heap) : runF T k milestoneref1_Ints_mf [a0, b1] h =
    oa (lenS a0) fun t7_1 =>
    oa (lenS b1) fun t9_2 =>
    oa (binV .neq .scalar t7_1 t9_2) fun t10_3 =>
    cond2 t10_3
      (
      some ((.bool false), h)
      )
      (
      milestoneref1_Ints_l1 T k k a0 b1 (.int .i64 0) h
      ) := runEq (by kernel_rfl)
def milestonelaw5_Of_rs : Res := [(2, some (some 5))]
noncomputable def milestonelaw5_Of_mf : MFn := ⟨13, milestonelaw5_Of_rs, .seq [] (.region [⟨some 2, .op (.alloc [.int .i64 0, .int .i64 0, .int .i64 0, .int .i64 0, .nils]), none⟩]) (.seq [0, 4, 5, 6, 7, 8, 9, 10, 11] (.region [⟨some 7, .op (.mv (.tmp 0)), none⟩,
  ⟨some 8, .call f_milestoneref4_Parse [(.tmp 7)], none⟩,
  ⟨some 6, .op (.mv (.tmp 8)), none⟩,
  ⟨some 9, .op (.extract 0 (.tmp 6)), none⟩,
  ⟨some 10, .op (.extract 1 (.tmp 6)), none⟩,
  ⟨some 11, .op (.extract 2 (.tmp 6)), none⟩,
  ⟨some 3, .op (.alloc [.int .i64 0, .int .i64 0, .int .i64 0, .int .i64 0, .nils]), none⟩,
  ⟨none, .op (.store 5 (.tmp 3) (.tmp 9)), none⟩,
  ⟨some 4, .op (.mv (.tmp 10)), none⟩,
  ⟨some 5, .op (.mv (.tmp 11)), none⟩]) (.seq [3, 12] (.region [⟨some 12, .op (.load (some 5) (.tmp 3)), none⟩,
  ⟨none, .op (.store 5 (.tmp 2) (.tmp 12)), none⟩]) .ret))⟩
theorem milestonelaw5_Of_eq (T : Tab) (k : Nat) (s0 : AV) (h : Heap) : runF T k milestonelaw5_Of_mf [s0] h =
    ob (newVar h [.int .i64 0, .int .i64 0, .int .i64 0, .int .i64 0, .nils]) fun t2_1 h_2 =>
    ob (evalFn T k f_milestoneref4_Parse [s0] h_2) fun t8_3 h_4 =>
    oa (extr 0 t8_3) fun t9_5 =>
    oa (extr 1 t8_3) fun t10_6 =>
    oa (extr 2 t8_3) fun t11_7 =>
    ob (newVar h_4 [.int .i64 0, .int .i64 0, .int .i64 0, .int .i64 0, .nils]) fun n3_8 h_9 =>
    oh (stN 5 h_9 n3_8 t9_5) fun h_10 =>
    oa (ldN 5 h_10 n3_8) fun t12_11 =>
    oh (stN 5 h_10 t2_1 t12_11) fun h_12 =>
    oa (ldN 5 h_12 t2_1) fun t2_13 =>
    some (t2_13, h_12) := runEq (by kernel_rfl)
noncomputable def milestonelaw5_turned_c1 : MCode := .regionD 37 [⟨0, ⟨some 37, .op (.fieldAddr 4 (.tmp 3)), none⟩, []⟩,
  ⟨1, ⟨some 38, .op (.load none (.tmp 37)), none⟩, []⟩,
  ⟨2, ⟨some 39, .op (.fieldAddr 4 (.tmp 1)), none⟩, []⟩,
  ⟨3, ⟨some 40, .op (.load none (.tmp 39)), none⟩, []⟩,
  ⟨4, ⟨some 41, .op (.mv (.tmp 5)), none⟩, []⟩,
  ⟨5, ⟨some 42, .op (.idxSl 5 (.tmp 40) (.tmp 41)), none⟩, []⟩,
  ⟨6, ⟨some 43, .op (.load (some 5) (.tmp 42)), none⟩, []⟩,
  ⟨7, ⟨some 44, .call f_milestonelaw5_turned [(.tmp 43)], none⟩, [(38, ⟨some 38, .op (.load none (.tmp 37)), none⟩)]⟩,
  ⟨8, ⟨some 45, .op (.buildSlice 5 1 [.int .i64 0, .int .i64 0, .int .i64 0, .int .i64 0, .nils] [(0, 5, (.tmp 44))]), none⟩, []⟩,
  ⟨9, ⟨some 46, .op (.append 5 56 (.tmp 38) (.tmp 45)), none⟩, []⟩,
  ⟨10, ⟨some 47, .op (.fieldAddr 4 (.tmp 3)), none⟩, []⟩,
  ⟨11, ⟨some 48, .op (.store 1 (.tmp 47) (.tmp 46)), none⟩, []⟩] [(25, 37), (26, 38), (27, 39), (28, 40), (29, 41), (30, 42), (31, 43), (32, 44), (33, 45), (34, 46), (35, 47)]
noncomputable def milestonelaw5_turned_c2 : MCode := .seq [12] (.seq [8, 9, 10, 11] (.region [⟨some 8, .op (.mv (.tmp 4)), none⟩,
  ⟨some 9, .op (.fieldAddr 4 (.tmp 1)), none⟩,
  ⟨some 10, .op (.load none (.tmp 9)), none⟩,
  ⟨some 11, .op (.lenSl (.tmp 10)), none⟩,
  ⟨some 12, .op (.bin .lss .scalar (.tmp 8) (.tmp 11)), none⟩]) (.cond (.tmp 12) .skip (.exit 0))) (.seq [5, 25, 26, 27, 28, 29, 30, 31, 32, 33, 34, 35] (.block 1 (.seq [15] (.region [⟨some 15, .op (.mv (.tmp 4)), none⟩,
  ⟨some 5, .op (.mv (.tmp 15)), none⟩]) (.seq [18, 19, 20, 21, 22, 23, 24] (.seq [16, 17] (.region [⟨some 16, .op (.fieldAddr 0 (.tmp 1)), none⟩,
  ⟨some 17, .op (.load none (.tmp 16)), none⟩,
  ⟨some 18, .op (.bin .eql .scalar (.tmp 17) (.const (.int .i64 4))), none⟩]) (.cond (.tmp 18) (.region [⟨some 19, .op (.fieldAddr 4 (.tmp 1)), none⟩,
  ⟨some 20, .op (.load none (.tmp 19)), none⟩,
  ⟨some 21, .op (.lenSl (.tmp 20)), none⟩,
  ⟨some 22, .op (.bin .sub .scalar (.tmp 21) (.const (.int .i64 1))), none⟩,
  ⟨some 23, .op (.mv (.tmp 4)), none⟩,
  ⟨some 24, .op (.bin .sub .scalar (.tmp 22) (.tmp 23)), none⟩,
  ⟨some 5, .op (.mv (.tmp 24)), none⟩]) .skip)) (.lab milestonelaw5_turned_c1)))) (.region [⟨some 13, .op (.mv (.tmp 4)), none⟩,
  ⟨some 14, .op (.bin .add .scalar (.tmp 13) (.const (.int .i64 1))), none⟩,
  ⟨some 4, .op (.mv (.tmp 14)), none⟩]))
def milestonelaw5_turned_rs : Res := [(2, some (some 5))]
noncomputable def milestonelaw5_turned_mf : MFn := ⟨37, milestonelaw5_turned_rs, .seq [0] (.region [⟨some 1, .op (.box (.tmp 0)), none⟩,
  ⟨some 2, .op (.alloc [.int .i64 0, .int .i64 0, .int .i64 0, .int .i64 0, .nils]), none⟩]) (.seq [6] (.region [⟨some 6, .op (.load (some 5) (.tmp 1)), none⟩,
  ⟨some 3, .op (.alloc [.int .i64 0, .int .i64 0, .int .i64 0, .int .i64 0, .nils]), none⟩,
  ⟨none, .op (.store 5 (.tmp 3) (.tmp 6)), none⟩]) (.seq [7] (.region [⟨some 7, .op (.fieldAddr 4 (.tmp 3)), none⟩,
  ⟨none, .op (.store 1 (.tmp 7) (.const .nils)), none⟩]) (.seq [1, 4, 12] (.seq [] (.region [⟨some 4, .op (.mv (.const (.int .i64 0))), none⟩]) (.block 0 (.loop [13, 14] milestonelaw5_turned_c2))) (.seq [3, 36] (.region [⟨some 36, .op (.load (some 5) (.tmp 3)), none⟩,
  ⟨none, .op (.store 5 (.tmp 2) (.tmp 36)), none⟩]) .ret))))⟩
noncomputable def milestonelaw5_turned_l1 (T : Tab) (k j0 : Nat) (n1 t2 out3 i4 : AV) (h : Heap) : Option (AV × Heap) :=
  loopB T k milestonelaw5_turned_rs j0 [13, 14] milestonelaw5_turned_c2 [.blk 0, .seq [1, 4, 12] (.seq [3, 36] (.region [⟨some 36, .op (.load (some 5) (.tmp 3)), none⟩,
  ⟨none, .op (.store 5 (.tmp 2) (.tmp 36)), none⟩]) .ret)] [.undef, n1, t2, out3, i4, .undef, .undef, .undef, .undef, .undef, .undef, .undef, .undef, .undef, .undef, .undef, .undef, .undef, .undef, .undef, .undef, .undef, .undef, .undef, .undef, .undef, .undef, .undef, .undef, .undef, .undef, .undef, .undef, .undef, .undef, .undef, .undef] h
noncomputable def milestonelaw5_turned_b2 (T : Tab) (k j0 : Nat) (n1 t2 out3 i4 k5 : AV) (h : Heap) : Option (AV × Heap) :=
  evB T k milestonelaw5_turned_rs milestonelaw5_turned_c1 [.blk 1, .seq [5, 25, 26, 27, 28, 29, 30, 31, 32, 33, 34, 35] (.region [⟨some 13, .op (.mv (.tmp 4)), none⟩,
  ⟨some 14, .op (.bin .add .scalar (.tmp 13) (.const (.int .i64 1))), none⟩,
  ⟨some 4, .op (.mv (.tmp 14)), none⟩]), .lp j0 [13, 14] milestonelaw5_turned_c2, .blk 0, .seq [1, 4, 12] (.seq [3, 36] (.region [⟨some 36, .op (.load (some 5) (.tmp 3)), none⟩,
  ⟨none, .op (.store 5 (.tmp 2) (.tmp 36)), none⟩]) .ret)] [.undef, n1, t2, out3, i4, k5, .undef, .undef, .undef, .undef, .undef, .undef, .undef, .undef, .undef, .undef, .undef, .undef, .undef, .undef, .undef, .undef, .undef, .undef, .undef, .undef, .undef, .undef, .undef, .undef, .undef, .undef, .undef, .undef, .undef, .undef, .undef] h
theorem milestonelaw5_turned_b2_eq (T : Tab) (k j0 : Nat) (n1 t2 out3 i4 k5 : AV) (h : Heap) : milestonelaw5_turned_b2 T k j0 n1 t2 out3 i4 k5 h =
    oa (fldA 4 out3) fun t37_1 =>
    oa (ld1 h t37_1) fun t38_2 =>
    oa (fldA 4 n1) fun t39_3 =>
    oa (ld1 h t39_3) fun t40_4 =>
    oa (idxS 5 t40_4 k5) fun t42_5 =>
    oa (ldN 5 h t42_5) fun t43_6 =>
    ob (evalFn T k f_milestonelaw5_turned [t43_6] h) fun t44_7 h_8 =>
    chk ((sameB (pure1 h_8 (ld1 h_8 t37_1)) t38_2 && true)) <|
    ob (buildSl 5 1 [.int .i64 0, .int .i64 0, .int .i64 0, .int .i64 0, .nils] [(0, 5, t44_7)] h_8) fun t45_9 h_10 =>
    ob (apnd 5 56 t38_2 t45_9 h_10) fun t46_11 h_12 =>
    oa (fldA 4 out3) fun t47_13 =>
    oh (stN 1 h_12 t47_13 t46_11) fun h_14 =>
    oa (binV .add .scalar i4 (.int .i64 1)) fun t14_15 =>
    milestonelaw5_turned_l1 T k j0 n1 t2 out3 t14_15 h_14 := blockEq (by kernel_rfl)
theorem milestonelaw5_turned_l1_eq (T : Tab) (k j0 : Nat) (n1 t2 out3 i4 : AV) (h : Heap) : milestonelaw5_turned_l1 T k (j0 + 1) n1 t2 out3 i4 h =
    oa (fldA 4 n1) fun t9_1 =>
    oa (ld1 h t9_1) fun t10_2 =>
    oa (lenS t10_2) fun t11_3 =>
    oa (binV .lss .scalar i4 t11_3) fun t12_4 =>
    cond2 t12_4
      (
      oa (fldA 0 n1) fun t16_5 =>
      oa (ld1 h t16_5) fun t17_6 =>
      oa (binV .eql .scalar t17_6 (.int .i64 4)) fun t18_7 =>
      cond2 t18_7
        (
        oa (fldA 4 n1) fun t19_8 =>
        oa (ld1 h t19_8) fun t20_9 =>
        oa (lenS t20_9) fun t21_10 =>
        oa (binV .sub .scalar t21_10 (.int .i64 1)) fun t22_11 =>
        oa (binV .sub .scalar t22_11 i4) fun t24_12 =>
        milestonelaw5_turned_b2 T k j0 n1 t2 out3 i4 t24_12 h
        )
        (
        milestonelaw5_turned_b2 T k j0 n1 t2 out3 i4 i4 h
        )
      )
      (
      oa (ldN 5 h out3) fun t36_13 =>
      oh (stN 5 h t2 t36_13) fun h_14 =>
      oa (ldN 5 h_14 t2) fun t2_15 =>
      some (t2_15, h_14)
      ) := loopEq (by kernel_rfl)
theorem milestonelaw5_turned_eq (T : Tab) (k : Nat) (n0 : AV) (h : Heap) : runF T k milestonelaw5_turned_mf [n0] h =
    ob (newVar h (AV.cells n0)) fun n1_1 h_2 =>
    ob (newVar h_2 [.int .i64 0, .int .i64 0, .int .i64 0, .int .i64 0, .nils]) fun t2_3 h_4 =>
    oa (ldN 5 h_4 n1_1) fun t6_5 =>
    ob (newVar h_4 [.int .i64 0, .int .i64 0, .int .i64 0, .int .i64 0, .nils]) fun out3_6 h_7 =>
    oh (stN 5 h_7 out3_6 t6_5) fun h_8 =>
    oa (fldA 4 out3_6) fun t7_9 =>
    oh (stN 1 h_8 t7_9 .nils) fun h_10 =>
    milestonelaw5_turned_l1 T k k n1_1 t2_3 out3_6 (.int .i64 0) h_10 := runEq (by kernel_rfl)
noncomputable def milestonelaw5_many_c1 : MCode := .seq [6] (.seq [5] (.region [⟨some 5, .op (.mv (.tmp 4)), none⟩,
  ⟨some 6, .op (.bin .lss .scalar (.tmp 5) (.const (.int .u64 5))), none⟩]) (.cond (.tmp 6) .skip (.exit 0))) (.seq [9, 10, 11, 12, 13, 14] (.block 1 (.region [⟨some 9, .op (.mv (.tmp 3)), none⟩,
  ⟨some 10, .op (.mv (.tmp 0)), none⟩,
  ⟨some 11, .op (.mv (.tmp 4)), none⟩,
  ⟨some 12, .op (.bin .shr .scalar (.tmp 10) (.tmp 11)), none⟩,
  ⟨some 13, .op (.bin .and .scalar (.tmp 12) (.const (.int .i64 1))), none⟩,
  ⟨some 14, .op (.bin .add .scalar (.tmp 9) (.tmp 13)), none⟩,
  ⟨some 3, .op (.mv (.tmp 14)), none⟩])) (.region [⟨some 7, .op (.mv (.tmp 4)), none⟩,
  ⟨some 8, .op (.bin .add .scalar (.tmp 7) (.const (.int .u64 1))), none⟩,
  ⟨some 4, .op (.mv (.tmp 8)), none⟩]))
def milestonelaw5_many_rs : Res := [(2, none)]
noncomputable def milestonelaw5_many_mf : MFn := ⟨16, milestonelaw5_many_rs, .seq [2] (.region [⟨some 2, .op (.mv (.const (.int .i64 0))), none⟩]) (.seq [] (.region [⟨some 3, .op (.mv (.const (.int .i64 0))), none⟩]) (.seq [0, 4, 6] (.seq [] (.region [⟨some 4, .op (.mv (.const (.int .u64 0))), none⟩]) (.block 0 (.loop [7, 8] milestonelaw5_many_c1))) (.seq [3, 15] (.region [⟨some 15, .op (.mv (.tmp 3)), none⟩,
  ⟨some 2, .op (.mv (.tmp 15)), none⟩]) .ret)))⟩
noncomputable def milestonelaw5_many_l1 (T : Tab) (k j0 : Nat) (s0 n3 i4 : AV) (h : Heap) : Option (AV × Heap) :=
  loopB T k milestonelaw5_many_rs j0 [7, 8] milestonelaw5_many_c1 [.blk 0, .seq [0, 4, 6] (.seq [3, 15] (.region [⟨some 15, .op (.mv (.tmp 3)), none⟩,
  ⟨some 2, .op (.mv (.tmp 15)), none⟩]) .ret)] [s0, .undef, .undef, n3, i4, .undef, .undef, .undef, .undef, .undef, .undef, .undef, .undef, .undef, .undef, .undef] h
theorem milestonelaw5_many_l1_eq (T : Tab) (k j0 : Nat) (s0 n3 i4 : AV) (h : Heap) : milestonelaw5_many_l1 T k (j0 + 1) s0 n3 i4 h =
    oa (binV .lss .scalar i4 (.int .u64 5)) fun t6_1 =>
    cond2 t6_1
      (
      oa (binV .shr .scalar s0 i4) fun t12_2 =>
      oa (binV .and .scalar t12_2 (.int .i64 1)) fun t13_3 =>
      oa (binV .add .scalar n3 t13_3) fun t14_4 =>
      oa (binV .add .scalar i4 (.int .u64 1)) fun t8_5 =>
      milestonelaw5_many_l1 T k j0 s0 t14_4 t8_5 h
      )
      (
      some (n3, h)
      ) := loopEq (by kernel_rfl)
theorem milestonelaw5_many_eq (T : Tab) (k : Nat) (s0 : AV) (h : Heap) : runF T k milestonelaw5_many_mf [s0] h =
    milestonelaw5_many_l1 T k k s0 (.int .i64 0) (.int .u64 0) h := runEq (by kernel_rfl)
noncomputable def milestonelaw5_wider_c1 : MCode := .seq [21] (.seq [17, 18, 19, 20] (.region [⟨some 17, .op (.mv (.tmp 6)), none⟩,
  ⟨some 18, .op (.fieldAddr 4 (.tmp 2)), none⟩,
  ⟨some 19, .op (.load none (.tmp 18)), none⟩,
  ⟨some 20, .op (.lenSl (.tmp 19)), none⟩,
  ⟨some 21, .op (.bin .lss .scalar (.tmp 17) (.tmp 20)), none⟩]) (.cond (.tmp 21) .skip (.exit 0))) (.seq [24, 25, 26, 27, 28, 29, 30, 31, 32, 33, 34, 35] (.block 1 (.regionD 37 [⟨0, ⟨some 37, .op (.fieldAddr 4 (.tmp 5)), none⟩, []⟩,
  ⟨1, ⟨some 38, .op (.load none (.tmp 37)), none⟩, []⟩,
  ⟨2, ⟨some 39, .op (.fieldAddr 4 (.tmp 2)), none⟩, []⟩,
  ⟨3, ⟨some 40, .op (.load none (.tmp 39)), none⟩, []⟩,
  ⟨4, ⟨some 41, .op (.mv (.tmp 6)), none⟩, []⟩,
  ⟨5, ⟨some 42, .op (.idxSl 5 (.tmp 40) (.tmp 41)), none⟩, []⟩,
  ⟨6, ⟨some 43, .op (.load (some 5) (.tmp 42)), none⟩, []⟩,
  ⟨7, ⟨some 44, .op (.mv (.tmp 1)), none⟩, []⟩,
  ⟨8, ⟨some 45, .call f_milestonelaw5_wider [(.tmp 43), (.tmp 44)], none⟩, [(38, ⟨some 38, .op (.load none (.tmp 37)), none⟩)]⟩,
  ⟨9, ⟨some 46, .op (.buildSlice 5 1 [.int .i64 0, .int .i64 0, .int .i64 0, .int .i64 0, .nils] [(0, 5, (.tmp 45))]), none⟩, []⟩,
  ⟨10, ⟨some 47, .op (.append 5 56 (.tmp 38) (.tmp 46)), none⟩, []⟩,
  ⟨11, ⟨some 48, .op (.fieldAddr 4 (.tmp 5)), none⟩, []⟩,
  ⟨12, ⟨some 49, .op (.store 1 (.tmp 48) (.tmp 47)), none⟩, []⟩] [(24, 37), (25, 38), (26, 39), (27, 40), (28, 41), (29, 42), (30, 43), (31, 44), (32, 45), (33, 46), (34, 47), (35, 48)])) (.region [⟨some 22, .op (.mv (.tmp 6)), none⟩,
  ⟨some 23, .op (.bin .add .scalar (.tmp 22) (.const (.int .i64 1))), none⟩,
  ⟨some 6, .op (.mv (.tmp 23)), none⟩]))
noncomputable def milestonelaw5_wider_c2 : MCode := .seq [1, 2, 6, 21] (.seq [] (.region [⟨some 6, .op (.mv (.const (.int .i64 0))), none⟩]) (.block 0 (.loop [22, 23] milestonelaw5_wider_c1))) (.seq [5, 36] (.region [⟨some 36, .op (.load (some 5) (.tmp 5)), none⟩,
  ⟨none, .op (.store 5 (.tmp 4) (.tmp 36)), none⟩]) .ret)
def milestonelaw5_wider_rs : Res := [(4, some (some 5))]
noncomputable def milestonelaw5_wider_mf : MFn := ⟨37, milestonelaw5_wider_rs, .seq [0] (.region [⟨some 2, .op (.box (.tmp 0)), none⟩,
  ⟨some 4, .op (.alloc [.int .i64 0, .int .i64 0, .int .i64 0, .int .i64 0, .nils]), none⟩]) (.seq [7] (.region [⟨some 7, .op (.load (some 5) (.tmp 2)), none⟩,
  ⟨some 5, .op (.alloc [.int .i64 0, .int .i64 0, .int .i64 0, .int .i64 0, .nils]), none⟩,
  ⟨none, .op (.store 5 (.tmp 5) (.tmp 7)), none⟩]) (.seq [8] (.region [⟨some 8, .op (.fieldAddr 4 (.tmp 5)), none⟩,
  ⟨none, .op (.store 1 (.tmp 8) (.const .nils)), none⟩]) (.seq [11, 12, 13, 14, 15, 16] (.seq [9, 10] (.region [⟨some 9, .op (.fieldAddr 0 (.tmp 2)), none⟩,
  ⟨some 10, .op (.load none (.tmp 9)), none⟩,
  ⟨some 11, .op (.bin .eql .scalar (.tmp 10) (.const (.int .i64 1))), none⟩]) (.cond (.tmp 11) (.region [⟨some 12, .op (.fieldAddr 1 (.tmp 2)), none⟩,
  ⟨some 13, .op (.load none (.tmp 12)), none⟩,
  ⟨some 14, .op (.mv (.tmp 1)), none⟩,
  ⟨some 15, .op (.bin .or .scalar (.tmp 13) (.tmp 14)), none⟩,
  ⟨some 16, .op (.fieldAddr 1 (.tmp 5)), none⟩,
  ⟨none, .op (.store 1 (.tmp 16) (.tmp 15)), none⟩]) .skip)) (.lab milestonelaw5_wider_c2))))⟩
noncomputable def milestonelaw5_wider_b1 (T : Tab) (k : Nat) (more1 n2 t4 out5 : AV) (h : Heap) : Option (AV × Heap) :=
  evB T k milestonelaw5_wider_rs milestonelaw5_wider_c2 [] [.undef, more1, n2, .undef, t4, out5, .undef, .undef, .undef, .undef, .undef, .undef, .undef, .undef, .undef, .undef, .undef, .undef, .undef, .undef, .undef, .undef, .undef, .undef, .undef, .undef, .undef, .undef, .undef, .undef, .undef, .undef, .undef, .undef, .undef, .undef, .undef] h
noncomputable def milestonelaw5_wider_l2 (T : Tab) (k j0 : Nat) (more1 n2 t4 out5 i6 : AV) (h : Heap) : Option (AV × Heap) :=
  loopB T k milestonelaw5_wider_rs j0 [22, 23] milestonelaw5_wider_c1 [.blk 0, .seq [1, 2, 6, 21] (.seq [5, 36] (.region [⟨some 36, .op (.load (some 5) (.tmp 5)), none⟩,
  ⟨none, .op (.store 5 (.tmp 4) (.tmp 36)), none⟩]) .ret)] [.undef, more1, n2, .undef, t4, out5, i6, .undef, .undef, .undef, .undef, .undef, .undef, .undef, .undef, .undef, .undef, .undef, .undef, .undef, .undef, .undef, .undef, .undef, .undef, .undef, .undef, .undef, .undef, .undef, .undef, .undef, .undef, .undef, .undef, .undef, .undef] h
theorem milestonelaw5_wider_l2_eq (T : Tab) (k j0 : Nat) (more1 n2 t4 out5 i6 : AV) (h : Heap) : milestonelaw5_wider_l2 T k (j0 + 1) more1 n2 t4 out5 i6 h =
    oa (fldA 4 n2) fun t18_1 =>
    oa (ld1 h t18_1) fun t19_2 =>
    oa (lenS t19_2) fun t20_3 =>
    oa (binV .lss .scalar i6 t20_3) fun t21_4 =>
    cond2 t21_4
      (
      oa (fldA 4 out5) fun t37_5 =>
      oa (ld1 h t37_5) fun t38_6 =>
      oa (fldA 4 n2) fun t39_7 =>
      oa (ld1 h t39_7) fun t40_8 =>
      oa (idxS 5 t40_8 i6) fun t42_9 =>
      oa (ldN 5 h t42_9) fun t43_10 =>
      ob (evalFn T k f_milestonelaw5_wider [t43_10, more1] h) fun t45_11 h_12 =>
      chk ((sameB (pure1 h_12 (ld1 h_12 t37_5)) t38_6 && true)) <|
      ob (buildSl 5 1 [.int .i64 0, .int .i64 0, .int .i64 0, .int .i64 0, .nils] [(0, 5, t45_11)] h_12) fun t46_13 h_14 =>
      ob (apnd 5 56 t38_6 t46_13 h_14) fun t47_15 h_16 =>
      oa (fldA 4 out5) fun t48_17 =>
      oh (stN 1 h_16 t48_17 t47_15) fun h_18 =>
      oa (binV .add .scalar i6 (.int .i64 1)) fun t23_19 =>
      milestonelaw5_wider_l2 T k j0 more1 n2 t4 out5 t23_19 h_18
      )
      (
      oa (ldN 5 h out5) fun t36_20 =>
      oh (stN 5 h t4 t36_20) fun h_21 =>
      oa (ldN 5 h_21 t4) fun t4_22 =>
      some (t4_22, h_21)
      ) := loopEq (by kernel_rfl)
theorem milestonelaw5_wider_b1_eq (T : Tab) (k : Nat) (more1 n2 t4 out5 : AV) (h : Heap) : milestonelaw5_wider_b1 T k more1 n2 t4 out5 h =
    milestonelaw5_wider_l2 T k k more1 n2 t4 out5 (.int .i64 0) h := blockEq (by kernel_rfl)
theorem milestonelaw5_wider_eq (T : Tab) (k : Nat) (n0 more1 : AV) (h : Heap) : runF T k milestonelaw5_wider_mf [n0, more1] h =
    ob (newVar h (AV.cells n0)) fun n2_1 h_2 =>
    ob (newVar h_2 [.int .i64 0, .int .i64 0, .int .i64 0, .int .i64 0, .nils]) fun t4_3 h_4 =>
    oa (ldN 5 h_4 n2_1) fun t7_5 =>
    ob (newVar h_4 [.int .i64 0, .int .i64 0, .int .i64 0, .int .i64 0, .nils]) fun out5_6 h_7 =>
    oh (stN 5 h_7 out5_6 t7_5) fun h_8 =>
    oa (fldA 4 out5_6) fun t8_9 =>
    oh (stN 1 h_8 t8_9 .nils) fun h_10 =>
    oa (fldA 0 n2_1) fun t9_11 =>
    oa (ld1 h_10 t9_11) fun t10_12 =>
    oa (binV .eql .scalar t10_12 (.int .i64 1)) fun t11_13 =>
    cond2 t11_13
      (
      oa (fldA 1 n2_1) fun t12_14 =>
      oa (ld1 h_10 t12_14) fun t13_15 =>
      oa (binV .or .scalar t13_15 more1) fun t15_16 =>
      oa (fldA 1 out5_6) fun t16_17 =>
      oh (stN 1 h_10 t16_17 t15_16) fun h_18 =>
      milestonelaw5_wider_b1 T k more1 n2_1 t4_3 out5_6 h_18
      )
      (
      milestonelaw5_wider_b1 T k more1 n2_1 t4_3 out5_6 h_10
      ) := runEq (by kernel_rfl)
noncomputable def milestonelaw4_size_c1 : MCode := .seq [16] (.seq [9, 10, 11, 12, 13, 14, 15] (.region [⟨some 9, .op (.mv (.tmp 6)), none⟩,
  ⟨some 10, .op (.mv (.tmp 0)), none⟩,
  ⟨some 11, .op (.lenSl (.tmp 10)), none⟩,
  ⟨some 12, .op (.bin .lss .scalar (.tmp 9) (.tmp 11)), none⟩,
  ⟨some 13, .op (.mv (.tmp 12)), none⟩,
  ⟨some 14, .op (.mv (.tmp 5)), some (13, true)⟩,
  ⟨some 15, .op (.bin .leq .scalar (.tmp 14) (.const (.int .i64 14))), some (13, true)⟩,
  ⟨some 16, .op (.pick (.tmp 13) (.tmp 15) (.const (.bool false))), none⟩]) (.cond (.tmp 16) .skip (.exit 0))) (.seq [19, 20, 21, 22, 23, 24, 25, 26, 27, 28, 29] (.block 1 (.region [⟨some 19, .op (.mv (.tmp 5)), none⟩,
  ⟨some 20, .op (.bin .add .scalar (.tmp 19) (.const (.int .i64 1))), none⟩,
  ⟨some 21, .op (.mv (.tmp 0)), none⟩,
  ⟨some 22, .op (.mv (.tmp 6)), none⟩,
  ⟨some 23, .op (.idxSl 3 (.tmp 21) (.tmp 22)), none⟩,
  ⟨some 24, .op (.fieldAddr 2 (.tmp 23)), none⟩,
  ⟨some 25, .op (.load none (.tmp 24)), none⟩,
  ⟨some 26, .op (.mv (.tmp 1)), none⟩,
  ⟨some 27, .op (.bin .add .scalar (.tmp 26) (.const (.int .i64 1))), none⟩,
  ⟨some 28, .call f_milestonelaw4_size [(.tmp 25), (.tmp 27)], none⟩,
  ⟨some 29, .op (.bin .add .scalar (.tmp 20) (.tmp 28)), none⟩,
  ⟨some 5, .op (.mv (.tmp 29)), none⟩])) (.region [⟨some 17, .op (.mv (.tmp 6)), none⟩,
  ⟨some 18, .op (.bin .add .scalar (.tmp 17) (.const (.int .i64 1))), none⟩,
  ⟨some 6, .op (.mv (.tmp 18)), none⟩]))
def milestonelaw4_size_rs : Res := [(4, none)]
noncomputable def milestonelaw4_size_mf : MFn := ⟨31, milestonelaw4_size_rs, .seq [4] (.region [⟨some 4, .op (.mv (.const (.int .i64 0))), none⟩]) (.seq [8] (.seq [7] (.region [⟨some 7, .op (.mv (.tmp 1)), none⟩,
  ⟨some 8, .op (.bin .gtr .scalar (.tmp 7) (.const (.int .i64 6))), none⟩]) (.cond (.tmp 8) (.seq [0, 1, 8] (.region [⟨some 4, .op (.mv (.const (.int .i64 1000))), none⟩]) .ret) .skip)) (.seq [] (.region [⟨some 5, .op (.mv (.const (.int .i64 0))), none⟩]) (.seq [0, 1, 6, 16] (.seq [] (.region [⟨some 6, .op (.mv (.const (.int .i64 0))), none⟩]) (.block 0 (.loop [17, 18] milestonelaw4_size_c1))) (.seq [5, 30] (.region [⟨some 30, .op (.mv (.tmp 5)), none⟩,
  ⟨some 4, .op (.mv (.tmp 30)), none⟩]) .ret))))⟩
noncomputable def milestonelaw4_size_l1 (T : Tab) (k j0 : Nat) (l0 deep1 n5 i6 : AV) (h : Heap) : Option (AV × Heap) :=
  loopB T k milestonelaw4_size_rs j0 [17, 18] milestonelaw4_size_c1 [.blk 0, .seq [0, 1, 6, 16] (.seq [5, 30] (.region [⟨some 30, .op (.mv (.tmp 5)), none⟩,
  ⟨some 4, .op (.mv (.tmp 30)), none⟩]) .ret)] [l0, deep1, .undef, .undef, .undef, n5, i6, .undef, .undef, .undef, .undef, .undef, .undef, .undef, .undef, .undef, .undef, .undef, .undef, .undef, .undef, .undef, .undef, .undef, .undef, .undef, .undef, .undef, .undef, .undef, .undef] h
theorem milestonelaw4_size_l1_eq (T : Tab) (k j0 : Nat) (l0 deep1 n5 i6 : AV) (h : Heap) : milestonelaw4_size_l1 T k (j0 + 1) l0 deep1 n5 i6 h =
    oa (lenS l0) fun t11_1 =>
    oa (binV .lss .scalar i6 t11_1) fun t12_2 =>
    ob (gd t12_2 true (some (n5, h)) h) fun t14_3 h_4 =>
    ob (gd t12_2 true (pure1 h_4 (binV .leq .scalar t14_3 (.int .i64 14))) h_4) fun t15_5 h_6 =>
    oa (pickV t12_2 t15_5 (.bool false)) fun t16_7 =>
    cond2 t16_7
      (
      oa (binV .add .scalar n5 (.int .i64 1)) fun t20_8 =>
      oa (idxS 3 l0 i6) fun t23_9 =>
      oa (fldA 2 t23_9) fun t24_10 =>
      oa (ld1 h_6 t24_10) fun t25_11 =>
      oa (binV .add .scalar deep1 (.int .i64 1)) fun t27_12 =>
      ob (evalFn T k f_milestonelaw4_size [t25_11, t27_12] h_6) fun t28_13 h_14 =>
      oa (binV .add .scalar t20_8 t28_13) fun t29_15 =>
      oa (binV .add .scalar i6 (.int .i64 1)) fun t18_16 =>
      milestonelaw4_size_l1 T k j0 l0 deep1 t29_15 t18_16 h_14
      )
      (
      some (n5, h_6)
      ) := loopEq (by kernel_rfl)
theorem milestonelaw4_size_eq (T : Tab) (k : Nat) (l0 deep1 : AV) (h : Heap) : runF T k milestonelaw4_size_mf [l0, deep1] h =
    oa (binV .gtr .scalar deep1 (.int .i64 6)) fun t8_1 =>
    cond2 t8_1
      (
      some ((.int .i64 1000), h)
      )
      (
      milestonelaw4_size_l1 T k k l0 deep1 (.int .i64 0) (.int .i64 0) h
      ) := runEq (by kernel_rfl)
noncomputable def milestonelaw4_Raw_Make_c1 : MCode := .seq [54] (.seq [42, 43, 44, 45, 46, 47, 48, 49, 50, 51, 52, 53] (.region [⟨some 42, .op (.mv (.tmp 4)), none⟩,
  ⟨some 43, .op (.bin .lss .scalar (.tmp 42) (.const (.int .i64 2))), none⟩,
  ⟨some 44, .op (.mv (.tmp 43)), none⟩,
  ⟨some 45, .op (.mv (.tmp 4)), some (44, false)⟩,
  ⟨some 46, .op (.fieldAddr 2 (.tmp 1)), some (44, false)⟩,
  ⟨some 47, .op (.load none (.tmp 46)), some (44, false)⟩,
  ⟨some 48, .op (.lenSl (.tmp 47)), some (44, false)⟩,
  ⟨some 49, .op (.bin .lss .scalar (.tmp 45) (.tmp 48)), some (44, false)⟩,
  ⟨some 50, .op (.mv (.tmp 49)), some (44, false)⟩,
  ⟨some 51, .op (.mv (.tmp 4)), some (50, true)⟩,
  ⟨some 52, .op (.bin .lss .scalar (.tmp 51) (.const (.int .i64 4))), some (50, true)⟩,
  ⟨some 53, .op (.pick (.tmp 50) (.tmp 52) (.const (.bool false))), some (44, false)⟩,
  ⟨some 54, .op (.pick (.tmp 44) (.const (.bool true)) (.tmp 53)), none⟩]) (.cond (.tmp 54) .skip (.exit 1))) (.seq [57, 58, 59, 60, 61, 62, 63, 64] (.block 2 (.regionD 126 [⟨0, ⟨some 126, .op (.fieldAddr 4 (.tmp 3)), none⟩, []⟩,
  ⟨1, ⟨some 127, .op (.load none (.tmp 126)), none⟩, []⟩,
  ⟨2, ⟨some 128, .op (.load (some 3) (.tmp 1)), none⟩, []⟩,
  ⟨3, ⟨some 129, .op (.mv (.tmp 4)), none⟩, []⟩,
  ⟨4, ⟨some 130, .call f_milestonelaw4_Raw_part [(.tmp 128), (.tmp 129)], none⟩, [(127, ⟨some 127, .op (.load none (.tmp 126)), none⟩)]⟩,
  ⟨5, ⟨some 131, .op (.buildSlice 5 1 [.int .i64 0, .int .i64 0, .int .i64 0, .int .i64 0, .nils] [(0, 5, (.tmp 130))]), none⟩, []⟩,
  ⟨6, ⟨some 132, .op (.append 5 56 (.tmp 127) (.tmp 131)), none⟩, []⟩,
  ⟨7, ⟨some 133, .op (.fieldAddr 4 (.tmp 3)), none⟩, []⟩,
  ⟨8, ⟨some 134, .op (.store 1 (.tmp 133) (.tmp 132)), none⟩, []⟩] [(57, 126), (58, 127), (59, 128), (60, 129), (61, 130), (62, 131), (63, 132), (64, 133)])) (.region [⟨some 55, .op (.mv (.tmp 4)), none⟩,
  ⟨some 56, .op (.bin .add .scalar (.tmp 55) (.const (.int .i64 1))), none⟩,
  ⟨some 4, .op (.mv (.tmp 56)), none⟩]))
noncomputable def milestonelaw4_Raw_Make_c2 : MCode := .seq [82] (.seq [70, 71, 72, 73, 74, 75, 76, 77, 78, 79, 80, 81] (.region [⟨some 70, .op (.mv (.tmp 6)), none⟩,
  ⟨some 71, .op (.bin .lss .scalar (.tmp 70) (.const (.int .i64 2))), none⟩,
  ⟨some 72, .op (.mv (.tmp 71)), none⟩,
  ⟨some 73, .op (.mv (.tmp 6)), some (72, false)⟩,
  ⟨some 74, .op (.fieldAddr 2 (.tmp 1)), some (72, false)⟩,
  ⟨some 75, .op (.load none (.tmp 74)), some (72, false)⟩,
  ⟨some 76, .op (.lenSl (.tmp 75)), some (72, false)⟩,
  ⟨some 77, .op (.bin .lss .scalar (.tmp 73) (.tmp 76)), some (72, false)⟩,
  ⟨some 78, .op (.mv (.tmp 77)), some (72, false)⟩,
  ⟨some 79, .op (.mv (.tmp 6)), some (78, true)⟩,
  ⟨some 80, .op (.bin .lss .scalar (.tmp 79) (.const (.int .i64 4))), some (78, true)⟩,
  ⟨some 81, .op (.pick (.tmp 78) (.tmp 80) (.const (.bool false))), some (72, false)⟩,
  ⟨some 82, .op (.pick (.tmp 72) (.const (.bool true)) (.tmp 81)), none⟩]) (.cond (.tmp 82) .skip (.exit 3))) (.seq [85, 86, 87, 88, 89, 90, 91, 92] (.block 4 (.regionD 126 [⟨0, ⟨some 126, .op (.fieldAddr 4 (.tmp 5)), none⟩, []⟩,
  ⟨1, ⟨some 127, .op (.load none (.tmp 126)), none⟩, []⟩,
  ⟨2, ⟨some 128, .op (.load (some 3) (.tmp 1)), none⟩, []⟩,
  ⟨3, ⟨some 129, .op (.mv (.tmp 6)), none⟩, []⟩,
  ⟨4, ⟨some 130, .call f_milestonelaw4_Raw_part [(.tmp 128), (.tmp 129)], none⟩, [(127, ⟨some 127, .op (.load none (.tmp 126)), none⟩)]⟩,
  ⟨5, ⟨some 131, .op (.buildSlice 5 1 [.int .i64 0, .int .i64 0, .int .i64 0, .int .i64 0, .nils] [(0, 5, (.tmp 130))]), none⟩, []⟩,
  ⟨6, ⟨some 132, .op (.append 5 56 (.tmp 127) (.tmp 131)), none⟩, []⟩,
  ⟨7, ⟨some 133, .op (.fieldAddr 4 (.tmp 5)), none⟩, []⟩,
  ⟨8, ⟨some 134, .op (.store 1 (.tmp 133) (.tmp 132)), none⟩, []⟩] [(85, 126), (86, 127), (87, 128), (88, 129), (89, 130), (90, 131), (91, 132), (92, 133)])) (.region [⟨some 83, .op (.mv (.tmp 6)), none⟩,
  ⟨some 84, .op (.bin .add .scalar (.tmp 83) (.const (.int .i64 1))), none⟩,
  ⟨some 6, .op (.mv (.tmp 84)), none⟩]))
noncomputable def milestonelaw4_Raw_Make_c3 : MCode := .cond (.tmp 66) (.seq [10, 66, 69] (.region [⟨some 69, .op (.build [.int .i64 0, .int .i64 0, .int .i64 0, .int .i64 0, .nils] [(0, 1, (.const (.int .i64 5)))]), none⟩,
  ⟨some 5, .op (.alloc [.int .i64 0, .int .i64 0, .int .i64 0, .int .i64 0, .nils]), none⟩,
  ⟨none, .op (.store 5 (.tmp 5) (.tmp 69)), none⟩]) (.seq [1, 6, 82] (.seq [] (.region [⟨some 6, .op (.mv (.const (.int .i64 0))), none⟩]) (.block 3 (.loop [83, 84] milestonelaw4_Raw_Make_c2))) (.seq [5, 93] (.region [⟨some 93, .op (.load (some 5) (.tmp 5)), none⟩,
  ⟨none, .op (.store 5 (.tmp 2) (.tmp 93)), none⟩]) .ret))) (.seq [66, 95] (.region [⟨some 95, .op (.bin .eql .scalar (.tmp 10) (.const (.int .i64 10))), none⟩,
  ⟨some 94, .op (.mv (.tmp 95)), none⟩]) (.cond (.tmp 94) (.seq [1, 10, 94, 96, 97, 98, 99] (.region [⟨some 96, .op (.load (some 3) (.tmp 1)), none⟩,
  ⟨some 97, .call f_milestonelaw4_Raw_part [(.tmp 96), (.const (.int .i64 0))], none⟩,
  ⟨some 98, .op (.buildSlice 5 1 [.int .i64 0, .int .i64 0, .int .i64 0, .int .i64 0, .nils] [(0, 5, (.tmp 97))]), none⟩,
  ⟨some 99, .op (.build [.int .i64 0, .int .i64 0, .int .i64 0, .int .i64 0, .nils] [(0, 1, (.const (.int .i64 6))), (4, 1, (.tmp 98))]), none⟩,
  ⟨none, .op (.store 5 (.tmp 2) (.tmp 99)), none⟩]) .ret) (.seq [94, 101] (.region [⟨some 101, .op (.bin .eql .scalar (.tmp 10) (.const (.int .i64 11))), none⟩,
  ⟨some 100, .op (.mv (.tmp 101)), none⟩]) (.cond (.tmp 100) (.seq [1, 10, 100, 102, 103, 104, 105] (.region [⟨some 102, .op (.load (some 3) (.tmp 1)), none⟩,
  ⟨some 103, .call f_milestonelaw4_Raw_part [(.tmp 102), (.const (.int .i64 0))], none⟩,
  ⟨some 104, .op (.buildSlice 5 1 [.int .i64 0, .int .i64 0, .int .i64 0, .int .i64 0, .nils] [(0, 5, (.tmp 103))]), none⟩,
  ⟨some 105, .op (.build [.int .i64 0, .int .i64 0, .int .i64 0, .int .i64 0, .nils] [(0, 1, (.const (.int .i64 7))), (4, 1, (.tmp 104))]), none⟩,
  ⟨none, .op (.store 5 (.tmp 2) (.tmp 105)), none⟩]) .ret) (.seq [10, 100, 107] (.region [⟨some 107, .op (.bin .eql .scalar (.tmp 10) (.const (.int .i64 12))), none⟩,
  ⟨some 106, .op (.mv (.tmp 107)), none⟩]) (.cond (.tmp 106) (.seq [1, 106, 108, 109, 110, 111] (.region [⟨some 108, .op (.load (some 3) (.tmp 1)), none⟩,
  ⟨some 109, .call f_milestonelaw4_Raw_part [(.tmp 108), (.const (.int .i64 0))], none⟩,
  ⟨some 110, .op (.buildSlice 5 1 [.int .i64 0, .int .i64 0, .int .i64 0, .int .i64 0, .nils] [(0, 5, (.tmp 109))]), none⟩,
  ⟨some 111, .op (.build [.int .i64 0, .int .i64 0, .int .i64 0, .int .i64 0, .nils] [(0, 1, (.const (.int .i64 8))), (4, 1, (.tmp 110))]), none⟩,
  ⟨none, .op (.store 5 (.tmp 2) (.tmp 111)), none⟩]) .ret) .skip))))))
noncomputable def milestonelaw4_Raw_Make_c4 : MCode := .cond (.tmp 37) (.seq [10, 37, 41] (.region [⟨some 41, .op (.build [.int .i64 0, .int .i64 0, .int .i64 0, .int .i64 0, .nils] [(0, 1, (.const (.int .i64 4)))]), none⟩,
  ⟨some 3, .op (.alloc [.int .i64 0, .int .i64 0, .int .i64 0, .int .i64 0, .nils]), none⟩,
  ⟨none, .op (.store 5 (.tmp 3) (.tmp 41)), none⟩]) (.seq [1, 4, 54] (.seq [] (.region [⟨some 4, .op (.mv (.const (.int .i64 0))), none⟩]) (.block 1 (.loop [55, 56] milestonelaw4_Raw_Make_c1))) (.seq [3, 65] (.region [⟨some 65, .op (.load (some 5) (.tmp 3)), none⟩,
  ⟨none, .op (.store 5 (.tmp 2) (.tmp 65)), none⟩]) .ret))) (.seq [68] (.seq [37, 67] (.region [⟨some 67, .op (.bin .eql .scalar (.tmp 10) (.const (.int .i64 8))), none⟩,
  ⟨some 66, .op (.mv (.tmp 67)), none⟩]) (.cond (.tmp 66) .skip (.region [⟨some 68, .op (.bin .eql .scalar (.tmp 10) (.const (.int .i64 9))), none⟩,
  ⟨some 66, .op (.mv (.tmp 68)), none⟩]))) (.lab milestonelaw4_Raw_Make_c3))
noncomputable def milestonelaw4_Raw_Make_c5 : MCode := .cond (.tmp 19) (.seq [1, 10, 19, 22, 23, 24, 25, 26, 27] (.region [⟨some 22, .op (.fieldAddr 1 (.tmp 1)), none⟩,
  ⟨some 23, .op (.load none (.tmp 22)), none⟩,
  ⟨some 24, .call f_milestonelaw4_within [(.tmp 23), (.const (.int .i64 5))], none⟩,
  ⟨some 25, .op (.convI .u64 (.tmp 24)), none⟩,
  ⟨some 26, .op (.bin .shl .scalar (.const (.int .i64 1)) (.tmp 25)), none⟩,
  ⟨some 27, .op (.build [.int .i64 0, .int .i64 0, .int .i64 0, .int .i64 0, .nils] [(0, 1, (.const (.int .i64 1))), (1, 1, (.tmp 26))]), none⟩,
  ⟨none, .op (.store 5 (.tmp 2) (.tmp 27)), none⟩]) .ret) (.seq [19, 29] (.region [⟨some 29, .op (.bin .eql .scalar (.tmp 10) (.const (.int .i64 4))), none⟩,
  ⟨some 28, .op (.mv (.tmp 29)), none⟩]) (.cond (.tmp 28) (.seq [1, 10, 28, 30, 31, 32, 33, 34, 35, 36] (.region [⟨some 30, .op (.buildSlice 1 3 [.int .i64 0, .int .i64 0, .int .i64 0] [(0, 1, (.const (.int .i64 2))), (1, 1, (.const (.int .i64 3))), (2, 1, (.const (.int .i64 3)))]), none⟩,
  ⟨some 31, .op (.fieldAddr 1 (.tmp 1)), none⟩,
  ⟨some 32, .op (.load none (.tmp 31)), none⟩,
  ⟨some 33, .call f_milestonelaw4_within [(.tmp 32), (.const (.int .i64 3))], none⟩,
  ⟨some 34, .op (.idxSl 1 (.tmp 30) (.tmp 33)), none⟩,
  ⟨some 35, .op (.load none (.tmp 34)), none⟩,
  ⟨some 36, .op (.build [.int .i64 0, .int .i64 0, .int .i64 0, .int .i64 0, .nils] [(0, 1, (.tmp 35))]), none⟩,
  ⟨none, .op (.store 5 (.tmp 2) (.tmp 36)), none⟩]) .ret) (.seq [40] (.seq [28, 38] (.region [⟨some 38, .op (.bin .eql .scalar (.tmp 10) (.const (.int .i64 5))), none⟩,
  ⟨some 37, .op (.mv (.tmp 38)), none⟩]) (.cond (.tmp 37) .skip (.seq [39] (.region [⟨some 39, .op (.bin .eql .scalar (.tmp 10) (.const (.int .i64 6))), none⟩,
  ⟨some 37, .op (.mv (.tmp 39)), none⟩]) (.cond (.tmp 37) .skip (.region [⟨some 40, .op (.bin .eql .scalar (.tmp 10) (.const (.int .i64 7))), none⟩,
  ⟨some 37, .op (.mv (.tmp 40)), none⟩]))))) (.lab milestonelaw4_Raw_Make_c4))))
noncomputable def milestonelaw4_Raw_Make_c6 : MCode := .cond (.tmp 11) (.seq [1, 10, 11, 14, 15, 16, 17, 18] (.region [⟨some 14, .op (.fieldAddr 1 (.tmp 1)), none⟩,
  ⟨some 15, .op (.load none (.tmp 14)), none⟩,
  ⟨some 16, .call f_milestonelaw4_within [(.tmp 15), (.const (.int .i64 31))], none⟩,
  ⟨some 17, .op (.bin .add .scalar (.const (.int .i64 1)) (.tmp 16)), none⟩,
  ⟨some 18, .op (.build [.int .i64 0, .int .i64 0, .int .i64 0, .int .i64 0, .nils] [(0, 1, (.const (.int .i64 1))), (1, 1, (.tmp 17))]), none⟩,
  ⟨none, .op (.store 5 (.tmp 2) (.tmp 18)), none⟩]) .ret) (.seq [21] (.seq [11, 20] (.region [⟨some 20, .op (.bin .eql .scalar (.tmp 10) (.const (.int .i64 2))), none⟩,
  ⟨some 19, .op (.mv (.tmp 20)), none⟩]) (.cond (.tmp 19) .skip (.region [⟨some 21, .op (.bin .eql .scalar (.tmp 10) (.const (.int .i64 3))), none⟩,
  ⟨some 19, .op (.mv (.tmp 21)), none⟩]))) (.lab milestonelaw4_Raw_Make_c5))
noncomputable def milestonelaw4_Raw_Make_c7 : MCode := .seq [112, 113, 114] (.region [⟨some 112, .op (.fieldAddr 1 (.tmp 1)), none⟩,
  ⟨some 113, .op (.load none (.tmp 112)), none⟩,
  ⟨some 114, .call f_milestonelaw4_within [(.tmp 113), (.const (.int .i64 4))], none⟩,
  ⟨some 7, .op (.mv (.tmp 114)), none⟩]) (.seq [1, 7, 115, 116, 117, 118, 119, 120, 121, 122, 123, 124, 125] (.regionD 126 [⟨0, ⟨some 126, .op (.mv (.tmp 7)), none⟩, []⟩,
  ⟨1, ⟨some 127, .op (.mv (.tmp 7)), none⟩, []⟩,
  ⟨2, ⟨some 128, .op (.fieldAddr 1 (.tmp 1)), none⟩, []⟩,
  ⟨3, ⟨some 129, .op (.load none (.tmp 128)), none⟩, []⟩,
  ⟨4, ⟨some 130, .op (.bin .quo .scalar (.tmp 129) (.const (.int .i64 4))), none⟩, []⟩,
  ⟨7, ⟨some 133, .op (.load (some 3) (.tmp 1)), none⟩, []⟩,
  ⟨5, ⟨some 131, .call f_milestonelaw4_within [(.tmp 130), (.const (.int .i64 3))], none⟩, [(133, ⟨some 133, .op (.load (some 3) (.tmp 1)), none⟩)]⟩,
  ⟨6, ⟨some 132, .op (.bin .add .scalar (.tmp 127) (.tmp 131)), none⟩, []⟩,
  ⟨8, ⟨some 134, .call f_milestonelaw4_Raw_part [(.tmp 133), (.const (.int .i64 0))], none⟩, []⟩,
  ⟨9, ⟨some 135, .op (.buildSlice 5 1 [.int .i64 0, .int .i64 0, .int .i64 0, .int .i64 0, .nils] [(0, 5, (.tmp 134))]), none⟩, []⟩,
  ⟨10, ⟨some 136, .op (.build [.int .i64 0, .int .i64 0, .int .i64 0, .int .i64 0, .nils] [(0, 1, (.const (.int .i64 9))), (2, 1, (.tmp 126)), (3, 1, (.tmp 132)), (4, 1, (.tmp 135))]), none⟩, []⟩,
  ⟨11, ⟨some 137, .op (.store 5 (.tmp 2) (.tmp 136)), none⟩, []⟩] [(115, 126), (116, 127), (117, 128), (118, 129), (119, 130), (120, 131), (121, 132), (122, 133), (123, 134), (124, 135), (125, 136)]) .ret)
def milestonelaw4_Raw_Make_rs : Res := [(2, some (some 5))]
noncomputable def milestonelaw4_Raw_Make_mf : MFn := ⟨126, milestonelaw4_Raw_Make_rs, .seq [0] (.region [⟨some 1, .op (.box (.tmp 0)), none⟩,
  ⟨some 2, .op (.alloc [.int .i64 0, .int .i64 0, .int .i64 0, .int .i64 0, .nils]), none⟩]) (.seq [106] (.seq [8, 9] (.region [⟨some 8, .op (.fieldAddr 0 (.tmp 1)), none⟩,
  ⟨some 9, .op (.load none (.tmp 8)), none⟩,
  ⟨some 10, .call f_milestonelaw4_within [(.tmp 9), (.const (.int .i64 14))], none⟩]) (.block 0 (.seq [13] (.seq [12] (.region [⟨some 12, .op (.bin .eql .scalar (.tmp 10) (.const (.int .i64 0))), none⟩,
  ⟨some 11, .op (.mv (.tmp 12)), none⟩]) (.cond (.tmp 11) .skip (.region [⟨some 13, .op (.bin .eql .scalar (.tmp 10) (.const (.int .i64 1))), none⟩,
  ⟨some 11, .op (.mv (.tmp 13)), none⟩]))) (.lab milestonelaw4_Raw_Make_c6)))) (.lab milestonelaw4_Raw_Make_c7))⟩
noncomputable def milestonelaw4_Raw_Make_b1 (T : Tab) (k : Nat) (r1 t2 t10 t11 : AV) (h : Heap) : Option (AV × Heap) :=
  evB T k milestonelaw4_Raw_Make_rs milestonelaw4_Raw_Make_c6 [.blk 0, .seq [106] (.lab milestonelaw4_Raw_Make_c7)] [.undef, r1, t2, .undef, .undef, .undef, .undef, .undef, .undef, .undef, t10, t11, .undef, .undef, .undef, .undef, .undef, .undef, .undef, .undef, .undef, .undef, .undef, .undef, .undef, .undef, .undef, .undef, .undef, .undef, .undef, .undef, .undef, .undef, .undef, .undef, .undef, .undef, .undef, .undef, .undef, .undef, .undef, .undef, .undef, .undef, .undef, .undef, .undef, .undef, .undef, .undef, .undef, .undef, .undef, .undef, .undef, .undef, .undef, .undef, .undef, .undef, .undef, .undef, .undef, .undef, .undef, .undef, .undef, .undef, .undef, .undef, .undef, .undef, .undef, .undef, .undef, .undef, .undef, .undef, .undef, .undef, .undef, .undef, .undef, .undef, .undef, .undef, .undef, .undef, .undef, .undef, .undef, .undef, .undef, .undef, .undef, .undef, .undef, .undef, .undef, .undef, .undef, .undef, .undef, .undef, .undef, .undef, .undef, .undef, .undef, .undef, .undef, .undef, .undef, .undef, .undef, .undef, .undef, .undef, .undef, .undef, .undef, .undef, .undef, .undef] h
noncomputable def milestonelaw4_Raw_Make_b2 (T : Tab) (k : Nat) (r1 t2 t10 t19 : AV) (h : Heap) : Option (AV × Heap) :=
  evB T k milestonelaw4_Raw_Make_rs milestonelaw4_Raw_Make_c5 [.blk 0, .seq [106] (.lab milestonelaw4_Raw_Make_c7)] [.undef, r1, t2, .undef, .undef, .undef, .undef, .undef, .undef, .undef, t10, .undef, .undef, .undef, .undef, .undef, .undef, .undef, .undef, t19, .undef, .undef, .undef, .undef, .undef, .undef, .undef, .undef, .undef, .undef, .undef, .undef, .undef, .undef, .undef, .undef, .undef, .undef, .undef, .undef, .undef, .undef, .undef, .undef, .undef, .undef, .undef, .undef, .undef, .undef, .undef, .undef, .undef, .undef, .undef, .undef, .undef, .undef, .undef, .undef, .undef, .undef, .undef, .undef, .undef, .undef, .undef, .undef, .undef, .undef, .undef, .undef, .undef, .undef, .undef, .undef, .undef, .undef, .undef, .undef, .undef, .undef, .undef, .undef, .undef, .undef, .undef, .undef, .undef, .undef, .undef, .undef, .undef, .undef, .undef, .undef, .undef, .undef, .undef, .undef, .undef, .undef, .undef, .undef, .undef, .undef, .undef, .undef, .undef, .undef, .undef, .undef, .undef, .undef, .undef, .undef, .undef, .undef, .undef, .undef, .undef, .undef, .undef, .undef, .undef, .undef] h
noncomputable def milestonelaw4_Raw_Make_b3 (T : Tab) (k : Nat) (r1 t2 t10 t37 : AV) (h : Heap) : Option (AV × Heap) :=
  evB T k milestonelaw4_Raw_Make_rs milestonelaw4_Raw_Make_c4 [.blk 0, .seq [106] (.lab milestonelaw4_Raw_Make_c7)] [.undef, r1, t2, .undef, .undef, .undef, .undef, .undef, .undef, .undef, t10, .undef, .undef, .undef, .undef, .undef, .undef, .undef, .undef, .undef, .undef, .undef, .undef, .undef, .undef, .undef, .undef, .undef, .undef, .undef, .undef, .undef, .undef, .undef, .undef, .undef, .undef, t37, .undef, .undef, .undef, .undef, .undef, .undef, .undef, .undef, .undef, .undef, .undef, .undef, .undef, .undef, .undef, .undef, .undef, .undef, .undef, .undef, .undef, .undef, .undef, .undef, .undef, .undef, .undef, .undef, .undef, .undef, .undef, .undef, .undef, .undef, .undef, .undef, .undef, .undef, .undef, .undef, .undef, .undef, .undef, .undef, .undef, .undef, .undef, .undef, .undef, .undef, .undef, .undef, .undef, .undef, .undef, .undef, .undef, .undef, .undef, .undef, .undef, .undef, .undef, .undef, .undef, .undef, .undef, .undef, .undef, .undef, .undef, .undef, .undef, .undef, .undef, .undef, .undef, .undef, .undef, .undef, .undef, .undef, .undef, .undef, .undef, .undef, .undef, .undef] h
noncomputable def milestonelaw4_Raw_Make_l4 (T : Tab) (k j0 : Nat) (r1 t2 n3 i4 : AV) (h : Heap) : Option (AV × Heap) :=
  loopB T k milestonelaw4_Raw_Make_rs j0 [55, 56] milestonelaw4_Raw_Make_c1 [.blk 1, .seq [1, 4, 54] (.seq [3, 65] (.region [⟨some 65, .op (.load (some 5) (.tmp 3)), none⟩,
  ⟨none, .op (.store 5 (.tmp 2) (.tmp 65)), none⟩]) .ret), .blk 0, .seq [106] (.lab milestonelaw4_Raw_Make_c7)] [.undef, r1, t2, n3, i4, .undef, .undef, .undef, .undef, .undef, .undef, .undef, .undef, .undef, .undef, .undef, .undef, .undef, .undef, .undef, .undef, .undef, .undef, .undef, .undef, .undef, .undef, .undef, .undef, .undef, .undef, .undef, .undef, .undef, .undef, .undef, .undef, .undef, .undef, .undef, .undef, .undef, .undef, .undef, .undef, .undef, .undef, .undef, .undef, .undef, .undef, .undef, .undef, .undef, .undef, .undef, .undef, .undef, .undef, .undef, .undef, .undef, .undef, .undef, .undef, .undef, .undef, .undef, .undef, .undef, .undef, .undef, .undef, .undef, .undef, .undef, .undef, .undef, .undef, .undef, .undef, .undef, .undef, .undef, .undef, .undef, .undef, .undef, .undef, .undef, .undef, .undef, .undef, .undef, .undef, .undef, .undef, .undef, .undef, .undef, .undef, .undef, .undef, .undef, .undef, .undef, .undef, .undef, .undef, .undef, .undef, .undef, .undef, .undef, .undef, .undef, .undef, .undef, .undef, .undef, .undef, .undef, .undef, .undef, .undef, .undef] h
noncomputable def milestonelaw4_Raw_Make_b5 (T : Tab) (k : Nat) (r1 t2 t10 t66 : AV) (h : Heap) : Option (AV × Heap) :=
  evB T k milestonelaw4_Raw_Make_rs milestonelaw4_Raw_Make_c3 [.blk 0, .seq [106] (.lab milestonelaw4_Raw_Make_c7)] [.undef, r1, t2, .undef, .undef, .undef, .undef, .undef, .undef, .undef, t10, .undef, .undef, .undef, .undef, .undef, .undef, .undef, .undef, .undef, .undef, .undef, .undef, .undef, .undef, .undef, .undef, .undef, .undef, .undef, .undef, .undef, .undef, .undef, .undef, .undef, .undef, .undef, .undef, .undef, .undef, .undef, .undef, .undef, .undef, .undef, .undef, .undef, .undef, .undef, .undef, .undef, .undef, .undef, .undef, .undef, .undef, .undef, .undef, .undef, .undef, .undef, .undef, .undef, .undef, .undef, t66, .undef, .undef, .undef, .undef, .undef, .undef, .undef, .undef, .undef, .undef, .undef, .undef, .undef, .undef, .undef, .undef, .undef, .undef, .undef, .undef, .undef, .undef, .undef, .undef, .undef, .undef, .undef, .undef, .undef, .undef, .undef, .undef, .undef, .undef, .undef, .undef, .undef, .undef, .undef, .undef, .undef, .undef, .undef, .undef, .undef, .undef, .undef, .undef, .undef, .undef, .undef, .undef, .undef, .undef, .undef, .undef, .undef, .undef, .undef] h
noncomputable def milestonelaw4_Raw_Make_l6 (T : Tab) (k j0 : Nat) (r1 t2 n5 i6 : AV) (h : Heap) : Option (AV × Heap) :=
  loopB T k milestonelaw4_Raw_Make_rs j0 [83, 84] milestonelaw4_Raw_Make_c2 [.blk 3, .seq [1, 6, 82] (.seq [5, 93] (.region [⟨some 93, .op (.load (some 5) (.tmp 5)), none⟩,
  ⟨none, .op (.store 5 (.tmp 2) (.tmp 93)), none⟩]) .ret), .blk 0, .seq [106] (.lab milestonelaw4_Raw_Make_c7)] [.undef, r1, t2, .undef, .undef, n5, i6, .undef, .undef, .undef, .undef, .undef, .undef, .undef, .undef, .undef, .undef, .undef, .undef, .undef, .undef, .undef, .undef, .undef, .undef, .undef, .undef, .undef, .undef, .undef, .undef, .undef, .undef, .undef, .undef, .undef, .undef, .undef, .undef, .undef, .undef, .undef, .undef, .undef, .undef, .undef, .undef, .undef, .undef, .undef, .undef, .undef, .undef, .undef, .undef, .undef, .undef, .undef, .undef, .undef, .undef, .undef, .undef, .undef, .undef, .undef, .undef, .undef, .undef, .undef, .undef, .undef, .undef, .undef, .undef, .undef, .undef, .undef, .undef, .undef, .undef, .undef, .undef, .undef, .undef, .undef, .undef, .undef, .undef, .undef, .undef, .undef, .undef, .undef, .undef, .undef, .undef, .undef, .undef, .undef, .undef, .undef, .undef, .undef, .undef, .undef, .undef, .undef, .undef, .undef, .undef, .undef, .undef, .undef, .undef, .undef, .undef, .undef, .undef, .undef, .undef, .undef, .undef, .undef, .undef, .undef] h
noncomputable def milestonelaw4_Raw_Make_b7 (T : Tab) (k : Nat) (r1 t2 : AV) (h : Heap) : Option (AV × Heap) :=
  evB T k milestonelaw4_Raw_Make_rs milestonelaw4_Raw_Make_c7 [] [.undef, r1, t2, .undef, .undef, .undef, .undef, .undef, .undef, .undef, .undef, .undef, .undef, .undef, .undef, .undef, .undef, .undef, .undef, .undef, .undef, .undef, .undef, .undef, .undef, .undef, .undef, .undef, .undef, .undef, .undef, .undef, .undef, .undef, .undef, .undef, .undef, .undef, .undef, .undef, .undef, .undef, .undef, .undef, .undef, .undef, .undef, .undef, .undef, .undef, .undef, .undef, .undef, .undef, .undef, .undef, .undef, .undef, .undef, .undef, .undef, .undef, .undef, .undef, .undef, .undef, .undef, .undef, .undef, .undef, .undef, .undef, .undef, .undef, .undef, .undef, .undef, .undef, .undef, .undef, .undef, .undef, .undef, .undef, .undef, .undef, .undef, .undef, .undef, .undef, .undef, .undef, .undef, .undef, .undef, .undef, .undef, .undef, .undef, .undef, .undef, .undef, .undef, .undef, .undef, .undef, .undef, .undef, .undef, .undef, .undef, .undef, .undef, .undef, .undef, .undef, .undef, .undef, .undef, .undef, .undef, .undef, .undef, .undef, .undef, .undef] h
theorem milestonelaw4_Raw_Make_l4_eq (T : Tab) (k j0 : Nat) (r1 t2 n3 i4 : AV) (h : Heap) : milestonelaw4_Raw_Make_l4 T k (j0 + 1) r1 t2 n3 i4 h =
    oa (binV .lss .scalar i4 (.int .i64 2)) fun t43_1 =>
    ob (gd t43_1 false (some (i4, h)) h) fun t45_2 h_3 =>
    ob (gd t43_1 false (pure1 h_3 (fldA 2 r1)) h_3) fun t46_4 h_5 =>
    ob (gd t43_1 false (pure1 h_5 (ld1 h_5 t46_4)) h_5) fun t47_6 h_7 =>
    ob (gd t43_1 false (pure1 h_7 (lenS t47_6)) h_7) fun t48_8 h_9 =>
    ob (gd t43_1 false (pure1 h_9 (binV .lss .scalar t45_2 t48_8)) h_9) fun t49_10 h_11 =>
    ob (gd t43_1 false (some (t49_10, h_11)) h_11) fun t50_12 h_13 =>
    ob (gd t50_12 true (some (i4, h_13)) h_13) fun t51_14 h_15 =>
    ob (gd t50_12 true (pure1 h_15 (binV .lss .scalar t51_14 (.int .i64 4))) h_15) fun t52_16 h_17 =>
    ob (gd t43_1 false (pure1 h_17 (pickV t50_12 t52_16 (.bool false))) h_17) fun t53_18 h_19 =>
    oa (pickV t43_1 (.bool true) t53_18) fun t54_20 =>
    cond2 t54_20
      (
      oa (fldA 4 n3) fun t126_21 =>
      oa (ld1 h_19 t126_21) fun t127_22 =>
      oa (ldN 3 h_19 r1) fun t128_23 =>
      ob (evalFn T k f_milestonelaw4_Raw_part [t128_23, i4] h_19) fun t130_24 h_25 =>
      chk ((sameB (pure1 h_25 (ld1 h_25 t126_21)) t127_22 && true)) <|
      ob (buildSl 5 1 [.int .i64 0, .int .i64 0, .int .i64 0, .int .i64 0, .nils] [(0, 5, t130_24)] h_25) fun t131_26 h_27 =>
      ob (apnd 5 56 t127_22 t131_26 h_27) fun t132_28 h_29 =>
      oa (fldA 4 n3) fun t133_30 =>
      oh (stN 1 h_29 t133_30 t132_28) fun h_31 =>
      oa (binV .add .scalar i4 (.int .i64 1)) fun t56_32 =>
      milestonelaw4_Raw_Make_l4 T k j0 r1 t2 n3 t56_32 h_31
      )
      (
      oa (ldN 5 h_19 n3) fun t65_33 =>
      oh (stN 5 h_19 t2 t65_33) fun h_34 =>
      oa (ldN 5 h_34 t2) fun t2_35 =>
      some (t2_35, h_34)
      ) := loopEq (by kernel_rfl)
theorem milestonelaw4_Raw_Make_l6_eq (T : Tab) (k j0 : Nat) (r1 t2 n5 i6 : AV) (h : Heap) : milestonelaw4_Raw_Make_l6 T k (j0 + 1) r1 t2 n5 i6 h =
    oa (binV .lss .scalar i6 (.int .i64 2)) fun t71_1 =>
    ob (gd t71_1 false (some (i6, h)) h) fun t73_2 h_3 =>
    ob (gd t71_1 false (pure1 h_3 (fldA 2 r1)) h_3) fun t74_4 h_5 =>
    ob (gd t71_1 false (pure1 h_5 (ld1 h_5 t74_4)) h_5) fun t75_6 h_7 =>
    ob (gd t71_1 false (pure1 h_7 (lenS t75_6)) h_7) fun t76_8 h_9 =>
    ob (gd t71_1 false (pure1 h_9 (binV .lss .scalar t73_2 t76_8)) h_9) fun t77_10 h_11 =>
    ob (gd t71_1 false (some (t77_10, h_11)) h_11) fun t78_12 h_13 =>
    ob (gd t78_12 true (some (i6, h_13)) h_13) fun t79_14 h_15 =>
    ob (gd t78_12 true (pure1 h_15 (binV .lss .scalar t79_14 (.int .i64 4))) h_15) fun t80_16 h_17 =>
    ob (gd t71_1 false (pure1 h_17 (pickV t78_12 t80_16 (.bool false))) h_17) fun t81_18 h_19 =>
    oa (pickV t71_1 (.bool true) t81_18) fun t82_20 =>
    cond2 t82_20
      (
      oa (fldA 4 n5) fun t126_21 =>
      oa (ld1 h_19 t126_21) fun t127_22 =>
      oa (ldN 3 h_19 r1) fun t128_23 =>
      ob (evalFn T k f_milestonelaw4_Raw_part [t128_23, i6] h_19) fun t130_24 h_25 =>
      chk ((sameB (pure1 h_25 (ld1 h_25 t126_21)) t127_22 && true)) <|
      ob (buildSl 5 1 [.int .i64 0, .int .i64 0, .int .i64 0, .int .i64 0, .nils] [(0, 5, t130_24)] h_25) fun t131_26 h_27 =>
      ob (apnd 5 56 t127_22 t131_26 h_27) fun t132_28 h_29 =>
      oa (fldA 4 n5) fun t133_30 =>
      oh (stN 1 h_29 t133_30 t132_28) fun h_31 =>
      oa (binV .add .scalar i6 (.int .i64 1)) fun t84_32 =>
      milestonelaw4_Raw_Make_l6 T k j0 r1 t2 n5 t84_32 h_31
      )
      (
      oa (ldN 5 h_19 n5) fun t93_33 =>
      oh (stN 5 h_19 t2 t93_33) fun h_34 =>
      oa (ldN 5 h_34 t2) fun t2_35 =>
      some (t2_35, h_34)
      ) := loopEq (by kernel_rfl)
theorem milestonelaw4_Raw_Make_b7_eq (T : Tab) (k : Nat) (r1 t2 : AV) (h : Heap) : milestonelaw4_Raw_Make_b7 T k r1 t2 h =
    oa (fldA 1 r1) fun t112_1 =>
    oa (ld1 h t112_1) fun t113_2 =>
    ob (evalFn T k f_milestonelaw4_within [t113_2, (.int .i64 4)] h) fun t114_3 h_4 =>
    oa (fldA 1 r1) fun t128_5 =>
    oa (ld1 h_4 t128_5) fun t129_6 =>
    oa (binV .quo .scalar t129_6 (.int .i64 4)) fun t130_7 =>
    oa (ldN 3 h_4 r1) fun t133_8 =>
    ob (evalFn T k f_milestonelaw4_within [t130_7, (.int .i64 3)] h_4) fun t131_9 h_10 =>
    chk ((sameB (pure1 h_10 (ldN 3 h_10 r1)) t133_8 && true)) <|
    oa (binV .add .scalar t114_3 t131_9) fun t132_11 =>
    ob (evalFn T k f_milestonelaw4_Raw_part [t133_8, (.int .i64 0)] h_10) fun t134_12 h_13 =>
    ob (buildSl 5 1 [.int .i64 0, .int .i64 0, .int .i64 0, .int .i64 0, .nils] [(0, 5, t134_12)] h_13) fun t135_14 h_15 =>
    oa (buildV [.int .i64 0, .int .i64 0, .int .i64 0, .int .i64 0, .nils] [(0, 1, (.int .i64 9)), (2, 1, t114_3), (3, 1, t132_11), (4, 1, t135_14)]) fun t136_16 =>
    oh (stN 5 h_15 t2 t136_16) fun h_17 =>
    oa (ldN 5 h_17 t2) fun t2_18 =>
    some (t2_18, h_17) := blockEq (by kernel_rfl)
theorem milestonelaw4_Raw_Make_b5_eq (T : Tab) (k : Nat) (r1 t2 t10 t66 : AV) (h : Heap) : milestonelaw4_Raw_Make_b5 T k r1 t2 t10 t66 h =
    cond2 t66
      (
      oa (buildV [.int .i64 0, .int .i64 0, .int .i64 0, .int .i64 0, .nils] [(0, 1, (.int .i64 5))]) fun t69_1 =>
      ob (newVar h [.int .i64 0, .int .i64 0, .int .i64 0, .int .i64 0, .nils]) fun n5_2 h_3 =>
      oh (stN 5 h_3 n5_2 t69_1) fun h_4 =>
      milestonelaw4_Raw_Make_l6 T k k r1 t2 n5_2 (.int .i64 0) h_4
      )
      (
      oa (binV .eql .scalar t10 (.int .i64 10)) fun t95_5 =>
      cond2 t95_5
        (
        oa (ldN 3 h r1) fun t96_6 =>
        ob (evalFn T k f_milestonelaw4_Raw_part [t96_6, (.int .i64 0)] h) fun t97_7 h_8 =>
        ob (buildSl 5 1 [.int .i64 0, .int .i64 0, .int .i64 0, .int .i64 0, .nils] [(0, 5, t97_7)] h_8) fun t98_9 h_10 =>
        oa (buildV [.int .i64 0, .int .i64 0, .int .i64 0, .int .i64 0, .nils] [(0, 1, (.int .i64 6)), (4, 1, t98_9)]) fun t99_11 =>
        oh (stN 5 h_10 t2 t99_11) fun h_12 =>
        oa (ldN 5 h_12 t2) fun t2_13 =>
        some (t2_13, h_12)
        )
        (
        oa (binV .eql .scalar t10 (.int .i64 11)) fun t101_14 =>
        cond2 t101_14
          (
          oa (ldN 3 h r1) fun t102_15 =>
          ob (evalFn T k f_milestonelaw4_Raw_part [t102_15, (.int .i64 0)] h) fun t103_16 h_17 =>
          ob (buildSl 5 1 [.int .i64 0, .int .i64 0, .int .i64 0, .int .i64 0, .nils] [(0, 5, t103_16)] h_17) fun t104_18 h_19 =>
          oa (buildV [.int .i64 0, .int .i64 0, .int .i64 0, .int .i64 0, .nils] [(0, 1, (.int .i64 7)), (4, 1, t104_18)]) fun t105_20 =>
          oh (stN 5 h_19 t2 t105_20) fun h_21 =>
          oa (ldN 5 h_21 t2) fun t2_22 =>
          some (t2_22, h_21)
          )
          (
          oa (binV .eql .scalar t10 (.int .i64 12)) fun t107_23 =>
          cond2 t107_23
            (
            oa (ldN 3 h r1) fun t108_24 =>
            ob (evalFn T k f_milestonelaw4_Raw_part [t108_24, (.int .i64 0)] h) fun t109_25 h_26 =>
            ob (buildSl 5 1 [.int .i64 0, .int .i64 0, .int .i64 0, .int .i64 0, .nils] [(0, 5, t109_25)] h_26) fun t110_27 h_28 =>
            oa (buildV [.int .i64 0, .int .i64 0, .int .i64 0, .int .i64 0, .nils] [(0, 1, (.int .i64 8)), (4, 1, t110_27)]) fun t111_29 =>
            oh (stN 5 h_28 t2 t111_29) fun h_30 =>
            oa (ldN 5 h_30 t2) fun t2_31 =>
            some (t2_31, h_30)
            )
            (
            milestonelaw4_Raw_Make_b7 T k r1 t2 h
            )
          )
        )
      ) := blockEq (by kernel_rfl)
theorem milestonelaw4_Raw_Make_b3_eq (T : Tab) (k : Nat) (r1 t2 t10 t37 : AV) (h : Heap) : milestonelaw4_Raw_Make_b3 T k r1 t2 t10 t37 h =
    cond2 t37
      (
      oa (buildV [.int .i64 0, .int .i64 0, .int .i64 0, .int .i64 0, .nils] [(0, 1, (.int .i64 4))]) fun t41_1 =>
      ob (newVar h [.int .i64 0, .int .i64 0, .int .i64 0, .int .i64 0, .nils]) fun n3_2 h_3 =>
      oh (stN 5 h_3 n3_2 t41_1) fun h_4 =>
      milestonelaw4_Raw_Make_l4 T k k r1 t2 n3_2 (.int .i64 0) h_4
      )
      (
      oa (binV .eql .scalar t10 (.int .i64 8)) fun t67_5 =>
      cond2 t67_5
        (
        milestonelaw4_Raw_Make_b5 T k r1 t2 t10 t67_5 h
        )
        (
        oa (binV .eql .scalar t10 (.int .i64 9)) fun t68_6 =>
        milestonelaw4_Raw_Make_b5 T k r1 t2 t10 t68_6 h
        )
      ) := blockEq (by kernel_rfl)
theorem milestonelaw4_Raw_Make_b2_eq (T : Tab) (k : Nat) (r1 t2 t10 t19 : AV) (h : Heap) : milestonelaw4_Raw_Make_b2 T k r1 t2 t10 t19 h =
    cond2 t19
      (
      oa (fldA 1 r1) fun t22_1 =>
      oa (ld1 h t22_1) fun t23_2 =>
      ob (evalFn T k f_milestonelaw4_within [t23_2, (.int .i64 5)] h) fun t24_3 h_4 =>
      oa (convV .u64 t24_3) fun t25_5 =>
      oa (binV .shl .scalar (.int .i64 1) t25_5) fun t26_6 =>
      oa (buildV [.int .i64 0, .int .i64 0, .int .i64 0, .int .i64 0, .nils] [(0, 1, (.int .i64 1)), (1, 1, t26_6)]) fun t27_7 =>
      oh (stN 5 h_4 t2 t27_7) fun h_8 =>
      oa (ldN 5 h_8 t2) fun t2_9 =>
      some (t2_9, h_8)
      )
      (
      oa (binV .eql .scalar t10 (.int .i64 4)) fun t29_10 =>
      cond2 t29_10
        (
        ob (buildSl 1 3 [.int .i64 0, .int .i64 0, .int .i64 0] [(0, 1, (.int .i64 2)), (1, 1, (.int .i64 3)), (2, 1, (.int .i64 3))] h) fun t30_11 h_12 =>
        oa (fldA 1 r1) fun t31_13 =>
        oa (ld1 h_12 t31_13) fun t32_14 =>
        ob (evalFn T k f_milestonelaw4_within [t32_14, (.int .i64 3)] h_12) fun t33_15 h_16 =>
        oa (idxS 1 t30_11 t33_15) fun t34_17 =>
        oa (ld1 h_16 t34_17) fun t35_18 =>
        oa (buildV [.int .i64 0, .int .i64 0, .int .i64 0, .int .i64 0, .nils] [(0, 1, t35_18)]) fun t36_19 =>
        oh (stN 5 h_16 t2 t36_19) fun h_20 =>
        oa (ldN 5 h_20 t2) fun t2_21 =>
        some (t2_21, h_20)
        )
        (
        oa (binV .eql .scalar t10 (.int .i64 5)) fun t38_22 =>
        cond2 t38_22
          (
          milestonelaw4_Raw_Make_b3 T k r1 t2 t10 t38_22 h
          )
          (
          oa (binV .eql .scalar t10 (.int .i64 6)) fun t39_23 =>
          cond2 t39_23
            (
            milestonelaw4_Raw_Make_b3 T k r1 t2 t10 t39_23 h
            )
            (
            oa (binV .eql .scalar t10 (.int .i64 7)) fun t40_24 =>
            milestonelaw4_Raw_Make_b3 T k r1 t2 t10 t40_24 h
            )
          )
        )
      ) := blockEq (by kernel_rfl)
theorem milestonelaw4_Raw_Make_b1_eq (T : Tab) (k : Nat) (r1 t2 t10 t11 : AV) (h : Heap) : milestonelaw4_Raw_Make_b1 T k r1 t2 t10 t11 h =
    cond2 t11
      (
      oa (fldA 1 r1) fun t14_1 =>
      oa (ld1 h t14_1) fun t15_2 =>
      ob (evalFn T k f_milestonelaw4_within [t15_2, (.int .i64 31)] h) fun t16_3 h_4 =>
      oa (binV .add .scalar (.int .i64 1) t16_3) fun t17_5 =>
      oa (buildV [.int .i64 0, .int .i64 0, .int .i64 0, .int .i64 0, .nils] [(0, 1, (.int .i64 1)), (1, 1, t17_5)]) fun t18_6 =>
      oh (stN 5 h_4 t2 t18_6) fun h_7 =>
      oa (ldN 5 h_7 t2) fun t2_8 =>
      some (t2_8, h_7)
      )
      (
      oa (binV .eql .scalar t10 (.int .i64 2)) fun t20_9 =>
      cond2 t20_9
        (
        milestonelaw4_Raw_Make_b2 T k r1 t2 t10 t20_9 h
        )
        (
        oa (binV .eql .scalar t10 (.int .i64 3)) fun t21_10 =>
        milestonelaw4_Raw_Make_b2 T k r1 t2 t10 t21_10 h
        )
      ) := blockEq (by kernel_rfl)
theorem milestonelaw4_Raw_Make_eq (T : Tab) (k : Nat) (r0 : AV) (h : Heap) : runF T k milestonelaw4_Raw_Make_mf [r0] h =
    ob (newVar h (AV.cells r0)) fun r1_1 h_2 =>
    ob (newVar h_2 [.int .i64 0, .int .i64 0, .int .i64 0, .int .i64 0, .nils]) fun t2_3 h_4 =>
    oa (fldA 0 r1_1) fun t8_5 =>
    oa (ld1 h_4 t8_5) fun t9_6 =>
    ob (evalFn T k f_milestonelaw4_within [t9_6, (.int .i64 14)] h_4) fun t10_7 h_8 =>
    oa (binV .eql .scalar t10_7 (.int .i64 0)) fun t12_9 =>
    cond2 t12_9
      (
      milestonelaw4_Raw_Make_b1 T k r1_1 t2_3 t10_7 t12_9 h_8
      )
      (
      oa (binV .eql .scalar t10_7 (.int .i64 1)) fun t13_10 =>
      milestonelaw4_Raw_Make_b1 T k r1_1 t2_3 t10_7 t13_10 h_8
      ) := runEq (by kernel_rfl)
noncomputable def match_matcher_ends_c1 : MCode := .seq [] (.region [⟨some 107, .op (.bin .lss .scalar (.tmp 106) (.tmp 105)), none⟩]) (.seq [107] (.cond (.tmp 107) .skip (.exit 1)) (.seq [14, 110, 111, 112, 113] (.block 2 (.seq [108, 109] (.region [⟨some 108, .op (.idxSl 1 (.tmp 104) (.tmp 106)), none⟩,
  ⟨some 109, .op (.load none (.tmp 108)), none⟩,
  ⟨some 14, .op (.mv (.tmp 109)), none⟩]) (.region [⟨some 110, .op (.mv (.tmp 10)), none⟩,
  ⟨some 111, .op (.mv (.tmp 14)), none⟩,
  ⟨some 112, .op (.mv (.tmp 12)), none⟩,
  ⟨some 113, .callV (.tmp 110) [(.tmp 111), (.tmp 112)], none⟩,
  ⟨some 12, .op (.mv (.tmp 113)), none⟩]))) (.region [⟨some 114, .op (.bin .add .scalar (.tmp 106) (.const (.int .i64 1))), none⟩,
  ⟨some 106, .op (.mv (.tmp 114)), none⟩])))
noncomputable def match_matcher_ends_c2 : MCode := .seq [] (.region [⟨some 122, .op (.bin .lss .scalar (.tmp 121) (.tmp 120)), none⟩]) (.seq [122] (.cond (.tmp 122) .skip (.exit 3)) (.seq [16, 125, 126, 127, 128, 129, 130, 131] (.block 4 (.seq [123, 124] (.region [⟨some 123, .op (.idxSl 1 (.tmp 119) (.tmp 121)), none⟩,
  ⟨some 124, .op (.load none (.tmp 123)), none⟩,
  ⟨some 16, .op (.mv (.tmp 124)), none⟩]) (.region [⟨some 125, .op (.mv (.tmp 11)), none⟩,
  ⟨some 126, .op (.mv (.tmp 10)), none⟩,
  ⟨some 127, .op (.mv (.tmp 16)), none⟩,
  ⟨some 128, .op (.mv (.tmp 12)), none⟩,
  ⟨some 129, .callV (.tmp 126) [(.tmp 127), (.tmp 128)], none⟩,
  ⟨some 130, .op (.buildSlice 1 1 [.nils] [(0, 1, (.tmp 129))]), none⟩,
  ⟨some 131, .call f_match_together [(.tmp 125), (.tmp 130)], none⟩]))) (.region [⟨some 132, .op (.bin .add .scalar (.tmp 121) (.const (.int .i64 1))), none⟩,
  ⟨some 121, .op (.mv (.tmp 132)), none⟩])))
noncomputable def match_matcher_ends_c3 : MCode := .seq [17, 188, 189, 190, 191] (.region [⟨some 188, .op (.mv (.tmp 17)), none⟩,
  ⟨some 189, .op (.fieldAddr 0 (.tmp 9)), none⟩,
  ⟨some 190, .op (.fieldAddr 3 (.tmp 189)), none⟩,
  ⟨some 191, .op (.load none (.tmp 190)), none⟩,
  ⟨some 192, .op (.bin .lss .scalar (.tmp 188) (.tmp 191)), none⟩]) (.cond (.tmp 192) (.region [⟨some 193, .op (.mv (.tmp 10)), none⟩,
  ⟨some 194, .op (.fieldAddr 5 (.tmp 9)), none⟩,
  ⟨some 195, .op (.load none (.tmp 194)), none⟩,
  ⟨some 196, .op (.idxSl 1 (.tmp 195) (.const (.int .i64 0))), none⟩,
  ⟨some 197, .op (.load none (.tmp 196)), none⟩,
  ⟨some 198, .op (.mv (.tmp 12)), none⟩,
  ⟨some 199, .callV (.tmp 193) [(.tmp 197), (.tmp 198)], none⟩,
  ⟨some 12, .op (.mv (.tmp 199)), none⟩]) .skip)
noncomputable def match_matcher_ends_c4 : MCode := .seq [] (.region [⟨some 177, .op (.bin .lss .scalar (.tmp 176) (.tmp 175)), none⟩]) (.seq [177] (.cond (.tmp 177) .skip (.exit 5)) (.seq [192, 193, 194, 195, 196, 197, 198, 199] (.block 6 (.seq [178] (.region [⟨some 178, .op (.mv (.tmp 176)), none⟩,
  ⟨some 17, .op (.mv (.tmp 178)), none⟩]) (.seq [183, 184, 185, 186, 187] (.seq [179, 180, 181, 182] (.region [⟨some 179, .op (.mv (.tmp 17)), none⟩,
  ⟨some 180, .op (.fieldAddr 0 (.tmp 9)), none⟩,
  ⟨some 181, .op (.fieldAddr 2 (.tmp 180)), none⟩,
  ⟨some 182, .op (.load none (.tmp 181)), none⟩,
  ⟨some 183, .op (.bin .geq .scalar (.tmp 179) (.tmp 182)), none⟩]) (.cond (.tmp 183) (.region [⟨some 184, .op (.mv (.tmp 11)), none⟩,
  ⟨some 185, .op (.mv (.tmp 12)), none⟩,
  ⟨some 186, .op (.buildSlice 1 1 [.nils] [(0, 1, (.tmp 185))]), none⟩,
  ⟨some 187, .call f_match_together [(.tmp 184), (.tmp 186)], none⟩]) .skip)) (.lab match_matcher_ends_c3)))) (.region [⟨some 200, .op (.bin .add .scalar (.tmp 176) (.const (.int .i64 1))), none⟩,
  ⟨some 176, .op (.mv (.tmp 200)), none⟩])))
noncomputable def match_matcher_ends_c5 : MCode := .seq [0, 1, 2, 201, 202, 203, 204, 205, 206, 207, 208] (.region [⟨some 201, .op (.mv (.tmp 0)), none⟩,
  ⟨some 202, .op (.nilCheck (.tmp 201)), none⟩,
  ⟨some 203, .op (.fieldAddr 2 (.tmp 202)), none⟩,
  ⟨some 204, .op (.load none (.tmp 203)), none⟩,
  ⟨some 205, .op (.mv (.tmp 1)), none⟩,
  ⟨some 206, .op (.mv (.tmp 2)), none⟩,
  ⟨some 207, .op (.build [.int .i64 0, .int .i64 0] [(0, 1, (.tmp 205)), (1, 1, (.tmp 206))]), none⟩,
  ⟨some 208, .op (.mv (.tmp 11)), none⟩,
  ⟨none, .op (.mapUpd (.row [.i .i64, .i .i64]) (.tmp 204) (.tmp 207) (.tmp 208)), none⟩]) (.seq [11, 209] (.region [⟨some 209, .op (.mv (.tmp 11)), none⟩,
  ⟨some 6, .op (.mv (.tmp 209)), none⟩]) .ret)
def match_matcher_ends_rs : Res := [(6, none)]
end Go.Gm.A5
