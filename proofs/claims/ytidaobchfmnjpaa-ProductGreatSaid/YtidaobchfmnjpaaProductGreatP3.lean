/- A part of the proof: an abstract machine, what it does, and what the functions of the program come to on it (GmA9a). -/
import Derived.KernelRfl
import Derived.Test.YtidaobchfmnjpaaProductGreatP2
set_option linter.unusedVariables false
namespace Go.Gm.A9
open Go Go.Gm
abbrev f_milestonelaw9_ProductGreat : FuncId := 5
abbrev f_milestonelaw9_known : FuncId := 6
abbrev f_milestonelaw9_within : FuncId := 9
abbrev f_product_Costs : FuncId := 10
abbrev f_product_Route : FuncId := 12
abbrev f_product_Both : FuncId := 13
abbrev f_milestonelaw9_Right : FuncId := 17
abbrev f_product_join : FuncId := 20
abbrev f_product_graph_begin : FuncId := 21
abbrev f_product_graph_on : FuncId := 22
abbrev f_product_search_all : FuncId := 23
abbrev f_product_search_best : FuncId := 24
abbrev f_product_search_edges : FuncId := 26
abbrev f_product_graph_back : FuncId := 27
abbrev f_product_Both_1 : FuncId := 28
abbrev f_product_search_found : FuncId := 29
abbrev f_product_search_step : FuncId := 30
abbrev f_product_graph_spot : FuncId := 31
abbrev f_product_graph_id : FuncId := 32
abbrev f_milestoneref1_Walk : FuncId := 34
abbrev f_milestoneref7_Run : FuncId := 35
abbrev f_adj_New : FuncId := 36
abbrev f_queue_New : FuncId := 37
abbrev f_queue_Queue_Put : FuncId := 38
abbrev f_adj_Adj_Out : FuncId := 39
abbrev f_slices_Reverse_int : FuncId := 40
abbrev f_slices_Clone_int : FuncId := 41
abbrev f_adj_Adj_In : FuncId := 42
abbrev f_queue_Queue_Key : FuncId := 43
abbrev f_queue_Queue_Pop : FuncId := 44
abbrev f_milestoneref7_Go : FuncId := 46
abbrev f_slices_Clone_api_Edge : FuncId := 47
abbrev f_adj_Adj_is : FuncId := 48
abbrev f_adj_ends_add : FuncId := 49
abbrev f_queue_Queue_line : FuncId := 50
abbrev f_container_heap_Push : FuncId := 51
abbrev f_container_heap_Fix : FuncId := 52
abbrev f_adj_ends_list : FuncId := 53
abbrev f_adj_Adj_side : FuncId := 54
abbrev f_queue_heaped_Len : FuncId := 55
abbrev f_container_heap_Pop : FuncId := 56
abbrev f_container_heap_up : FuncId := 58
abbrev f_container_heap_down : FuncId := 59
abbrev f_queue_item_before : FuncId := 78
abbrev f_queue_heaped_Less : FuncId := 79
abbrev f_queue_heaped_Pop : FuncId := 80
abbrev f_queue_heaped_Push : FuncId := 81
abbrev f_queue_heaped_Swap : FuncId := 82
abbrev f_queue_heaped_place : FuncId := 83
noncomputable def milestonelaw9_ProductGreat_c1 : MCode := .seq [26] (.seq [22, 23, 24, 25] (.region [⟨some 22, .op (.mv (.tmp 9)), none⟩,
  ⟨some 23, .op (.bin .add .scalar (.tmp 22) (.const (.int .i64 1))), none⟩,
  ⟨some 24, .op (.fieldAddr 0 (.tmp 7)), none⟩,
  ⟨some 25, .op (.load none (.tmp 24)), none⟩,
  ⟨some 26, .op (.bin .lss .scalar (.tmp 23) (.tmp 25)), none⟩]) (.cond (.tmp 26) .skip (.exit 0))) (.seq [41, 42, 43, 44, 45, 46, 47, 48, 49, 50, 51, 52] (.block 1 (.seq [29, 30, 31, 32, 33, 34, 35, 36, 37, 38, 39, 40] (.region [⟨some 29, .op (.fieldAddr 1 (.tmp 7)), none⟩,
  ⟨some 30, .op (.load none (.tmp 29)), none⟩,
  ⟨some 31, .op (.mv (.tmp 9)), none⟩,
  ⟨some 32, .op (.mv (.tmp 9)), none⟩,
  ⟨some 33, .op (.bin .add .scalar (.tmp 32) (.const (.int .i64 1))), none⟩,
  ⟨some 34, .op (.mv (.tmp 9)), none⟩,
  ⟨some 35, .op (.bin .rem .scalar (.tmp 34) (.const (.int .i64 5))), none⟩,
  ⟨some 36, .op (.mv (.tmp 8)), none⟩,
  ⟨some 37, .op (.build [.int .i64 0, .int .i64 0, .int .i64 0, .int .i64 0] [(0, 1, (.tmp 31)), (1, 1, (.tmp 33)), (2, 1, (.tmp 35)), (3, 1, (.tmp 36))]), none⟩,
  ⟨some 38, .op (.buildSlice 4 1 [.int .i64 0, .int .i64 0, .int .i64 0, .int .i64 0] [(0, 4, (.tmp 37))]), none⟩,
  ⟨some 39, .op (.append 4 32 (.tmp 30) (.tmp 38)), none⟩,
  ⟨some 40, .op (.fieldAddr 1 (.tmp 7)), none⟩,
  ⟨none, .op (.store 1 (.tmp 40) (.tmp 39)), none⟩]) (.seq [] (.region [⟨some 41, .op (.mv (.tmp 2)), none⟩]) (.cond (.tmp 41) (.region [⟨some 42, .op (.fieldAddr 1 (.tmp 7)), none⟩,
  ⟨some 43, .op (.load none (.tmp 42)), none⟩,
  ⟨some 44, .op (.mv (.tmp 9)), none⟩,
  ⟨some 45, .op (.bin .add .scalar (.tmp 44) (.const (.int .i64 1))), none⟩,
  ⟨some 46, .op (.mv (.tmp 9)), none⟩,
  ⟨some 47, .op (.mv (.tmp 9)), none⟩,
  ⟨some 48, .op (.bin .rem .scalar (.tmp 47) (.const (.int .i64 5))), none⟩,
  ⟨some 49, .op (.build [.int .i64 0, .int .i64 0, .int .i64 0, .int .i64 0] [(0, 1, (.tmp 45)), (1, 1, (.tmp 46)), (2, 1, (.tmp 48)), (3, 1, (.const (.int .i64 0)))]), none⟩,
  ⟨some 50, .op (.buildSlice 4 1 [.int .i64 0, .int .i64 0, .int .i64 0, .int .i64 0] [(0, 4, (.tmp 49))]), none⟩,
  ⟨some 51, .op (.append 4 32 (.tmp 43) (.tmp 50)), none⟩,
  ⟨some 52, .op (.fieldAddr 1 (.tmp 7)), none⟩,
  ⟨none, .op (.store 1 (.tmp 52) (.tmp 51)), none⟩]) .skip)))) (.region [⟨some 27, .op (.mv (.tmp 9)), none⟩,
  ⟨some 28, .op (.bin .add .scalar (.tmp 27) (.const (.int .i64 1))), none⟩,
  ⟨some 9, .op (.mv (.tmp 28)), none⟩]))
noncomputable def milestonelaw9_ProductGreat_c2 : MCode := .seq [53, 54, 55, 56] (.region [⟨some 53, .op (.build [.int .i64 0, .int .i64 0, .int .i64 0, .int .i64 0, .int .i64 0] []), none⟩,
  ⟨some 54, .op (.buildSlice 5 1 [.int .i64 0, .int .i64 0, .int .i64 0, .int .i64 0, .int .i64 0] [(0, 5, (.tmp 53))]), none⟩,
  ⟨some 55, .op (.buildSlice 1 1 [.bool false] [(0, 1, (.const (.bool true)))]), none⟩,
  ⟨some 56, .op (.build [.nils, .nils] [(0, 1, (.tmp 54)), (1, 1, (.tmp 55))]), none⟩,
  ⟨some 10, .op (.alloc [.nils, .nils]), none⟩,
  ⟨none, .op (.store 2 (.tmp 10) (.tmp 56)), none⟩]) (.seq [57, 58, 59, 60, 61, 62, 63, 64, 65] (.region [⟨some 58, .op (.load (some 2) (.tmp 7)), none⟩,
  ⟨some 59, .op (.load (some 2) (.tmp 10)), none⟩,
  ⟨some 60, .op (.fieldAddr 0 (.tmp 7)), none⟩,
  ⟨some 61, .op (.load none (.tmp 60)), none⟩,
  ⟨some 62, .op (.bin .sub .scalar (.tmp 61) (.const (.int .i64 1))), none⟩,
  ⟨some 63, .call f_product_Route [(.tmp 58), (.tmp 59), (.const (.int .i64 0)), (.tmp 62)], none⟩,
  ⟨some 57, .op (.mv (.tmp 63)), none⟩,
  ⟨some 64, .op (.extract 0 (.tmp 57)), none⟩,
  ⟨some 65, .op (.extract 1 (.tmp 57)), none⟩,
  ⟨some 11, .op (.alloc [.int .i64 0, .nils]), none⟩,
  ⟨none, .op (.store 2 (.tmp 11) (.tmp 64)), none⟩,
  ⟨some 12, .op (.mv (.tmp 65)), none⟩]) (.seq [66, 67, 68, 69, 70, 71, 72, 73, 74] (.region [⟨some 67, .op (.load (some 2) (.tmp 7)), none⟩,
  ⟨some 68, .op (.load (some 2) (.tmp 10)), none⟩,
  ⟨some 69, .op (.fieldAddr 0 (.tmp 7)), none⟩,
  ⟨some 70, .op (.load none (.tmp 69)), none⟩,
  ⟨some 71, .op (.bin .sub .scalar (.tmp 70) (.const (.int .i64 1))), none⟩,
  ⟨some 72, .call f_product_Both [(.tmp 67), (.tmp 68), (.const (.int .i64 0)), (.tmp 71)], none⟩,
  ⟨some 66, .op (.mv (.tmp 72)), none⟩,
  ⟨some 73, .op (.extract 0 (.tmp 66)), none⟩,
  ⟨some 74, .op (.extract 1 (.tmp 66)), none⟩,
  ⟨some 13, .op (.mv (.tmp 73)), none⟩,
  ⟨some 14, .op (.mv (.tmp 74)), none⟩]) (.seq [7, 8, 10, 11, 12, 13, 14, 75, 76, 77, 78, 79, 80, 81, 82, 83, 84, 85, 86, 87, 88, 89, 90, 91, 92, 93, 94, 95, 96, 97, 98, 99, 100, 101, 102, 103, 104, 105, 106, 107, 108, 109, 110, 111, 112, 113, 114, 115, 116, 117] (.region [⟨some 75, .op (.mv (.tmp 12)), none⟩,
  ⟨some 76, .op (.mv (.tmp 75)), none⟩,
  ⟨some 77, .op (.mv (.tmp 14)), some (76, true)⟩,
  ⟨some 78, .op (.pick (.tmp 76) (.tmp 77) (.const (.bool false))), none⟩,
  ⟨some 79, .op (.mv (.tmp 78)), none⟩,
  ⟨some 80, .op (.fieldAddr 0 (.tmp 11)), some (79, true)⟩,
  ⟨some 81, .op (.load none (.tmp 80)), some (79, true)⟩,
  ⟨some 82, .op (.mv (.tmp 8)), some (79, true)⟩,
  ⟨some 83, .op (.fieldAddr 0 (.tmp 7)), some (79, true)⟩,
  ⟨some 84, .op (.load none (.tmp 83)), some (79, true)⟩,
  ⟨some 85, .op (.bin .sub .scalar (.tmp 84) (.const (.int .i64 1))), some (79, true)⟩,
  ⟨some 86, .op (.bin .mul .scalar (.tmp 82) (.tmp 85)), some (79, true)⟩,
  ⟨some 87, .op (.bin .eql .scalar (.tmp 81) (.tmp 86)), some (79, true)⟩,
  ⟨some 88, .op (.pick (.tmp 79) (.tmp 87) (.const (.bool false))), none⟩,
  ⟨some 89, .op (.mv (.tmp 88)), none⟩,
  ⟨some 90, .op (.mv (.tmp 13)), some (89, true)⟩,
  ⟨some 91, .op (.fieldAddr 0 (.tmp 11)), some (89, true)⟩,
  ⟨some 92, .op (.load none (.tmp 91)), some (89, true)⟩,
  ⟨some 93, .op (.bin .eql .scalar (.tmp 90) (.tmp 92)), some (89, true)⟩,
  ⟨some 94, .op (.pick (.tmp 89) (.tmp 93) (.const (.bool false))), none⟩,
  ⟨some 95, .op (.mv (.tmp 94)), none⟩,
  ⟨some 96, .op (.load (some 2) (.tmp 7)), some (95, true)⟩,
  ⟨some 97, .op (.load (some 2) (.tmp 10)), some (95, true)⟩,
  ⟨some 98, .op (.fieldAddr 0 (.tmp 7)), some (95, true)⟩,
  ⟨some 99, .op (.load none (.tmp 98)), some (95, true)⟩,
  ⟨some 100, .op (.bin .sub .scalar (.tmp 99) (.const (.int .i64 1))), some (95, true)⟩,
  ⟨some 101, .op (.load (some 2) (.tmp 11)), some (95, true)⟩,
  ⟨some 102, .op (.mv (.tmp 8)), some (95, true)⟩,
  ⟨some 103, .op (.fieldAddr 0 (.tmp 7)), some (95, true)⟩,
  ⟨some 104, .op (.load none (.tmp 103)), some (95, true)⟩,
  ⟨some 105, .op (.bin .sub .scalar (.tmp 104) (.const (.int .i64 1))), some (95, true)⟩,
  ⟨some 106, .op (.bin .mul .scalar (.tmp 102) (.tmp 105)), some (95, true)⟩,
  ⟨some 107, .call f_milestonelaw9_Right [(.tmp 96), (.tmp 97), (.const (.int .i64 0)), (.tmp 100), (.tmp 101), (.tmp 106)], some (95, true)⟩,
  ⟨some 108, .op (.pick (.tmp 95) (.tmp 107) (.const (.bool false))), none⟩,
  ⟨some 109, .op (.mv (.tmp 108)), none⟩,
  ⟨some 110, .op (.fieldAddr 1 (.tmp 11)), some (109, true)⟩,
  ⟨some 111, .op (.load none (.tmp 110)), some (109, true)⟩,
  ⟨some 112, .op (.lenSl (.tmp 111)), some (109, true)⟩,
  ⟨some 113, .op (.fieldAddr 0 (.tmp 7)), some (109, true)⟩,
  ⟨some 114, .op (.load none (.tmp 113)), some (109, true)⟩,
  ⟨some 115, .op (.bin .sub .scalar (.tmp 114) (.const (.int .i64 1))), some (109, true)⟩,
  ⟨some 116, .op (.bin .geq .scalar (.tmp 112) (.tmp 115)), some (109, true)⟩,
  ⟨some 117, .op (.pick (.tmp 109) (.tmp 116) (.const (.bool false))), none⟩,
  ⟨some 6, .op (.mv (.tmp 117)), none⟩]) .ret)))
noncomputable def milestonelaw9_ProductGreat_c3 : MCode := .seq [2, 9, 26] (.seq [] (.region [⟨some 9, .op (.mv (.const (.int .i64 0))), none⟩]) (.block 0 (.loop [27, 28] milestonelaw9_ProductGreat_c1))) (.lab milestonelaw9_ProductGreat_c2)
def milestonelaw9_ProductGreat_rs : Res := [(6, none)]
noncomputable def milestonelaw9_ProductGreat_mf : MFn := ⟨118, milestonelaw9_ProductGreat_rs, .seq [6] (.region [⟨some 6, .op (.mv (.const (.bool false))), none⟩]) (.seq [16] (.seq [15] (.region [⟨some 15, .call f_milestonelaw9_known [], none⟩,
  ⟨some 16, .op (.un .not (.tmp 15)), none⟩]) (.cond (.tmp 16) (.seq [0, 1, 2, 16] (.region [⟨some 6, .op (.mv (.const (.bool false))), none⟩]) .ret) .skip)) (.seq [0, 17, 18, 19, 20] (.region [⟨some 17, .op (.mv (.tmp 0)), none⟩,
  ⟨some 18, .call f_milestonelaw9_within [(.tmp 17), (.const (.int .i64 50))], none⟩,
  ⟨some 19, .op (.bin .add .scalar (.const (.int .i64 2)) (.tmp 18)), none⟩,
  ⟨some 20, .op (.build [.int .i64 0, .nils] [(0, 1, (.tmp 19))]), none⟩,
  ⟨some 7, .op (.alloc [.int .i64 0, .nils]), none⟩,
  ⟨none, .op (.store 2 (.tmp 7) (.tmp 20)), none⟩]) (.seq [] (.region [⟨some 8, .op (.mv (.const (.int .i64 2147483647))), none⟩]) (.seq [21] (.seq [1] (.region [⟨some 21, .op (.mv (.tmp 1)), none⟩]) (.cond (.tmp 21) (.region [⟨some 8, .op (.mv (.const (.int .i64 0))), none⟩]) .skip)) (.lab milestonelaw9_ProductGreat_c3)))))⟩
noncomputable def milestonelaw9_ProductGreat_b1 (T : Tab) (k : Nat) (back2 n7 cost8 : AV) (h : Heap) : Option (AV × Heap) :=
  evB T k milestonelaw9_ProductGreat_rs milestonelaw9_ProductGreat_c3 [] [.undef, .undef, back2, .undef, .undef, .undef, .undef, n7, cost8, .undef, .undef, .undef, .undef, .undef, .undef, .undef, .undef, .undef, .undef, .undef, .undef, .undef, .undef, .undef, .undef, .undef, .undef, .undef, .undef, .undef, .undef, .undef, .undef, .undef, .undef, .undef, .undef, .undef, .undef, .undef, .undef, .undef, .undef, .undef, .undef, .undef, .undef, .undef, .undef, .undef, .undef, .undef, .undef, .undef, .undef, .undef, .undef, .undef, .undef, .undef, .undef, .undef, .undef, .undef, .undef, .undef, .undef, .undef, .undef, .undef, .undef, .undef, .undef, .undef, .undef, .undef, .undef, .undef, .undef, .undef, .undef, .undef, .undef, .undef, .undef, .undef, .undef, .undef, .undef, .undef, .undef, .undef, .undef, .undef, .undef, .undef, .undef, .undef, .undef, .undef, .undef, .undef, .undef, .undef, .undef, .undef, .undef, .undef, .undef, .undef, .undef, .undef, .undef, .undef, .undef, .undef, .undef, .undef] h
noncomputable def milestonelaw9_ProductGreat_l2 (T : Tab) (k j0 : Nat) (back2 n7 cost8 i9 : AV) (h : Heap) : Option (AV × Heap) :=
  loopB T k milestonelaw9_ProductGreat_rs j0 [27, 28] milestonelaw9_ProductGreat_c1 [.blk 0, .seq [2, 9, 26] (.lab milestonelaw9_ProductGreat_c2)] [.undef, .undef, back2, .undef, .undef, .undef, .undef, n7, cost8, i9, .undef, .undef, .undef, .undef, .undef, .undef, .undef, .undef, .undef, .undef, .undef, .undef, .undef, .undef, .undef, .undef, .undef, .undef, .undef, .undef, .undef, .undef, .undef, .undef, .undef, .undef, .undef, .undef, .undef, .undef, .undef, .undef, .undef, .undef, .undef, .undef, .undef, .undef, .undef, .undef, .undef, .undef, .undef, .undef, .undef, .undef, .undef, .undef, .undef, .undef, .undef, .undef, .undef, .undef, .undef, .undef, .undef, .undef, .undef, .undef, .undef, .undef, .undef, .undef, .undef, .undef, .undef, .undef, .undef, .undef, .undef, .undef, .undef, .undef, .undef, .undef, .undef, .undef, .undef, .undef, .undef, .undef, .undef, .undef, .undef, .undef, .undef, .undef, .undef, .undef, .undef, .undef, .undef, .undef, .undef, .undef, .undef, .undef, .undef, .undef, .undef, .undef, .undef, .undef, .undef, .undef, .undef, .undef] h
noncomputable def milestonelaw9_ProductGreat_b3 (T : Tab) (k : Nat) (n7 cost8 : AV) (h : Heap) : Option (AV × Heap) :=
  evB T k milestonelaw9_ProductGreat_rs milestonelaw9_ProductGreat_c2 [] [.undef, .undef, .undef, .undef, .undef, .undef, .undef, n7, cost8, .undef, .undef, .undef, .undef, .undef, .undef, .undef, .undef, .undef, .undef, .undef, .undef, .undef, .undef, .undef, .undef, .undef, .undef, .undef, .undef, .undef, .undef, .undef, .undef, .undef, .undef, .undef, .undef, .undef, .undef, .undef, .undef, .undef, .undef, .undef, .undef, .undef, .undef, .undef, .undef, .undef, .undef, .undef, .undef, .undef, .undef, .undef, .undef, .undef, .undef, .undef, .undef, .undef, .undef, .undef, .undef, .undef, .undef, .undef, .undef, .undef, .undef, .undef, .undef, .undef, .undef, .undef, .undef, .undef, .undef, .undef, .undef, .undef, .undef, .undef, .undef, .undef, .undef, .undef, .undef, .undef, .undef, .undef, .undef, .undef, .undef, .undef, .undef, .undef, .undef, .undef, .undef, .undef, .undef, .undef, .undef, .undef, .undef, .undef, .undef, .undef, .undef, .undef, .undef, .undef, .undef, .undef, .undef, .undef] h
theorem milestonelaw9_ProductGreat_b3_eq (T : Tab) (k : Nat) (n7 cost8 : AV) (h : Heap) : milestonelaw9_ProductGreat_b3 T k n7 cost8 h =
    oa (buildV [.int .i64 0, .int .i64 0, .int .i64 0, .int .i64 0, .int .i64 0] []) fun t53_1 =>
    ob (buildSl 5 1 [.int .i64 0, .int .i64 0, .int .i64 0, .int .i64 0, .int .i64 0] [(0, 5, t53_1)] h) fun t54_2 h_3 =>
    ob (buildSl 1 1 [.bool false] [(0, 1, (.bool true))] h_3) fun t55_4 h_5 =>
    oa (buildV [.nils, .nils] [(0, 1, t54_2), (1, 1, t55_4)]) fun t56_6 =>
    ob (newVar h_5 [.nils, .nils]) fun d10_7 h_8 =>
    oh (stN 2 h_8 d10_7 t56_6) fun h_9 =>
    oa (ldN 2 h_9 n7) fun t58_10 =>
    oa (ldN 2 h_9 d10_7) fun t59_11 =>
    oa (fldA 0 n7) fun t60_12 =>
    oa (ld1 h_9 t60_12) fun t61_13 =>
    oa (binV .sub .scalar t61_13 (.int .i64 1)) fun t62_14 =>
    ob (evalFn T k f_product_Route [t58_10, t59_11, (.int .i64 0), t62_14] h_9) fun t63_15 h_16 =>
    oa (extr 0 t63_15) fun t64_17 =>
    oa (extr 1 t63_15) fun t65_18 =>
    ob (newVar h_16 [.int .i64 0, .nils]) fun r11_19 h_20 =>
    oh (stN 2 h_20 r11_19 t64_17) fun h_21 =>
    oa (ldN 2 h_21 n7) fun t67_22 =>
    oa (ldN 2 h_21 d10_7) fun t68_23 =>
    oa (fldA 0 n7) fun t69_24 =>
    oa (ld1 h_21 t69_24) fun t70_25 =>
    oa (binV .sub .scalar t70_25 (.int .i64 1)) fun t71_26 =>
    ob (evalFn T k f_product_Both [t67_22, t68_23, (.int .i64 0), t71_26] h_21) fun t72_27 h_28 =>
    oa (extr 0 t72_27) fun t73_29 =>
    oa (extr 1 t72_27) fun t74_30 =>
    ob (gd t65_18 true (some (t74_30, h_28)) h_28) fun t77_31 h_32 =>
    oa (pickV t65_18 t77_31 (.bool false)) fun t78_33 =>
    ob (gd t78_33 true (pure1 h_32 (fldA 0 r11_19)) h_32) fun t80_34 h_35 =>
    ob (gd t78_33 true (pure1 h_35 (ld1 h_35 t80_34)) h_35) fun t81_36 h_37 =>
    ob (gd t78_33 true (some (cost8, h_37)) h_37) fun t82_38 h_39 =>
    ob (gd t78_33 true (pure1 h_39 (fldA 0 n7)) h_39) fun t83_40 h_41 =>
    ob (gd t78_33 true (pure1 h_41 (ld1 h_41 t83_40)) h_41) fun t84_42 h_43 =>
    ob (gd t78_33 true (pure1 h_43 (binV .sub .scalar t84_42 (.int .i64 1))) h_43) fun t85_44 h_45 =>
    ob (gd t78_33 true (pure1 h_45 (binV .mul .scalar t82_38 t85_44)) h_45) fun t86_46 h_47 =>
    ob (gd t78_33 true (pure1 h_47 (binV .eql .scalar t81_36 t86_46)) h_47) fun t87_48 h_49 =>
    oa (pickV t78_33 t87_48 (.bool false)) fun t88_50 =>
    ob (gd t88_50 true (some (t73_29, h_49)) h_49) fun t90_51 h_52 =>
    ob (gd t88_50 true (pure1 h_52 (fldA 0 r11_19)) h_52) fun t91_53 h_54 =>
    ob (gd t88_50 true (pure1 h_54 (ld1 h_54 t91_53)) h_54) fun t92_55 h_56 =>
    ob (gd t88_50 true (pure1 h_56 (binV .eql .scalar t90_51 t92_55)) h_56) fun t93_57 h_58 =>
    oa (pickV t88_50 t93_57 (.bool false)) fun t94_59 =>
    ob (gd t94_59 true (pure1 h_58 (ldN 2 h_58 n7)) h_58) fun t96_60 h_61 =>
    ob (gd t94_59 true (pure1 h_61 (ldN 2 h_61 d10_7)) h_61) fun t97_62 h_63 =>
    ob (gd t94_59 true (pure1 h_63 (fldA 0 n7)) h_63) fun t98_64 h_65 =>
    ob (gd t94_59 true (pure1 h_65 (ld1 h_65 t98_64)) h_65) fun t99_66 h_67 =>
    ob (gd t94_59 true (pure1 h_67 (binV .sub .scalar t99_66 (.int .i64 1))) h_67) fun t100_68 h_69 =>
    ob (gd t94_59 true (pure1 h_69 (ldN 2 h_69 r11_19)) h_69) fun t101_70 h_71 =>
    ob (gd t94_59 true (some (cost8, h_71)) h_71) fun t102_72 h_73 =>
    ob (gd t94_59 true (pure1 h_73 (fldA 0 n7)) h_73) fun t103_74 h_75 =>
    ob (gd t94_59 true (pure1 h_75 (ld1 h_75 t103_74)) h_75) fun t104_76 h_77 =>
    ob (gd t94_59 true (pure1 h_77 (binV .sub .scalar t104_76 (.int .i64 1))) h_77) fun t105_78 h_79 =>
    ob (gd t94_59 true (pure1 h_79 (binV .mul .scalar t102_72 t105_78)) h_79) fun t106_80 h_81 =>
    ob (gd t94_59 true (evalFn T k f_milestonelaw9_Right [t96_60, t97_62, (.int .i64 0), t100_68, t101_70, t106_80] h_81) h_81) fun t107_82 h_83 =>
    oa (pickV t94_59 t107_82 (.bool false)) fun t108_84 =>
    ob (gd t108_84 true (pure1 h_83 (fldA 1 r11_19)) h_83) fun t110_85 h_86 =>
    ob (gd t108_84 true (pure1 h_86 (ld1 h_86 t110_85)) h_86) fun t111_87 h_88 =>
    ob (gd t108_84 true (pure1 h_88 (lenS t111_87)) h_88) fun t112_89 h_90 =>
    ob (gd t108_84 true (pure1 h_90 (fldA 0 n7)) h_90) fun t113_91 h_92 =>
    ob (gd t108_84 true (pure1 h_92 (ld1 h_92 t113_91)) h_92) fun t114_93 h_94 =>
    ob (gd t108_84 true (pure1 h_94 (binV .sub .scalar t114_93 (.int .i64 1))) h_94) fun t115_95 h_96 =>
    ob (gd t108_84 true (pure1 h_96 (binV .geq .scalar t112_89 t115_95)) h_96) fun t116_97 h_98 =>
    oa (pickV t108_84 t116_97 (.bool false)) fun t117_99 =>
    some (t117_99, h_98) := blockEq (by kernel_rfl)
theorem milestonelaw9_ProductGreat_l2_eq (T : Tab) (k j0 : Nat) (back2 n7 cost8 i9 : AV) (h : Heap) : milestonelaw9_ProductGreat_l2 T k (j0 + 1) back2 n7 cost8 i9 h =
    oa (binV .add .scalar i9 (.int .i64 1)) fun t23_1 =>
    oa (fldA 0 n7) fun t24_2 =>
    oa (ld1 h t24_2) fun t25_3 =>
    oa (binV .lss .scalar t23_1 t25_3) fun t26_4 =>
    cond2 t26_4
      (
      oa (fldA 1 n7) fun t29_5 =>
      oa (ld1 h t29_5) fun t30_6 =>
      oa (binV .add .scalar i9 (.int .i64 1)) fun t33_7 =>
      oa (binV .rem .scalar i9 (.int .i64 5)) fun t35_8 =>
      oa (buildV [.int .i64 0, .int .i64 0, .int .i64 0, .int .i64 0] [(0, 1, i9), (1, 1, t33_7), (2, 1, t35_8), (3, 1, cost8)]) fun t37_9 =>
      ob (buildSl 4 1 [.int .i64 0, .int .i64 0, .int .i64 0, .int .i64 0] [(0, 4, t37_9)] h) fun t38_10 h_11 =>
      ob (apnd 4 32 t30_6 t38_10 h_11) fun t39_12 h_13 =>
      oa (fldA 1 n7) fun t40_14 =>
      oh (stN 1 h_13 t40_14 t39_12) fun h_15 =>
      cond2 back2
        (
        oa (fldA 1 n7) fun t42_16 =>
        oa (ld1 h_15 t42_16) fun t43_17 =>
        oa (binV .add .scalar i9 (.int .i64 1)) fun t45_18 =>
        oa (binV .rem .scalar i9 (.int .i64 5)) fun t48_19 =>
        oa (buildV [.int .i64 0, .int .i64 0, .int .i64 0, .int .i64 0] [(0, 1, t45_18), (1, 1, i9), (2, 1, t48_19), (3, 1, (.int .i64 0))]) fun t49_20 =>
        ob (buildSl 4 1 [.int .i64 0, .int .i64 0, .int .i64 0, .int .i64 0] [(0, 4, t49_20)] h_15) fun t50_21 h_22 =>
        ob (apnd 4 32 t43_17 t50_21 h_22) fun t51_23 h_24 =>
        oa (fldA 1 n7) fun t52_25 =>
        oh (stN 1 h_24 t52_25 t51_23) fun h_26 =>
        oa (binV .add .scalar i9 (.int .i64 1)) fun t28_27 =>
        milestonelaw9_ProductGreat_l2 T k j0 back2 n7 cost8 t28_27 h_26
        )
        (
        oa (binV .add .scalar i9 (.int .i64 1)) fun t28_28 =>
        milestonelaw9_ProductGreat_l2 T k j0 back2 n7 cost8 t28_28 h_15
        )
      )
      (
      milestonelaw9_ProductGreat_b3 T k n7 cost8 h
      ) := loopEq (by kernel_rfl)
theorem milestonelaw9_ProductGreat_b1_eq (T : Tab) (k : Nat) (back2 n7 cost8 : AV) (h : Heap) : milestonelaw9_ProductGreat_b1 T k back2 n7 cost8 h =
    milestonelaw9_ProductGreat_l2 T k k back2 n7 cost8 (.int .i64 0) h := blockEq (by kernel_rfl)
theorem milestonelaw9_ProductGreat_eq (T : Tab) (k : Nat) (k0 zero1 back2 : AV) (h : Heap) : runF T k milestonelaw9_ProductGreat_mf [k0, zero1, back2] h =
    ob (evalFn T k f_milestonelaw9_known [] h) fun t15_1 h_2 =>
    oa (unV .not t15_1) fun t16_3 =>
    cond2 t16_3
      (
      some ((.bool false), h_2)
      )
      (
      ob (evalFn T k f_milestonelaw9_within [k0, (.int .i64 50)] h_2) fun t18_4 h_5 =>
      oa (binV .add .scalar (.int .i64 2) t18_4) fun t19_6 =>
      oa (buildV [.int .i64 0, .nils] [(0, 1, t19_6)]) fun t20_7 =>
      ob (newVar h_5 [.int .i64 0, .nils]) fun n7_8 h_9 =>
      oh (stN 2 h_9 n7_8 t20_7) fun h_10 =>
      cond2 zero1
        (
        milestonelaw9_ProductGreat_b1 T k back2 n7_8 (.int .i64 0) h_10
        )
        (
        milestonelaw9_ProductGreat_b1 T k back2 n7_8 (.int .i64 2147483647) h_10
        )
      ) := runEq (by kernel_rfl)
def milestonelaw9_known_rs : Res := [(0, none)]
noncomputable def milestonelaw9_known_mf : MFn := ⟨67, milestonelaw9_known_rs, .seq [0] (.region [⟨some 0, .op (.mv (.const (.bool false))), none⟩]) (.seq [8, 9, 10] (.region [⟨some 8, .op (.build [.int .i64 0, .int .i64 0, .int .i64 0, .int .i64 0] [(0, 1, (.const (.int .i64 0))), (1, 1, (.const (.int .i64 1))), (3, 1, (.const (.int .i64 4)))]), none⟩,
  ⟨some 9, .op (.buildSlice 4 1 [.int .i64 0, .int .i64 0, .int .i64 0, .int .i64 0] [(0, 4, (.tmp 8))]), none⟩,
  ⟨some 10, .op (.build [.int .i64 0, .nils] [(0, 1, (.const (.int .i64 2))), (1, 1, (.tmp 9))]), none⟩,
  ⟨some 1, .op (.alloc [.int .i64 0, .nils]), none⟩,
  ⟨none, .op (.store 2 (.tmp 1) (.tmp 10)), none⟩]) (.seq [11, 12, 13, 14] (.region [⟨some 11, .op (.build [.int .i64 0, .int .i64 0, .int .i64 0, .int .i64 0, .int .i64 0] []), none⟩,
  ⟨some 12, .op (.buildSlice 5 1 [.int .i64 0, .int .i64 0, .int .i64 0, .int .i64 0, .int .i64 0] [(0, 5, (.tmp 11))]), none⟩,
  ⟨some 13, .op (.buildSlice 1 1 [.bool false] [(0, 1, (.const (.bool true)))]), none⟩,
  ⟨some 14, .op (.build [.nils, .nils] [(0, 1, (.tmp 12)), (1, 1, (.tmp 13))]), none⟩,
  ⟨some 2, .op (.alloc [.nils, .nils]), none⟩,
  ⟨none, .op (.store 2 (.tmp 2) (.tmp 14)), none⟩]) (.seq [15, 16, 17, 18, 19, 20] (.region [⟨some 16, .op (.load (some 2) (.tmp 1)), none⟩,
  ⟨some 17, .op (.load (some 2) (.tmp 2)), none⟩,
  ⟨some 18, .call f_product_Route [(.tmp 16), (.tmp 17), (.const (.int .i64 1)), (.const (.int .i64 1))], none⟩,
  ⟨some 15, .op (.mv (.tmp 18)), none⟩,
  ⟨some 19, .op (.extract 0 (.tmp 15)), none⟩,
  ⟨some 20, .op (.extract 1 (.tmp 15)), none⟩,
  ⟨some 3, .op (.alloc [.int .i64 0, .nils]), none⟩,
  ⟨none, .op (.store 2 (.tmp 3) (.tmp 19)), none⟩,
  ⟨some 4, .op (.mv (.tmp 20)), none⟩]) (.seq [21, 22, 23, 24, 25, 26] (.region [⟨some 22, .op (.load (some 2) (.tmp 1)), none⟩,
  ⟨some 23, .op (.load (some 2) (.tmp 2)), none⟩,
  ⟨some 24, .call f_product_Route [(.tmp 22), (.tmp 23), (.const (.int .i64 0)), (.const (.int .i64 1))], none⟩,
  ⟨some 21, .op (.mv (.tmp 24)), none⟩,
  ⟨some 25, .op (.extract 0 (.tmp 21)), none⟩,
  ⟨some 26, .op (.extract 1 (.tmp 21)), none⟩,
  ⟨some 5, .op (.alloc [.int .i64 0, .nils]), none⟩,
  ⟨none, .op (.store 2 (.tmp 5) (.tmp 25)), none⟩,
  ⟨some 6, .op (.mv (.tmp 26)), none⟩]) (.seq [1, 2, 27, 28, 29] (.region [⟨some 27, .op (.load (some 2) (.tmp 1)), none⟩,
  ⟨some 28, .op (.load (some 2) (.tmp 2)), none⟩,
  ⟨some 29, .call f_product_Costs [(.tmp 27), (.tmp 28), (.const (.int .i64 0))], none⟩,
  ⟨some 7, .op (.mv (.tmp 29)), none⟩]) (.seq [3, 4, 5, 6, 7, 30, 31, 32, 33, 34, 35, 36, 37, 38, 39, 40, 41, 42, 43, 44, 45, 46, 47, 48, 49, 50, 51, 52, 53, 54, 55, 56, 57, 58, 59, 60, 61, 62, 63, 64, 65, 66] (.region [⟨some 30, .op (.mv (.tmp 4)), none⟩,
  ⟨some 31, .op (.mv (.tmp 30)), none⟩,
  ⟨some 32, .op (.fieldAddr 0 (.tmp 3)), some (31, true)⟩,
  ⟨some 33, .op (.load none (.tmp 32)), some (31, true)⟩,
  ⟨some 34, .op (.bin .eql .scalar (.tmp 33) (.const (.int .i64 0))), some (31, true)⟩,
  ⟨some 35, .op (.pick (.tmp 31) (.tmp 34) (.const (.bool false))), none⟩,
  ⟨some 36, .op (.mv (.tmp 35)), none⟩,
  ⟨some 37, .op (.fieldAddr 1 (.tmp 3)), some (36, true)⟩,
  ⟨some 38, .op (.load none (.tmp 37)), some (36, true)⟩,
  ⟨some 39, .op (.lenSl (.tmp 38)), some (36, true)⟩,
  ⟨some 40, .op (.bin .eql .scalar (.tmp 39) (.const (.int .i64 0))), some (36, true)⟩,
  ⟨some 41, .op (.pick (.tmp 36) (.tmp 40) (.const (.bool false))), none⟩,
  ⟨some 42, .op (.mv (.tmp 41)), none⟩,
  ⟨some 43, .op (.mv (.tmp 6)), some (42, true)⟩,
  ⟨some 44, .op (.pick (.tmp 42) (.tmp 43) (.const (.bool false))), none⟩,
  ⟨some 45, .op (.mv (.tmp 44)), none⟩,
  ⟨some 46, .op (.fieldAddr 0 (.tmp 5)), some (45, true)⟩,
  ⟨some 47, .op (.load none (.tmp 46)), some (45, true)⟩,
  ⟨some 48, .op (.bin .eql .scalar (.tmp 47) (.const (.int .i64 4))), some (45, true)⟩,
  ⟨some 49, .op (.pick (.tmp 45) (.tmp 48) (.const (.bool false))), none⟩,
  ⟨some 50, .op (.mv (.tmp 49)), none⟩,
  ⟨some 51, .op (.fieldAddr 1 (.tmp 5)), some (50, true)⟩,
  ⟨some 52, .op (.load none (.tmp 51)), some (50, true)⟩,
  ⟨some 53, .op (.lenSl (.tmp 52)), some (50, true)⟩,
  ⟨some 54, .op (.bin .eql .scalar (.tmp 53) (.const (.int .i64 1))), some (50, true)⟩,
  ⟨some 55, .op (.pick (.tmp 50) (.tmp 54) (.const (.bool false))), none⟩,
  ⟨some 56, .op (.mv (.tmp 55)), none⟩,
  ⟨some 57, .op (.mv (.tmp 7)), some (56, true)⟩,
  ⟨some 58, .op (.lenSl (.tmp 57)), some (56, true)⟩,
  ⟨some 59, .op (.bin .eql .scalar (.tmp 58) (.const (.int .i64 2))), some (56, true)⟩,
  ⟨some 60, .op (.pick (.tmp 56) (.tmp 59) (.const (.bool false))), none⟩,
  ⟨some 61, .op (.mv (.tmp 60)), none⟩,
  ⟨some 62, .op (.mv (.tmp 7)), some (61, true)⟩,
  ⟨some 63, .op (.idxSl 1 (.tmp 62) (.const (.int .i64 1))), some (61, true)⟩,
  ⟨some 64, .op (.load none (.tmp 63)), some (61, true)⟩,
  ⟨some 65, .op (.bin .eql .scalar (.tmp 64) (.const (.int .i64 4))), some (61, true)⟩,
  ⟨some 66, .op (.pick (.tmp 61) (.tmp 65) (.const (.bool false))), none⟩,
  ⟨some 0, .op (.mv (.tmp 66)), none⟩]) .ret))))))⟩
theorem milestonelaw9_known_eq (T : Tab) (k : Nat) (h : Heap) : runF T k milestonelaw9_known_mf [] h =
    oa (buildV [.int .i64 0, .int .i64 0, .int .i64 0, .int .i64 0] [(0, 1, (.int .i64 0)), (1, 1, (.int .i64 1)), (3, 1, (.int .i64 4))]) fun t8_1 =>
    ob (buildSl 4 1 [.int .i64 0, .int .i64 0, .int .i64 0, .int .i64 0] [(0, 4, t8_1)] h) fun t9_2 h_3 =>
    oa (buildV [.int .i64 0, .nils] [(0, 1, (.int .i64 2)), (1, 1, t9_2)]) fun t10_4 =>
    ob (newVar h_3 [.int .i64 0, .nils]) fun n1_5 h_6 =>
    oh (stN 2 h_6 n1_5 t10_4) fun h_7 =>
    oa (buildV [.int .i64 0, .int .i64 0, .int .i64 0, .int .i64 0, .int .i64 0] []) fun t11_8 =>
    ob (buildSl 5 1 [.int .i64 0, .int .i64 0, .int .i64 0, .int .i64 0, .int .i64 0] [(0, 5, t11_8)] h_7) fun t12_9 h_10 =>
    ob (buildSl 1 1 [.bool false] [(0, 1, (.bool true))] h_10) fun t13_11 h_12 =>
    oa (buildV [.nils, .nils] [(0, 1, t12_9), (1, 1, t13_11)]) fun t14_13 =>
    ob (newVar h_12 [.nils, .nils]) fun d2_14 h_15 =>
    oh (stN 2 h_15 d2_14 t14_13) fun h_16 =>
    oa (ldN 2 h_16 n1_5) fun t16_17 =>
    oa (ldN 2 h_16 d2_14) fun t17_18 =>
    ob (evalFn T k f_product_Route [t16_17, t17_18, (.int .i64 1), (.int .i64 1)] h_16) fun t18_19 h_20 =>
    oa (extr 0 t18_19) fun t19_21 =>
    oa (extr 1 t18_19) fun t20_22 =>
    ob (newVar h_20 [.int .i64 0, .nils]) fun r3_23 h_24 =>
    oh (stN 2 h_24 r3_23 t19_21) fun h_25 =>
    oa (ldN 2 h_25 n1_5) fun t22_26 =>
    oa (ldN 2 h_25 d2_14) fun t23_27 =>
    ob (evalFn T k f_product_Route [t22_26, t23_27, (.int .i64 0), (.int .i64 1)] h_25) fun t24_28 h_29 =>
    oa (extr 0 t24_28) fun t25_30 =>
    oa (extr 1 t24_28) fun t26_31 =>
    ob (newVar h_29 [.int .i64 0, .nils]) fun o5_32 h_33 =>
    oh (stN 2 h_33 o5_32 t25_30) fun h_34 =>
    oa (ldN 2 h_34 n1_5) fun t27_35 =>
    oa (ldN 2 h_34 d2_14) fun t28_36 =>
    ob (evalFn T k f_product_Costs [t27_35, t28_36, (.int .i64 0)] h_34) fun t29_37 h_38 =>
    ob (gd t20_22 true (pure1 h_38 (fldA 0 r3_23)) h_38) fun t32_39 h_40 =>
    ob (gd t20_22 true (pure1 h_40 (ld1 h_40 t32_39)) h_40) fun t33_41 h_42 =>
    ob (gd t20_22 true (pure1 h_42 (binV .eql .scalar t33_41 (.int .i64 0))) h_42) fun t34_43 h_44 =>
    oa (pickV t20_22 t34_43 (.bool false)) fun t35_45 =>
    ob (gd t35_45 true (pure1 h_44 (fldA 1 r3_23)) h_44) fun t37_46 h_47 =>
    ob (gd t35_45 true (pure1 h_47 (ld1 h_47 t37_46)) h_47) fun t38_48 h_49 =>
    ob (gd t35_45 true (pure1 h_49 (lenS t38_48)) h_49) fun t39_50 h_51 =>
    ob (gd t35_45 true (pure1 h_51 (binV .eql .scalar t39_50 (.int .i64 0))) h_51) fun t40_52 h_53 =>
    oa (pickV t35_45 t40_52 (.bool false)) fun t41_54 =>
    ob (gd t41_54 true (some (t26_31, h_53)) h_53) fun t43_55 h_56 =>
    oa (pickV t41_54 t43_55 (.bool false)) fun t44_57 =>
    ob (gd t44_57 true (pure1 h_56 (fldA 0 o5_32)) h_56) fun t46_58 h_59 =>
    ob (gd t44_57 true (pure1 h_59 (ld1 h_59 t46_58)) h_59) fun t47_60 h_61 =>
    ob (gd t44_57 true (pure1 h_61 (binV .eql .scalar t47_60 (.int .i64 4))) h_61) fun t48_62 h_63 =>
    oa (pickV t44_57 t48_62 (.bool false)) fun t49_64 =>
    ob (gd t49_64 true (pure1 h_63 (fldA 1 o5_32)) h_63) fun t51_65 h_66 =>
    ob (gd t49_64 true (pure1 h_66 (ld1 h_66 t51_65)) h_66) fun t52_67 h_68 =>
    ob (gd t49_64 true (pure1 h_68 (lenS t52_67)) h_68) fun t53_69 h_70 =>
    ob (gd t49_64 true (pure1 h_70 (binV .eql .scalar t53_69 (.int .i64 1))) h_70) fun t54_71 h_72 =>
    oa (pickV t49_64 t54_71 (.bool false)) fun t55_73 =>
    ob (gd t55_73 true (some (t29_37, h_72)) h_72) fun t57_74 h_75 =>
    ob (gd t55_73 true (pure1 h_75 (lenS t57_74)) h_75) fun t58_76 h_77 =>
    ob (gd t55_73 true (pure1 h_77 (binV .eql .scalar t58_76 (.int .i64 2))) h_77) fun t59_78 h_79 =>
    oa (pickV t55_73 t59_78 (.bool false)) fun t60_80 =>
    ob (gd t60_80 true (some (t29_37, h_79)) h_79) fun t62_81 h_82 =>
    ob (gd t60_80 true (pure1 h_82 (idxS 1 t62_81 (.int .i64 1))) h_82) fun t63_83 h_84 =>
    ob (gd t60_80 true (pure1 h_84 (ld1 h_84 t63_83)) h_84) fun t64_85 h_86 =>
    ob (gd t60_80 true (pure1 h_86 (binV .eql .scalar t64_85 (.int .i64 4))) h_86) fun t65_87 h_88 =>
    oa (pickV t60_80 t65_87 (.bool false)) fun t66_89 =>
    some (t66_89, h_88) := runEq (by kernel_rfl)
def milestonelaw9_within_rs : Res := [(4, none)]
noncomputable def milestonelaw9_within_mf : MFn := ⟨15, milestonelaw9_within_rs, .seq [4] (.region [⟨some 4, .op (.mv (.const (.int .i64 0))), none⟩]) (.seq [0, 6, 7, 8] (.region [⟨some 6, .op (.mv (.tmp 0)), none⟩,
  ⟨some 7, .op (.mv (.tmp 1)), none⟩,
  ⟨some 8, .op (.bin .rem .scalar (.tmp 6) (.tmp 7)), none⟩,
  ⟨some 5, .op (.mv (.tmp 8)), none⟩]) (.seq [1, 10, 11, 12, 13] (.seq [9] (.region [⟨some 9, .op (.mv (.tmp 5)), none⟩,
  ⟨some 10, .op (.bin .lss .scalar (.tmp 9) (.const (.int .i64 0))), none⟩]) (.cond (.tmp 10) (.region [⟨some 11, .op (.mv (.tmp 5)), none⟩,
  ⟨some 12, .op (.mv (.tmp 1)), none⟩,
  ⟨some 13, .op (.bin .add .scalar (.tmp 11) (.tmp 12)), none⟩,
  ⟨some 5, .op (.mv (.tmp 13)), none⟩]) .skip)) (.seq [5, 14] (.region [⟨some 14, .op (.mv (.tmp 5)), none⟩,
  ⟨some 4, .op (.mv (.tmp 14)), none⟩]) .ret)))⟩
theorem milestonelaw9_within_eq (T : Tab) (k : Nat) (at0 n1 : AV) (h : Heap) : runF T k milestonelaw9_within_mf [at0, n1] h =
    oa (binV .rem .scalar at0 n1) fun t8_1 =>
    oa (binV .lss .scalar t8_1 (.int .i64 0)) fun t10_2 =>
    cond2 t10_2
      (
      oa (binV .add .scalar t8_1 n1) fun t13_3 =>
      some (t13_3, h)
      )
      (
      some (t8_1, h)
      ) := runEq (by kernel_rfl)
noncomputable def product_Costs_c1 : MCode := .seq [] (.region [⟨some 26, .op (.bin .lss .scalar (.tmp 25) (.tmp 24)), none⟩]) (.seq [26] (.cond (.tmp 26) .skip (.exit 0)) (.seq [9, 10, 35, 36, 37, 38, 39, 40, 41, 42, 43, 44, 45] (.block 1 (.seq [27] (.region [⟨some 27, .op (.mv (.tmp 25)), none⟩,
  ⟨some 9, .op (.mv (.tmp 27)), none⟩]) (.seq [28, 29, 30] (.region [⟨some 28, .op (.mv (.tmp 8)), none⟩,
  ⟨some 29, .op (.mv (.tmp 9)), none⟩,
  ⟨some 30, .op (.idxSl 1 (.tmp 28) (.tmp 29)), none⟩,
  ⟨none, .op (.store 1 (.tmp 30) (.const (.int .i64 (-1)))), none⟩]) (.seq [31, 32, 33] (.region [⟨some 31, .op (.mv (.tmp 7)), none⟩,
  ⟨some 32, .op (.mv (.tmp 9)), none⟩,
  ⟨some 33, .call f_product_search_best [(.tmp 31), (.tmp 32)], none⟩,
  ⟨some 10, .op (.mv (.tmp 33)), none⟩]) (.seq [34] (.region [⟨some 34, .op (.mv (.tmp 10)), none⟩,
  ⟨some 35, .op (.bin .geq .scalar (.tmp 34) (.const (.int .i64 0))), none⟩]) (.cond (.tmp 35) (.region [⟨some 36, .op (.mv (.tmp 8)), none⟩,
  ⟨some 37, .op (.mv (.tmp 9)), none⟩,
  ⟨some 38, .op (.mv (.tmp 7)), none⟩,
  ⟨some 39, .op (.nilCheck (.tmp 38)), none⟩,
  ⟨some 40, .op (.fieldAddr 3 (.tmp 39)), none⟩,
  ⟨some 41, .op (.load none (.tmp 40)), none⟩,
  ⟨some 42, .op (.mv (.tmp 10)), none⟩,
  ⟨some 43, .op (.idxSl 1 (.tmp 41) (.tmp 42)), none⟩,
  ⟨some 44, .op (.load none (.tmp 43)), none⟩,
  ⟨some 45, .op (.idxSl 1 (.tmp 36) (.tmp 37)), none⟩,
  ⟨none, .op (.store 1 (.tmp 45) (.tmp 44)), none⟩]) .skip)))))) (.region [⟨some 46, .op (.bin .add .scalar (.tmp 25) (.const (.int .i64 1))), none⟩,
  ⟨some 25, .op (.mv (.tmp 46)), none⟩])))
def product_Costs_rs : Res := [(6, none)]
noncomputable def product_Costs_mf : MFn := ⟨48, product_Costs_rs, .seq [0, 1, 6] (.region [⟨some 3, .op (.box (.tmp 0)), none⟩,
  ⟨some 4, .op (.box (.tmp 1)), none⟩,
  ⟨some 6, .op (.mv (.const .nils)), none⟩]) (.seq [2, 4, 11, 12, 13, 14, 15, 16, 17] (.region [⟨some 11, .op (.load (some 2) (.tmp 3)), none⟩,
  ⟨some 12, .op (.load (some 2) (.tmp 4)), none⟩,
  ⟨some 13, .call f_product_join [(.tmp 11), (.tmp 12)], none⟩,
  ⟨some 14, .op (.mv (.tmp 2)), none⟩,
  ⟨some 15, .op (.build [.int .i64 0, .int .i64 0] [(0, 1, (.tmp 14)), (1, 1, (.const (.int .i64 0)))]), none⟩,
  ⟨some 16, .op (.buildSlice 2 1 [.int .i64 0, .int .i64 0] [(0, 2, (.tmp 15))]), none⟩,
  ⟨some 17, .call f_product_graph_begin [(.tmp 13), (.const (.fn f_product_graph_on [] [])), (.tmp 16)], none⟩,
  ⟨some 7, .op (.mv (.tmp 17)), none⟩]) (.seq [18, 19] (.region [⟨some 18, .op (.mv (.tmp 7)), none⟩,
  ⟨some 19, .call f_product_search_all [(.tmp 18)], none⟩]) (.seq [3, 20, 21, 22] (.region [⟨some 20, .op (.fieldAddr 0 (.tmp 3)), none⟩,
  ⟨some 21, .op (.load none (.tmp 20)), none⟩,
  ⟨some 22, .op (.mkSlice [.int .i64 0] 1 8 (.tmp 21) (.tmp 21)), none⟩,
  ⟨some 8, .op (.mv (.tmp 22)), none⟩]) (.seq [7, 24, 25, 26] (.seq [23] (.region [⟨some 23, .op (.mv (.tmp 8)), none⟩,
  ⟨some 24, .op (.lenSl (.tmp 23)), none⟩,
  ⟨some 25, .op (.mv (.const (.int .i64 0))), none⟩]) (.block 0 (.loop [46] product_Costs_c1))) (.seq [8, 47] (.region [⟨some 47, .op (.mv (.tmp 8)), none⟩,
  ⟨some 6, .op (.mv (.tmp 47)), none⟩]) .ret)))))⟩
noncomputable def product_Costs_l1 (T : Tab) (k j0 : Nat) (s7 out8 t24 t25 : AV) (h : Heap) : Option (AV × Heap) :=
  loopB T k product_Costs_rs j0 [46] product_Costs_c1 [.blk 0, .seq [7, 24, 25, 26] (.seq [8, 47] (.region [⟨some 47, .op (.mv (.tmp 8)), none⟩,
  ⟨some 6, .op (.mv (.tmp 47)), none⟩]) .ret)] [.undef, .undef, .undef, .undef, .undef, .undef, .undef, s7, out8, .undef, .undef, .undef, .undef, .undef, .undef, .undef, .undef, .undef, .undef, .undef, .undef, .undef, .undef, .undef, t24, t25, .undef, .undef, .undef, .undef, .undef, .undef, .undef, .undef, .undef, .undef, .undef, .undef, .undef, .undef, .undef, .undef, .undef, .undef, .undef, .undef, .undef, .undef] h
theorem product_Costs_l1_eq (T : Tab) (k j0 : Nat) (s7 out8 t24 t25 : AV) (h : Heap) : product_Costs_l1 T k (j0 + 1) s7 out8 t24 t25 h =
    oa (binV .lss .scalar t25 t24) fun t26_1 =>
    cond2 t26_1
      (
      oa (idxS 1 out8 t25) fun t30_2 =>
      oh (stN 1 h t30_2 (.int .i64 (-1))) fun h_3 =>
      ob (evalFn T k f_product_search_best [s7, t25] h_3) fun t33_4 h_5 =>
      oa (binV .geq .scalar t33_4 (.int .i64 0)) fun t35_6 =>
      cond2 t35_6
        (
        oa (nilCk s7) fun t39_7 =>
        oa (fldA 3 t39_7) fun t40_8 =>
        oa (ld1 h_5 t40_8) fun t41_9 =>
        oa (idxS 1 t41_9 t33_4) fun t43_10 =>
        oa (ld1 h_5 t43_10) fun t44_11 =>
        oa (idxS 1 out8 t25) fun t45_12 =>
        oh (stN 1 h_5 t45_12 t44_11) fun h_13 =>
        oa (binV .add .scalar t25 (.int .i64 1)) fun t46_14 =>
        product_Costs_l1 T k j0 s7 out8 t24 t46_14 h_13
        )
        (
        oa (binV .add .scalar t25 (.int .i64 1)) fun t46_15 =>
        product_Costs_l1 T k j0 s7 out8 t24 t46_15 h_5
        )
      )
      (
      some (out8, h)
      ) := loopEq (by kernel_rfl)
theorem product_Costs_eq (T : Tab) (k : Nat) (n0 d1 from2 : AV) (h : Heap) : runF T k product_Costs_mf [n0, d1, from2] h =
    ob (newVar h (AV.cells n0)) fun n3_1 h_2 =>
    ob (newVar h_2 (AV.cells d1)) fun d4_3 h_4 =>
    oa (ldN 2 h_4 n3_1) fun t11_5 =>
    oa (ldN 2 h_4 d4_3) fun t12_6 =>
    ob (evalFn T k f_product_join [t11_5, t12_6] h_4) fun t13_7 h_8 =>
    oa (buildV [.int .i64 0, .int .i64 0] [(0, 1, from2), (1, 1, (.int .i64 0))]) fun t15_9 =>
    ob (buildSl 2 1 [.int .i64 0, .int .i64 0] [(0, 2, t15_9)] h_8) fun t16_10 h_11 =>
    ob (evalFn T k f_product_graph_begin [t13_7, (.fn f_product_graph_on [] []), t16_10] h_11) fun t17_12 h_13 =>
    ob (evalFn T k f_product_search_all [t17_12] h_13) fun t19_14 h_15 =>
    oa (fldA 0 n3_1) fun t20_16 =>
    oa (ld1 h_15 t20_16) fun t21_17 =>
    ob (mkSl [.int .i64 0] 1 8 t21_17 t21_17 h_15) fun t22_18 h_19 =>
    oa (lenS t22_18) fun t24_20 =>
    product_Costs_l1 T k k t17_12 t22_18 t24_20 (.int .i64 0) h_19 := runEq (by kernel_rfl)
def product_Route_rs : Res := [(8, some (some 2)), (9, none)]
noncomputable def product_Route_mf : MFn := ⟨38, product_Route_rs, .seq [0, 1, 9] (.region [⟨some 4, .op (.box (.tmp 0)), none⟩,
  ⟨some 5, .op (.box (.tmp 1)), none⟩,
  ⟨some 8, .op (.alloc [.int .i64 0, .nils]), none⟩,
  ⟨some 9, .op (.mv (.const (.bool false))), none⟩]) (.seq [2, 4, 5, 12, 13, 14, 15, 16, 17, 18] (.region [⟨some 12, .op (.load (some 2) (.tmp 4)), none⟩,
  ⟨some 13, .op (.load (some 2) (.tmp 5)), none⟩,
  ⟨some 14, .call f_product_join [(.tmp 12), (.tmp 13)], none⟩,
  ⟨some 15, .op (.mv (.tmp 2)), none⟩,
  ⟨some 16, .op (.build [.int .i64 0, .int .i64 0] [(0, 1, (.tmp 15)), (1, 1, (.const (.int .i64 0)))]), none⟩,
  ⟨some 17, .op (.buildSlice 2 1 [.int .i64 0, .int .i64 0] [(0, 2, (.tmp 16))]), none⟩,
  ⟨some 18, .call f_product_graph_begin [(.tmp 14), (.const (.fn f_product_graph_on [] [])), (.tmp 17)], none⟩,
  ⟨some 10, .op (.mv (.tmp 18)), none⟩]) (.seq [19, 20] (.region [⟨some 19, .op (.mv (.tmp 10)), none⟩,
  ⟨some 20, .call f_product_search_all [(.tmp 19)], none⟩]) (.seq [3, 21, 22, 23] (.region [⟨some 21, .op (.mv (.tmp 10)), none⟩,
  ⟨some 22, .op (.mv (.tmp 3)), none⟩,
  ⟨some 23, .call f_product_search_best [(.tmp 21), (.tmp 22)], none⟩,
  ⟨some 11, .op (.mv (.tmp 23)), none⟩]) (.seq [25] (.seq [24] (.region [⟨some 24, .op (.mv (.tmp 11)), none⟩,
  ⟨some 25, .op (.bin .lss .scalar (.tmp 24) (.const (.int .i64 0))), none⟩]) (.cond (.tmp 25) (.seq [10, 11, 25, 26] (.region [⟨some 26, .op (.build [.int .i64 0, .nils] []), none⟩,
  ⟨none, .op (.store 2 (.tmp 8) (.tmp 26)), none⟩,
  ⟨some 9, .op (.mv (.const (.bool false))), none⟩]) .ret) .skip)) (.seq [10, 11, 27, 28, 29, 30, 31, 32, 33, 34, 35, 36, 37] (.regionD 38 [⟨0, ⟨some 38, .op (.mv (.tmp 10)), none⟩, []⟩,
  ⟨1, ⟨some 39, .op (.nilCheck (.tmp 38)), none⟩, []⟩,
  ⟨2, ⟨some 40, .op (.fieldAddr 3 (.tmp 39)), none⟩, []⟩,
  ⟨3, ⟨some 41, .op (.load none (.tmp 40)), none⟩, []⟩,
  ⟨4, ⟨some 42, .op (.mv (.tmp 11)), none⟩, []⟩,
  ⟨5, ⟨some 43, .op (.idxSl 1 (.tmp 41) (.tmp 42)), none⟩, []⟩,
  ⟨6, ⟨some 44, .op (.load none (.tmp 43)), none⟩, []⟩,
  ⟨7, ⟨some 45, .op (.mv (.tmp 10)), none⟩, []⟩,
  ⟨8, ⟨some 46, .op (.mv (.tmp 11)), none⟩, []⟩,
  ⟨9, ⟨some 47, .call f_product_search_edges [(.tmp 45), (.tmp 46)], none⟩, [(41, ⟨some 41, .op (.load none (.tmp 40)), none⟩), (44, ⟨some 44, .op (.load none (.tmp 43)), none⟩)]⟩,
  ⟨10, ⟨some 48, .op (.build [.int .i64 0, .nils] [(0, 1, (.tmp 44)), (1, 1, (.tmp 47))]), none⟩, []⟩,
  ⟨11, ⟨some 49, .op (.store 2 (.tmp 8) (.tmp 48)), none⟩, []⟩,
  ⟨12, ⟨some 50, .op (.mv (.const (.bool true))), none⟩, []⟩] [(27, 38), (28, 39), (29, 40), (30, 41), (31, 42), (32, 43), (33, 44), (34, 45), (35, 46), (36, 47), (37, 48), (9, 50)]) .ret)))))⟩
theorem product_Route_eq (T : Tab) (k : Nat) (n0 d1 from2 to3 : AV) (h : Heap) : runF T k product_Route_mf [n0, d1, from2, to3] h =
    ob (newVar h (AV.cells n0)) fun n4_1 h_2 =>
    ob (newVar h_2 (AV.cells d1)) fun d5_3 h_4 =>
    ob (newVar h_4 [.int .i64 0, .nils]) fun t8_5 h_6 =>
    oa (ldN 2 h_6 n4_1) fun t12_7 =>
    oa (ldN 2 h_6 d5_3) fun t13_8 =>
    ob (evalFn T k f_product_join [t12_7, t13_8] h_6) fun t14_9 h_10 =>
    oa (buildV [.int .i64 0, .int .i64 0] [(0, 1, from2), (1, 1, (.int .i64 0))]) fun t16_11 =>
    ob (buildSl 2 1 [.int .i64 0, .int .i64 0] [(0, 2, t16_11)] h_10) fun t17_12 h_13 =>
    ob (evalFn T k f_product_graph_begin [t14_9, (.fn f_product_graph_on [] []), t17_12] h_13) fun t18_14 h_15 =>
    ob (evalFn T k f_product_search_all [t18_14] h_15) fun t20_16 h_17 =>
    ob (evalFn T k f_product_search_best [t18_14, to3] h_17) fun t23_18 h_19 =>
    oa (binV .lss .scalar t23_18 (.int .i64 0)) fun t25_20 =>
    cond2 t25_20
      (
      oa (buildV [.int .i64 0, .nils] []) fun t26_21 =>
      oh (stN 2 h_19 t8_5 t26_21) fun h_22 =>
      oa (ldN 2 h_22 t8_5) fun t8_23 =>
      some (.tup [t8_23, (.bool false)], h_22)
      )
      (
      oa (nilCk t18_14) fun t39_24 =>
      oa (fldA 3 t39_24) fun t40_25 =>
      oa (ld1 h_19 t40_25) fun t41_26 =>
      oa (idxS 1 t41_26 t23_18) fun t43_27 =>
      oa (ld1 h_19 t43_27) fun t44_28 =>
      ob (evalFn T k f_product_search_edges [t18_14, t23_18] h_19) fun t47_29 h_30 =>
      chk ((sameB (pure1 h_30 (ld1 h_30 t40_25)) t41_26 && (sameB (pure1 h_30 (ld1 h_30 t43_27)) t44_28 && true))) <|
      oa (buildV [.int .i64 0, .nils] [(0, 1, t44_28), (1, 1, t47_29)]) fun t48_31 =>
      oh (stN 2 h_30 t8_5 t48_31) fun h_32 =>
      oa (ldN 2 h_32 t8_5) fun t8_33 =>
      some (.tup [t8_33, (.bool true)], h_32)
      ) := runEq (by kernel_rfl)
noncomputable def product_Both_c1 : MCode := .seq [] (.region [⟨some 37, .op (.bin .lss .scalar (.tmp 36) (.tmp 35)), none⟩]) (.seq [37] (.cond (.tmp 37) .skip (.exit 0)) (.seq [13, 41, 42, 43, 44, 45, 46, 47] (.block 1 (.seq [38, 39, 40] (.region [⟨some 38, .op (.mv (.tmp 36)), none⟩,
  ⟨some 39, .op (.idxSl 1 (.tmp 34) (.tmp 36)), none⟩,
  ⟨some 40, .op (.load none (.tmp 39)), none⟩,
  ⟨some 13, .op (.mv (.tmp 38)), none⟩,
  ⟨some 14, .op (.mv (.tmp 40)), none⟩]) (.seq [14] (.region [⟨some 41, .op (.mv (.tmp 14)), none⟩]) (.cond (.tmp 41) (.region [⟨some 42, .op (.mv (.tmp 12)), none⟩,
  ⟨some 43, .op (.mv (.tmp 3)), none⟩,
  ⟨some 44, .op (.mv (.tmp 13)), none⟩,
  ⟨some 45, .op (.build [.int .i64 0, .int .i64 0] [(0, 1, (.tmp 43)), (1, 1, (.tmp 44))]), none⟩,
  ⟨some 46, .op (.buildSlice 2 1 [.int .i64 0, .int .i64 0] [(0, 2, (.tmp 45))]), none⟩,
  ⟨some 47, .op (.append 2 16 (.tmp 42) (.tmp 46)), none⟩,
  ⟨some 12, .op (.mv (.tmp 47)), none⟩]) .skip)))) (.region [⟨some 48, .op (.bin .add .scalar (.tmp 36) (.const (.int .i64 1))), none⟩,
  ⟨some 36, .op (.mv (.tmp 48)), none⟩])))
noncomputable def product_Both_c2 : MCode := .seq [] (.region [⟨some 93, .op (.bin .lss .scalar (.tmp 92) (.tmp 91)), none⟩]) (.seq [93] (.cond (.tmp 93) .skip (.exit 4)) (.seq [22, 95, 96, 97] (.block 5 (.seq [94] (.region [⟨some 94, .op (.mv (.tmp 92)), none⟩,
  ⟨some 22, .op (.mv (.tmp 94)), none⟩]) (.region [⟨some 95, .op (.mv (.tmp 17)), none⟩,
  ⟨some 96, .op (.mv (.tmp 22)), none⟩,
  ⟨some 97, .callV (.tmp 95) [(.tmp 96)], none⟩]))) (.region [⟨some 98, .op (.bin .add .scalar (.tmp 92) (.const (.int .i64 1))), none⟩,
  ⟨some 92, .op (.mv (.tmp 98)), none⟩])))
noncomputable def product_Both_c3 : MCode := .seq [] (.region [⟨some 115, .op (.bin .lss .scalar (.tmp 114) (.tmp 113)), none⟩]) (.seq [115] (.cond (.tmp 115) .skip (.exit 6)) (.seq [24, 118, 119, 120, 121, 122, 123] (.block 7 (.seq [116, 117] (.region [⟨some 116, .op (.idxSl 3 (.tmp 112) (.tmp 114)), none⟩,
  ⟨some 117, .op (.load (some 3) (.tmp 116)), none⟩,
  ⟨some 24, .op (.alloc [.int .i64 0, .int .i64 0, .int .i64 0]), none⟩,
  ⟨none, .op (.store 3 (.tmp 24) (.tmp 117)), none⟩]) (.region [⟨some 118, .op (.mv (.tmp 17)), none⟩,
  ⟨some 119, .op (.mv (.tmp 10)), none⟩,
  ⟨some 120, .op (.fieldAddr 0 (.tmp 24)), none⟩,
  ⟨some 121, .op (.load (some 2) (.tmp 120)), none⟩,
  ⟨some 122, .call f_product_graph_id [(.tmp 119), (.tmp 121)], none⟩,
  ⟨some 123, .callV (.tmp 118) [(.tmp 122)], none⟩]))) (.region [⟨some 124, .op (.bin .add .scalar (.tmp 114) (.const (.int .i64 1))), none⟩,
  ⟨some 114, .op (.mv (.tmp 124)), none⟩])))
noncomputable def product_Both_c4 : MCode := .seq [99, 100, 101] (.region [⟨some 99, .op (.mv (.tmp 17)), none⟩,
  ⟨some 100, .op (.mv (.tmp 20)), none⟩,
  ⟨some 101, .callV (.tmp 99) [(.tmp 100)], none⟩]) (.seq [20, 102, 103, 104, 105, 106, 107, 108, 109, 110, 111] (.regionD 129 [⟨0, ⟨some 129, .op (.mv (.tmp 19)), none⟩, []⟩,
  ⟨1, ⟨some 130, .op (.idxArr 2 1 (.tmp 18) (.tmp 129)), none⟩, []⟩,
  ⟨2, ⟨some 131, .op (.load none (.tmp 130)), none⟩, []⟩,
  ⟨3, ⟨some 132, .op (.nilCheck (.tmp 131)), none⟩, []⟩,
  ⟨4, ⟨some 133, .op (.fieldAddr 1 (.tmp 132)), none⟩, []⟩,
  ⟨5, ⟨some 134, .op (.load none (.tmp 133)), none⟩, []⟩,
  ⟨6, ⟨some 135, .op (.mv (.tmp 10)), none⟩, []⟩,
  ⟨7, ⟨some 136, .op (.mv (.tmp 10)), none⟩, []⟩,
  ⟨8, ⟨some 137, .op (.mv (.tmp 20)), none⟩, []⟩,
  ⟨12, ⟨some 141, .op (.mv (.const (.int .i64 0))), none⟩, []⟩,
  ⟨9, ⟨some 138, .call f_product_graph_spot [(.tmp 136), (.tmp 137)], none⟩, [(131, ⟨some 131, .op (.load none (.tmp 130)), none⟩), (134, ⟨some 134, .op (.load none (.tmp 133)), none⟩)]⟩,
  ⟨10, ⟨some 139, .callV (.tmp 134) [(.tmp 135), (.tmp 138)], none⟩, []⟩,
  ⟨11, ⟨some 140, .op (.lenSl (.tmp 139)), none⟩, []⟩] [(102, 129), (103, 130), (104, 131), (105, 132), (106, 133), (107, 134), (108, 135), (109, 136), (110, 137), (111, 138), (112, 139), (113, 140), (114, 141)]) (.block 6 (.loop [124] product_Both_c3)))
noncomputable def product_Both_c5 : MCode := .region [⟨some 71, .op (.mv (.tmp 19)), none⟩,
  ⟨some 72, .op (.bin .sub .scalar (.const (.int .i64 1)) (.tmp 71)), none⟩,
  ⟨some 19, .op (.mv (.tmp 72)), none⟩]
noncomputable def product_Both_c6 : MCode := .seq [70] (.seq [56, 57, 58, 59, 60, 61, 62, 63, 64, 65, 66, 67, 68, 69] (.regionD 129 [⟨0, ⟨some 129, .op (.load none (.tmp 16)), none⟩, []⟩,
  ⟨1, ⟨some 130, .op (.bin .lss .scalar (.tmp 129) (.const (.int .i64 0))), none⟩, []⟩,
  ⟨2, ⟨some 131, .op (.mv (.tmp 130)), none⟩, []⟩,
  ⟨3, ⟨some 132, .op (.load none (.tmp 11)), some (131, false)⟩, []⟩,
  ⟨4, ⟨some 133, .op (.nilCheck (.tmp 132)), some (131, false)⟩, []⟩,
  ⟨5, ⟨some 134, .op (.fieldAddr 6 (.tmp 133)), some (131, false)⟩, []⟩,
  ⟨6, ⟨some 135, .op (.load none (.tmp 134)), some (131, false)⟩, []⟩,
  ⟨7, ⟨some 136, .op (.load none (.tmp 15)), some (131, false)⟩, []⟩,
  ⟨8, ⟨some 137, .op (.nilCheck (.tmp 136)), some (131, false)⟩, []⟩,
  ⟨9, ⟨some 138, .op (.fieldAddr 6 (.tmp 137)), some (131, false)⟩, []⟩,
  ⟨10, ⟨some 139, .op (.load none (.tmp 138)), some (131, false)⟩, []⟩,
  ⟨11, ⟨some 140, .op (.bin .add .scalar (.tmp 135) (.tmp 139)), some (131, false)⟩, []⟩,
  ⟨12, ⟨some 141, .op (.load none (.tmp 16)), some (131, false)⟩, []⟩,
  ⟨13, ⟨some 142, .op (.bin .lss .scalar (.tmp 140) (.tmp 141)), some (131, false)⟩, []⟩,
  ⟨14, ⟨some 143, .op (.pick (.tmp 131) (.const (.bool true)) (.tmp 142)), none⟩, []⟩] [(56, 129), (57, 130), (58, 131), (59, 132), (60, 133), (61, 134), (62, 135), (63, 136), (64, 137), (65, 138), (66, 139), (67, 140), (68, 141), (69, 142), (70, 143)]) (.cond (.tmp 70) .skip (.exit 2))) (.seq [112, 113, 114, 115] (.block 3 (.seq [73, 74, 75, 76, 77, 78, 79] (.region [⟨some 74, .op (.mv (.tmp 19)), none⟩,
  ⟨some 75, .op (.idxArr 2 1 (.tmp 18) (.tmp 74)), none⟩,
  ⟨some 76, .op (.load none (.tmp 75)), none⟩,
  ⟨some 77, .call f_product_search_step [(.tmp 76)], none⟩,
  ⟨some 73, .op (.mv (.tmp 77)), none⟩,
  ⟨some 78, .op (.extract 0 (.tmp 73)), none⟩,
  ⟨some 79, .op (.extract 1 (.tmp 73)), none⟩,
  ⟨some 20, .op (.mv (.tmp 78)), none⟩,
  ⟨some 21, .op (.mv (.tmp 79)), none⟩]) (.seq [81] (.seq [21, 80] (.region [⟨some 80, .op (.mv (.tmp 21)), none⟩,
  ⟨some 81, .op (.un .not (.tmp 80)), none⟩]) (.cond (.tmp 81) (.seq [10, 15, 18, 19, 20, 81, 82, 83, 84, 85, 86] (.region [⟨some 82, .op (.mv (.tmp 19)), none⟩,
  ⟨some 83, .op (.bin .sub .scalar (.const (.int .i64 1)) (.tmp 82)), none⟩,
  ⟨some 84, .op (.idxArr 2 1 (.tmp 18) (.tmp 83)), none⟩,
  ⟨some 85, .op (.load none (.tmp 84)), none⟩,
  ⟨some 86, .call f_product_search_all [(.tmp 85)], none⟩]) (.seq [17, 91, 92, 93] (.seq [11, 87, 88, 89, 90] (.region [⟨some 87, .op (.load none (.tmp 11)), none⟩,
  ⟨some 88, .op (.nilCheck (.tmp 87)), none⟩,
  ⟨some 89, .op (.fieldAddr 3 (.tmp 88)), none⟩,
  ⟨some 90, .op (.load none (.tmp 89)), none⟩,
  ⟨some 91, .op (.lenSl (.tmp 90)), none⟩,
  ⟨some 92, .op (.mv (.const (.int .i64 0))), none⟩]) (.block 4 (.loop [98] product_Both_c2))) (.exit 2))) .skip)) (.lab product_Both_c4)))) (.lab product_Both_c5))
noncomputable def product_Both_c7 : MCode := .seq [16, 125, 126, 127, 128] (.regionD 129 [⟨0, ⟨some 129, .op (.load none (.tmp 16)), none⟩, []⟩,
  ⟨1, ⟨some 130, .op (.mm true (.tmp 129) (.const (.int .i64 0))), none⟩, []⟩,
  ⟨2, ⟨some 131, .op (.load none (.tmp 16)), none⟩, []⟩,
  ⟨3, ⟨some 132, .op (.bin .geq .scalar (.tmp 131) (.const (.int .i64 0))), none⟩, []⟩,
  ⟨4, ⟨some 133, .op (.mv (.tmp 130)), none⟩, []⟩,
  ⟨5, ⟨some 134, .op (.mv (.tmp 132)), none⟩, []⟩] [(125, 129), (126, 130), (127, 131), (128, 132), (8, 133), (9, 134)]) .ret
noncomputable def product_Both_c8 : MCode := .seq [12, 49, 50, 51] (.region [⟨some 49, .op (.mv (.tmp 10)), none⟩,
  ⟨some 50, .op (.mv (.tmp 12)), none⟩,
  ⟨some 51, .call f_product_graph_begin [(.tmp 49), (.const (.fn f_product_graph_back [] [])), (.tmp 50)], none⟩,
  ⟨some 15, .op (.alloc [.nilp]), none⟩,
  ⟨none, .op (.store 1 (.tmp 15) (.tmp 51)), none⟩]) (.seq [] (.region [⟨some 16, .op (.alloc [.int .i64 0]), none⟩,
  ⟨none, .op (.store 1 (.tmp 16) (.const (.int .i64 (-1)))), none⟩]) (.seq [52] (.region [⟨some 52, .op (.mkFn f_product_Both_1 [] [(.tmp 11), (.tmp 15), (.tmp 16)]), none⟩,
  ⟨some 17, .op (.mv (.tmp 52)), none⟩]) (.seq [53, 54, 55] (.region [⟨some 53, .op (.load none (.tmp 11)), none⟩,
  ⟨some 54, .op (.load none (.tmp 15)), none⟩,
  ⟨some 55, .op (.build [.nilp, .nilp] [(0, 1, (.tmp 53)), (1, 1, (.tmp 54))]), none⟩,
  ⟨some 18, .op (.alloc [.nilp, .nilp]), none⟩,
  ⟨none, .op (.store 2 (.tmp 18) (.tmp 55)), none⟩]) (.seq [10, 11, 15, 17, 18, 19, 70] (.seq [] (.region [⟨some 19, .op (.mv (.const (.int .i64 0))), none⟩]) (.block 2 (.loop [71, 72] product_Both_c6))) (.lab product_Both_c7)))))
def product_Both_rs : Res := [(8, none), (9, none)]
noncomputable def product_Both_mf : MFn := ⟨129, product_Both_rs, .seq [0, 1, 8, 9] (.region [⟨some 4, .op (.box (.tmp 0)), none⟩,
  ⟨some 5, .op (.box (.tmp 1)), none⟩,
  ⟨some 8, .op (.mv (.const (.int .i64 0))), none⟩,
  ⟨some 9, .op (.mv (.const (.bool false))), none⟩]) (.seq [4, 25, 26, 27] (.region [⟨some 25, .op (.load (some 2) (.tmp 4)), none⟩,
  ⟨some 26, .op (.load (some 2) (.tmp 5)), none⟩,
  ⟨some 27, .call f_product_join [(.tmp 25), (.tmp 26)], none⟩,
  ⟨some 10, .op (.mv (.tmp 27)), none⟩]) (.seq [2, 28, 29, 30, 31, 32] (.region [⟨some 28, .op (.mv (.tmp 10)), none⟩,
  ⟨some 29, .op (.mv (.tmp 2)), none⟩,
  ⟨some 30, .op (.build [.int .i64 0, .int .i64 0] [(0, 1, (.tmp 29)), (1, 1, (.const (.int .i64 0)))]), none⟩,
  ⟨some 31, .op (.buildSlice 2 1 [.int .i64 0, .int .i64 0] [(0, 2, (.tmp 30))]), none⟩,
  ⟨some 32, .call f_product_graph_begin [(.tmp 28), (.const (.fn f_product_graph_on [] [])), (.tmp 31)], none⟩,
  ⟨some 11, .op (.alloc [.nilp]), none⟩,
  ⟨none, .op (.store 1 (.tmp 11) (.tmp 32)), none⟩]) (.seq [] (.region [⟨some 12, .op (.mv (.const .nils)), none⟩]) (.seq [3, 34, 35, 36, 37] (.seq [5, 33] (.region [⟨some 33, .op (.fieldAddr 1 (.tmp 5)), none⟩,
  ⟨some 34, .op (.load none (.tmp 33)), none⟩,
  ⟨some 35, .op (.lenSl (.tmp 34)), none⟩,
  ⟨some 36, .op (.mv (.const (.int .i64 0))), none⟩]) (.block 0 (.loop [48] product_Both_c1))) (.lab product_Both_c8)))))⟩
noncomputable def product_Both_l1 (T : Tab) (k j0 : Nat) (to3 g10 there11 ends12 t34 t35 t36 : AV) (h : Heap) : Option (AV × Heap) :=
  loopB T k product_Both_rs j0 [48] product_Both_c1 [.blk 0, .seq [3, 34, 35, 36, 37] (.lab product_Both_c8)] [.undef, .undef, .undef, to3, .undef, .undef, .undef, .undef, .undef, .undef, g10, there11, ends12, .undef, .undef, .undef, .undef, .undef, .undef, .undef, .undef, .undef, .undef, .undef, .undef, .undef, .undef, .undef, .undef, .undef, .undef, .undef, .undef, .undef, t34, t35, t36, .undef, .undef, .undef, .undef, .undef, .undef, .undef, .undef, .undef, .undef, .undef, .undef, .undef, .undef, .undef, .undef, .undef, .undef, .undef, .undef, .undef, .undef, .undef, .undef, .undef, .undef, .undef, .undef, .undef, .undef, .undef, .undef, .undef, .undef, .undef, .undef, .undef, .undef, .undef, .undef, .undef, .undef, .undef, .undef, .undef, .undef, .undef, .undef, .undef, .undef, .undef, .undef, .undef, .undef, .undef, .undef, .undef, .undef, .undef, .undef, .undef, .undef, .undef, .undef, .undef, .undef, .undef, .undef, .undef, .undef, .undef, .undef, .undef, .undef, .undef, .undef, .undef, .undef, .undef, .undef, .undef, .undef, .undef, .undef, .undef, .undef, .undef, .undef, .undef, .undef, .undef, .undef] h
noncomputable def product_Both_b2 (T : Tab) (k : Nat) (g10 there11 ends12 : AV) (h : Heap) : Option (AV × Heap) :=
  evB T k product_Both_rs product_Both_c8 [] [.undef, .undef, .undef, .undef, .undef, .undef, .undef, .undef, .undef, .undef, g10, there11, ends12, .undef, .undef, .undef, .undef, .undef, .undef, .undef, .undef, .undef, .undef, .undef, .undef, .undef, .undef, .undef, .undef, .undef, .undef, .undef, .undef, .undef, .undef, .undef, .undef, .undef, .undef, .undef, .undef, .undef, .undef, .undef, .undef, .undef, .undef, .undef, .undef, .undef, .undef, .undef, .undef, .undef, .undef, .undef, .undef, .undef, .undef, .undef, .undef, .undef, .undef, .undef, .undef, .undef, .undef, .undef, .undef, .undef, .undef, .undef, .undef, .undef, .undef, .undef, .undef, .undef, .undef, .undef, .undef, .undef, .undef, .undef, .undef, .undef, .undef, .undef, .undef, .undef, .undef, .undef, .undef, .undef, .undef, .undef, .undef, .undef, .undef, .undef, .undef, .undef, .undef, .undef, .undef, .undef, .undef, .undef, .undef, .undef, .undef, .undef, .undef, .undef, .undef, .undef, .undef, .undef, .undef, .undef, .undef, .undef, .undef, .undef, .undef, .undef, .undef, .undef, .undef] h
noncomputable def product_Both_l3 (T : Tab) (k j0 : Nat) (g10 there11 back15 least16 meet17 sides18 k19 : AV) (h : Heap) : Option (AV × Heap) :=
  loopB T k product_Both_rs j0 [71, 72] product_Both_c6 [.blk 2, .seq [10, 11, 15, 17, 18, 19, 70] (.lab product_Both_c7)] [.undef, .undef, .undef, .undef, .undef, .undef, .undef, .undef, .undef, .undef, g10, there11, .undef, .undef, .undef, back15, least16, meet17, sides18, k19, .undef, .undef, .undef, .undef, .undef, .undef, .undef, .undef, .undef, .undef, .undef, .undef, .undef, .undef, .undef, .undef, .undef, .undef, .undef, .undef, .undef, .undef, .undef, .undef, .undef, .undef, .undef, .undef, .undef, .undef, .undef, .undef, .undef, .undef, .undef, .undef, .undef, .undef, .undef, .undef, .undef, .undef, .undef, .undef, .undef, .undef, .undef, .undef, .undef, .undef, .undef, .undef, .undef, .undef, .undef, .undef, .undef, .undef, .undef, .undef, .undef, .undef, .undef, .undef, .undef, .undef, .undef, .undef, .undef, .undef, .undef, .undef, .undef, .undef, .undef, .undef, .undef, .undef, .undef, .undef, .undef, .undef, .undef, .undef, .undef, .undef, .undef, .undef, .undef, .undef, .undef, .undef, .undef, .undef, .undef, .undef, .undef, .undef, .undef, .undef, .undef, .undef, .undef, .undef, .undef, .undef, .undef, .undef, .undef] h
noncomputable def product_Both_l4 (T : Tab) (k j0 j1 : Nat) (least16 meet17 t91 t92 : AV) (h : Heap) : Option (AV × Heap) :=
  loopB T k product_Both_rs j1 [98] product_Both_c2 [.blk 4, .seq [17, 91, 92, 93] (.exit 2), .seq [81] (.lab product_Both_c4), .blk 3, .seq [112, 113, 114, 115] (.lab product_Both_c5), .lp j0 [71, 72] product_Both_c6, .blk 2, .seq [10, 11, 15, 17, 18, 19, 70] (.lab product_Both_c7)] [.undef, .undef, .undef, .undef, .undef, .undef, .undef, .undef, .undef, .undef, .undef, .undef, .undef, .undef, .undef, .undef, least16, meet17, .undef, .undef, .undef, .undef, .undef, .undef, .undef, .undef, .undef, .undef, .undef, .undef, .undef, .undef, .undef, .undef, .undef, .undef, .undef, .undef, .undef, .undef, .undef, .undef, .undef, .undef, .undef, .undef, .undef, .undef, .undef, .undef, .undef, .undef, .undef, .undef, .undef, .undef, .undef, .undef, .undef, .undef, .undef, .undef, .undef, .undef, .undef, .undef, .undef, .undef, .undef, .undef, .undef, .undef, .undef, .undef, .undef, .undef, .undef, .undef, .undef, .undef, .undef, .undef, .undef, .undef, .undef, .undef, .undef, .undef, .undef, .undef, .undef, t91, t92, .undef, .undef, .undef, .undef, .undef, .undef, .undef, .undef, .undef, .undef, .undef, .undef, .undef, .undef, .undef, .undef, .undef, .undef, .undef, .undef, .undef, .undef, .undef, .undef, .undef, .undef, .undef, .undef, .undef, .undef, .undef, .undef, .undef, .undef, .undef, .undef] h
noncomputable def product_Both_b5 (T : Tab) (k : Nat) (least16 : AV) (h : Heap) : Option (AV × Heap) :=
  evB T k product_Both_rs product_Both_c7 [] [.undef, .undef, .undef, .undef, .undef, .undef, .undef, .undef, .undef, .undef, .undef, .undef, .undef, .undef, .undef, .undef, least16, .undef, .undef, .undef, .undef, .undef, .undef, .undef, .undef, .undef, .undef, .undef, .undef, .undef, .undef, .undef, .undef, .undef, .undef, .undef, .undef, .undef, .undef, .undef, .undef, .undef, .undef, .undef, .undef, .undef, .undef, .undef, .undef, .undef, .undef, .undef, .undef, .undef, .undef, .undef, .undef, .undef, .undef, .undef, .undef, .undef, .undef, .undef, .undef, .undef, .undef, .undef, .undef, .undef, .undef, .undef, .undef, .undef, .undef, .undef, .undef, .undef, .undef, .undef, .undef, .undef, .undef, .undef, .undef, .undef, .undef, .undef, .undef, .undef, .undef, .undef, .undef, .undef, .undef, .undef, .undef, .undef, .undef, .undef, .undef, .undef, .undef, .undef, .undef, .undef, .undef, .undef, .undef, .undef, .undef, .undef, .undef, .undef, .undef, .undef, .undef, .undef, .undef, .undef, .undef, .undef, .undef, .undef, .undef, .undef, .undef, .undef, .undef] h
noncomputable def product_Both_b6 (T : Tab) (k j0 : Nat) (g10 there11 back15 least16 meet17 sides18 k19 id20 : AV) (h : Heap) : Option (AV × Heap) :=
  evB T k product_Both_rs product_Both_c4 [.blk 3, .seq [112, 113, 114, 115] (.lab product_Both_c5), .lp j0 [71, 72] product_Both_c6, .blk 2, .seq [10, 11, 15, 17, 18, 19, 70] (.lab product_Both_c7)] [.undef, .undef, .undef, .undef, .undef, .undef, .undef, .undef, .undef, .undef, g10, there11, .undef, .undef, .undef, back15, least16, meet17, sides18, k19, id20, .undef, .undef, .undef, .undef, .undef, .undef, .undef, .undef, .undef, .undef, .undef, .undef, .undef, .undef, .undef, .undef, .undef, .undef, .undef, .undef, .undef, .undef, .undef, .undef, .undef, .undef, .undef, .undef, .undef, .undef, .undef, .undef, .undef, .undef, .undef, .undef, .undef, .undef, .undef, .undef, .undef, .undef, .undef, .undef, .undef, .undef, .undef, .undef, .undef, .undef, .undef, .undef, .undef, .undef, .undef, .undef, .undef, .undef, .undef, .undef, .undef, .undef, .undef, .undef, .undef, .undef, .undef, .undef, .undef, .undef, .undef, .undef, .undef, .undef, .undef, .undef, .undef, .undef, .undef, .undef, .undef, .undef, .undef, .undef, .undef, .undef, .undef, .undef, .undef, .undef, .undef, .undef, .undef, .undef, .undef, .undef, .undef, .undef, .undef, .undef, .undef, .undef, .undef, .undef, .undef, .undef, .undef, .undef] h
noncomputable def product_Both_l7 (T : Tab) (k j0 j1 : Nat) (g10 there11 back15 least16 meet17 sides18 k19 t112 t113 t114 : AV) (h : Heap) : Option (AV × Heap) :=
  loopB T k product_Both_rs j1 [124] product_Both_c3 [.blk 6, .blk 3, .seq [112, 113, 114, 115] (.lab product_Both_c5), .lp j0 [71, 72] product_Both_c6, .blk 2, .seq [10, 11, 15, 17, 18, 19, 70] (.lab product_Both_c7)] [.undef, .undef, .undef, .undef, .undef, .undef, .undef, .undef, .undef, .undef, g10, there11, .undef, .undef, .undef, back15, least16, meet17, sides18, k19, .undef, .undef, .undef, .undef, .undef, .undef, .undef, .undef, .undef, .undef, .undef, .undef, .undef, .undef, .undef, .undef, .undef, .undef, .undef, .undef, .undef, .undef, .undef, .undef, .undef, .undef, .undef, .undef, .undef, .undef, .undef, .undef, .undef, .undef, .undef, .undef, .undef, .undef, .undef, .undef, .undef, .undef, .undef, .undef, .undef, .undef, .undef, .undef, .undef, .undef, .undef, .undef, .undef, .undef, .undef, .undef, .undef, .undef, .undef, .undef, .undef, .undef, .undef, .undef, .undef, .undef, .undef, .undef, .undef, .undef, .undef, .undef, .undef, .undef, .undef, .undef, .undef, .undef, .undef, .undef, .undef, .undef, .undef, .undef, .undef, .undef, .undef, .undef, .undef, .undef, .undef, .undef, t112, t113, t114, .undef, .undef, .undef, .undef, .undef, .undef, .undef, .undef, .undef, .undef, .undef, .undef, .undef, .undef] h
noncomputable def product_Both_b8 (T : Tab) (k j0 : Nat) (g10 there11 back15 least16 meet17 sides18 k19 : AV) (h : Heap) : Option (AV × Heap) :=
  evB T k product_Both_rs product_Both_c5 [.lp j0 [71, 72] product_Both_c6, .blk 2, .seq [10, 11, 15, 17, 18, 19, 70] (.lab product_Both_c7)] [.undef, .undef, .undef, .undef, .undef, .undef, .undef, .undef, .undef, .undef, g10, there11, .undef, .undef, .undef, back15, least16, meet17, sides18, k19, .undef, .undef, .undef, .undef, .undef, .undef, .undef, .undef, .undef, .undef, .undef, .undef, .undef, .undef, .undef, .undef, .undef, .undef, .undef, .undef, .undef, .undef, .undef, .undef, .undef, .undef, .undef, .undef, .undef, .undef, .undef, .undef, .undef, .undef, .undef, .undef, .undef, .undef, .undef, .undef, .undef, .undef, .undef, .undef, .undef, .undef, .undef, .undef, .undef, .undef, .undef, .undef, .undef, .undef, .undef, .undef, .undef, .undef, .undef, .undef, .undef, .undef, .undef, .undef, .undef, .undef, .undef, .undef, .undef, .undef, .undef, .undef, .undef, .undef, .undef, .undef, .undef, .undef, .undef, .undef, .undef, .undef, .undef, .undef, .undef, .undef, .undef, .undef, .undef, .undef, .undef, .undef, .undef, .undef, .undef, .undef, .undef, .undef, .undef, .undef, .undef, .undef, .undef, .undef, .undef, .undef, .undef, .undef, .undef] h
theorem product_Both_b5_eq (T : Tab) (k : Nat) (least16 : AV) (h : Heap) : product_Both_b5 T k least16 h =
    oa (ld1 h least16) fun t129_1 =>
    oa (mmV true t129_1 (.int .i64 0)) fun t130_2 =>
    oa (ld1 h least16) fun t131_3 =>
    oa (binV .geq .scalar t131_3 (.int .i64 0)) fun t132_4 =>
    some (.tup [t130_2, t132_4], h) := blockEq (by kernel_rfl)
theorem product_Both_l4_eq (T : Tab) (k j0 j1 : Nat) (least16 meet17 t91 t92 : AV) (h : Heap) : product_Both_l4 T k j0 (j1 + 1) least16 meet17 t91 t92 h =
    oa (binV .lss .scalar t92 t91) fun t93_1 =>
    cond2 t93_1
      (
      ob (callVal (evalFn T k) meet17 [t92] h) fun t97_2 h_3 =>
      oa (binV .add .scalar t92 (.int .i64 1)) fun t98_4 =>
      product_Both_l4 T k j0 j1 least16 meet17 t91 t98_4 h_3
      )
      (
      product_Both_b5 T k least16 h
      ) := loopEq (by kernel_rfl)
theorem product_Both_b8_eq (T : Tab) (k j0 : Nat) (g10 there11 back15 least16 meet17 sides18 k19 : AV) (h : Heap) : product_Both_b8 T k j0 g10 there11 back15 least16 meet17 sides18 k19 h =
    oa (binV .sub .scalar (.int .i64 1) k19) fun t72_1 =>
    product_Both_l3 T k j0 g10 there11 back15 least16 meet17 sides18 t72_1 h := blockEq (by kernel_rfl)
theorem product_Both_l7_eq (T : Tab) (k j0 j1 : Nat) (g10 there11 back15 least16 meet17 sides18 k19 t112 t113 t114 : AV) (h : Heap) : product_Both_l7 T k j0 (j1 + 1) g10 there11 back15 least16 meet17 sides18 k19 t112 t113 t114 h =
    oa (binV .lss .scalar t114 t113) fun t115_1 =>
    cond2 t115_1
      (
      oa (idxS 3 t112 t114) fun t116_2 =>
      oa (ldN 3 h t116_2) fun t117_3 =>
      ob (newVar h [.int .i64 0, .int .i64 0, .int .i64 0]) fun h24_4 h_5 =>
      oh (stN 3 h_5 h24_4 t117_3) fun h_6 =>
      oa (fldA 0 h24_4) fun t120_7 =>
      oa (ldN 2 h_6 t120_7) fun t121_8 =>
      ob (evalFn T k f_product_graph_id [g10, t121_8] h_6) fun t122_9 h_10 =>
      ob (callVal (evalFn T k) meet17 [t122_9] h_10) fun t123_11 h_12 =>
      oa (binV .add .scalar t114 (.int .i64 1)) fun t124_13 =>
      product_Both_l7 T k j0 j1 g10 there11 back15 least16 meet17 sides18 k19 t112 t113 t124_13 h_12
      )
      (
      product_Both_b8 T k j0 g10 there11 back15 least16 meet17 sides18 k19 h
      ) := loopEq (by kernel_rfl)
theorem product_Both_b6_eq (T : Tab) (k j0 : Nat) (g10 there11 back15 least16 meet17 sides18 k19 id20 : AV) (h : Heap) : product_Both_b6 T k j0 g10 there11 back15 least16 meet17 sides18 k19 id20 h =
    ob (callVal (evalFn T k) meet17 [id20] h) fun t101_1 h_2 =>
    oa (idxA 2 1 sides18 k19) fun t130_3 =>
    oa (ld1 h_2 t130_3) fun t131_4 =>
    oa (nilCk t131_4) fun t132_5 =>
    oa (fldA 1 t132_5) fun t133_6 =>
    oa (ld1 h_2 t133_6) fun t134_7 =>
    ob (evalFn T k f_product_graph_spot [g10, id20] h_2) fun t138_8 h_9 =>
    chk ((sameB (pure1 h_9 (ld1 h_9 t130_3)) t131_4 && (sameB (pure1 h_9 (ld1 h_9 t133_6)) t134_7 && true))) <|
    ob (callVal (evalFn T k) t134_7 [g10, t138_8] h_9) fun t139_10 h_11 =>
    oa (lenS t139_10) fun t140_12 =>
    product_Both_l7 T k j0 k g10 there11 back15 least16 meet17 sides18 k19 t139_10 t140_12 (.int .i64 0) h_11 := blockEq (by kernel_rfl)
theorem product_Both_l3_eq (T : Tab) (k j0 : Nat) (g10 there11 back15 least16 meet17 sides18 k19 : AV) (h : Heap) : product_Both_l3 T k (j0 + 1) g10 there11 back15 least16 meet17 sides18 k19 h =
    oa (ld1 h least16) fun t129_1 =>
    oa (binV .lss .scalar t129_1 (.int .i64 0)) fun t130_2 =>
    ob (gd t130_2 false (pure1 h (ld1 h there11)) h) fun t132_3 h_4 =>
    ob (gd t130_2 false (pure1 h_4 (nilCk t132_3)) h_4) fun t133_5 h_6 =>
    ob (gd t130_2 false (pure1 h_6 (fldA 6 t133_5)) h_6) fun t134_7 h_8 =>
    ob (gd t130_2 false (pure1 h_8 (ld1 h_8 t134_7)) h_8) fun t135_9 h_10 =>
    ob (gd t130_2 false (pure1 h_10 (ld1 h_10 back15)) h_10) fun t136_11 h_12 =>
    ob (gd t130_2 false (pure1 h_12 (nilCk t136_11)) h_12) fun t137_13 h_14 =>
    ob (gd t130_2 false (pure1 h_14 (fldA 6 t137_13)) h_14) fun t138_15 h_16 =>
    ob (gd t130_2 false (pure1 h_16 (ld1 h_16 t138_15)) h_16) fun t139_17 h_18 =>
    ob (gd t130_2 false (pure1 h_18 (binV .add .scalar t135_9 t139_17)) h_18) fun t140_19 h_20 =>
    ob (gd t130_2 false (pure1 h_20 (ld1 h_20 least16)) h_20) fun t141_21 h_22 =>
    ob (gd t130_2 false (pure1 h_22 (binV .lss .scalar t140_19 t141_21)) h_22) fun t142_23 h_24 =>
    oa (pickV t130_2 (.bool true) t142_23) fun t143_25 =>
    cond2 t143_25
      (
      oa (idxA 2 1 sides18 k19) fun t75_26 =>
      oa (ld1 h_24 t75_26) fun t76_27 =>
      ob (evalFn T k f_product_search_step [t76_27] h_24) fun t77_28 h_29 =>
      oa (extr 0 t77_28) fun t78_30 =>
      oa (extr 1 t77_28) fun t79_31 =>
      oa (unV .not t79_31) fun t81_32 =>
      cond2 t81_32
        (
        oa (binV .sub .scalar (.int .i64 1) k19) fun t83_33 =>
        oa (idxA 2 1 sides18 t83_33) fun t84_34 =>
        oa (ld1 h_29 t84_34) fun t85_35 =>
        ob (evalFn T k f_product_search_all [t85_35] h_29) fun t86_36 h_37 =>
        oa (ld1 h_37 there11) fun t87_38 =>
        oa (nilCk t87_38) fun t88_39 =>
        oa (fldA 3 t88_39) fun t89_40 =>
        oa (ld1 h_37 t89_40) fun t90_41 =>
        oa (lenS t90_41) fun t91_42 =>
        product_Both_l4 T k j0 k least16 meet17 t91_42 (.int .i64 0) h_37
        )
        (
        product_Both_b6 T k j0 g10 there11 back15 least16 meet17 sides18 k19 t78_30 h_29
        )
      )
      (
      product_Both_b5 T k least16 h_24
      ) := loopEq (by kernel_rfl)
theorem product_Both_b2_eq (T : Tab) (k : Nat) (g10 there11 ends12 : AV) (h : Heap) : product_Both_b2 T k g10 there11 ends12 h =
    ob (evalFn T k f_product_graph_begin [g10, (.fn f_product_graph_back [] []), ends12] h) fun t51_1 h_2 =>
    ob (newVar h_2 [.nilp]) fun back15_3 h_4 =>
    oh (stN 1 h_4 back15_3 t51_1) fun h_5 =>
    ob (newVar h_5 [.int .i64 0]) fun least16_6 h_7 =>
    oh (stN 1 h_7 least16_6 (.int .i64 (-1))) fun h_8 =>
    oa (ld1 h_8 there11) fun t53_9 =>
    oa (ld1 h_8 back15_3) fun t54_10 =>
    oa (buildV [.nilp, .nilp] [(0, 1, t53_9), (1, 1, t54_10)]) fun t55_11 =>
    ob (newVar h_8 [.nilp, .nilp]) fun sides18_12 h_13 =>
    oh (stN 2 h_13 sides18_12 t55_11) fun h_14 =>
    product_Both_l3 T k k g10 there11 back15_3 least16_6 (.fn f_product_Both_1 [] [there11, back15_3, least16_6]) sides18_12 (.int .i64 0) h_14 := blockEq (by kernel_rfl)
theorem product_Both_l1_eq (T : Tab) (k j0 : Nat) (to3 g10 there11 ends12 t34 t35 t36 : AV) (h : Heap) : product_Both_l1 T k (j0 + 1) to3 g10 there11 ends12 t34 t35 t36 h =
    oa (binV .lss .scalar t36 t35) fun t37_1 =>
    cond2 t37_1
      (
      oa (idxS 1 t34 t36) fun t39_2 =>
      oa (ld1 h t39_2) fun t40_3 =>
      cond2 t40_3
        (
        oa (buildV [.int .i64 0, .int .i64 0] [(0, 1, to3), (1, 1, t36)]) fun t45_4 =>
        ob (buildSl 2 1 [.int .i64 0, .int .i64 0] [(0, 2, t45_4)] h) fun t46_5 h_6 =>
        ob (apnd 2 16 ends12 t46_5 h_6) fun t47_7 h_8 =>
        oa (binV .add .scalar t36 (.int .i64 1)) fun t48_9 =>
        product_Both_l1 T k j0 to3 g10 there11 t47_7 t34 t35 t48_9 h_8
        )
        (
        oa (binV .add .scalar t36 (.int .i64 1)) fun t48_10 =>
        product_Both_l1 T k j0 to3 g10 there11 ends12 t34 t35 t48_10 h
        )
      )
      (
      product_Both_b2 T k g10 there11 ends12 h
      ) := loopEq (by kernel_rfl)
theorem product_Both_eq (T : Tab) (k : Nat) (n0 d1 from2 to3 : AV) (h : Heap) : runF T k product_Both_mf [n0, d1, from2, to3] h =
    ob (newVar h (AV.cells n0)) fun n4_1 h_2 =>
    ob (newVar h_2 (AV.cells d1)) fun d5_3 h_4 =>
    oa (ldN 2 h_4 n4_1) fun t25_5 =>
    oa (ldN 2 h_4 d5_3) fun t26_6 =>
    ob (evalFn T k f_product_join [t25_5, t26_6] h_4) fun t27_7 h_8 =>
    oa (buildV [.int .i64 0, .int .i64 0] [(0, 1, from2), (1, 1, (.int .i64 0))]) fun t30_9 =>
    ob (buildSl 2 1 [.int .i64 0, .int .i64 0] [(0, 2, t30_9)] h_8) fun t31_10 h_11 =>
    ob (evalFn T k f_product_graph_begin [t27_7, (.fn f_product_graph_on [] []), t31_10] h_11) fun t32_12 h_13 =>
    ob (newVar h_13 [.nilp]) fun there11_14 h_15 =>
    oh (stN 1 h_15 there11_14 t32_12) fun h_16 =>
    oa (fldA 1 d5_3) fun t33_17 =>
    oa (ld1 h_16 t33_17) fun t34_18 =>
    oa (lenS t34_18) fun t35_19 =>
    product_Both_l1 T k k to3 t27_7 there11_14 .nils t34_18 t35_19 (.int .i64 0) h_16 := runEq (by kernel_rfl)
def milestonelaw9_Right_rs : Res := [(12, none)]
noncomputable def milestonelaw9_Right_mf : MFn := ⟨43, milestonelaw9_Right_rs, .seq [0, 1, 4, 12] (.region [⟨some 6, .op (.box (.tmp 0)), none⟩,
  ⟨some 7, .op (.box (.tmp 1)), none⟩,
  ⟨some 10, .op (.box (.tmp 4)), none⟩,
  ⟨some 12, .op (.mv (.const (.bool false))), none⟩]) (.seq [2, 3, 6, 16, 17, 18, 19, 20, 21, 22, 23, 24, 25] (.region [⟨some 17, .op (.load (some 2) (.tmp 6)), none⟩,
  ⟨some 18, .op (.mv (.tmp 2)), none⟩,
  ⟨some 19, .op (.mv (.tmp 3)), none⟩,
  ⟨some 20, .op (.fieldAddr 1 (.tmp 10)), none⟩,
  ⟨some 21, .op (.load none (.tmp 20)), none⟩,
  ⟨some 22, .call f_milestoneref1_Walk [(.tmp 17), (.tmp 18), (.tmp 19), (.tmp 21)], none⟩,
  ⟨some 16, .op (.mv (.tmp 22)), none⟩,
  ⟨some 23, .op (.extract 0 (.tmp 16)), none⟩,
  ⟨some 24, .op (.extract 1 (.tmp 16)), none⟩,
  ⟨some 25, .op (.extract 2 (.tmp 16)), none⟩,
  ⟨some 13, .op (.mv (.tmp 23)), none⟩,
  ⟨some 14, .op (.mv (.tmp 24)), none⟩,
  ⟨some 15, .op (.mv (.tmp 25)), none⟩]) (.seq [5, 7, 10, 13, 14, 15, 26, 27, 28, 29, 30, 31, 32, 33, 34, 35, 36, 37, 38, 39, 40, 41, 42] (.region [⟨some 26, .op (.mv (.tmp 15)), none⟩,
  ⟨some 27, .op (.mv (.tmp 26)), none⟩,
  ⟨some 28, .op (.mv (.tmp 13)), some (27, true)⟩,
  ⟨some 29, .op (.fieldAddr 0 (.tmp 10)), some (27, true)⟩,
  ⟨some 30, .op (.load none (.tmp 29)), some (27, true)⟩,
  ⟨some 31, .op (.bin .eql .scalar (.tmp 28) (.tmp 30)), some (27, true)⟩,
  ⟨some 32, .op (.pick (.tmp 27) (.tmp 31) (.const (.bool false))), none⟩,
  ⟨some 33, .op (.mv (.tmp 32)), none⟩,
  ⟨some 34, .op (.mv (.tmp 13)), some (33, true)⟩,
  ⟨some 35, .op (.mv (.tmp 5)), some (33, true)⟩,
  ⟨some 36, .op (.bin .eql .scalar (.tmp 34) (.tmp 35)), some (33, true)⟩,
  ⟨some 37, .op (.pick (.tmp 33) (.tmp 36) (.const (.bool false))), none⟩,
  ⟨some 38, .op (.mv (.tmp 37)), none⟩,
  ⟨some 39, .op (.load (some 2) (.tmp 7)), some (38, true)⟩,
  ⟨some 40, .op (.mv (.tmp 14)), some (38, true)⟩,
  ⟨some 41, .call f_milestoneref7_Run [(.tmp 39), (.tmp 40)], some (38, true)⟩,
  ⟨some 42, .op (.pick (.tmp 38) (.tmp 41) (.const (.bool false))), none⟩,
  ⟨some 12, .op (.mv (.tmp 42)), none⟩]) .ret))⟩
theorem milestonelaw9_Right_eq (T : Tab) (k : Nat) (n0 d1 from2 to3 r4 cost5 : AV) (h : Heap) : runF T k milestonelaw9_Right_mf [n0, d1, from2, to3, r4, cost5] h =
    ob (newVar h (AV.cells n0)) fun n6_1 h_2 =>
    ob (newVar h_2 (AV.cells d1)) fun d7_3 h_4 =>
    ob (newVar h_4 (AV.cells r4)) fun r10_5 h_6 =>
    oa (ldN 2 h_6 n6_1) fun t17_7 =>
    oa (fldA 1 r10_5) fun t20_8 =>
    oa (ld1 h_6 t20_8) fun t21_9 =>
    ob (evalFn T k f_milestoneref1_Walk [t17_7, from2, to3, t21_9] h_6) fun t22_10 h_11 =>
    oa (extr 0 t22_10) fun t23_12 =>
    oa (extr 1 t22_10) fun t24_13 =>
    oa (extr 2 t22_10) fun t25_14 =>
    ob (gd t25_14 true (some (t23_12, h_11)) h_11) fun t28_15 h_16 =>
    ob (gd t25_14 true (pure1 h_16 (fldA 0 r10_5)) h_16) fun t29_17 h_18 =>
    ob (gd t25_14 true (pure1 h_18 (ld1 h_18 t29_17)) h_18) fun t30_19 h_20 =>
    ob (gd t25_14 true (pure1 h_20 (binV .eql .scalar t28_15 t30_19)) h_20) fun t31_21 h_22 =>
    oa (pickV t25_14 t31_21 (.bool false)) fun t32_23 =>
    ob (gd t32_23 true (some (t23_12, h_22)) h_22) fun t34_24 h_25 =>
    ob (gd t32_23 true (some (cost5, h_25)) h_25) fun t35_26 h_27 =>
    ob (gd t32_23 true (pure1 h_27 (binV .eql .scalar t34_24 t35_26)) h_27) fun t36_28 h_29 =>
    oa (pickV t32_23 t36_28 (.bool false)) fun t37_30 =>
    ob (gd t37_30 true (pure1 h_29 (ldN 2 h_29 d7_3)) h_29) fun t39_31 h_32 =>
    ob (gd t37_30 true (some (t24_13, h_32)) h_32) fun t40_33 h_34 =>
    ob (gd t37_30 true (evalFn T k f_milestoneref7_Run [t39_31, t40_33] h_34) h_34) fun t41_35 h_36 =>
    oa (pickV t37_30 t41_35 (.bool false)) fun t42_37 =>
    some (t42_37, h_36) := runEq (by kernel_rfl)
noncomputable def product_join_c1 : MCode := .seq [] (.region [⟨some 30, .op (.bin .lss .scalar (.tmp 29) (.const (.int .i64 5))), none⟩]) (.seq [30] (.cond (.tmp 30) .skip (.exit 2)) (.seq [8, 9, 33, 34, 35, 36, 37, 38, 39, 40, 41, 42, 43, 44, 45, 46, 47, 48, 49, 50, 51, 52] (.block 3 (.seq [31, 32] (.region [⟨some 31, .op (.mv (.tmp 29)), none⟩,
  ⟨some 32, .op (.ixArr 5 1 none (.tmp 28) (.tmp 29)), none⟩,
  ⟨some 8, .op (.mv (.tmp 31)), none⟩,
  ⟨some 9, .op (.mv (.tmp 32)), none⟩]) (.regionD 56 [⟨0, ⟨some 56, .op (.mv (.tmp 5)), none⟩, []⟩,
  ⟨1, ⟨some 57, .op (.nilCheck (.tmp 56)), none⟩, []⟩,
  ⟨2, ⟨some 58, .op (.fieldAddr 5 (.tmp 57)), none⟩, []⟩,
  ⟨3, ⟨some 59, .op (.load none (.tmp 58)), none⟩, []⟩,
  ⟨4, ⟨some 60, .op (.mv (.tmp 9)), none⟩, []⟩,
  ⟨5, ⟨some 61, .op (.mv (.tmp 8)), none⟩, []⟩,
  ⟨6, ⟨some 62, .op (.mv (.tmp 5)), none⟩, []⟩,
  ⟨7, ⟨some 63, .op (.nilCheck (.tmp 62)), none⟩, []⟩,
  ⟨8, ⟨some 64, .op (.fieldAddr 5 (.tmp 63)), none⟩, []⟩,
  ⟨9, ⟨some 65, .op (.load none (.tmp 64)), none⟩, []⟩,
  ⟨10, ⟨some 66, .op (.mv (.tmp 9)), none⟩, []⟩,
  ⟨11, ⟨some 67, .op (.mv (.tmp 8)), none⟩, []⟩,
  ⟨12, ⟨some 68, .op (.idxSl 5 (.tmp 65) (.tmp 66)), none⟩, []⟩,
  ⟨13, ⟨some 69, .op (.idxArr 5 1 (.tmp 68) (.tmp 67)), none⟩, []⟩,
  ⟨14, ⟨some 70, .op (.load none (.tmp 69)), none⟩, []⟩,
  ⟨15, ⟨some 71, .op (.mv (.tmp 6)), none⟩, []⟩,
  ⟨16, ⟨some 72, .op (.buildSlice 1 1 [.int .i64 0] [(0, 1, (.tmp 71))]), none⟩, []⟩,
  ⟨18, ⟨some 74, .op (.idxSl 5 (.tmp 59) (.tmp 60)), none⟩, []⟩,
  ⟨17, ⟨some 73, .op (.append 1 8 (.tmp 70) (.tmp 72)), none⟩, [(59, ⟨some 59, .op (.load none (.tmp 58)), none⟩)]⟩,
  ⟨19, ⟨some 75, .op (.idxArr 5 1 (.tmp 74) (.tmp 61)), none⟩, []⟩,
  ⟨20, ⟨some 76, .op (.store 1 (.tmp 75) (.tmp 73)), none⟩, []⟩] [(33, 56), (34, 57), (35, 58), (36, 59), (37, 60), (38, 61), (39, 62), (40, 63), (41, 64), (42, 65), (43, 66), (44, 67), (45, 68), (46, 69), (47, 70), (48, 71), (49, 72), (50, 73), (51, 74), (52, 75)]))) (.region [⟨some 53, .op (.bin .add .scalar (.tmp 29) (.const (.int .i64 1))), none⟩,
  ⟨some 29, .op (.mv (.tmp 53)), none⟩])))
noncomputable def product_join_c2 : MCode := .seq [] (.region [⟨some 24, .op (.bin .lss .scalar (.tmp 23) (.tmp 22)), none⟩]) (.seq [24] (.cond (.tmp 24) .skip (.exit 0)) (.seq [6, 28, 29, 30] (.block 1 (.seq [25, 26, 27] (.region [⟨some 25, .op (.mv (.tmp 23)), none⟩,
  ⟨some 26, .op (.idxSl 5 (.tmp 21) (.tmp 23)), none⟩,
  ⟨some 27, .op (.load (some 5) (.tmp 26)), none⟩,
  ⟨some 7, .op (.alloc [.int .i64 0, .int .i64 0, .int .i64 0, .int .i64 0, .int .i64 0]), none⟩,
  ⟨some 6, .op (.mv (.tmp 25)), none⟩,
  ⟨none, .op (.store 5 (.tmp 7) (.tmp 27)), none⟩]) (.seq [7] (.region [⟨some 28, .op (.load (some 5) (.tmp 7)), none⟩,
  ⟨some 29, .op (.mv (.const (.int .i64 0))), none⟩]) (.block 2 (.loop [53] product_join_c1))))) (.region [⟨some 54, .op (.bin .add .scalar (.tmp 23) (.const (.int .i64 1))), none⟩,
  ⟨some 23, .op (.mv (.tmp 54)), none⟩])))
def product_join_rs : Res := [(4, none)]
noncomputable def product_join_mf : MFn := ⟨56, product_join_rs, .seq [0, 1, 4] (.region [⟨some 2, .op (.box (.tmp 0)), none⟩,
  ⟨some 3, .op (.box (.tmp 1)), none⟩,
  ⟨some 4, .op (.mv (.const .nilp)), none⟩]) (.seq [2, 10, 11, 12, 13, 14, 15, 16, 17, 18, 19] (.regionD 56 [⟨0, ⟨some 56, .op (.load (some 2) (.tmp 2)), none⟩, []⟩,
  ⟨1, ⟨some 57, .op (.load (some 2) (.tmp 2)), none⟩, []⟩,
  ⟨3, ⟨some 59, .op (.load (some 2) (.tmp 3)), none⟩, []⟩,
  ⟨4, ⟨some 60, .op (.fieldAddr 0 (.tmp 3)), none⟩, []⟩,
  ⟨5, ⟨some 61, .op (.load none (.tmp 60)), none⟩, []⟩,
  ⟨6, ⟨some 62, .op (.lenSl (.tmp 61)), none⟩, []⟩,
  ⟨7, ⟨some 63, .op (.mkSlice [.nils, .nils, .nils, .nils, .nils] 5 120 (.tmp 62) (.tmp 62)), none⟩, []⟩,
  ⟨2, ⟨some 58, .call f_adj_New [(.tmp 57)], none⟩, [(56, ⟨some 56, .op (.load (some 2) (.tmp 2)), none⟩), (59, ⟨some 59, .op (.load (some 2) (.tmp 3)), none⟩), (61, ⟨some 61, .op (.load none (.tmp 60)), none⟩)]⟩,
  ⟨8, ⟨some 64, .op (.build [.int .i64 0, .nils, .nilp, .nils, .nils, .nils] [(0, 2, (.tmp 56)), (2, 1, (.tmp 58)), (3, 2, (.tmp 59)), (5, 1, (.tmp 63))]), none⟩, []⟩,
  ⟨9, ⟨some 65, .op (.box (.tmp 64)), none⟩, []⟩,
  ⟨10, ⟨some 66, .op (.mv (.tmp 65)), none⟩, []⟩] [(10, 56), (11, 57), (12, 58), (13, 59), (14, 60), (15, 61), (16, 62), (17, 63), (18, 64), (19, 65), (5, 66)]) (.seq [21, 22, 23, 24] (.seq [3, 20] (.region [⟨some 20, .op (.fieldAddr 0 (.tmp 3)), none⟩,
  ⟨some 21, .op (.load none (.tmp 20)), none⟩,
  ⟨some 22, .op (.lenSl (.tmp 21)), none⟩,
  ⟨some 23, .op (.mv (.const (.int .i64 0))), none⟩]) (.block 0 (.loop [54] product_join_c2))) (.seq [5, 55] (.region [⟨some 55, .op (.mv (.tmp 5)), none⟩,
  ⟨some 4, .op (.mv (.tmp 55)), none⟩]) .ret)))⟩
noncomputable def product_join_l1 (T : Tab) (k j0 : Nat) (g5 t21 t22 t23 : AV) (h : Heap) : Option (AV × Heap) :=
  loopB T k product_join_rs j0 [54] product_join_c2 [.blk 0, .seq [21, 22, 23, 24] (.seq [5, 55] (.region [⟨some 55, .op (.mv (.tmp 5)), none⟩,
  ⟨some 4, .op (.mv (.tmp 55)), none⟩]) .ret)] [.undef, .undef, .undef, .undef, .undef, g5, .undef, .undef, .undef, .undef, .undef, .undef, .undef, .undef, .undef, .undef, .undef, .undef, .undef, .undef, .undef, t21, t22, t23, .undef, .undef, .undef, .undef, .undef, .undef, .undef, .undef, .undef, .undef, .undef, .undef, .undef, .undef, .undef, .undef, .undef, .undef, .undef, .undef, .undef, .undef, .undef, .undef, .undef, .undef, .undef, .undef, .undef, .undef, .undef, .undef] h
noncomputable def product_join_l2 (T : Tab) (k j0 j1 : Nat) (g5 s6 t21 t22 t23 t28 t29 : AV) (h : Heap) : Option (AV × Heap) :=
  loopB T k product_join_rs j1 [53] product_join_c1 [.blk 2, .blk 1, .seq [6, 28, 29, 30] (.region [⟨some 54, .op (.bin .add .scalar (.tmp 23) (.const (.int .i64 1))), none⟩,
  ⟨some 23, .op (.mv (.tmp 54)), none⟩]), .lp j0 [54] product_join_c2, .blk 0, .seq [21, 22, 23, 24] (.seq [5, 55] (.region [⟨some 55, .op (.mv (.tmp 5)), none⟩,
  ⟨some 4, .op (.mv (.tmp 55)), none⟩]) .ret)] [.undef, .undef, .undef, .undef, .undef, g5, s6, .undef, .undef, .undef, .undef, .undef, .undef, .undef, .undef, .undef, .undef, .undef, .undef, .undef, .undef, t21, t22, t23, .undef, .undef, .undef, .undef, t28, t29, .undef, .undef, .undef, .undef, .undef, .undef, .undef, .undef, .undef, .undef, .undef, .undef, .undef, .undef, .undef, .undef, .undef, .undef, .undef, .undef, .undef, .undef, .undef, .undef, .undef, .undef] h
theorem product_join_l2_eq (T : Tab) (k j0 j1 : Nat) (g5 s6 t21 t22 t23 t28 t29 : AV) (h : Heap) : product_join_l2 T k j0 (j1 + 1) g5 s6 t21 t22 t23 t28 t29 h =
    oa (binV .lss .scalar t29 (.int .i64 5)) fun t30_1 =>
    cond2 t30_1
      (
      oa (ixA 5 1 none t28 t29) fun t32_2 =>
      oa (nilCk g5) fun t57_3 =>
      oa (fldA 5 t57_3) fun t58_4 =>
      oa (ld1 h t58_4) fun t59_5 =>
      oa (nilCk g5) fun t63_6 =>
      oa (fldA 5 t63_6) fun t64_7 =>
      oa (ld1 h t64_7) fun t65_8 =>
      oa (idxS 5 t65_8 t32_2) fun t68_9 =>
      oa (idxA 5 1 t68_9 t29) fun t69_10 =>
      oa (ld1 h t69_10) fun t70_11 =>
      ob (buildSl 1 1 [.int .i64 0] [(0, 1, s6)] h) fun t72_12 h_13 =>
      oa (idxS 5 t59_5 t32_2) fun t74_14 =>
      ob (apnd 1 8 t70_11 t72_12 h_13) fun t73_15 h_16 =>
      chk ((sameB (pure1 h_16 (ld1 h_16 t58_4)) t59_5 && true)) <|
      oa (idxA 5 1 t74_14 t29) fun t75_17 =>
      oh (stN 1 h_16 t75_17 t73_15) fun h_18 =>
      oa (binV .add .scalar t29 (.int .i64 1)) fun t53_19 =>
      product_join_l2 T k j0 j1 g5 s6 t21 t22 t23 t28 t53_19 h_18
      )
      (
      oa (binV .add .scalar t23 (.int .i64 1)) fun t54_20 =>
      product_join_l1 T k j0 g5 t21 t22 t54_20 h
      ) := loopEq (by kernel_rfl)
theorem product_join_l1_eq (T : Tab) (k j0 : Nat) (g5 t21 t22 t23 : AV) (h : Heap) : product_join_l1 T k (j0 + 1) g5 t21 t22 t23 h =
    oa (binV .lss .scalar t23 t22) fun t24_1 =>
    cond2 t24_1
      (
      oa (idxS 5 t21 t23) fun t26_2 =>
      oa (ldN 5 h t26_2) fun t27_3 =>
      ob (newVar h [.int .i64 0, .int .i64 0, .int .i64 0, .int .i64 0, .int .i64 0]) fun row7_4 h_5 =>
      oh (stN 5 h_5 row7_4 t27_3) fun h_6 =>
      oa (ldN 5 h_6 row7_4) fun t28_7 =>
      product_join_l2 T k j0 k g5 t23 t21 t22 t23 t28_7 (.int .i64 0) h_6
      )
      (
      some (g5, h)
      ) := loopEq (by kernel_rfl)
theorem product_join_eq (T : Tab) (k : Nat) (n0 d1 : AV) (h : Heap) : runF T k product_join_mf [n0, d1] h =
    ob (newVar h (AV.cells n0)) fun n2_1 h_2 =>
    ob (newVar h_2 (AV.cells d1)) fun d3_3 h_4 =>
    oa (ldN 2 h_4 n2_1) fun t56_5 =>
    oa (ldN 2 h_4 n2_1) fun t57_6 =>
    oa (ldN 2 h_4 d3_3) fun t59_7 =>
    oa (fldA 0 d3_3) fun t60_8 =>
    oa (ld1 h_4 t60_8) fun t61_9 =>
    oa (lenS t61_9) fun t62_10 =>
    ob (mkSl [.nils, .nils, .nils, .nils, .nils] 5 120 t62_10 t62_10 h_4) fun t63_11 h_12 =>
    ob (evalFn T k f_adj_New [t57_6] h_12) fun t58_13 h_14 =>
    chk ((sameB (pure1 h_14 (ldN 2 h_14 n2_1)) t56_5 && (sameB (pure1 h_14 (ldN 2 h_14 d3_3)) t59_7 && (sameB (pure1 h_14 (ld1 h_14 t60_8)) t61_9 && true)))) <|
    oa (buildV [.int .i64 0, .nils, .nilp, .nils, .nils, .nils] [(0, 2, t56_5), (2, 1, t58_13), (3, 2, t59_7), (5, 1, t63_11)]) fun t64_15 =>
    ob (newVar h_14 (AV.cells t64_15)) fun t65_16 h_17 =>
    oa (fldA 0 d3_3) fun t20_18 =>
    oa (ld1 h_17 t20_18) fun t21_19 =>
    oa (lenS t21_19) fun t22_20 =>
    product_join_l1 T k k t65_16 t21_19 t22_20 (.int .i64 0) h_17 := runEq (by kernel_rfl)
noncomputable def product_graph_begin_c1 : MCode := .seq [] (.region [⟨some 43, .op (.bin .lss .scalar (.tmp 42) (.tmp 41)), none⟩]) (.seq [43] (.cond (.tmp 43) .skip (.exit 0)) (.seq [9, 45, 46, 47, 48, 49, 50, 51, 52, 53, 54, 55, 56, 57, 58, 59, 60, 61, 62] (.block 1 (.seq [44] (.region [⟨some 44, .op (.mv (.tmp 42)), none⟩,
  ⟨some 9, .op (.mv (.tmp 44)), none⟩]) (.regionD 80 [⟨0, ⟨some 80, .op (.mv (.tmp 8)), none⟩, []⟩,
  ⟨1, ⟨some 81, .op (.nilCheck (.tmp 80)), none⟩, []⟩,
  ⟨2, ⟨some 82, .op (.fieldAddr 3 (.tmp 81)), none⟩, []⟩,
  ⟨3, ⟨some 83, .op (.load none (.tmp 82)), none⟩, []⟩,
  ⟨4, ⟨some 84, .op (.mv (.tmp 9)), none⟩, []⟩,
  ⟨5, ⟨some 85, .op (.mv (.tmp 8)), none⟩, []⟩,
  ⟨6, ⟨some 86, .op (.nilCheck (.tmp 85)), none⟩, []⟩,
  ⟨7, ⟨some 87, .op (.fieldAddr 4 (.tmp 86)), none⟩, []⟩,
  ⟨8, ⟨some 88, .op (.load none (.tmp 87)), none⟩, []⟩,
  ⟨9, ⟨some 89, .op (.mv (.tmp 9)), none⟩, []⟩,
  ⟨10, ⟨some 90, .op (.mv (.tmp 8)), none⟩, []⟩,
  ⟨11, ⟨some 91, .op (.nilCheck (.tmp 90)), none⟩, []⟩,
  ⟨12, ⟨some 92, .op (.fieldAddr 5 (.tmp 91)), none⟩, []⟩,
  ⟨13, ⟨some 93, .op (.load none (.tmp 92)), none⟩, []⟩,
  ⟨14, ⟨some 94, .op (.mv (.tmp 9)), none⟩, []⟩,
  ⟨15, ⟨some 95, .op (.idxSl 1 (.tmp 83) (.tmp 84)), none⟩, []⟩,
  ⟨16, ⟨some 96, .op (.store 1 (.tmp 95) (.const (.int .i64 (-1)))), none⟩, []⟩,
  ⟨17, ⟨some 97, .op (.idxSl 1 (.tmp 88) (.tmp 89)), none⟩, []⟩,
  ⟨18, ⟨some 98, .op (.store 1 (.tmp 97) (.const (.int .i64 (-1)))), none⟩, []⟩,
  ⟨19, ⟨some 99, .op (.idxSl 1 (.tmp 93) (.tmp 94)), none⟩, []⟩,
  ⟨20, ⟨some 100, .op (.store 1 (.tmp 99) (.const (.int .i64 (-1)))), none⟩, []⟩] [(45, 80), (46, 81), (47, 82), (48, 83), (49, 84), (50, 85), (51, 86), (52, 87), (53, 88), (54, 89), (55, 90), (56, 91), (57, 92), (58, 93), (59, 94), (60, 95), (61, 97), (62, 99)]))) (.region [⟨some 63, .op (.bin .add .scalar (.tmp 42) (.const (.int .i64 1))), none⟩,
  ⟨some 42, .op (.mv (.tmp 63)), none⟩])))
noncomputable def product_graph_begin_c2 : MCode := .seq [] (.region [⟨some 67, .op (.bin .lss .scalar (.tmp 66) (.tmp 65)), none⟩]) (.seq [67] (.cond (.tmp 67) .skip (.exit 2)) (.seq [11, 70, 71, 72, 73, 74, 75, 76, 77] (.block 3 (.seq [68, 69] (.region [⟨some 68, .op (.idxSl 2 (.tmp 64) (.tmp 66)), none⟩,
  ⟨some 69, .op (.load (some 2) (.tmp 68)), none⟩,
  ⟨some 11, .op (.alloc [.int .i64 0, .int .i64 0]), none⟩,
  ⟨none, .op (.store 2 (.tmp 11) (.tmp 69)), none⟩]) (.regionD 80 [⟨0, ⟨some 80, .op (.mv (.tmp 8)), none⟩, []⟩,
  ⟨1, ⟨some 81, .op (.nilCheck (.tmp 80)), none⟩, []⟩,
  ⟨2, ⟨some 82, .op (.fieldAddr 2 (.tmp 81)), none⟩, []⟩,
  ⟨3, ⟨some 83, .op (.load none (.tmp 82)), none⟩, []⟩,
  ⟨4, ⟨some 84, .op (.mv (.tmp 0)), none⟩, []⟩,
  ⟨5, ⟨some 85, .op (.load (some 2) (.tmp 11)), none⟩, []⟩,
  ⟨6, ⟨some 86, .call f_product_graph_id [(.tmp 84), (.tmp 85)], none⟩, [(83, ⟨some 83, .op (.load none (.tmp 82)), none⟩)]⟩,
  ⟨7, ⟨some 87, .call f_queue_Queue_Put [(.tmp 83), (.tmp 86), (.const (.int .i64 0))], none⟩, []⟩] [(70, 80), (71, 81), (72, 82), (73, 83), (74, 84), (75, 85), (76, 86), (77, 87)]))) (.region [⟨some 78, .op (.bin .add .scalar (.tmp 66) (.const (.int .i64 1))), none⟩,
  ⟨some 66, .op (.mv (.tmp 78)), none⟩])))
noncomputable def product_graph_begin_c3 : MCode := .seq [0, 64, 65, 66, 67] (.seq [2] (.region [⟨some 64, .op (.mv (.tmp 2)), none⟩,
  ⟨some 65, .op (.lenSl (.tmp 64)), none⟩,
  ⟨some 66, .op (.mv (.const (.int .i64 0))), none⟩]) (.block 2 (.loop [78] product_graph_begin_c2))) (.seq [8, 79] (.region [⟨some 79, .op (.mv (.tmp 8)), none⟩,
  ⟨some 6, .op (.mv (.tmp 79)), none⟩]) .ret)
def product_graph_begin_rs : Res := [(6, none)]
noncomputable def product_graph_begin_mf : MFn := ⟨80, product_graph_begin_rs, .seq [6] (.region [⟨some 6, .op (.mv (.const .nilp)), none⟩]) (.seq [12, 13, 14, 15, 16, 17, 18, 19, 20, 21, 22, 23, 24] (.regionD 80 [⟨0, ⟨some 80, .op (.mv (.tmp 0)), none⟩, []⟩,
  ⟨1, ⟨some 81, .op (.nilCheck (.tmp 80)), none⟩, []⟩,
  ⟨2, ⟨some 82, .op (.fieldAddr 0 (.tmp 81)), none⟩, []⟩,
  ⟨3, ⟨some 83, .op (.fieldAddr 0 (.tmp 82)), none⟩, []⟩,
  ⟨4, ⟨some 84, .op (.load none (.tmp 83)), none⟩, []⟩,
  ⟨5, ⟨some 85, .op (.mm true (.tmp 84) (.const (.int .i64 0))), none⟩, []⟩,
  ⟨6, ⟨some 86, .op (.mv (.tmp 0)), none⟩, []⟩,
  ⟨7, ⟨some 87, .op (.nilCheck (.tmp 86)), none⟩, []⟩,
  ⟨8, ⟨some 88, .op (.fieldAddr 3 (.tmp 87)), none⟩, []⟩,
  ⟨9, ⟨some 89, .op (.fieldAddr 0 (.tmp 88)), none⟩, []⟩,
  ⟨10, ⟨some 90, .op (.load none (.tmp 89)), none⟩, []⟩,
  ⟨11, ⟨some 91, .op (.lenSl (.tmp 90)), none⟩, []⟩,
  ⟨12, ⟨some 92, .op (.bin .mul .scalar (.tmp 85) (.tmp 91)), none⟩, []⟩,
  ⟨13, ⟨some 93, .op (.mv (.tmp 92)), none⟩, []⟩] [(12, 80), (13, 81), (14, 82), (15, 83), (16, 84), (17, 85), (18, 86), (19, 87), (20, 88), (21, 89), (22, 90), (23, 91), (24, 92), (7, 93)]) (.seq [1, 7, 25, 26, 27, 28, 29, 30, 31, 32, 33, 34, 35, 36] (.regionD 80 [⟨0, ⟨some 80, .op (.mv (.tmp 0)), none⟩, []⟩,
  ⟨1, ⟨some 81, .op (.mv (.tmp 1)), none⟩, []⟩,
  ⟨2, ⟨some 82, .op (.mv (.tmp 7)), none⟩, []⟩,
  ⟨4, ⟨some 84, .op (.mv (.tmp 7)), none⟩, []⟩,
  ⟨5, ⟨some 85, .op (.mkSlice [.int .i64 0] 1 8 (.tmp 84) (.tmp 84)), none⟩, []⟩,
  ⟨6, ⟨some 86, .op (.mv (.tmp 7)), none⟩, []⟩,
  ⟨7, ⟨some 87, .op (.mkSlice [.int .i64 0] 1 8 (.tmp 86) (.tmp 86)), none⟩, []⟩,
  ⟨8, ⟨some 88, .op (.mv (.tmp 7)), none⟩, []⟩,
  ⟨9, ⟨some 89, .op (.mkSlice [.int .i64 0] 1 8 (.tmp 88) (.tmp 88)), none⟩, []⟩,
  ⟨3, ⟨some 83, .call f_queue_New [(.tmp 82)], none⟩, []⟩,
  ⟨10, ⟨some 90, .op (.build [.nilp, .nilfn, .nilp, .nils, .nils, .nils, .int .i64 0] [(0, 1, (.tmp 80)), (1, 1, (.tmp 81)), (2, 1, (.tmp 83)), (3, 1, (.tmp 85)), (4, 1, (.tmp 87)), (5, 1, (.tmp 89))]), none⟩, []⟩,
  ⟨11, ⟨some 91, .op (.box (.tmp 90)), none⟩, []⟩,
  ⟨12, ⟨some 92, .op (.mv (.tmp 91)), none⟩, []⟩] [(25, 80), (26, 81), (27, 82), (28, 83), (29, 84), (30, 85), (31, 86), (32, 87), (33, 88), (34, 89), (35, 90), (36, 91), (8, 92)]) (.seq [41, 42, 43] (.seq [37, 38, 39, 40] (.region [⟨some 37, .op (.mv (.tmp 8)), none⟩,
  ⟨some 38, .op (.nilCheck (.tmp 37)), none⟩,
  ⟨some 39, .op (.fieldAddr 3 (.tmp 38)), none⟩,
  ⟨some 40, .op (.load none (.tmp 39)), none⟩,
  ⟨some 41, .op (.lenSl (.tmp 40)), none⟩,
  ⟨some 42, .op (.mv (.const (.int .i64 0))), none⟩]) (.block 0 (.loop [63] product_graph_begin_c1))) (.lab product_graph_begin_c3))))⟩
noncomputable def product_graph_begin_l1 (T : Tab) (k j0 : Nat) (g0 at2 s8 t41 t42 : AV) (h : Heap) : Option (AV × Heap) :=
  loopB T k product_graph_begin_rs j0 [63] product_graph_begin_c1 [.blk 0, .seq [41, 42, 43] (.lab product_graph_begin_c3)] [g0, .undef, at2, .undef, .undef, .undef, .undef, .undef, s8, .undef, .undef, .undef, .undef, .undef, .undef, .undef, .undef, .undef, .undef, .undef, .undef, .undef, .undef, .undef, .undef, .undef, .undef, .undef, .undef, .undef, .undef, .undef, .undef, .undef, .undef, .undef, .undef, .undef, .undef, .undef, .undef, t41, t42, .undef, .undef, .undef, .undef, .undef, .undef, .undef, .undef, .undef, .undef, .undef, .undef, .undef, .undef, .undef, .undef, .undef, .undef, .undef, .undef, .undef, .undef, .undef, .undef, .undef, .undef, .undef, .undef, .undef, .undef, .undef, .undef, .undef, .undef, .undef, .undef, .undef] h
noncomputable def product_graph_begin_b2 (T : Tab) (k : Nat) (g0 at2 s8 : AV) (h : Heap) : Option (AV × Heap) :=
  evB T k product_graph_begin_rs product_graph_begin_c3 [] [g0, .undef, at2, .undef, .undef, .undef, .undef, .undef, s8, .undef, .undef, .undef, .undef, .undef, .undef, .undef, .undef, .undef, .undef, .undef, .undef, .undef, .undef, .undef, .undef, .undef, .undef, .undef, .undef, .undef, .undef, .undef, .undef, .undef, .undef, .undef, .undef, .undef, .undef, .undef, .undef, .undef, .undef, .undef, .undef, .undef, .undef, .undef, .undef, .undef, .undef, .undef, .undef, .undef, .undef, .undef, .undef, .undef, .undef, .undef, .undef, .undef, .undef, .undef, .undef, .undef, .undef, .undef, .undef, .undef, .undef, .undef, .undef, .undef, .undef, .undef, .undef, .undef, .undef, .undef] h
noncomputable def product_graph_begin_l3 (T : Tab) (k j0 : Nat) (g0 s8 t64 t65 t66 : AV) (h : Heap) : Option (AV × Heap) :=
  loopB T k product_graph_begin_rs j0 [78] product_graph_begin_c2 [.blk 2, .seq [0, 64, 65, 66, 67] (.seq [8, 79] (.region [⟨some 79, .op (.mv (.tmp 8)), none⟩,
  ⟨some 6, .op (.mv (.tmp 79)), none⟩]) .ret)] [g0, .undef, .undef, .undef, .undef, .undef, .undef, .undef, s8, .undef, .undef, .undef, .undef, .undef, .undef, .undef, .undef, .undef, .undef, .undef, .undef, .undef, .undef, .undef, .undef, .undef, .undef, .undef, .undef, .undef, .undef, .undef, .undef, .undef, .undef, .undef, .undef, .undef, .undef, .undef, .undef, .undef, .undef, .undef, .undef, .undef, .undef, .undef, .undef, .undef, .undef, .undef, .undef, .undef, .undef, .undef, .undef, .undef, .undef, .undef, .undef, .undef, .undef, .undef, t64, t65, t66, .undef, .undef, .undef, .undef, .undef, .undef, .undef, .undef, .undef, .undef, .undef, .undef, .undef] h
theorem product_graph_begin_l3_eq (T : Tab) (k j0 : Nat) (g0 s8 t64 t65 t66 : AV) (h : Heap) : product_graph_begin_l3 T k (j0 + 1) g0 s8 t64 t65 t66 h =
    oa (binV .lss .scalar t66 t65) fun t67_1 =>
    cond2 t67_1
      (
      oa (idxS 2 t64 t66) fun t68_2 =>
      oa (ldN 2 h t68_2) fun t69_3 =>
      ob (newVar h [.int .i64 0, .int .i64 0]) fun x11_4 h_5 =>
      oh (stN 2 h_5 x11_4 t69_3) fun h_6 =>
      oa (nilCk s8) fun t81_7 =>
      oa (fldA 2 t81_7) fun t82_8 =>
      oa (ld1 h_6 t82_8) fun t83_9 =>
      oa (ldN 2 h_6 x11_4) fun t85_10 =>
      ob (evalFn T k f_product_graph_id [g0, t85_10] h_6) fun t86_11 h_12 =>
      chk ((sameB (pure1 h_12 (ld1 h_12 t82_8)) t83_9 && true)) <|
      ob (evalFn T k f_queue_Queue_Put [t83_9, t86_11, (.int .i64 0)] h_12) fun t87_13 h_14 =>
      oa (binV .add .scalar t66 (.int .i64 1)) fun t78_15 =>
      product_graph_begin_l3 T k j0 g0 s8 t64 t65 t78_15 h_14
      )
      (
      some (s8, h)
      ) := loopEq (by kernel_rfl)
theorem product_graph_begin_b2_eq (T : Tab) (k : Nat) (g0 at2 s8 : AV) (h : Heap) : product_graph_begin_b2 T k g0 at2 s8 h =
    oa (lenS at2) fun t65_1 =>
    product_graph_begin_l3 T k k g0 s8 at2 t65_1 (.int .i64 0) h := blockEq (by kernel_rfl)
theorem product_graph_begin_l1_eq (T : Tab) (k j0 : Nat) (g0 at2 s8 t41 t42 : AV) (h : Heap) : product_graph_begin_l1 T k (j0 + 1) g0 at2 s8 t41 t42 h =
    oa (binV .lss .scalar t42 t41) fun t43_1 =>
    cond2 t43_1
      (
      oa (nilCk s8) fun t81_2 =>
      oa (fldA 3 t81_2) fun t82_3 =>
      oa (ld1 h t82_3) fun t83_4 =>
      oa (nilCk s8) fun t86_5 =>
      oa (fldA 4 t86_5) fun t87_6 =>
      oa (ld1 h t87_6) fun t88_7 =>
      oa (nilCk s8) fun t91_8 =>
      oa (fldA 5 t91_8) fun t92_9 =>
      oa (ld1 h t92_9) fun t93_10 =>
      oa (idxS 1 t83_4 t42) fun t95_11 =>
      oh (stN 1 h t95_11 (.int .i64 (-1))) fun h_12 =>
      oa (idxS 1 t88_7 t42) fun t97_13 =>
      oh (stN 1 h_12 t97_13 (.int .i64 (-1))) fun h_14 =>
      oa (idxS 1 t93_10 t42) fun t99_15 =>
      oh (stN 1 h_14 t99_15 (.int .i64 (-1))) fun h_16 =>
      oa (binV .add .scalar t42 (.int .i64 1)) fun t63_17 =>
      product_graph_begin_l1 T k j0 g0 at2 s8 t41 t63_17 h_16
      )
      (
      product_graph_begin_b2 T k g0 at2 s8 h
      ) := loopEq (by kernel_rfl)
theorem product_graph_begin_eq (T : Tab) (k : Nat) (g0 hops1 at2 : AV) (h : Heap) : runF T k product_graph_begin_mf [g0, hops1, at2] h =
    oa (nilCk g0) fun t81_1 =>
    oa (fldA 0 t81_1) fun t82_2 =>
    oa (fldA 0 t82_2) fun t83_3 =>
    oa (ld1 h t83_3) fun t84_4 =>
    oa (mmV true t84_4 (.int .i64 0)) fun t85_5 =>
    oa (nilCk g0) fun t87_6 =>
    oa (fldA 3 t87_6) fun t88_7 =>
    oa (fldA 0 t88_7) fun t89_8 =>
    oa (ld1 h t89_8) fun t90_9 =>
    oa (lenS t90_9) fun t91_10 =>
    oa (binV .mul .scalar t85_5 t91_10) fun t92_11 =>
    ob (mkSl [.int .i64 0] 1 8 t92_11 t92_11 h) fun t85_12 h_13 =>
    ob (mkSl [.int .i64 0] 1 8 t92_11 t92_11 h_13) fun t87_14 h_15 =>
    ob (mkSl [.int .i64 0] 1 8 t92_11 t92_11 h_15) fun t89_16 h_17 =>
    ob (evalFn T k f_queue_New [t92_11] h_17) fun t83_18 h_19 =>
    oa (buildV [.nilp, .nilfn, .nilp, .nils, .nils, .nils, .int .i64 0] [(0, 1, g0), (1, 1, hops1), (2, 1, t83_18), (3, 1, t85_12), (4, 1, t87_14), (5, 1, t89_16)]) fun t90_20 =>
    ob (newVar h_19 (AV.cells t90_20)) fun t91_21 h_22 =>
    oa (nilCk t91_21) fun t38_23 =>
    oa (fldA 3 t38_23) fun t39_24 =>
    oa (ld1 h_22 t39_24) fun t40_25 =>
    oa (lenS t40_25) fun t41_26 =>
    product_graph_begin_l1 T k k g0 at2 t91_21 t41_26 (.int .i64 0) h_22 := runEq (by kernel_rfl)
noncomputable def product_graph_on_c1 : MCode := .seq [] (.region [⟨some 18, .op (.bin .lss .scalar (.tmp 17) (.tmp 16)), none⟩]) (.seq [18] (.cond (.tmp 18) .skip (.exit 0)) (.seq [7, 8, 29, 30, 31, 32, 33, 34, 35, 36, 37, 38, 39, 40, 41, 42, 43, 44, 45, 46, 47, 48] (.block 1 (.seq [19, 20] (.region [⟨some 19, .op (.idxSl 1 (.tmp 15) (.tmp 17)), none⟩,
  ⟨some 20, .op (.load none (.tmp 19)), none⟩,
  ⟨some 7, .op (.mv (.tmp 20)), none⟩]) (.seq [21, 22, 23, 24, 25, 26, 27, 28] (.region [⟨some 21, .op (.mv (.tmp 0)), none⟩,
  ⟨some 22, .op (.nilCheck (.tmp 21)), none⟩,
  ⟨some 23, .op (.fieldAddr 0 (.tmp 22)), none⟩,
  ⟨some 24, .op (.fieldAddr 1 (.tmp 23)), none⟩,
  ⟨some 25, .op (.load none (.tmp 24)), none⟩,
  ⟨some 26, .op (.mv (.tmp 7)), none⟩,
  ⟨some 27, .op (.idxSl 4 (.tmp 25) (.tmp 26)), none⟩,
  ⟨some 28, .op (.load (some 4) (.tmp 27)), none⟩,
  ⟨some 8, .op (.alloc [.int .i64 0, .int .i64 0, .int .i64 0, .int .i64 0]), none⟩,
  ⟨none, .op (.store 4 (.tmp 8) (.tmp 28)), none⟩]) (.regionD 51 [⟨0, ⟨some 51, .op (.mv (.tmp 5)), none⟩, []⟩,
  ⟨1, ⟨some 52, .op (.fieldAddr 1 (.tmp 8)), none⟩, []⟩,
  ⟨2, ⟨some 53, .op (.load none (.tmp 52)), none⟩, []⟩,
  ⟨3, ⟨some 54, .op (.mv (.tmp 0)), none⟩, []⟩,
  ⟨4, ⟨some 55, .op (.nilCheck (.tmp 54)), none⟩, []⟩,
  ⟨5, ⟨some 56, .op (.fieldAddr 3 (.tmp 55)), none⟩, []⟩,
  ⟨6, ⟨some 57, .op (.fieldAddr 0 (.tmp 56)), none⟩, []⟩,
  ⟨7, ⟨some 58, .op (.load none (.tmp 57)), none⟩, []⟩,
  ⟨8, ⟨some 59, .op (.fieldAddr 1 (.tmp 3)), none⟩, []⟩,
  ⟨9, ⟨some 60, .op (.load none (.tmp 59)), none⟩, []⟩,
  ⟨10, ⟨some 61, .op (.fieldAddr 2 (.tmp 8)), none⟩, []⟩,
  ⟨11, ⟨some 62, .op (.load none (.tmp 61)), none⟩, []⟩,
  ⟨12, ⟨some 63, .op (.idxSl 5 (.tmp 58) (.tmp 60)), none⟩, []⟩,
  ⟨13, ⟨some 64, .op (.idxArr 5 1 (.tmp 63) (.tmp 62)), none⟩, []⟩,
  ⟨14, ⟨some 65, .op (.load none (.tmp 64)), none⟩, []⟩,
  ⟨15, ⟨some 66, .op (.build [.int .i64 0, .int .i64 0] [(0, 1, (.tmp 53)), (1, 1, (.tmp 65))]), none⟩, []⟩,
  ⟨16, ⟨some 67, .op (.mv (.tmp 7)), none⟩, []⟩,
  ⟨17, ⟨some 68, .op (.build [.int .i64 0, .int .i64 0, .int .i64 0] [(0, 2, (.tmp 66)), (2, 1, (.tmp 67))]), none⟩, []⟩,
  ⟨18, ⟨some 69, .op (.buildSlice 3 1 [.int .i64 0, .int .i64 0, .int .i64 0] [(0, 3, (.tmp 68))]), none⟩, []⟩,
  ⟨19, ⟨some 70, .op (.append 3 24 (.tmp 51) (.tmp 69)), none⟩, []⟩,
  ⟨20, ⟨some 71, .op (.mv (.tmp 70)), none⟩, []⟩] [(29, 51), (30, 52), (31, 53), (32, 54), (33, 55), (34, 56), (35, 57), (36, 58), (37, 59), (38, 60), (39, 61), (40, 62), (41, 63), (42, 64), (43, 65), (44, 66), (45, 67), (46, 68), (47, 69), (48, 70), (5, 71)])))) (.region [⟨some 49, .op (.bin .add .scalar (.tmp 17) (.const (.int .i64 1))), none⟩,
  ⟨some 17, .op (.mv (.tmp 49)), none⟩])))
def product_graph_on_rs : Res := [(4, none)]
noncomputable def product_graph_on_mf : MFn := ⟨51, product_graph_on_rs, .seq [1, 4] (.region [⟨some 3, .op (.box (.tmp 1)), none⟩,
  ⟨some 4, .op (.mv (.const .nils)), none⟩]) (.seq [] (.region [⟨some 5, .op (.mv (.const .nils)), none⟩]) (.seq [0, 3, 15, 16, 17, 18] (.seq [9, 10, 11, 12, 13, 14] (.regionD 51 [⟨0, ⟨some 51, .op (.mv (.tmp 0)), none⟩, []⟩,
  ⟨1, ⟨some 52, .op (.nilCheck (.tmp 51)), none⟩, []⟩,
  ⟨2, ⟨some 53, .op (.fieldAddr 2 (.tmp 52)), none⟩, []⟩,
  ⟨3, ⟨some 54, .op (.load none (.tmp 53)), none⟩, []⟩,
  ⟨4, ⟨some 55, .op (.fieldAddr 0 (.tmp 3)), none⟩, []⟩,
  ⟨5, ⟨some 56, .op (.load none (.tmp 55)), none⟩, []⟩,
  ⟨8, ⟨some 59, .op (.mv (.const (.int .i64 0))), none⟩, []⟩,
  ⟨6, ⟨some 57, .call f_adj_Adj_Out [(.tmp 54), (.tmp 56)], none⟩, []⟩,
  ⟨7, ⟨some 58, .op (.lenSl (.tmp 57)), none⟩, []⟩] [(9, 51), (10, 52), (11, 53), (12, 54), (13, 55), (14, 56), (15, 57), (16, 58), (17, 59)]) (.block 0 (.loop [49] product_graph_on_c1))) (.seq [5, 50] (.region [⟨some 50, .op (.mv (.tmp 5)), none⟩,
  ⟨some 4, .op (.mv (.tmp 50)), none⟩]) .ret)))⟩
noncomputable def product_graph_on_l1 (T : Tab) (k j0 : Nat) (g0 x3 out5 t15 t16 t17 : AV) (h : Heap) : Option (AV × Heap) :=
  loopB T k product_graph_on_rs j0 [49] product_graph_on_c1 [.blk 0, .seq [0, 3, 15, 16, 17, 18] (.seq [5, 50] (.region [⟨some 50, .op (.mv (.tmp 5)), none⟩,
  ⟨some 4, .op (.mv (.tmp 50)), none⟩]) .ret)] [g0, .undef, .undef, x3, .undef, out5, .undef, .undef, .undef, .undef, .undef, .undef, .undef, .undef, .undef, t15, t16, t17, .undef, .undef, .undef, .undef, .undef, .undef, .undef, .undef, .undef, .undef, .undef, .undef, .undef, .undef, .undef, .undef, .undef, .undef, .undef, .undef, .undef, .undef, .undef, .undef, .undef, .undef, .undef, .undef, .undef, .undef, .undef, .undef, .undef] h
theorem product_graph_on_l1_eq (T : Tab) (k j0 : Nat) (g0 x3 out5 t15 t16 t17 : AV) (h : Heap) : product_graph_on_l1 T k (j0 + 1) g0 x3 out5 t15 t16 t17 h =
    oa (binV .lss .scalar t17 t16) fun t18_1 =>
    cond2 t18_1
      (
      oa (idxS 1 t15 t17) fun t19_2 =>
      oa (ld1 h t19_2) fun t20_3 =>
      oa (nilCk g0) fun t22_4 =>
      oa (fldA 0 t22_4) fun t23_5 =>
      oa (fldA 1 t23_5) fun t24_6 =>
      oa (ld1 h t24_6) fun t25_7 =>
      oa (idxS 4 t25_7 t20_3) fun t27_8 =>
      oa (ldN 4 h t27_8) fun t28_9 =>
      ob (newVar h [.int .i64 0, .int .i64 0, .int .i64 0, .int .i64 0]) fun e8_10 h_11 =>
      oh (stN 4 h_11 e8_10 t28_9) fun h_12 =>
      oa (fldA 1 e8_10) fun t52_13 =>
      oa (ld1 h_12 t52_13) fun t53_14 =>
      oa (nilCk g0) fun t55_15 =>
      oa (fldA 3 t55_15) fun t56_16 =>
      oa (fldA 0 t56_16) fun t57_17 =>
      oa (ld1 h_12 t57_17) fun t58_18 =>
      oa (fldA 1 x3) fun t59_19 =>
      oa (ld1 h_12 t59_19) fun t60_20 =>
      oa (fldA 2 e8_10) fun t61_21 =>
      oa (ld1 h_12 t61_21) fun t62_22 =>
      oa (idxS 5 t58_18 t60_20) fun t63_23 =>
      oa (idxA 5 1 t63_23 t62_22) fun t64_24 =>
      oa (ld1 h_12 t64_24) fun t65_25 =>
      oa (buildV [.int .i64 0, .int .i64 0] [(0, 1, t53_14), (1, 1, t65_25)]) fun t66_26 =>
      oa (buildV [.int .i64 0, .int .i64 0, .int .i64 0] [(0, 2, t66_26), (2, 1, t20_3)]) fun t68_27 =>
      ob (buildSl 3 1 [.int .i64 0, .int .i64 0, .int .i64 0] [(0, 3, t68_27)] h_12) fun t69_28 h_29 =>
      ob (apnd 3 24 out5 t69_28 h_29) fun t70_30 h_31 =>
      oa (binV .add .scalar t17 (.int .i64 1)) fun t49_32 =>
      product_graph_on_l1 T k j0 g0 x3 t70_30 t15 t16 t49_32 h_31
      )
      (
      some (out5, h)
      ) := loopEq (by kernel_rfl)
theorem product_graph_on_eq (T : Tab) (k : Nat) (g0 x1 : AV) (h : Heap) : runF T k product_graph_on_mf [g0, x1] h =
    ob (newVar h (AV.cells x1)) fun x3_1 h_2 =>
    oa (nilCk g0) fun t52_3 =>
    oa (fldA 2 t52_3) fun t53_4 =>
    oa (ld1 h_2 t53_4) fun t54_5 =>
    oa (fldA 0 x3_1) fun t55_6 =>
    oa (ld1 h_2 t55_6) fun t56_7 =>
    ob (evalFn T k f_adj_Adj_Out [t54_5, t56_7] h_2) fun t57_8 h_9 =>
    oa (lenS t57_8) fun t58_10 =>
    product_graph_on_l1 T k k g0 x3_1 .nils t57_8 t58_10 (.int .i64 0) h_9 := runEq (by kernel_rfl)
noncomputable def product_search_all_c1 : MCode := .block 1 (.seq [2, 4, 5, 6, 7, 8] (.region [⟨some 5, .op (.mv (.tmp 0)), none⟩,
  ⟨some 6, .call f_product_search_step [(.tmp 5)], none⟩,
  ⟨some 4, .op (.mv (.tmp 6)), none⟩,
  ⟨some 7, .op (.extract 0 (.tmp 4)), none⟩,
  ⟨some 8, .op (.extract 1 (.tmp 4)), none⟩,
  ⟨some 2, .op (.mv (.tmp 7)), none⟩,
  ⟨some 3, .op (.mv (.tmp 8)), none⟩]) (.seq [3, 9] (.region [⟨some 9, .op (.mv (.tmp 3)), none⟩,
  ⟨some 10, .op (.un .not (.tmp 9)), none⟩]) (.cond (.tmp 10) .ret .skip)))
def product_search_all_rs : Res := []
noncomputable def product_search_all_mf : MFn := ⟨11, product_search_all_rs, .block 0 (.loop [10] product_search_all_c1)⟩
noncomputable def product_search_all_l1 (T : Tab) (k j0 : Nat) (s0 : AV) (h : Heap) : Option (AV × Heap) :=
  loopB T k product_search_all_rs j0 [10] product_search_all_c1 [.blk 0] [s0, .undef, .undef, .undef, .undef, .undef, .undef, .undef, .undef, .undef, .undef] h
theorem product_search_all_l1_eq (T : Tab) (k j0 : Nat) (s0 : AV) (h : Heap) : product_search_all_l1 T k (j0 + 1) s0 h =
    ob (evalFn T k f_product_search_step [s0] h) fun t6_1 h_2 =>
    oa (extr 0 t6_1) fun t7_3 =>
    oa (extr 1 t6_1) fun t8_4 =>
    oa (unV .not t8_4) fun t10_5 =>
    cond2 t10_5
      (
      some (.tup [], h_2)
      )
      (
      product_search_all_l1 T k j0 s0 h_2
      ) := loopEq (by kernel_rfl)
theorem product_search_all_eq (T : Tab) (k : Nat) (s0 : AV) (h : Heap) : runF T k product_search_all_mf [s0] h =
    product_search_all_l1 T k k s0 h := runEq (by kernel_rfl)
noncomputable def product_search_best_c1 : MCode := .seq [] (.region [⟨some 19, .op (.bin .lss .scalar (.tmp 18) (.tmp 17)), none⟩]) (.seq [19] (.cond (.tmp 19) .skip (.exit 0)) (.seq [8, 62, 63] (.block 1 (.seq [20, 21, 22] (.region [⟨some 20, .op (.mv (.tmp 18)), none⟩,
  ⟨some 21, .op (.idxSl 1 (.tmp 16) (.tmp 18)), none⟩,
  ⟨some 22, .op (.load none (.tmp 21)), none⟩,
  ⟨some 6, .op (.mv (.tmp 20)), none⟩,
  ⟨some 7, .op (.mv (.tmp 22)), none⟩]) (.seq [6, 23, 24, 25, 26, 27, 28, 29, 30] (.region [⟨some 23, .op (.mv (.tmp 0)), none⟩,
  ⟨some 24, .op (.nilCheck (.tmp 23)), none⟩,
  ⟨some 25, .op (.fieldAddr 0 (.tmp 24)), none⟩,
  ⟨some 26, .op (.load none (.tmp 25)), none⟩,
  ⟨some 27, .op (.mv (.tmp 1)), none⟩,
  ⟨some 28, .op (.mv (.tmp 6)), none⟩,
  ⟨some 29, .op (.build [.int .i64 0, .int .i64 0] [(0, 1, (.tmp 27)), (1, 1, (.tmp 28))]), none⟩,
  ⟨some 30, .call f_product_graph_id [(.tmp 26), (.tmp 29)], none⟩,
  ⟨some 8, .op (.mv (.tmp 30)), none⟩]) (.seq [7, 31, 32, 33, 34, 35, 36, 37, 38, 39, 40, 41, 42, 43, 44, 45, 46, 47, 48, 49, 50, 51, 52, 53, 54, 55, 56, 57, 58, 59, 60, 61] (.regionD 66 [⟨0, ⟨some 66, .op (.mv (.tmp 7)), none⟩, []⟩,
  ⟨1, ⟨some 67, .op (.mv (.tmp 66)), none⟩, []⟩,
  ⟨2, ⟨some 68, .op (.mv (.tmp 0)), some (67, true)⟩, []⟩,
  ⟨3, ⟨some 69, .op (.nilCheck (.tmp 68)), some (67, true)⟩, []⟩,
  ⟨4, ⟨some 70, .op (.fieldAddr 3 (.tmp 69)), some (67, true)⟩, []⟩,
  ⟨5, ⟨some 71, .op (.load none (.tmp 70)), some (67, true)⟩, []⟩,
  ⟨6, ⟨some 72, .op (.mv (.tmp 8)), some (67, true)⟩, []⟩,
  ⟨7, ⟨some 73, .op (.idxSl 1 (.tmp 71) (.tmp 72)), some (67, true)⟩, []⟩,
  ⟨8, ⟨some 74, .op (.load none (.tmp 73)), some (67, true)⟩, []⟩,
  ⟨9, ⟨some 75, .op (.bin .geq .scalar (.tmp 74) (.const (.int .i64 0))), some (67, true)⟩, []⟩,
  ⟨10, ⟨some 76, .op (.pick (.tmp 67) (.tmp 75) (.const (.bool false))), none⟩, []⟩,
  ⟨11, ⟨some 77, .op (.mv (.tmp 76)), none⟩, []⟩,
  ⟨12, ⟨some 78, .op (.mv (.tmp 5)), some (77, true)⟩, []⟩,
  ⟨13, ⟨some 79, .op (.bin .lss .scalar (.tmp 78) (.const (.int .i64 0))), some (77, true)⟩, []⟩,
  ⟨14, ⟨some 80, .op (.mv (.tmp 79)), some (77, true)⟩, []⟩,
  ⟨15, ⟨some 81, .op (.mv (.tmp 0)), some (80, false)⟩, []⟩,
  ⟨16, ⟨some 82, .op (.nilCheck (.tmp 81)), some (80, false)⟩, []⟩,
  ⟨17, ⟨some 83, .op (.fieldAddr 3 (.tmp 82)), some (80, false)⟩, []⟩,
  ⟨18, ⟨some 84, .op (.load none (.tmp 83)), some (80, false)⟩, []⟩,
  ⟨19, ⟨some 85, .op (.mv (.tmp 8)), some (80, false)⟩, []⟩,
  ⟨20, ⟨some 86, .op (.idxSl 1 (.tmp 84) (.tmp 85)), some (80, false)⟩, []⟩,
  ⟨21, ⟨some 87, .op (.load none (.tmp 86)), some (80, false)⟩, []⟩,
  ⟨22, ⟨some 88, .op (.mv (.tmp 0)), some (80, false)⟩, []⟩,
  ⟨23, ⟨some 89, .op (.nilCheck (.tmp 88)), some (80, false)⟩, []⟩,
  ⟨24, ⟨some 90, .op (.fieldAddr 3 (.tmp 89)), some (80, false)⟩, []⟩,
  ⟨25, ⟨some 91, .op (.load none (.tmp 90)), some (80, false)⟩, []⟩,
  ⟨26, ⟨some 92, .op (.mv (.tmp 5)), some (80, false)⟩, []⟩,
  ⟨27, ⟨some 93, .op (.idxSl 1 (.tmp 91) (.tmp 92)), some (80, false)⟩, []⟩,
  ⟨28, ⟨some 94, .op (.load none (.tmp 93)), some (80, false)⟩, []⟩,
  ⟨29, ⟨some 95, .op (.bin .lss .scalar (.tmp 87) (.tmp 94)), some (80, false)⟩, []⟩,
  ⟨30, ⟨some 96, .op (.pick (.tmp 80) (.const (.bool true)) (.tmp 95)), some (77, true)⟩, []⟩,
  ⟨31, ⟨some 97, .op (.pick (.tmp 77) (.tmp 96) (.const (.bool false))), none⟩, []⟩] [(31, 66), (32, 67), (33, 68), (34, 69), (35, 70), (36, 71), (37, 72), (38, 73), (39, 74), (40, 75), (41, 76), (42, 77), (43, 78), (44, 79), (45, 80), (46, 81), (47, 82), (48, 83), (49, 84), (50, 85), (51, 86), (52, 87), (53, 88), (54, 89), (55, 90), (56, 91), (57, 92), (58, 93), (59, 94), (60, 95), (61, 96), (62, 97)]) (.cond (.tmp 62) (.region [⟨some 63, .op (.mv (.tmp 8)), none⟩,
  ⟨some 5, .op (.mv (.tmp 63)), none⟩]) .skip))))) (.region [⟨some 64, .op (.bin .add .scalar (.tmp 18) (.const (.int .i64 1))), none⟩,
  ⟨some 18, .op (.mv (.tmp 64)), none⟩])))
def product_search_best_rs : Res := [(4, none)]
noncomputable def product_search_best_mf : MFn := ⟨66, product_search_best_rs, .seq [4] (.region [⟨some 4, .op (.mv (.const (.int .i64 0))), none⟩]) (.seq [] (.region [⟨some 5, .op (.mv (.const (.int .i64 (-1)))), none⟩]) (.seq [0, 1, 16, 17, 18, 19] (.seq [9, 10, 11, 12, 13, 14, 15] (.region [⟨some 9, .op (.mv (.tmp 0)), none⟩,
  ⟨some 10, .op (.nilCheck (.tmp 9)), none⟩,
  ⟨some 11, .op (.fieldAddr 0 (.tmp 10)), none⟩,
  ⟨some 12, .op (.load none (.tmp 11)), none⟩,
  ⟨some 13, .op (.nilCheck (.tmp 12)), none⟩,
  ⟨some 14, .op (.fieldAddr 3 (.tmp 13)), none⟩,
  ⟨some 15, .op (.fieldAddr 1 (.tmp 14)), none⟩,
  ⟨some 16, .op (.load none (.tmp 15)), none⟩,
  ⟨some 17, .op (.lenSl (.tmp 16)), none⟩,
  ⟨some 18, .op (.mv (.const (.int .i64 0))), none⟩]) (.block 0 (.loop [64] product_search_best_c1))) (.seq [5, 65] (.region [⟨some 65, .op (.mv (.tmp 5)), none⟩,
  ⟨some 4, .op (.mv (.tmp 65)), none⟩]) .ret)))⟩
noncomputable def product_search_best_l1 (T : Tab) (k j0 : Nat) (s0 v1 out5 t16 t17 t18 : AV) (h : Heap) : Option (AV × Heap) :=
  loopB T k product_search_best_rs j0 [64] product_search_best_c1 [.blk 0, .seq [0, 1, 16, 17, 18, 19] (.seq [5, 65] (.region [⟨some 65, .op (.mv (.tmp 5)), none⟩,
  ⟨some 4, .op (.mv (.tmp 65)), none⟩]) .ret)] [s0, v1, .undef, .undef, .undef, out5, .undef, .undef, .undef, .undef, .undef, .undef, .undef, .undef, .undef, .undef, t16, t17, t18, .undef, .undef, .undef, .undef, .undef, .undef, .undef, .undef, .undef, .undef, .undef, .undef, .undef, .undef, .undef, .undef, .undef, .undef, .undef, .undef, .undef, .undef, .undef, .undef, .undef, .undef, .undef, .undef, .undef, .undef, .undef, .undef, .undef, .undef, .undef, .undef, .undef, .undef, .undef, .undef, .undef, .undef, .undef, .undef, .undef, .undef, .undef] h
theorem product_search_best_l1_eq (T : Tab) (k j0 : Nat) (s0 v1 out5 t16 t17 t18 : AV) (h : Heap) : product_search_best_l1 T k (j0 + 1) s0 v1 out5 t16 t17 t18 h =
    oa (binV .lss .scalar t18 t17) fun t19_1 =>
    cond2 t19_1
      (
      oa (idxS 1 t16 t18) fun t21_2 =>
      oa (ld1 h t21_2) fun t22_3 =>
      oa (nilCk s0) fun t24_4 =>
      oa (fldA 0 t24_4) fun t25_5 =>
      oa (ld1 h t25_5) fun t26_6 =>
      oa (buildV [.int .i64 0, .int .i64 0] [(0, 1, v1), (1, 1, t18)]) fun t29_7 =>
      ob (evalFn T k f_product_graph_id [t26_6, t29_7] h) fun t30_8 h_9 =>
      ob (gd t22_3 true (some (s0, h_9)) h_9) fun t68_10 h_11 =>
      ob (gd t22_3 true (pure1 h_11 (nilCk t68_10)) h_11) fun t69_12 h_13 =>
      ob (gd t22_3 true (pure1 h_13 (fldA 3 t69_12)) h_13) fun t70_14 h_15 =>
      ob (gd t22_3 true (pure1 h_15 (ld1 h_15 t70_14)) h_15) fun t71_16 h_17 =>
      ob (gd t22_3 true (some (t30_8, h_17)) h_17) fun t72_18 h_19 =>
      ob (gd t22_3 true (pure1 h_19 (idxS 1 t71_16 t72_18)) h_19) fun t73_20 h_21 =>
      ob (gd t22_3 true (pure1 h_21 (ld1 h_21 t73_20)) h_21) fun t74_22 h_23 =>
      ob (gd t22_3 true (pure1 h_23 (binV .geq .scalar t74_22 (.int .i64 0))) h_23) fun t75_24 h_25 =>
      oa (pickV t22_3 t75_24 (.bool false)) fun t76_26 =>
      ob (gd t76_26 true (some (out5, h_25)) h_25) fun t78_27 h_28 =>
      ob (gd t76_26 true (pure1 h_28 (binV .lss .scalar t78_27 (.int .i64 0))) h_28) fun t79_29 h_30 =>
      ob (gd t76_26 true (some (t79_29, h_30)) h_30) fun t80_31 h_32 =>
      ob (gd t80_31 false (some (s0, h_32)) h_32) fun t81_33 h_34 =>
      ob (gd t80_31 false (pure1 h_34 (nilCk t81_33)) h_34) fun t82_35 h_36 =>
      ob (gd t80_31 false (pure1 h_36 (fldA 3 t82_35)) h_36) fun t83_37 h_38 =>
      ob (gd t80_31 false (pure1 h_38 (ld1 h_38 t83_37)) h_38) fun t84_39 h_40 =>
      ob (gd t80_31 false (some (t30_8, h_40)) h_40) fun t85_41 h_42 =>
      ob (gd t80_31 false (pure1 h_42 (idxS 1 t84_39 t85_41)) h_42) fun t86_43 h_44 =>
      ob (gd t80_31 false (pure1 h_44 (ld1 h_44 t86_43)) h_44) fun t87_45 h_46 =>
      ob (gd t80_31 false (some (s0, h_46)) h_46) fun t88_47 h_48 =>
      ob (gd t80_31 false (pure1 h_48 (nilCk t88_47)) h_48) fun t89_49 h_50 =>
      ob (gd t80_31 false (pure1 h_50 (fldA 3 t89_49)) h_50) fun t90_51 h_52 =>
      ob (gd t80_31 false (pure1 h_52 (ld1 h_52 t90_51)) h_52) fun t91_53 h_54 =>
      ob (gd t80_31 false (some (out5, h_54)) h_54) fun t92_55 h_56 =>
      ob (gd t80_31 false (pure1 h_56 (idxS 1 t91_53 t92_55)) h_56) fun t93_57 h_58 =>
      ob (gd t80_31 false (pure1 h_58 (ld1 h_58 t93_57)) h_58) fun t94_59 h_60 =>
      ob (gd t80_31 false (pure1 h_60 (binV .lss .scalar t87_45 t94_59)) h_60) fun t95_61 h_62 =>
      ob (gd t76_26 true (pure1 h_62 (pickV t80_31 (.bool true) t95_61)) h_62) fun t96_63 h_64 =>
      oa (pickV t76_26 t96_63 (.bool false)) fun t97_65 =>
      cond2 t97_65
        (
        oa (binV .add .scalar t18 (.int .i64 1)) fun t64_66 =>
        product_search_best_l1 T k j0 s0 v1 t30_8 t16 t17 t64_66 h_64
        )
        (
        oa (binV .add .scalar t18 (.int .i64 1)) fun t64_67 =>
        product_search_best_l1 T k j0 s0 v1 out5 t16 t17 t64_67 h_64
        )
      )
      (
      some (out5, h)
      ) := loopEq (by kernel_rfl)
theorem product_search_best_eq (T : Tab) (k : Nat) (s0 v1 : AV) (h : Heap) : runF T k product_search_best_mf [s0, v1] h =
    oa (nilCk s0) fun t10_1 =>
    oa (fldA 0 t10_1) fun t11_2 =>
    oa (ld1 h t11_2) fun t12_3 =>
    oa (nilCk t12_3) fun t13_4 =>
    oa (fldA 3 t13_4) fun t14_5 =>
    oa (fldA 1 t14_5) fun t15_6 =>
    oa (ld1 h t15_6) fun t16_7 =>
    oa (lenS t16_7) fun t17_8 =>
    product_search_best_l1 T k k s0 v1 (.int .i64 (-1)) t16_7 t17_8 (.int .i64 0) h := runEq (by kernel_rfl)
noncomputable def product_search_edges_c1 : MCode := .seq [13] (.seq [6, 7, 8, 9, 10, 11, 12] (.region [⟨some 6, .op (.mv (.tmp 0)), none⟩,
  ⟨some 7, .op (.nilCheck (.tmp 6)), none⟩,
  ⟨some 8, .op (.fieldAddr 5 (.tmp 7)), none⟩,
  ⟨some 9, .op (.load none (.tmp 8)), none⟩,
  ⟨some 10, .op (.mv (.tmp 1)), none⟩,
  ⟨some 11, .op (.idxSl 1 (.tmp 9) (.tmp 10)), none⟩,
  ⟨some 12, .op (.load none (.tmp 11)), none⟩,
  ⟨some 13, .op (.bin .geq .scalar (.tmp 12) (.const (.int .i64 0))), none⟩]) (.cond (.tmp 13) .skip (.exit 0))) (.seq [21, 22, 23, 24, 25, 26, 27, 28, 29, 30] (.block 1 (.region [⟨some 21, .op (.mv (.tmp 5)), none⟩,
  ⟨some 22, .op (.mv (.tmp 0)), none⟩,
  ⟨some 23, .op (.nilCheck (.tmp 22)), none⟩,
  ⟨some 24, .op (.fieldAddr 4 (.tmp 23)), none⟩,
  ⟨some 25, .op (.load none (.tmp 24)), none⟩,
  ⟨some 26, .op (.mv (.tmp 1)), none⟩,
  ⟨some 27, .op (.idxSl 1 (.tmp 25) (.tmp 26)), none⟩,
  ⟨some 28, .op (.load none (.tmp 27)), none⟩,
  ⟨some 29, .op (.buildSlice 1 1 [.int .i64 0] [(0, 1, (.tmp 28))]), none⟩,
  ⟨some 30, .op (.append 1 8 (.tmp 21) (.tmp 29)), none⟩,
  ⟨some 5, .op (.mv (.tmp 30)), none⟩])) (.region [⟨some 14, .op (.mv (.tmp 0)), none⟩,
  ⟨some 15, .op (.nilCheck (.tmp 14)), none⟩,
  ⟨some 16, .op (.fieldAddr 5 (.tmp 15)), none⟩,
  ⟨some 17, .op (.load none (.tmp 16)), none⟩,
  ⟨some 18, .op (.mv (.tmp 1)), none⟩,
  ⟨some 19, .op (.idxSl 1 (.tmp 17) (.tmp 18)), none⟩,
  ⟨some 20, .op (.load none (.tmp 19)), none⟩,
  ⟨some 1, .op (.mv (.tmp 20)), none⟩]))
noncomputable def product_search_edges_c2 : MCode := .seq [31, 32] (.region [⟨some 31, .op (.mv (.tmp 5)), none⟩,
  ⟨some 32, .call f_slices_Reverse_int [(.tmp 31)], none⟩]) (.seq [5, 33, 34] (.region [⟨some 33, .op (.mv (.tmp 5)), none⟩,
  ⟨some 34, .call f_slices_Clone_int [(.tmp 33)], none⟩,
  ⟨some 4, .op (.mv (.tmp 34)), none⟩]) .ret)
def product_search_edges_rs : Res := [(4, none)]
noncomputable def product_search_edges_mf : MFn := ⟨35, product_search_edges_rs, .seq [4] (.region [⟨some 4, .op (.mv (.const .nils)), none⟩]) (.seq [] (.region [⟨some 5, .op (.mv (.const .nils)), none⟩]) (.seq [0, 1, 13] (.block 0 (.loop [14, 15, 16, 17, 18, 19, 20] product_search_edges_c1)) (.lab product_search_edges_c2)))⟩
noncomputable def product_search_edges_l1 (T : Tab) (k j0 : Nat) (s0 id1 out5 : AV) (h : Heap) : Option (AV × Heap) :=
  loopB T k product_search_edges_rs j0 [14, 15, 16, 17, 18, 19, 20] product_search_edges_c1 [.blk 0, .seq [0, 1, 13] (.lab product_search_edges_c2)] [s0, id1, .undef, .undef, .undef, out5, .undef, .undef, .undef, .undef, .undef, .undef, .undef, .undef, .undef, .undef, .undef, .undef, .undef, .undef, .undef, .undef, .undef, .undef, .undef, .undef, .undef, .undef, .undef, .undef, .undef, .undef, .undef, .undef, .undef] h
noncomputable def product_search_edges_b2 (T : Tab) (k : Nat) (out5 : AV) (h : Heap) : Option (AV × Heap) :=
  evB T k product_search_edges_rs product_search_edges_c2 [] [.undef, .undef, .undef, .undef, .undef, out5, .undef, .undef, .undef, .undef, .undef, .undef, .undef, .undef, .undef, .undef, .undef, .undef, .undef, .undef, .undef, .undef, .undef, .undef, .undef, .undef, .undef, .undef, .undef, .undef, .undef, .undef, .undef, .undef, .undef] h
theorem product_search_edges_b2_eq (T : Tab) (k : Nat) (out5 : AV) (h : Heap) : product_search_edges_b2 T k out5 h =
    ob (evalFn T k f_slices_Reverse_int [out5] h) fun t32_1 h_2 =>
    ob (evalFn T k f_slices_Clone_int [out5] h_2) fun t34_3 h_4 =>
    some (t34_3, h_4) := blockEq (by kernel_rfl)
theorem product_search_edges_l1_eq (T : Tab) (k j0 : Nat) (s0 id1 out5 : AV) (h : Heap) : product_search_edges_l1 T k (j0 + 1) s0 id1 out5 h =
    oa (nilCk s0) fun t7_1 =>
    oa (fldA 5 t7_1) fun t8_2 =>
    oa (ld1 h t8_2) fun t9_3 =>
    oa (idxS 1 t9_3 id1) fun t11_4 =>
    oa (ld1 h t11_4) fun t12_5 =>
    oa (binV .geq .scalar t12_5 (.int .i64 0)) fun t13_6 =>
    cond2 t13_6
      (
      oa (nilCk s0) fun t23_7 =>
      oa (fldA 4 t23_7) fun t24_8 =>
      oa (ld1 h t24_8) fun t25_9 =>
      oa (idxS 1 t25_9 id1) fun t27_10 =>
      oa (ld1 h t27_10) fun t28_11 =>
      ob (buildSl 1 1 [.int .i64 0] [(0, 1, t28_11)] h) fun t29_12 h_13 =>
      ob (apnd 1 8 out5 t29_12 h_13) fun t30_14 h_15 =>
      oa (nilCk s0) fun t15_16 =>
      oa (fldA 5 t15_16) fun t16_17 =>
      oa (ld1 h_15 t16_17) fun t17_18 =>
      oa (idxS 1 t17_18 id1) fun t19_19 =>
      oa (ld1 h_15 t19_19) fun t20_20 =>
      product_search_edges_l1 T k j0 s0 t20_20 t30_14 h_15
      )
      (
      product_search_edges_b2 T k out5 h
      ) := loopEq (by kernel_rfl)
theorem product_search_edges_eq (T : Tab) (k : Nat) (s0 id1 : AV) (h : Heap) : runF T k product_search_edges_mf [s0, id1] h =
    product_search_edges_l1 T k k s0 id1 .nils h := runEq (by kernel_rfl)
noncomputable def product_graph_back_c1 : MCode := .seq [] (.region [⟨some 44, .op (.bin .lss .scalar (.tmp 43) (.tmp 42)), none⟩]) (.seq [44] (.cond (.tmp 44) .skip (.exit 2)) (.seq [10, 47, 48, 49, 50, 51, 52, 53, 54, 55] (.block 3 (.seq [45, 46] (.region [⟨some 45, .op (.idxSl 1 (.tmp 41) (.tmp 43)), none⟩,
  ⟨some 46, .op (.load none (.tmp 45)), none⟩,
  ⟨some 10, .op (.mv (.tmp 46)), none⟩]) (.region [⟨some 47, .op (.mv (.tmp 5)), none⟩,
  ⟨some 48, .op (.fieldAddr 0 (.tmp 8)), none⟩,
  ⟨some 49, .op (.load none (.tmp 48)), none⟩,
  ⟨some 50, .op (.mv (.tmp 10)), none⟩,
  ⟨some 51, .op (.build [.int .i64 0, .int .i64 0] [(0, 1, (.tmp 49)), (1, 1, (.tmp 50))]), none⟩,
  ⟨some 52, .op (.mv (.tmp 7)), none⟩,
  ⟨some 53, .op (.build [.int .i64 0, .int .i64 0, .int .i64 0] [(0, 2, (.tmp 51)), (2, 1, (.tmp 52))]), none⟩,
  ⟨some 54, .op (.buildSlice 3 1 [.int .i64 0, .int .i64 0, .int .i64 0] [(0, 3, (.tmp 53))]), none⟩,
  ⟨some 55, .op (.append 3 24 (.tmp 47) (.tmp 54)), none⟩,
  ⟨some 5, .op (.mv (.tmp 55)), none⟩]))) (.region [⟨some 56, .op (.bin .add .scalar (.tmp 43) (.const (.int .i64 1))), none⟩,
  ⟨some 43, .op (.mv (.tmp 56)), none⟩])))
noncomputable def product_graph_back_c2 : MCode := .seq [] (.region [⟨some 20, .op (.bin .lss .scalar (.tmp 19) (.tmp 18)), none⟩]) (.seq [20] (.cond (.tmp 20) .skip (.exit 0)) (.seq [7, 8, 41, 42, 43, 44] (.block 1 (.seq [21, 22] (.region [⟨some 21, .op (.idxSl 1 (.tmp 17) (.tmp 19)), none⟩,
  ⟨some 22, .op (.load none (.tmp 21)), none⟩,
  ⟨some 7, .op (.mv (.tmp 22)), none⟩]) (.seq [23, 24, 25, 26, 27, 28, 29, 30] (.region [⟨some 23, .op (.mv (.tmp 0)), none⟩,
  ⟨some 24, .op (.nilCheck (.tmp 23)), none⟩,
  ⟨some 25, .op (.fieldAddr 0 (.tmp 24)), none⟩,
  ⟨some 26, .op (.fieldAddr 1 (.tmp 25)), none⟩,
  ⟨some 27, .op (.load none (.tmp 26)), none⟩,
  ⟨some 28, .op (.mv (.tmp 7)), none⟩,
  ⟨some 29, .op (.idxSl 4 (.tmp 27) (.tmp 28)), none⟩,
  ⟨some 30, .op (.load (some 4) (.tmp 29)), none⟩,
  ⟨some 8, .op (.alloc [.int .i64 0, .int .i64 0, .int .i64 0, .int .i64 0]), none⟩,
  ⟨none, .op (.store 4 (.tmp 8) (.tmp 30)), none⟩]) (.seq [31, 32, 33, 34, 35, 36, 37, 38, 39, 40] (.regionD 59 [⟨0, ⟨some 59, .op (.mv (.tmp 0)), none⟩, []⟩,
  ⟨1, ⟨some 60, .op (.nilCheck (.tmp 59)), none⟩, []⟩,
  ⟨2, ⟨some 61, .op (.fieldAddr 5 (.tmp 60)), none⟩, []⟩,
  ⟨3, ⟨some 62, .op (.load none (.tmp 61)), none⟩, []⟩,
  ⟨4, ⟨some 63, .op (.fieldAddr 1 (.tmp 3)), none⟩, []⟩,
  ⟨5, ⟨some 64, .op (.load none (.tmp 63)), none⟩, []⟩,
  ⟨6, ⟨some 65, .op (.fieldAddr 2 (.tmp 8)), none⟩, []⟩,
  ⟨7, ⟨some 66, .op (.load none (.tmp 65)), none⟩, []⟩,
  ⟨8, ⟨some 67, .op (.idxSl 5 (.tmp 62) (.tmp 64)), none⟩, []⟩,
  ⟨9, ⟨some 68, .op (.idxArr 5 1 (.tmp 67) (.tmp 66)), none⟩, []⟩,
  ⟨10, ⟨some 69, .op (.load none (.tmp 68)), none⟩, []⟩,
  ⟨11, ⟨some 70, .op (.lenSl (.tmp 69)), none⟩, []⟩,
  ⟨12, ⟨some 71, .op (.mv (.const (.int .i64 0))), none⟩, []⟩] [(31, 59), (32, 60), (33, 61), (34, 62), (35, 63), (36, 64), (37, 65), (38, 66), (39, 67), (40, 68), (41, 69), (42, 70), (43, 71)]) (.block 2 (.loop [56] product_graph_back_c1)))))) (.region [⟨some 57, .op (.bin .add .scalar (.tmp 19) (.const (.int .i64 1))), none⟩,
  ⟨some 19, .op (.mv (.tmp 57)), none⟩])))
def product_graph_back_rs : Res := [(4, none)]
noncomputable def product_graph_back_mf : MFn := ⟨59, product_graph_back_rs, .seq [1, 4] (.region [⟨some 3, .op (.box (.tmp 1)), none⟩,
  ⟨some 4, .op (.mv (.const .nils)), none⟩]) (.seq [] (.region [⟨some 5, .op (.mv (.const .nils)), none⟩]) (.seq [0, 3, 17, 18, 19, 20] (.seq [11, 12, 13, 14, 15, 16] (.regionD 59 [⟨0, ⟨some 59, .op (.mv (.tmp 0)), none⟩, []⟩,
  ⟨1, ⟨some 60, .op (.nilCheck (.tmp 59)), none⟩, []⟩,
  ⟨2, ⟨some 61, .op (.fieldAddr 2 (.tmp 60)), none⟩, []⟩,
  ⟨3, ⟨some 62, .op (.load none (.tmp 61)), none⟩, []⟩,
  ⟨4, ⟨some 63, .op (.fieldAddr 0 (.tmp 3)), none⟩, []⟩,
  ⟨5, ⟨some 64, .op (.load none (.tmp 63)), none⟩, []⟩,
  ⟨8, ⟨some 67, .op (.mv (.const (.int .i64 0))), none⟩, []⟩,
  ⟨6, ⟨some 65, .call f_adj_Adj_In [(.tmp 62), (.tmp 64)], none⟩, []⟩,
  ⟨7, ⟨some 66, .op (.lenSl (.tmp 65)), none⟩, []⟩] [(11, 59), (12, 60), (13, 61), (14, 62), (15, 63), (16, 64), (17, 65), (18, 66), (19, 67)]) (.block 0 (.loop [57] product_graph_back_c2))) (.seq [5, 58] (.region [⟨some 58, .op (.mv (.tmp 5)), none⟩,
  ⟨some 4, .op (.mv (.tmp 58)), none⟩]) .ret)))⟩
noncomputable def product_graph_back_l1 (T : Tab) (k j0 : Nat) (g0 x3 out5 t17 t18 t19 : AV) (h : Heap) : Option (AV × Heap) :=
  loopB T k product_graph_back_rs j0 [57] product_graph_back_c2 [.blk 0, .seq [0, 3, 17, 18, 19, 20] (.seq [5, 58] (.region [⟨some 58, .op (.mv (.tmp 5)), none⟩,
  ⟨some 4, .op (.mv (.tmp 58)), none⟩]) .ret)] [g0, .undef, .undef, x3, .undef, out5, .undef, .undef, .undef, .undef, .undef, .undef, .undef, .undef, .undef, .undef, .undef, t17, t18, t19, .undef, .undef, .undef, .undef, .undef, .undef, .undef, .undef, .undef, .undef, .undef, .undef, .undef, .undef, .undef, .undef, .undef, .undef, .undef, .undef, .undef, .undef, .undef, .undef, .undef, .undef, .undef, .undef, .undef, .undef, .undef, .undef, .undef, .undef, .undef, .undef, .undef, .undef, .undef] h
noncomputable def product_graph_back_l2 (T : Tab) (k j0 j1 : Nat) (g0 x3 out5 k7 e8 t17 t18 t19 t41 t42 t43 : AV) (h : Heap) : Option (AV × Heap) :=
  loopB T k product_graph_back_rs j1 [56] product_graph_back_c1 [.blk 2, .blk 1, .seq [7, 8, 41, 42, 43, 44] (.region [⟨some 57, .op (.bin .add .scalar (.tmp 19) (.const (.int .i64 1))), none⟩,
  ⟨some 19, .op (.mv (.tmp 57)), none⟩]), .lp j0 [57] product_graph_back_c2, .blk 0, .seq [0, 3, 17, 18, 19, 20] (.seq [5, 58] (.region [⟨some 58, .op (.mv (.tmp 5)), none⟩,
  ⟨some 4, .op (.mv (.tmp 58)), none⟩]) .ret)] [g0, .undef, .undef, x3, .undef, out5, .undef, k7, e8, .undef, .undef, .undef, .undef, .undef, .undef, .undef, .undef, t17, t18, t19, .undef, .undef, .undef, .undef, .undef, .undef, .undef, .undef, .undef, .undef, .undef, .undef, .undef, .undef, .undef, .undef, .undef, .undef, .undef, .undef, .undef, t41, t42, t43, .undef, .undef, .undef, .undef, .undef, .undef, .undef, .undef, .undef, .undef, .undef, .undef, .undef, .undef, .undef] h
theorem product_graph_back_l2_eq (T : Tab) (k j0 j1 : Nat) (g0 x3 out5 k7 e8 t17 t18 t19 t41 t42 t43 : AV) (h : Heap) : product_graph_back_l2 T k j0 (j1 + 1) g0 x3 out5 k7 e8 t17 t18 t19 t41 t42 t43 h =
    oa (binV .lss .scalar t43 t42) fun t44_1 =>
    cond2 t44_1
      (
      oa (idxS 1 t41 t43) fun t45_2 =>
      oa (ld1 h t45_2) fun t46_3 =>
      oa (fldA 0 e8) fun t48_4 =>
      oa (ld1 h t48_4) fun t49_5 =>
      oa (buildV [.int .i64 0, .int .i64 0] [(0, 1, t49_5), (1, 1, t46_3)]) fun t51_6 =>
      oa (buildV [.int .i64 0, .int .i64 0, .int .i64 0] [(0, 2, t51_6), (2, 1, k7)]) fun t53_7 =>
      ob (buildSl 3 1 [.int .i64 0, .int .i64 0, .int .i64 0] [(0, 3, t53_7)] h) fun t54_8 h_9 =>
      ob (apnd 3 24 out5 t54_8 h_9) fun t55_10 h_11 =>
      oa (binV .add .scalar t43 (.int .i64 1)) fun t56_12 =>
      product_graph_back_l2 T k j0 j1 g0 x3 t55_10 k7 e8 t17 t18 t19 t41 t42 t56_12 h_11
      )
      (
      oa (binV .add .scalar t19 (.int .i64 1)) fun t57_13 =>
      product_graph_back_l1 T k j0 g0 x3 out5 t17 t18 t57_13 h
      ) := loopEq (by kernel_rfl)
theorem product_graph_back_l1_eq (T : Tab) (k j0 : Nat) (g0 x3 out5 t17 t18 t19 : AV) (h : Heap) : product_graph_back_l1 T k (j0 + 1) g0 x3 out5 t17 t18 t19 h =
    oa (binV .lss .scalar t19 t18) fun t20_1 =>
    cond2 t20_1
      (
      oa (idxS 1 t17 t19) fun t21_2 =>
      oa (ld1 h t21_2) fun t22_3 =>
      oa (nilCk g0) fun t24_4 =>
      oa (fldA 0 t24_4) fun t25_5 =>
      oa (fldA 1 t25_5) fun t26_6 =>
      oa (ld1 h t26_6) fun t27_7 =>
      oa (idxS 4 t27_7 t22_3) fun t29_8 =>
      oa (ldN 4 h t29_8) fun t30_9 =>
      ob (newVar h [.int .i64 0, .int .i64 0, .int .i64 0, .int .i64 0]) fun e8_10 h_11 =>
      oh (stN 4 h_11 e8_10 t30_9) fun h_12 =>
      oa (nilCk g0) fun t60_13 =>
      oa (fldA 5 t60_13) fun t61_14 =>
      oa (ld1 h_12 t61_14) fun t62_15 =>
      oa (fldA 1 x3) fun t63_16 =>
      oa (ld1 h_12 t63_16) fun t64_17 =>
      oa (fldA 2 e8_10) fun t65_18 =>
      oa (ld1 h_12 t65_18) fun t66_19 =>
      oa (idxS 5 t62_15 t64_17) fun t67_20 =>
      oa (idxA 5 1 t67_20 t66_19) fun t68_21 =>
      oa (ld1 h_12 t68_21) fun t69_22 =>
      oa (lenS t69_22) fun t70_23 =>
      product_graph_back_l2 T k j0 k g0 x3 out5 t22_3 e8_10 t17 t18 t19 t69_22 t70_23 (.int .i64 0) h_12
      )
      (
      some (out5, h)
      ) := loopEq (by kernel_rfl)
theorem product_graph_back_eq (T : Tab) (k : Nat) (g0 x1 : AV) (h : Heap) : runF T k product_graph_back_mf [g0, x1] h =
    ob (newVar h (AV.cells x1)) fun x3_1 h_2 =>
    oa (nilCk g0) fun t60_3 =>
    oa (fldA 2 t60_3) fun t61_4 =>
    oa (ld1 h_2 t61_4) fun t62_5 =>
    oa (fldA 0 x3_1) fun t63_6 =>
    oa (ld1 h_2 t63_6) fun t64_7 =>
    ob (evalFn T k f_adj_Adj_In [t62_5, t64_7] h_2) fun t65_8 h_9 =>
    oa (lenS t65_8) fun t66_10 =>
    product_graph_back_l1 T k k g0 x3_1 .nils t65_8 t66_10 (.int .i64 0) h_9 := runEq (by kernel_rfl)
def product_Both_1_rs : Res := []
noncomputable def product_Both_1_mf : MFn := ⟨33, product_Both_1_rs, .seq [0, 1, 2, 7, 8, 9, 10, 11, 12] (.regionD 33 [⟨0, ⟨some 33, .op (.load none (.tmp 1)), none⟩, []⟩,
  ⟨1, ⟨some 34, .op (.mv (.tmp 0)), none⟩, []⟩,
  ⟨3, ⟨some 36, .op (.load none (.tmp 2)), none⟩, []⟩,
  ⟨4, ⟨some 37, .op (.mv (.tmp 0)), none⟩, []⟩,
  ⟨2, ⟨some 35, .call f_product_search_found [(.tmp 33), (.tmp 34)], none⟩, [(36, ⟨some 36, .op (.load none (.tmp 2)), none⟩)]⟩,
  ⟨5, ⟨some 38, .call f_product_search_found [(.tmp 36), (.tmp 37)], none⟩, []⟩,
  ⟨6, ⟨some 39, .op (.mv (.tmp 35)), none⟩, []⟩,
  ⟨7, ⟨some 40, .op (.mv (.tmp 38)), none⟩, []⟩] [(7, 33), (8, 34), (9, 35), (10, 36), (11, 37), (12, 38), (5, 39), (6, 40)]) (.seq [13, 14, 15, 16, 17, 18, 19, 20, 21, 22, 23, 24, 25, 26, 27, 28] (.region [⟨some 13, .op (.mv (.tmp 5)), none⟩,
  ⟨some 14, .op (.bin .geq .scalar (.tmp 13) (.const (.int .i64 0))), none⟩,
  ⟨some 15, .op (.mv (.tmp 14)), none⟩,
  ⟨some 16, .op (.mv (.tmp 6)), some (15, true)⟩,
  ⟨some 17, .op (.bin .geq .scalar (.tmp 16) (.const (.int .i64 0))), some (15, true)⟩,
  ⟨some 18, .op (.pick (.tmp 15) (.tmp 17) (.const (.bool false))), none⟩,
  ⟨some 19, .op (.mv (.tmp 18)), none⟩,
  ⟨some 20, .op (.load none (.tmp 3)), some (19, true)⟩,
  ⟨some 21, .op (.bin .lss .scalar (.tmp 20) (.const (.int .i64 0))), some (19, true)⟩,
  ⟨some 22, .op (.mv (.tmp 21)), some (19, true)⟩,
  ⟨some 23, .op (.mv (.tmp 5)), some (22, false)⟩,
  ⟨some 24, .op (.mv (.tmp 6)), some (22, false)⟩,
  ⟨some 25, .op (.bin .add .scalar (.tmp 23) (.tmp 24)), some (22, false)⟩,
  ⟨some 26, .op (.load none (.tmp 3)), some (22, false)⟩,
  ⟨some 27, .op (.bin .lss .scalar (.tmp 25) (.tmp 26)), some (22, false)⟩,
  ⟨some 28, .op (.pick (.tmp 22) (.const (.bool true)) (.tmp 27)), some (19, true)⟩,
  ⟨some 29, .op (.pick (.tmp 19) (.tmp 28) (.const (.bool false))), none⟩]) (.cond (.tmp 29) (.region [⟨some 30, .op (.mv (.tmp 5)), none⟩,
  ⟨some 31, .op (.mv (.tmp 6)), none⟩,
  ⟨some 32, .op (.bin .add .scalar (.tmp 30) (.tmp 31)), none⟩,
  ⟨none, .op (.store 1 (.tmp 3) (.tmp 32)), none⟩]) .skip))⟩
theorem product_Both_1_eq (T : Tab) (k : Nat) (id0 t1 t2 t3 : AV) (h : Heap) : runF T k product_Both_1_mf [id0, t1, t2, t3] h =
    oa (ld1 h t1) fun t33_1 =>
    oa (ld1 h t2) fun t36_2 =>
    ob (evalFn T k f_product_search_found [t33_1, id0] h) fun t35_3 h_4 =>
    chk ((sameB (pure1 h_4 (ld1 h_4 t2)) t36_2 && true)) <|
    ob (evalFn T k f_product_search_found [t36_2, id0] h_4) fun t38_5 h_6 =>
    oa (binV .geq .scalar t35_3 (.int .i64 0)) fun t14_7 =>
    ob (gd t14_7 true (some (t38_5, h_6)) h_6) fun t16_8 h_9 =>
    ob (gd t14_7 true (pure1 h_9 (binV .geq .scalar t16_8 (.int .i64 0))) h_9) fun t17_10 h_11 =>
    oa (pickV t14_7 t17_10 (.bool false)) fun t18_12 =>
    ob (gd t18_12 true (pure1 h_11 (ld1 h_11 t3)) h_11) fun t20_13 h_14 =>
    ob (gd t18_12 true (pure1 h_14 (binV .lss .scalar t20_13 (.int .i64 0))) h_14) fun t21_15 h_16 =>
    ob (gd t18_12 true (some (t21_15, h_16)) h_16) fun t22_17 h_18 =>
    ob (gd t22_17 false (some (t35_3, h_18)) h_18) fun t23_19 h_20 =>
    ob (gd t22_17 false (some (t38_5, h_20)) h_20) fun t24_21 h_22 =>
    ob (gd t22_17 false (pure1 h_22 (binV .add .scalar t23_19 t24_21)) h_22) fun t25_23 h_24 =>
    ob (gd t22_17 false (pure1 h_24 (ld1 h_24 t3)) h_24) fun t26_25 h_26 =>
    ob (gd t22_17 false (pure1 h_26 (binV .lss .scalar t25_23 t26_25)) h_26) fun t27_27 h_28 =>
    ob (gd t18_12 true (pure1 h_28 (pickV t22_17 (.bool true) t27_27)) h_28) fun t28_29 h_30 =>
    oa (pickV t18_12 t28_29 (.bool false)) fun t29_31 =>
    cond2 t29_31
      (
      oa (binV .add .scalar t35_3 t38_5) fun t32_32 =>
      oh (stN 1 h_30 t3 t32_32) fun h_33 =>
      some (.tup [], h_33)
      )
      (
      some (.tup [], h_30)
      ) := runEq (by kernel_rfl)
def product_search_found_rs : Res := [(4, none)]
noncomputable def product_search_found_mf : MFn := ⟨33, product_search_found_rs, .seq [4] (.region [⟨some 4, .op (.mv (.const (.int .i64 0))), none⟩]) (.seq [14] (.seq [7, 8, 9, 10, 11, 12, 13] (.region [⟨some 7, .op (.mv (.tmp 0)), none⟩,
  ⟨some 8, .op (.nilCheck (.tmp 7)), none⟩,
  ⟨some 9, .op (.fieldAddr 3 (.tmp 8)), none⟩,
  ⟨some 10, .op (.load none (.tmp 9)), none⟩,
  ⟨some 11, .op (.mv (.tmp 1)), none⟩,
  ⟨some 12, .op (.idxSl 1 (.tmp 10) (.tmp 11)), none⟩,
  ⟨some 13, .op (.load none (.tmp 12)), none⟩,
  ⟨some 14, .op (.bin .geq .scalar (.tmp 13) (.const (.int .i64 0))), none⟩]) (.cond (.tmp 14) (.seq [0, 1, 14, 15, 16, 17, 18, 19, 20, 21] (.region [⟨some 15, .op (.mv (.tmp 0)), none⟩,
  ⟨some 16, .op (.nilCheck (.tmp 15)), none⟩,
  ⟨some 17, .op (.fieldAddr 3 (.tmp 16)), none⟩,
  ⟨some 18, .op (.load none (.tmp 17)), none⟩,
  ⟨some 19, .op (.mv (.tmp 1)), none⟩,
  ⟨some 20, .op (.idxSl 1 (.tmp 18) (.tmp 19)), none⟩,
  ⟨some 21, .op (.load none (.tmp 20)), none⟩,
  ⟨some 4, .op (.mv (.tmp 21)), none⟩]) .ret) .skip)) (.seq [5, 31] (.seq [0, 1, 22, 23, 24, 25, 26, 27, 28, 29, 30] (.region [⟨some 23, .op (.mv (.tmp 0)), none⟩,
  ⟨some 24, .op (.nilCheck (.tmp 23)), none⟩,
  ⟨some 25, .op (.fieldAddr 2 (.tmp 24)), none⟩,
  ⟨some 26, .op (.load none (.tmp 25)), none⟩,
  ⟨some 27, .op (.mv (.tmp 1)), none⟩,
  ⟨some 28, .call f_queue_Queue_Key [(.tmp 26), (.tmp 27)], none⟩,
  ⟨some 22, .op (.mv (.tmp 28)), none⟩,
  ⟨some 29, .op (.extract 0 (.tmp 22)), none⟩,
  ⟨some 30, .op (.extract 1 (.tmp 22)), none⟩,
  ⟨some 5, .op (.mv (.tmp 29)), none⟩,
  ⟨some 6, .op (.mv (.tmp 30)), none⟩]) (.seq [6] (.region [⟨some 31, .op (.mv (.tmp 6)), none⟩]) (.cond (.tmp 31) (.seq [5, 31, 32] (.region [⟨some 32, .op (.mv (.tmp 5)), none⟩,
  ⟨some 4, .op (.mv (.tmp 32)), none⟩]) .ret) .skip))) (.seq [] (.region [⟨some 4, .op (.mv (.const (.int .i64 (-1)))), none⟩]) .ret)))⟩
theorem product_search_found_eq (T : Tab) (k : Nat) (s0 id1 : AV) (h : Heap) : runF T k product_search_found_mf [s0, id1] h =
    oa (nilCk s0) fun t8_1 =>
    oa (fldA 3 t8_1) fun t9_2 =>
    oa (ld1 h t9_2) fun t10_3 =>
    oa (idxS 1 t10_3 id1) fun t12_4 =>
    oa (ld1 h t12_4) fun t13_5 =>
    oa (binV .geq .scalar t13_5 (.int .i64 0)) fun t14_6 =>
    cond2 t14_6
      (
      oa (nilCk s0) fun t16_7 =>
      oa (fldA 3 t16_7) fun t17_8 =>
      oa (ld1 h t17_8) fun t18_9 =>
      oa (idxS 1 t18_9 id1) fun t20_10 =>
      oa (ld1 h t20_10) fun t21_11 =>
      some (t21_11, h)
      )
      (
      oa (nilCk s0) fun t24_12 =>
      oa (fldA 2 t24_12) fun t25_13 =>
      oa (ld1 h t25_13) fun t26_14 =>
      ob (evalFn T k f_queue_Queue_Key [t26_14, id1] h) fun t28_15 h_16 =>
      oa (extr 0 t28_15) fun t29_17 =>
      oa (extr 1 t28_15) fun t30_18 =>
      cond2 t30_18
        (
        some (t29_17, h_16)
        )
        (
        some ((.int .i64 (-1)), h_16)
        )
      ) := runEq (by kernel_rfl)
noncomputable def product_search_step_c1 : MCode := .seq [] (.region [⟨some 49, .op (.bin .lss .scalar (.tmp 48) (.tmp 47)), none⟩]) (.seq [49] (.cond (.tmp 49) .skip (.exit 0)) (.seq [8, 9, 89, 90, 91, 92, 93, 94, 95, 96, 97, 98, 99, 100, 101, 102, 103, 104] (.block 1 (.seq [50, 51] (.region [⟨some 50, .op (.idxSl 3 (.tmp 46) (.tmp 48)), none⟩,
  ⟨some 51, .op (.load (some 3) (.tmp 50)), none⟩,
  ⟨some 8, .op (.alloc [.int .i64 0, .int .i64 0, .int .i64 0]), none⟩,
  ⟨none, .op (.store 3 (.tmp 8) (.tmp 51)), none⟩]) (.seq [52, 53, 54, 55, 56, 57, 58] (.regionD 107 [⟨0, ⟨some 107, .op (.mv (.tmp 0)), none⟩, []⟩,
  ⟨1, ⟨some 108, .op (.nilCheck (.tmp 107)), none⟩, []⟩,
  ⟨2, ⟨some 109, .op (.fieldAddr 0 (.tmp 108)), none⟩, []⟩,
  ⟨3, ⟨some 110, .op (.load none (.tmp 109)), none⟩, []⟩,
  ⟨4, ⟨some 111, .op (.fieldAddr 0 (.tmp 8)), none⟩, []⟩,
  ⟨5, ⟨some 112, .op (.load (some 2) (.tmp 111)), none⟩, []⟩,
  ⟨6, ⟨some 113, .call f_product_graph_id [(.tmp 110), (.tmp 112)], none⟩, []⟩,
  ⟨7, ⟨some 114, .op (.mv (.tmp 113)), none⟩, []⟩] [(52, 107), (53, 108), (54, 109), (55, 110), (56, 111), (57, 112), (58, 113), (9, 114)]) (.seq [59, 60, 61, 62, 63, 64, 65, 66, 67, 68, 69, 70, 71, 72, 73, 74, 75, 76, 77, 78, 79, 80, 81, 82, 83, 84, 85, 86, 87, 88] (.regionD 107 [⟨0, ⟨some 107, .op (.mv (.tmp 0)), none⟩, []⟩,
  ⟨1, ⟨some 108, .op (.nilCheck (.tmp 107)), none⟩, []⟩,
  ⟨2, ⟨some 109, .op (.fieldAddr 3 (.tmp 108)), none⟩, []⟩,
  ⟨3, ⟨some 110, .op (.load none (.tmp 109)), none⟩, []⟩,
  ⟨4, ⟨some 111, .op (.mv (.tmp 9)), none⟩, []⟩,
  ⟨5, ⟨some 112, .op (.idxSl 1 (.tmp 110) (.tmp 111)), none⟩, []⟩,
  ⟨6, ⟨some 113, .op (.load none (.tmp 112)), none⟩, []⟩,
  ⟨7, ⟨some 114, .op (.bin .lss .scalar (.tmp 113) (.const (.int .i64 0))), none⟩, []⟩,
  ⟨8, ⟨some 115, .op (.mv (.tmp 114)), none⟩, []⟩,
  ⟨9, ⟨some 116, .op (.mv (.tmp 0)), some (115, true)⟩, []⟩,
  ⟨10, ⟨some 117, .op (.nilCheck (.tmp 116)), some (115, true)⟩, []⟩,
  ⟨11, ⟨some 118, .op (.fieldAddr 2 (.tmp 117)), some (115, true)⟩, []⟩,
  ⟨12, ⟨some 119, .op (.load none (.tmp 118)), some (115, true)⟩, []⟩,
  ⟨13, ⟨some 120, .op (.mv (.tmp 9)), some (115, true)⟩, []⟩,
  ⟨14, ⟨some 121, .op (.mv (.tmp 5)), some (115, true)⟩, []⟩,
  ⟨15, ⟨some 122, .op (.mv (.tmp 0)), some (115, true)⟩, []⟩,
  ⟨16, ⟨some 123, .op (.nilCheck (.tmp 122)), some (115, true)⟩, []⟩,
  ⟨17, ⟨some 124, .op (.fieldAddr 0 (.tmp 123)), some (115, true)⟩, []⟩,
  ⟨18, ⟨some 125, .op (.load none (.tmp 124)), some (115, true)⟩, []⟩,
  ⟨19, ⟨some 126, .op (.nilCheck (.tmp 125)), some (115, true)⟩, []⟩,
  ⟨20, ⟨some 127, .op (.fieldAddr 0 (.tmp 126)), some (115, true)⟩, []⟩,
  ⟨21, ⟨some 128, .op (.fieldAddr 1 (.tmp 127)), some (115, true)⟩, []⟩,
  ⟨22, ⟨some 129, .op (.load none (.tmp 128)), some (115, true)⟩, []⟩,
  ⟨23, ⟨some 130, .op (.fieldAddr 2 (.tmp 8)), some (115, true)⟩, []⟩,
  ⟨24, ⟨some 131, .op (.load none (.tmp 130)), some (115, true)⟩, []⟩,
  ⟨25, ⟨some 132, .op (.idxSl 4 (.tmp 129) (.tmp 131)), some (115, true)⟩, []⟩,
  ⟨26, ⟨some 133, .op (.fieldAddr 3 (.tmp 132)), some (115, true)⟩, []⟩,
  ⟨27, ⟨some 134, .op (.load none (.tmp 133)), some (115, true)⟩, []⟩,
  ⟨28, ⟨some 135, .op (.bin .add .scalar (.tmp 121) (.tmp 134)), some (115, true)⟩, []⟩,
  ⟨29, ⟨some 136, .call f_queue_Queue_Put [(.tmp 119), (.tmp 120), (.tmp 135)], some (115, true)⟩, []⟩,
  ⟨30, ⟨some 137, .op (.pick (.tmp 115) (.tmp 136) (.const (.bool false))), none⟩, []⟩] [(59, 107), (60, 108), (61, 109), (62, 110), (63, 111), (64, 112), (65, 113), (66, 114), (67, 115), (68, 116), (69, 117), (70, 118), (71, 119), (72, 120), (73, 121), (74, 122), (75, 123), (76, 124), (77, 125), (78, 126), (79, 127), (80, 128), (81, 129), (82, 130), (83, 131), (84, 132), (85, 133), (86, 134), (87, 135), (88, 136), (89, 137)]) (.cond (.tmp 89) (.regionD 107 [⟨0, ⟨some 107, .op (.mv (.tmp 0)), none⟩, []⟩,
  ⟨1, ⟨some 108, .op (.nilCheck (.tmp 107)), none⟩, []⟩,
  ⟨2, ⟨some 109, .op (.fieldAddr 4 (.tmp 108)), none⟩, []⟩,
  ⟨3, ⟨some 110, .op (.load none (.tmp 109)), none⟩, []⟩,
  ⟨4, ⟨some 111, .op (.mv (.tmp 9)), none⟩, []⟩,
  ⟨5, ⟨some 112, .op (.mv (.tmp 0)), none⟩, []⟩,
  ⟨6, ⟨some 113, .op (.nilCheck (.tmp 112)), none⟩, []⟩,
  ⟨7, ⟨some 114, .op (.fieldAddr 5 (.tmp 113)), none⟩, []⟩,
  ⟨8, ⟨some 115, .op (.load none (.tmp 114)), none⟩, []⟩,
  ⟨9, ⟨some 116, .op (.mv (.tmp 9)), none⟩, []⟩,
  ⟨10, ⟨some 117, .op (.fieldAddr 2 (.tmp 8)), none⟩, []⟩,
  ⟨11, ⟨some 118, .op (.load none (.tmp 117)), none⟩, []⟩,
  ⟨12, ⟨some 119, .op (.mv (.tmp 4)), none⟩, []⟩,
  ⟨13, ⟨some 120, .op (.idxSl 1 (.tmp 110) (.tmp 111)), none⟩, []⟩,
  ⟨14, ⟨some 121, .op (.store 1 (.tmp 120) (.tmp 118)), none⟩, []⟩,
  ⟨15, ⟨some 122, .op (.idxSl 1 (.tmp 115) (.tmp 116)), none⟩, []⟩,
  ⟨16, ⟨some 123, .op (.store 1 (.tmp 122) (.tmp 119)), none⟩, []⟩] [(90, 107), (91, 108), (92, 109), (93, 110), (94, 111), (95, 112), (96, 113), (97, 114), (98, 115), (99, 116), (100, 117), (101, 118), (102, 119), (103, 120), (104, 122)]) .skip))))) (.region [⟨some 105, .op (.bin .add .scalar (.tmp 48) (.const (.int .i64 1))), none⟩,
  ⟨some 48, .op (.mv (.tmp 105)), none⟩])))
noncomputable def product_search_step_c2 : MCode := .seq [4, 106] (.region [⟨some 106, .op (.mv (.tmp 4)), none⟩,
  ⟨some 2, .op (.mv (.tmp 106)), none⟩,
  ⟨some 3, .op (.mv (.const (.bool true))), none⟩]) .ret
def product_search_step_rs : Res := [(2, none), (3, none)]
noncomputable def product_search_step_mf : MFn := ⟨107, product_search_step_rs, .seq [2, 3] (.region [⟨some 2, .op (.mv (.const (.int .i64 0))), none⟩,
  ⟨some 3, .op (.mv (.const (.bool false))), none⟩]) (.seq [10, 11, 12, 13, 14, 15, 16, 17, 18] (.region [⟨some 11, .op (.mv (.tmp 0)), none⟩,
  ⟨some 12, .op (.nilCheck (.tmp 11)), none⟩,
  ⟨some 13, .op (.fieldAddr 2 (.tmp 12)), none⟩,
  ⟨some 14, .op (.load none (.tmp 13)), none⟩,
  ⟨some 15, .call f_queue_Queue_Pop [(.tmp 14)], none⟩,
  ⟨some 10, .op (.mv (.tmp 15)), none⟩,
  ⟨some 16, .op (.extract 0 (.tmp 10)), none⟩,
  ⟨some 17, .op (.extract 1 (.tmp 10)), none⟩,
  ⟨some 18, .op (.extract 2 (.tmp 10)), none⟩,
  ⟨some 4, .op (.mv (.tmp 16)), none⟩,
  ⟨some 5, .op (.mv (.tmp 17)), none⟩,
  ⟨some 6, .op (.mv (.tmp 18)), none⟩]) (.seq [20] (.seq [6, 19] (.region [⟨some 19, .op (.mv (.tmp 6)), none⟩,
  ⟨some 20, .op (.un .not (.tmp 19)), none⟩]) (.cond (.tmp 20) (.seq [0, 4, 5, 20] (.region [⟨some 2, .op (.mv (.const (.int .i64 0))), none⟩,
  ⟨some 3, .op (.mv (.const (.bool false))), none⟩]) .ret) .skip)) (.seq [21, 22, 23, 24, 25, 26, 27, 28, 29, 30, 31] (.region [⟨some 21, .op (.mv (.tmp 0)), none⟩,
  ⟨some 22, .op (.nilCheck (.tmp 21)), none⟩,
  ⟨some 23, .op (.fieldAddr 3 (.tmp 22)), none⟩,
  ⟨some 24, .op (.load none (.tmp 23)), none⟩,
  ⟨some 25, .op (.mv (.tmp 4)), none⟩,
  ⟨some 26, .op (.mv (.tmp 0)), none⟩,
  ⟨some 27, .op (.mv (.tmp 5)), none⟩,
  ⟨some 28, .op (.mv (.tmp 5)), none⟩,
  ⟨some 29, .op (.idxSl 1 (.tmp 24) (.tmp 25)), none⟩,
  ⟨none, .op (.store 1 (.tmp 29) (.tmp 27)), none⟩,
  ⟨some 30, .op (.nilCheck (.tmp 26)), none⟩,
  ⟨some 31, .op (.fieldAddr 6 (.tmp 30)), none⟩,
  ⟨none, .op (.store 1 (.tmp 31) (.tmp 28)), none⟩]) (.seq [0, 5, 46, 47, 48, 49] (.seq [32, 33, 34, 35, 36, 37, 38, 39, 40, 41, 42, 43, 44, 45] (.regionD 107 [⟨0, ⟨some 107, .op (.mv (.tmp 0)), none⟩, []⟩,
  ⟨1, ⟨some 108, .op (.nilCheck (.tmp 107)), none⟩, []⟩,
  ⟨2, ⟨some 109, .op (.fieldAddr 1 (.tmp 108)), none⟩, []⟩,
  ⟨3, ⟨some 110, .op (.load none (.tmp 109)), none⟩, []⟩,
  ⟨4, ⟨some 111, .op (.mv (.tmp 0)), none⟩, []⟩,
  ⟨5, ⟨some 112, .op (.nilCheck (.tmp 111)), none⟩, []⟩,
  ⟨6, ⟨some 113, .op (.fieldAddr 0 (.tmp 112)), none⟩, []⟩,
  ⟨7, ⟨some 114, .op (.load none (.tmp 113)), none⟩, []⟩,
  ⟨8, ⟨some 115, .op (.mv (.tmp 0)), none⟩, []⟩,
  ⟨9, ⟨some 116, .op (.nilCheck (.tmp 115)), none⟩, []⟩,
  ⟨10, ⟨some 117, .op (.fieldAddr 0 (.tmp 116)), none⟩, []⟩,
  ⟨11, ⟨some 118, .op (.load none (.tmp 117)), none⟩, []⟩,
  ⟨12, ⟨some 119, .op (.mv (.tmp 4)), none⟩, []⟩,
  ⟨16, ⟨some 123, .op (.mv (.const (.int .i64 0))), none⟩, []⟩,
  ⟨13, ⟨some 120, .call f_product_graph_spot [(.tmp 118), (.tmp 119)], none⟩, [(110, ⟨some 110, .op (.load none (.tmp 109)), none⟩), (114, ⟨some 114, .op (.load none (.tmp 113)), none⟩)]⟩,
  ⟨14, ⟨some 121, .callV (.tmp 110) [(.tmp 114), (.tmp 120)], none⟩, []⟩,
  ⟨15, ⟨some 122, .op (.lenSl (.tmp 121)), none⟩, []⟩] [(32, 107), (33, 108), (34, 109), (35, 110), (36, 111), (37, 112), (38, 113), (39, 114), (40, 115), (41, 116), (42, 117), (43, 118), (44, 119), (45, 120), (46, 121), (47, 122), (48, 123)]) (.block 0 (.loop [105] product_search_step_c1))) (.lab product_search_step_c2)))))⟩
noncomputable def product_search_step_l1 (T : Tab) (k j0 : Nat) (s0 id4 key5 t46 t47 t48 : AV) (h : Heap) : Option (AV × Heap) :=
  loopB T k product_search_step_rs j0 [105] product_search_step_c1 [.blk 0, .seq [0, 5, 46, 47, 48, 49] (.lab product_search_step_c2)] [s0, .undef, .undef, .undef, id4, key5, .undef, .undef, .undef, .undef, .undef, .undef, .undef, .undef, .undef, .undef, .undef, .undef, .undef, .undef, .undef, .undef, .undef, .undef, .undef, .undef, .undef, .undef, .undef, .undef, .undef, .undef, .undef, .undef, .undef, .undef, .undef, .undef, .undef, .undef, .undef, .undef, .undef, .undef, .undef, .undef, t46, t47, t48, .undef, .undef, .undef, .undef, .undef, .undef, .undef, .undef, .undef, .undef, .undef, .undef, .undef, .undef, .undef, .undef, .undef, .undef, .undef, .undef, .undef, .undef, .undef, .undef, .undef, .undef, .undef, .undef, .undef, .undef, .undef, .undef, .undef, .undef, .undef, .undef, .undef, .undef, .undef, .undef, .undef, .undef, .undef, .undef, .undef, .undef, .undef, .undef, .undef, .undef, .undef, .undef, .undef, .undef, .undef, .undef, .undef, .undef] h
end Go.Gm.A9

