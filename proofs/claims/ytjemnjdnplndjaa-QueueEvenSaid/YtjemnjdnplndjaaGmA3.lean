/- A part of the proof: GmA3: an abstract machine, what it does, and what the functions of the program come to on it. -/
import Derived.Test.YtjemnjdnplndjaaGmK
import Derived.KernelRfl
set_option linter.unusedVariables false
namespace Go.Gm.A3
open Go Go.Gm
abbrev f_main_main : FuncId := 0
abbrev f_gosem_cut : FuncId := 1
abbrev f_gosem_cut_init : FuncId := 2
abbrev f_milestonelaw3_QueueApart : FuncId := 3
abbrev f_milestonelaw3_QueueEven : FuncId := 4
abbrev f_milestonelaw3_QueueGreat : FuncId := 5
abbrev f_milestonelaw3_QueuePlays : FuncId := 6
abbrev f_milestonelaw3_QueueSorts : FuncId := 7
abbrev f_milestonelaw3_QueueBack : FuncId := 8
abbrev f_milestonelaw3_QueueErrs : FuncId := 9
abbrev f_milestonelaw3_QueueLowers : FuncId := 10
abbrev f_milestonelaw3_QueueKeys : FuncId := 11
abbrev f_milestonelaw3_known : FuncId := 12
abbrev f_queue_New : FuncId := 13
abbrev f_milestoneref3_New : FuncId := 14
abbrev f_milestonelaw3_within : FuncId := 15
abbrev f_queue_Queue_Pop : FuncId := 16
abbrev f_queue_Queue_Put : FuncId := 17
abbrev f_milestoneref3_Queue_Pop : FuncId := 18
abbrev f_milestoneref3_Queue_Put : FuncId := 19
abbrev f_queue_Queue_Len : FuncId := 20
abbrev f_milestoneref3_Queue_Len : FuncId := 21
abbrev f_queue_Queue_Key : FuncId := 22
abbrev f_milestoneref3_Queue_Key : FuncId := 23
abbrev f_queue_heaped_Len : FuncId := 24
abbrev f_container_heap_Pop : FuncId := 25
abbrev f_queue_Queue_line : FuncId := 26
abbrev f_container_heap_Push : FuncId := 27
abbrev f_container_heap_Fix : FuncId := 28
abbrev f_container_heap_down : FuncId := 29
abbrev f_container_heap_up : FuncId := 30
abbrev f_runtime_boundsError_Error : FuncId := 31
abbrev f_runtime_boundsError_RuntimeError : FuncId := 32
abbrev f_runtime_errorString_Error : FuncId := 33
abbrev f_runtime_errorString_RuntimeError : FuncId := 34
abbrev f_runtime_plainError_Error : FuncId := 35
abbrev f_runtime_plainError_RuntimeError : FuncId := 36
abbrev f_runtime_errorAddressString_Error : FuncId := 37
abbrev f_runtime_errorAddressString_RuntimeError : FuncId := 38
abbrev f_runtime_TypeAssertionError_Error : FuncId := 39
abbrev f_runtime_TypeAssertionError_RuntimeError : FuncId := 40
abbrev f_runtime_PanicNilError_Error : FuncId := 41
abbrev f_runtime_PanicNilError_RuntimeError : FuncId := 42
abbrev f_internal_abi_Type_Align : FuncId := 43
abbrev f_internal_abi_Type_Len : FuncId := 44
abbrev f_internal_runtime_maps_unhashableTypeError_Error : FuncId := 45
abbrev f_internal_runtime_maps_unhashableTypeError_RuntimeError : FuncId := 46
abbrev f_queue_item_before : FuncId := 47
abbrev f_queue_heaped_Less : FuncId := 48
abbrev f_queue_heaped_Pop : FuncId := 49
abbrev f_queue_heaped_Push : FuncId := 50
abbrev f_queue_heaped_Swap : FuncId := 51
abbrev f_queue_heaped_place : FuncId := 52
abbrev f_internal_abi_Kind_String : FuncId := 53
noncomputable def milestonelaw3_QueueApart_c1 : MCode := .seq [60, 61, 62, 63, 64] (.region [⟨some 60, .op (.mv (.tmp 0)), none⟩,
  ⟨some 61, .op (.mv (.tmp 8)), none⟩,
  ⟨some 62, .op (.idxSl 1 (.tmp 60) (.tmp 61)), none⟩,
  ⟨some 63, .op (.load none (.tmp 62)), none⟩,
  ⟨some 64, .call f_milestonelaw3_within [(.tmp 63), (.const (.int .i64 3))], none⟩,
  ⟨some 65, .op (.bin .eql .scalar (.tmp 64) (.const (.int .i64 0))), none⟩]) (.cond (.tmp 65) (.seq [65, 66, 67, 68, 69, 70, 71] (.region [⟨some 67, .op (.mv (.tmp 5)), none⟩,
  ⟨some 68, .call f_queue_Queue_Pop [(.tmp 67)], none⟩,
  ⟨some 66, .op (.mv (.tmp 68)), none⟩,
  ⟨some 69, .op (.extract 0 (.tmp 66)), none⟩,
  ⟨some 70, .op (.extract 1 (.tmp 66)), none⟩,
  ⟨some 71, .op (.extract 2 (.tmp 66)), none⟩,
  ⟨some 9, .op (.mv (.tmp 69)), none⟩,
  ⟨some 10, .op (.mv (.tmp 70)), none⟩,
  ⟨some 11, .op (.mv (.tmp 71)), none⟩]) (.seq [72, 73, 74, 75, 76, 77] (.region [⟨some 73, .op (.mv (.tmp 6)), none⟩,
  ⟨some 74, .call f_milestoneref3_Queue_Pop [(.tmp 73)], none⟩,
  ⟨some 72, .op (.mv (.tmp 74)), none⟩,
  ⟨some 75, .op (.extract 0 (.tmp 72)), none⟩,
  ⟨some 76, .op (.extract 1 (.tmp 72)), none⟩,
  ⟨some 77, .op (.extract 2 (.tmp 72)), none⟩,
  ⟨some 12, .op (.mv (.tmp 75)), none⟩,
  ⟨some 13, .op (.mv (.tmp 76)), none⟩,
  ⟨some 14, .op (.mv (.tmp 77)), none⟩]) (.seq [9, 10, 11, 12, 13, 14, 78, 79, 80, 81, 82, 83, 84, 85, 86, 87, 88, 89] (.region [⟨some 78, .op (.mv (.tmp 9)), none⟩,
  ⟨some 79, .op (.mv (.tmp 12)), none⟩,
  ⟨some 80, .op (.bin .neq .scalar (.tmp 78) (.tmp 79)), none⟩,
  ⟨some 81, .op (.mv (.tmp 80)), none⟩,
  ⟨some 82, .op (.mv (.tmp 10)), some (81, false)⟩,
  ⟨some 83, .op (.mv (.tmp 13)), some (81, false)⟩,
  ⟨some 84, .op (.bin .neq .scalar (.tmp 82) (.tmp 83)), some (81, false)⟩,
  ⟨some 85, .op (.pick (.tmp 81) (.const (.bool true)) (.tmp 84)), none⟩,
  ⟨some 86, .op (.mv (.tmp 85)), none⟩,
  ⟨some 87, .op (.mv (.tmp 11)), some (86, false)⟩,
  ⟨some 88, .op (.mv (.tmp 14)), some (86, false)⟩,
  ⟨some 89, .op (.bin .neq .bool (.tmp 87) (.tmp 88)), some (86, false)⟩,
  ⟨some 90, .op (.pick (.tmp 86) (.const (.bool true)) (.tmp 89)), none⟩]) (.cond (.tmp 90) (.seq [0, 1, 5, 6, 7, 8, 90] (.region [⟨some 4, .op (.mv (.const (.bool false))), none⟩]) .ret) .skip)))) (.seq [65, 91, 92, 93, 94, 95, 96, 97, 98, 99, 100, 101, 102, 103, 104, 105, 106, 107, 108, 109, 110, 111, 112, 113, 114] (.regionD 121 [⟨0, ⟨some 121, .op (.mv (.tmp 5)), none⟩, []⟩,
  ⟨1, ⟨some 122, .op (.mv (.tmp 0)), none⟩, []⟩,
  ⟨2, ⟨some 123, .op (.mv (.tmp 8)), none⟩, []⟩,
  ⟨3, ⟨some 124, .op (.idxSl 1 (.tmp 122) (.tmp 123)), none⟩, []⟩,
  ⟨4, ⟨some 125, .op (.load none (.tmp 124)), none⟩, []⟩,
  ⟨6, ⟨some 127, .op (.mv (.tmp 0)), none⟩, []⟩,
  ⟨7, ⟨some 128, .op (.mv (.tmp 8)), none⟩, []⟩,
  ⟨8, ⟨some 129, .op (.idxSl 1 (.tmp 127) (.tmp 128)), none⟩, []⟩,
  ⟨9, ⟨some 130, .op (.load none (.tmp 129)), none⟩, []⟩,
  ⟨10, ⟨some 131, .op (.bin .quo .scalar (.tmp 130) (.const (.int .i64 9))), none⟩, []⟩,
  ⟨12, ⟨some 133, .op (.mv (.tmp 6)), none⟩, []⟩,
  ⟨13, ⟨some 134, .op (.mv (.tmp 0)), none⟩, []⟩,
  ⟨14, ⟨some 135, .op (.mv (.tmp 8)), none⟩, []⟩,
  ⟨15, ⟨some 136, .op (.idxSl 1 (.tmp 134) (.tmp 135)), none⟩, []⟩,
  ⟨16, ⟨some 137, .op (.load none (.tmp 136)), none⟩, []⟩,
  ⟨18, ⟨some 139, .op (.mv (.tmp 0)), none⟩, []⟩,
  ⟨19, ⟨some 140, .op (.mv (.tmp 8)), none⟩, []⟩,
  ⟨20, ⟨some 141, .op (.idxSl 1 (.tmp 139) (.tmp 140)), none⟩, []⟩,
  ⟨21, ⟨some 142, .op (.load none (.tmp 141)), none⟩, []⟩,
  ⟨22, ⟨some 143, .op (.bin .quo .scalar (.tmp 142) (.const (.int .i64 9))), none⟩, []⟩,
  ⟨5, ⟨some 126, .call f_milestonelaw3_within [(.tmp 125), (.const (.int .i64 9))], none⟩, [(130, ⟨some 130, .op (.load none (.tmp 129)), none⟩), (137, ⟨some 137, .op (.load none (.tmp 136)), none⟩), (142, ⟨some 142, .op (.load none (.tmp 141)), none⟩)]⟩,
  ⟨11, ⟨some 132, .call f_queue_Queue_Put [(.tmp 121), (.tmp 126), (.tmp 131)], none⟩, [(137, ⟨some 137, .op (.load none (.tmp 136)), none⟩), (142, ⟨some 142, .op (.load none (.tmp 141)), none⟩)]⟩,
  ⟨17, ⟨some 138, .call f_milestonelaw3_within [(.tmp 137), (.const (.int .i64 9))], none⟩, [(142, ⟨some 142, .op (.load none (.tmp 141)), none⟩)]⟩,
  ⟨23, ⟨some 144, .call f_milestoneref3_Queue_Put [(.tmp 133), (.tmp 138), (.tmp 143)], none⟩, []⟩,
  ⟨24, ⟨some 145, .op (.bin .neq .bool (.tmp 132) (.tmp 144)), none⟩, []⟩] [(91, 121), (92, 122), (93, 123), (94, 124), (95, 125), (96, 126), (97, 127), (98, 128), (99, 129), (100, 130), (101, 131), (102, 132), (103, 133), (104, 134), (105, 135), (106, 136), (107, 137), (108, 138), (109, 139), (110, 140), (111, 141), (112, 142), (113, 143), (114, 144), (115, 145)]) (.cond (.tmp 115) (.seq [0, 1, 5, 6, 7, 8, 115] (.region [⟨some 4, .op (.mv (.const (.bool false))), none⟩]) .ret) .skip)))
noncomputable def milestonelaw3_QueueApart_c2 : MCode := .seq [33] (.seq [26, 27, 28, 29, 30, 31, 32] (.region [⟨some 26, .op (.mv (.tmp 8)), none⟩,
  ⟨some 27, .op (.mv (.tmp 0)), none⟩,
  ⟨some 28, .op (.lenSl (.tmp 27)), none⟩,
  ⟨some 29, .op (.bin .lss .scalar (.tmp 26) (.tmp 28)), none⟩,
  ⟨some 30, .op (.mv (.tmp 29)), none⟩,
  ⟨some 31, .op (.mv (.tmp 8)), some (30, true)⟩,
  ⟨some 32, .op (.bin .lss .scalar (.tmp 31) (.const (.int .i64 60))), some (30, true)⟩,
  ⟨some 33, .op (.pick (.tmp 30) (.tmp 32) (.const (.bool false))), none⟩]) (.cond (.tmp 33) .skip (.exit 0))) (.seq [90, 115] (.block 1 (.seq [39, 45, 46, 47, 48, 49, 50, 51, 52, 53, 54, 55, 56, 57, 58, 59] (.seq [36, 37, 38] (.region [⟨some 36, .op (.mv (.tmp 8)), none⟩,
  ⟨some 37, .op (.mv (.tmp 1)), none⟩,
  ⟨some 38, .op (.lenSl (.tmp 37)), none⟩,
  ⟨some 39, .op (.bin .lss .scalar (.tmp 36) (.tmp 38)), none⟩]) (.cond (.tmp 39) (.seq [39, 40, 41, 42, 43, 44] (.region [⟨some 40, .op (.mv (.tmp 1)), none⟩,
  ⟨some 41, .op (.mv (.tmp 8)), none⟩,
  ⟨some 42, .op (.idxSl 1 (.tmp 40) (.tmp 41)), none⟩,
  ⟨some 43, .op (.load none (.tmp 42)), none⟩,
  ⟨some 44, .call f_milestonelaw3_within [(.tmp 43), (.const (.int .i64 3))], none⟩,
  ⟨some 45, .op (.bin .eql .scalar (.tmp 44) (.const (.int .i64 0))), none⟩]) (.cond (.tmp 45) (.region [⟨some 46, .op (.mv (.tmp 7)), none⟩,
  ⟨some 47, .call f_queue_Queue_Pop [(.tmp 46)], none⟩]) (.regionD 121 [⟨0, ⟨some 121, .op (.mv (.tmp 7)), none⟩, []⟩,
  ⟨1, ⟨some 122, .op (.mv (.tmp 1)), none⟩, []⟩,
  ⟨2, ⟨some 123, .op (.mv (.tmp 8)), none⟩, []⟩,
  ⟨3, ⟨some 124, .op (.idxSl 1 (.tmp 122) (.tmp 123)), none⟩, []⟩,
  ⟨4, ⟨some 125, .op (.load none (.tmp 124)), none⟩, []⟩,
  ⟨6, ⟨some 127, .op (.mv (.tmp 1)), none⟩, []⟩,
  ⟨7, ⟨some 128, .op (.mv (.tmp 8)), none⟩, []⟩,
  ⟨8, ⟨some 129, .op (.idxSl 1 (.tmp 127) (.tmp 128)), none⟩, []⟩,
  ⟨9, ⟨some 130, .op (.load none (.tmp 129)), none⟩, []⟩,
  ⟨10, ⟨some 131, .op (.bin .quo .scalar (.tmp 130) (.const (.int .i64 9))), none⟩, []⟩,
  ⟨5, ⟨some 126, .call f_milestonelaw3_within [(.tmp 125), (.const (.int .i64 9))], none⟩, [(130, ⟨some 130, .op (.load none (.tmp 129)), none⟩)]⟩,
  ⟨11, ⟨some 132, .call f_queue_Queue_Put [(.tmp 121), (.tmp 126), (.tmp 131)], none⟩, []⟩] [(48, 121), (49, 122), (50, 123), (51, 124), (52, 125), (53, 126), (54, 127), (55, 128), (56, 129), (57, 130), (58, 131), (59, 132)]))) .skip)) (.lab milestonelaw3_QueueApart_c1))) (.region [⟨some 34, .op (.mv (.tmp 8)), none⟩,
  ⟨some 35, .op (.bin .add .scalar (.tmp 34) (.const (.int .i64 1))), none⟩,
  ⟨some 8, .op (.mv (.tmp 35)), none⟩]))
noncomputable def milestonelaw3_QueueApart_c3 : MCode := .seq [5, 6, 116, 117, 118, 119, 120] (.region [⟨some 116, .op (.mv (.tmp 5)), none⟩,
  ⟨some 117, .call f_queue_Queue_Len [(.tmp 116)], none⟩,
  ⟨some 118, .op (.mv (.tmp 6)), none⟩,
  ⟨some 119, .call f_milestoneref3_Queue_Len [(.tmp 118)], none⟩,
  ⟨some 120, .op (.bin .eql .scalar (.tmp 117) (.tmp 119)), none⟩,
  ⟨some 4, .op (.mv (.tmp 120)), none⟩]) .ret
def milestonelaw3_QueueApart_rs : Res := [(4, none)]
noncomputable def milestonelaw3_QueueApart_mf : MFn := ⟨121, milestonelaw3_QueueApart_rs, .seq [4] (.region [⟨some 4, .op (.mv (.const (.bool false))), none⟩]) (.seq [16] (.seq [15] (.region [⟨some 15, .call f_milestonelaw3_known [], none⟩,
  ⟨some 16, .op (.un .not (.tmp 15)), none⟩]) (.cond (.tmp 16) (.seq [0, 1, 16] (.region [⟨some 4, .op (.mv (.const (.bool false))), none⟩]) .ret) .skip)) (.seq [17, 18, 19] (.region [⟨some 17, .call f_queue_New [(.const (.int .i64 9))], none⟩,
  ⟨some 18, .call f_milestoneref3_New [(.const (.int .i64 9))], none⟩,
  ⟨some 19, .call f_queue_New [(.const (.int .i64 9))], none⟩,
  ⟨some 5, .op (.mv (.tmp 17)), none⟩,
  ⟨some 6, .op (.mv (.tmp 18)), none⟩,
  ⟨some 7, .op (.mv (.tmp 19)), none⟩]) (.seq [25] (.seq [20, 21, 22, 23, 24] (.region [⟨some 20, .op (.mv (.tmp 5)), none⟩,
  ⟨some 21, .op (.bin .eql .ptr (.tmp 20) (.const .nilp)), none⟩,
  ⟨some 22, .op (.mv (.tmp 21)), none⟩,
  ⟨some 23, .op (.mv (.tmp 7)), some (22, false)⟩,
  ⟨some 24, .op (.bin .eql .ptr (.tmp 23) (.const .nilp)), some (22, false)⟩,
  ⟨some 25, .op (.pick (.tmp 22) (.const (.bool true)) (.tmp 24)), none⟩]) (.cond (.tmp 25) (.seq [0, 1, 5, 6, 7, 25] (.region [⟨some 4, .op (.mv (.const (.bool false))), none⟩]) .ret) .skip)) (.seq [0, 1, 7, 8, 33] (.seq [] (.region [⟨some 8, .op (.mv (.const (.int .i64 0))), none⟩]) (.block 0 (.loop [34, 35] milestonelaw3_QueueApart_c2))) (.lab milestonelaw3_QueueApart_c3)))))⟩
noncomputable def milestonelaw3_QueueApart_l1 (T : Tab) (k j0 : Nat) (ns0 ms1 q5 x6 o7 i8 : AV) (h : Heap) : Option (AV × Heap) :=
  loopB T k milestonelaw3_QueueApart_rs j0 [34, 35] milestonelaw3_QueueApart_c2 [.blk 0, .seq [0, 1, 7, 8, 33] (.lab milestonelaw3_QueueApart_c3)] [ns0, ms1, .undef, .undef, .undef, q5, x6, o7, i8, .undef, .undef, .undef, .undef, .undef, .undef, .undef, .undef, .undef, .undef, .undef, .undef, .undef, .undef, .undef, .undef, .undef, .undef, .undef, .undef, .undef, .undef, .undef, .undef, .undef, .undef, .undef, .undef, .undef, .undef, .undef, .undef, .undef, .undef, .undef, .undef, .undef, .undef, .undef, .undef, .undef, .undef, .undef, .undef, .undef, .undef, .undef, .undef, .undef, .undef, .undef, .undef, .undef, .undef, .undef, .undef, .undef, .undef, .undef, .undef, .undef, .undef, .undef, .undef, .undef, .undef, .undef, .undef, .undef, .undef, .undef, .undef, .undef, .undef, .undef, .undef, .undef, .undef, .undef, .undef, .undef, .undef, .undef, .undef, .undef, .undef, .undef, .undef, .undef, .undef, .undef, .undef, .undef, .undef, .undef, .undef, .undef, .undef, .undef, .undef, .undef, .undef, .undef, .undef, .undef, .undef, .undef, .undef, .undef, .undef, .undef, .undef] h
noncomputable def milestonelaw3_QueueApart_b2 (T : Tab) (k j0 : Nat) (ns0 ms1 q5 x6 o7 i8 : AV) (h : Heap) : Option (AV × Heap) :=
  evB T k milestonelaw3_QueueApart_rs milestonelaw3_QueueApart_c1 [.blk 1, .seq [90, 115] (.region [⟨some 34, .op (.mv (.tmp 8)), none⟩,
  ⟨some 35, .op (.bin .add .scalar (.tmp 34) (.const (.int .i64 1))), none⟩,
  ⟨some 8, .op (.mv (.tmp 35)), none⟩]), .lp j0 [34, 35] milestonelaw3_QueueApart_c2, .blk 0, .seq [0, 1, 7, 8, 33] (.lab milestonelaw3_QueueApart_c3)] [ns0, ms1, .undef, .undef, .undef, q5, x6, o7, i8, .undef, .undef, .undef, .undef, .undef, .undef, .undef, .undef, .undef, .undef, .undef, .undef, .undef, .undef, .undef, .undef, .undef, .undef, .undef, .undef, .undef, .undef, .undef, .undef, .undef, .undef, .undef, .undef, .undef, .undef, .undef, .undef, .undef, .undef, .undef, .undef, .undef, .undef, .undef, .undef, .undef, .undef, .undef, .undef, .undef, .undef, .undef, .undef, .undef, .undef, .undef, .undef, .undef, .undef, .undef, .undef, .undef, .undef, .undef, .undef, .undef, .undef, .undef, .undef, .undef, .undef, .undef, .undef, .undef, .undef, .undef, .undef, .undef, .undef, .undef, .undef, .undef, .undef, .undef, .undef, .undef, .undef, .undef, .undef, .undef, .undef, .undef, .undef, .undef, .undef, .undef, .undef, .undef, .undef, .undef, .undef, .undef, .undef, .undef, .undef, .undef, .undef, .undef, .undef, .undef, .undef, .undef, .undef, .undef, .undef, .undef, .undef] h
noncomputable def milestonelaw3_QueueApart_b3 (T : Tab) (k : Nat) (q5 x6 : AV) (h : Heap) : Option (AV × Heap) :=
  evB T k milestonelaw3_QueueApart_rs milestonelaw3_QueueApart_c3 [] [.undef, .undef, .undef, .undef, .undef, q5, x6, .undef, .undef, .undef, .undef, .undef, .undef, .undef, .undef, .undef, .undef, .undef, .undef, .undef, .undef, .undef, .undef, .undef, .undef, .undef, .undef, .undef, .undef, .undef, .undef, .undef, .undef, .undef, .undef, .undef, .undef, .undef, .undef, .undef, .undef, .undef, .undef, .undef, .undef, .undef, .undef, .undef, .undef, .undef, .undef, .undef, .undef, .undef, .undef, .undef, .undef, .undef, .undef, .undef, .undef, .undef, .undef, .undef, .undef, .undef, .undef, .undef, .undef, .undef, .undef, .undef, .undef, .undef, .undef, .undef, .undef, .undef, .undef, .undef, .undef, .undef, .undef, .undef, .undef, .undef, .undef, .undef, .undef, .undef, .undef, .undef, .undef, .undef, .undef, .undef, .undef, .undef, .undef, .undef, .undef, .undef, .undef, .undef, .undef, .undef, .undef, .undef, .undef, .undef, .undef, .undef, .undef, .undef, .undef, .undef, .undef, .undef, .undef, .undef, .undef] h
theorem milestonelaw3_QueueApart_b2_eq (T : Tab) (k j0 : Nat) (ns0 ms1 q5 x6 o7 i8 : AV) (h : Heap) : milestonelaw3_QueueApart_b2 T k j0 ns0 ms1 q5 x6 o7 i8 h =
    oa (idxS 1 ns0 i8) fun t62_1 =>
    oa (ld1 h t62_1) fun t63_2 =>
    ob (evalFn T k f_milestonelaw3_within [t63_2, (.int .i64 3)] h) fun t64_3 h_4 =>
    oa (binV .eql .scalar t64_3 (.int .i64 0)) fun t65_5 =>
    cond2 t65_5
      (
      ob (evalFn T k f_queue_Queue_Pop [q5] h_4) fun t68_6 h_7 =>
      oa (extr 0 t68_6) fun t69_8 =>
      oa (extr 1 t68_6) fun t70_9 =>
      oa (extr 2 t68_6) fun t71_10 =>
      ob (evalFn T k f_milestoneref3_Queue_Pop [x6] h_7) fun t74_11 h_12 =>
      oa (extr 0 t74_11) fun t75_13 =>
      oa (extr 1 t74_11) fun t76_14 =>
      oa (extr 2 t74_11) fun t77_15 =>
      oa (binV .neq .scalar t69_8 t75_13) fun t80_16 =>
      ob (gd t80_16 false (some (t70_9, h_12)) h_12) fun t82_17 h_18 =>
      ob (gd t80_16 false (some (t76_14, h_18)) h_18) fun t83_19 h_20 =>
      ob (gd t80_16 false (pure1 h_20 (binV .neq .scalar t82_17 t83_19)) h_20) fun t84_21 h_22 =>
      oa (pickV t80_16 (.bool true) t84_21) fun t85_23 =>
      ob (gd t85_23 false (some (t71_10, h_22)) h_22) fun t87_24 h_25 =>
      ob (gd t85_23 false (some (t77_15, h_25)) h_25) fun t88_26 h_27 =>
      ob (gd t85_23 false (pure1 h_27 (binV .neq .bool t87_24 t88_26)) h_27) fun t89_28 h_29 =>
      oa (pickV t85_23 (.bool true) t89_28) fun t90_30 =>
      cond2 t90_30
        (
        some ((.bool false), h_29)
        )
        (
        oa (binV .add .scalar i8 (.int .i64 1)) fun t35_31 =>
        milestonelaw3_QueueApart_l1 T k j0 ns0 ms1 q5 x6 o7 t35_31 h_29
        )
      )
      (
      oa (idxS 1 ns0 i8) fun t124_32 =>
      oa (ld1 h_4 t124_32) fun t125_33 =>
      oa (idxS 1 ns0 i8) fun t129_34 =>
      oa (ld1 h_4 t129_34) fun t130_35 =>
      oa (binV .quo .scalar t130_35 (.int .i64 9)) fun t131_36 =>
      oa (idxS 1 ns0 i8) fun t136_37 =>
      oa (ld1 h_4 t136_37) fun t137_38 =>
      oa (idxS 1 ns0 i8) fun t141_39 =>
      oa (ld1 h_4 t141_39) fun t142_40 =>
      oa (binV .quo .scalar t142_40 (.int .i64 9)) fun t143_41 =>
      ob (evalFn T k f_milestonelaw3_within [t125_33, (.int .i64 9)] h_4) fun t126_42 h_43 =>
      chk ((sameB (pure1 h_43 (ld1 h_43 t129_34)) t130_35 && (sameB (pure1 h_43 (ld1 h_43 t136_37)) t137_38 && (sameB (pure1 h_43 (ld1 h_43 t141_39)) t142_40 && true)))) <|
      ob (evalFn T k f_queue_Queue_Put [q5, t126_42, t131_36] h_43) fun t132_44 h_45 =>
      chk ((sameB (pure1 h_45 (ld1 h_45 t136_37)) t137_38 && (sameB (pure1 h_45 (ld1 h_45 t141_39)) t142_40 && true))) <|
      ob (evalFn T k f_milestonelaw3_within [t137_38, (.int .i64 9)] h_45) fun t138_46 h_47 =>
      chk ((sameB (pure1 h_47 (ld1 h_47 t141_39)) t142_40 && true)) <|
      ob (evalFn T k f_milestoneref3_Queue_Put [x6, t138_46, t143_41] h_47) fun t144_48 h_49 =>
      oa (binV .neq .bool t132_44 t144_48) fun t145_50 =>
      cond2 t145_50
        (
        some ((.bool false), h_49)
        )
        (
        oa (binV .add .scalar i8 (.int .i64 1)) fun t35_51 =>
        milestonelaw3_QueueApart_l1 T k j0 ns0 ms1 q5 x6 o7 t35_51 h_49
        )
      ) := blockEq (by kernel_rfl)
theorem milestonelaw3_QueueApart_b3_eq (T : Tab) (k : Nat) (q5 x6 : AV) (h : Heap) : milestonelaw3_QueueApart_b3 T k q5 x6 h =
    ob (evalFn T k f_queue_Queue_Len [q5] h) fun t117_1 h_2 =>
    ob (evalFn T k f_milestoneref3_Queue_Len [x6] h_2) fun t119_3 h_4 =>
    oa (binV .eql .scalar t117_1 t119_3) fun t120_5 =>
    some (t120_5, h_4) := blockEq (by kernel_rfl)
theorem milestonelaw3_QueueApart_l1_eq (T : Tab) (k j0 : Nat) (ns0 ms1 q5 x6 o7 i8 : AV) (h : Heap) : milestonelaw3_QueueApart_l1 T k (j0 + 1) ns0 ms1 q5 x6 o7 i8 h =
    oa (lenS ns0) fun t28_1 =>
    oa (binV .lss .scalar i8 t28_1) fun t29_2 =>
    ob (gd t29_2 true (some (i8, h)) h) fun t31_3 h_4 =>
    ob (gd t29_2 true (pure1 h_4 (binV .lss .scalar t31_3 (.int .i64 60))) h_4) fun t32_5 h_6 =>
    oa (pickV t29_2 t32_5 (.bool false)) fun t33_7 =>
    cond2 t33_7
      (
      oa (lenS ms1) fun t38_8 =>
      oa (binV .lss .scalar i8 t38_8) fun t39_9 =>
      cond2 t39_9
        (
        oa (idxS 1 ms1 i8) fun t42_10 =>
        oa (ld1 h_6 t42_10) fun t43_11 =>
        ob (evalFn T k f_milestonelaw3_within [t43_11, (.int .i64 3)] h_6) fun t44_12 h_13 =>
        oa (binV .eql .scalar t44_12 (.int .i64 0)) fun t45_14 =>
        cond2 t45_14
          (
          ob (evalFn T k f_queue_Queue_Pop [o7] h_13) fun t47_15 h_16 =>
          milestonelaw3_QueueApart_b2 T k j0 ns0 ms1 q5 x6 o7 i8 h_16
          )
          (
          oa (idxS 1 ms1 i8) fun t124_17 =>
          oa (ld1 h_13 t124_17) fun t125_18 =>
          oa (idxS 1 ms1 i8) fun t129_19 =>
          oa (ld1 h_13 t129_19) fun t130_20 =>
          oa (binV .quo .scalar t130_20 (.int .i64 9)) fun t131_21 =>
          ob (evalFn T k f_milestonelaw3_within [t125_18, (.int .i64 9)] h_13) fun t126_22 h_23 =>
          chk ((sameB (pure1 h_23 (ld1 h_23 t129_19)) t130_20 && true)) <|
          ob (evalFn T k f_queue_Queue_Put [o7, t126_22, t131_21] h_23) fun t132_24 h_25 =>
          milestonelaw3_QueueApart_b2 T k j0 ns0 ms1 q5 x6 o7 i8 h_25
          )
        )
        (
        milestonelaw3_QueueApart_b2 T k j0 ns0 ms1 q5 x6 o7 i8 h_6
        )
      )
      (
      milestonelaw3_QueueApart_b3 T k q5 x6 h_6
      ) := loopEq (by kernel_rfl)
theorem milestonelaw3_QueueApart_eq (T : Tab) (k : Nat) (ns0 ms1 : AV) (h : Heap) : runF T k milestonelaw3_QueueApart_mf [ns0, ms1] h =
    ob (evalFn T k f_milestonelaw3_known [] h) fun t15_1 h_2 =>
    oa (unV .not t15_1) fun t16_3 =>
    cond2 t16_3
      (
      some ((.bool false), h_2)
      )
      (
      ob (evalFn T k f_queue_New [(.int .i64 9)] h_2) fun t17_4 h_5 =>
      ob (evalFn T k f_milestoneref3_New [(.int .i64 9)] h_5) fun t18_6 h_7 =>
      ob (evalFn T k f_queue_New [(.int .i64 9)] h_7) fun t19_8 h_9 =>
      oa (binV .eql .ptr t17_4 .nilp) fun t21_10 =>
      ob (gd t21_10 false (some (t19_8, h_9)) h_9) fun t23_11 h_12 =>
      ob (gd t21_10 false (pure1 h_12 (binV .eql .ptr t23_11 .nilp)) h_12) fun t24_13 h_14 =>
      oa (pickV t21_10 (.bool true) t24_13) fun t25_15 =>
      cond2 t25_15
        (
        some ((.bool false), h_14)
        )
        (
        milestonelaw3_QueueApart_l1 T k k ns0 ms1 t17_4 t18_6 t19_8 (.int .i64 0) h_14
        )
      ) := runEq (by kernel_rfl)
noncomputable def milestonelaw3_QueueEven_c1 : MCode := .seq [26] (.seq [19, 20, 21, 22, 23, 24, 25] (.region [⟨some 19, .op (.mv (.tmp 7)), none⟩,
  ⟨some 20, .op (.mv (.tmp 0)), none⟩,
  ⟨some 21, .op (.lenSl (.tmp 20)), none⟩,
  ⟨some 22, .op (.bin .lss .scalar (.tmp 19) (.tmp 21)), none⟩,
  ⟨some 23, .op (.mv (.tmp 22)), none⟩,
  ⟨some 24, .op (.mv (.tmp 7)), some (23, true)⟩,
  ⟨some 25, .op (.bin .lss .scalar (.tmp 24) (.const (.int .i64 60))), some (23, true)⟩,
  ⟨some 26, .op (.pick (.tmp 23) (.tmp 25) (.const (.bool false))), none⟩]) (.cond (.tmp 26) .skip (.exit 0))) (.seq [8, 43, 44, 45] (.block 1 (.seq [29, 30, 31, 32, 33] (.region [⟨some 29, .op (.mv (.tmp 0)), none⟩,
  ⟨some 30, .op (.mv (.tmp 7)), none⟩,
  ⟨some 31, .op (.idxSl 1 (.tmp 29) (.tmp 30)), none⟩,
  ⟨some 32, .op (.load none (.tmp 31)), none⟩,
  ⟨some 33, .call f_milestonelaw3_within [(.tmp 32), (.const (.int .i64 30))], none⟩,
  ⟨some 8, .op (.mv (.tmp 33)), none⟩]) (.seq [42] (.seq [34, 35, 36, 37, 38, 39, 40, 41] (.regionD 76 [⟨0, ⟨some 76, .op (.mv (.tmp 5)), none⟩, []⟩,
  ⟨1, ⟨some 77, .op (.mv (.tmp 8)), none⟩, []⟩,
  ⟨2, ⟨some 78, .op (.mv (.tmp 1)), none⟩, []⟩,
  ⟨4, ⟨some 80, .op (.mv (.tmp 6)), none⟩, []⟩,
  ⟨5, ⟨some 81, .op (.mv (.tmp 8)), none⟩, []⟩,
  ⟨6, ⟨some 82, .op (.idxSl 1 (.tmp 80) (.tmp 81)), none⟩, []⟩,
  ⟨7, ⟨some 83, .op (.load none (.tmp 82)), none⟩, []⟩,
  ⟨3, ⟨some 79, .call f_queue_Queue_Put [(.tmp 76), (.tmp 77), (.tmp 78)], none⟩, [(83, ⟨some 83, .op (.load none (.tmp 82)), none⟩)]⟩,
  ⟨8, ⟨some 84, .op (.bin .eql .bool (.tmp 79) (.tmp 83)), none⟩, []⟩] [(34, 76), (35, 77), (36, 78), (37, 79), (38, 80), (39, 81), (40, 82), (41, 83), (42, 84)]) (.cond (.tmp 42) (.seq [0, 1, 5, 6, 7, 8, 42] (.region [⟨some 4, .op (.mv (.const (.bool false))), none⟩]) .ret) .skip)) (.region [⟨some 43, .op (.mv (.tmp 6)), none⟩,
  ⟨some 44, .op (.mv (.tmp 8)), none⟩,
  ⟨some 45, .op (.idxSl 1 (.tmp 43) (.tmp 44)), none⟩,
  ⟨none, .op (.store 1 (.tmp 45) (.const (.bool true))), none⟩])))) (.region [⟨some 27, .op (.mv (.tmp 7)), none⟩,
  ⟨some 28, .op (.bin .add .scalar (.tmp 27) (.const (.int .i64 1))), none⟩,
  ⟨some 7, .op (.mv (.tmp 28)), none⟩]))
noncomputable def milestonelaw3_QueueEven_c2 : MCode := .seq [47] (.seq [46] (.region [⟨some 46, .op (.mv (.tmp 9)), none⟩,
  ⟨some 47, .op (.bin .lss .scalar (.tmp 46) (.const (.int .i64 30))), none⟩]) (.cond (.tmp 47) .skip (.exit 2))) (.seq [54, 72] (.block 3 (.seq [54] (.seq [50, 51, 52, 53] (.region [⟨some 50, .op (.mv (.tmp 6)), none⟩,
  ⟨some 51, .op (.mv (.tmp 9)), none⟩,
  ⟨some 52, .op (.idxSl 1 (.tmp 50) (.tmp 51)), none⟩,
  ⟨some 53, .op (.load none (.tmp 52)), none⟩,
  ⟨some 54, .op (.un .not (.tmp 53)), none⟩]) (.cond (.tmp 54) (.exit 3) .skip)) (.seq [55, 56, 57, 58, 59, 60] (.region [⟨some 56, .op (.mv (.tmp 5)), none⟩,
  ⟨some 57, .call f_queue_Queue_Pop [(.tmp 56)], none⟩,
  ⟨some 55, .op (.mv (.tmp 57)), none⟩,
  ⟨some 58, .op (.extract 0 (.tmp 55)), none⟩,
  ⟨some 59, .op (.extract 1 (.tmp 55)), none⟩,
  ⟨some 60, .op (.extract 2 (.tmp 55)), none⟩,
  ⟨some 10, .op (.mv (.tmp 58)), none⟩,
  ⟨some 11, .op (.mv (.tmp 59)), none⟩,
  ⟨some 12, .op (.mv (.tmp 60)), none⟩]) (.seq [10, 11, 12, 61, 62, 63, 64, 65, 66, 67, 68, 69, 70, 71] (.region [⟨some 61, .op (.mv (.tmp 12)), none⟩,
  ⟨some 62, .op (.un .not (.tmp 61)), none⟩,
  ⟨some 63, .op (.mv (.tmp 62)), none⟩,
  ⟨some 64, .op (.mv (.tmp 10)), some (63, false)⟩,
  ⟨some 65, .op (.mv (.tmp 9)), some (63, false)⟩,
  ⟨some 66, .op (.bin .neq .scalar (.tmp 64) (.tmp 65)), some (63, false)⟩,
  ⟨some 67, .op (.pick (.tmp 63) (.const (.bool true)) (.tmp 66)), none⟩,
  ⟨some 68, .op (.mv (.tmp 67)), none⟩,
  ⟨some 69, .op (.mv (.tmp 11)), some (68, false)⟩,
  ⟨some 70, .op (.mv (.tmp 1)), some (68, false)⟩,
  ⟨some 71, .op (.bin .neq .scalar (.tmp 69) (.tmp 70)), some (68, false)⟩,
  ⟨some 72, .op (.pick (.tmp 68) (.const (.bool true)) (.tmp 71)), none⟩]) (.cond (.tmp 72) (.seq [1, 5, 6, 9, 72] (.region [⟨some 4, .op (.mv (.const (.bool false))), none⟩]) .ret) .skip))))) (.region [⟨some 48, .op (.mv (.tmp 9)), none⟩,
  ⟨some 49, .op (.bin .add .scalar (.tmp 48) (.const (.int .i64 1))), none⟩,
  ⟨some 9, .op (.mv (.tmp 49)), none⟩]))
noncomputable def milestonelaw3_QueueEven_c3 : MCode := .seq [5, 73, 74, 75] (.region [⟨some 73, .op (.mv (.tmp 5)), none⟩,
  ⟨some 74, .call f_queue_Queue_Len [(.tmp 73)], none⟩,
  ⟨some 75, .op (.bin .eql .scalar (.tmp 74) (.const (.int .i64 0))), none⟩,
  ⟨some 4, .op (.mv (.tmp 75)), none⟩]) .ret
noncomputable def milestonelaw3_QueueEven_c4 : MCode := .seq [1, 6, 9, 47] (.seq [] (.region [⟨some 9, .op (.mv (.const (.int .i64 0))), none⟩]) (.block 2 (.loop [48, 49] milestonelaw3_QueueEven_c2))) (.lab milestonelaw3_QueueEven_c3)
def milestonelaw3_QueueEven_rs : Res := [(4, none)]
noncomputable def milestonelaw3_QueueEven_mf : MFn := ⟨76, milestonelaw3_QueueEven_rs, .seq [4] (.region [⟨some 4, .op (.mv (.const (.bool false))), none⟩]) (.seq [14] (.seq [13] (.region [⟨some 13, .call f_milestonelaw3_known [], none⟩,
  ⟨some 14, .op (.un .not (.tmp 13)), none⟩]) (.cond (.tmp 14) (.seq [0, 1, 14] (.region [⟨some 4, .op (.mv (.const (.bool false))), none⟩]) .ret) .skip)) (.seq [15] (.region [⟨some 15, .call f_queue_New [(.const (.int .i64 30))], none⟩,
  ⟨some 5, .op (.mv (.tmp 15)), none⟩]) (.seq [17] (.seq [16] (.region [⟨some 16, .op (.mv (.tmp 5)), none⟩,
  ⟨some 17, .op (.bin .eql .ptr (.tmp 16) (.const .nilp)), none⟩]) (.cond (.tmp 17) (.seq [0, 1, 5, 17] (.region [⟨some 4, .op (.mv (.const (.bool false))), none⟩]) .ret) .skip)) (.seq [18] (.region [⟨some 18, .op (.mkSlice [.bool false] 1 1 (.const (.int .i64 30)) (.const (.int .i64 30))), none⟩,
  ⟨some 6, .op (.mv (.tmp 18)), none⟩]) (.seq [0, 7, 26] (.seq [] (.region [⟨some 7, .op (.mv (.const (.int .i64 0))), none⟩]) (.block 0 (.loop [27, 28] milestonelaw3_QueueEven_c1))) (.lab milestonelaw3_QueueEven_c4))))))⟩
noncomputable def milestonelaw3_QueueEven_l1 (T : Tab) (k j0 : Nat) (order0 key1 q5 there6 i7 : AV) (h : Heap) : Option (AV × Heap) :=
  loopB T k milestonelaw3_QueueEven_rs j0 [27, 28] milestonelaw3_QueueEven_c1 [.blk 0, .seq [0, 7, 26] (.lab milestonelaw3_QueueEven_c4)] [order0, key1, .undef, .undef, .undef, q5, there6, i7, .undef, .undef, .undef, .undef, .undef, .undef, .undef, .undef, .undef, .undef, .undef, .undef, .undef, .undef, .undef, .undef, .undef, .undef, .undef, .undef, .undef, .undef, .undef, .undef, .undef, .undef, .undef, .undef, .undef, .undef, .undef, .undef, .undef, .undef, .undef, .undef, .undef, .undef, .undef, .undef, .undef, .undef, .undef, .undef, .undef, .undef, .undef, .undef, .undef, .undef, .undef, .undef, .undef, .undef, .undef, .undef, .undef, .undef, .undef, .undef, .undef, .undef, .undef, .undef, .undef, .undef, .undef, .undef] h
noncomputable def milestonelaw3_QueueEven_b2 (T : Tab) (k : Nat) (key1 q5 there6 : AV) (h : Heap) : Option (AV × Heap) :=
  evB T k milestonelaw3_QueueEven_rs milestonelaw3_QueueEven_c4 [] [.undef, key1, .undef, .undef, .undef, q5, there6, .undef, .undef, .undef, .undef, .undef, .undef, .undef, .undef, .undef, .undef, .undef, .undef, .undef, .undef, .undef, .undef, .undef, .undef, .undef, .undef, .undef, .undef, .undef, .undef, .undef, .undef, .undef, .undef, .undef, .undef, .undef, .undef, .undef, .undef, .undef, .undef, .undef, .undef, .undef, .undef, .undef, .undef, .undef, .undef, .undef, .undef, .undef, .undef, .undef, .undef, .undef, .undef, .undef, .undef, .undef, .undef, .undef, .undef, .undef, .undef, .undef, .undef, .undef, .undef, .undef, .undef, .undef, .undef, .undef] h
noncomputable def milestonelaw3_QueueEven_l3 (T : Tab) (k j0 : Nat) (key1 q5 there6 id9 : AV) (h : Heap) : Option (AV × Heap) :=
  loopB T k milestonelaw3_QueueEven_rs j0 [48, 49] milestonelaw3_QueueEven_c2 [.blk 2, .seq [1, 6, 9, 47] (.lab milestonelaw3_QueueEven_c3)] [.undef, key1, .undef, .undef, .undef, q5, there6, .undef, .undef, id9, .undef, .undef, .undef, .undef, .undef, .undef, .undef, .undef, .undef, .undef, .undef, .undef, .undef, .undef, .undef, .undef, .undef, .undef, .undef, .undef, .undef, .undef, .undef, .undef, .undef, .undef, .undef, .undef, .undef, .undef, .undef, .undef, .undef, .undef, .undef, .undef, .undef, .undef, .undef, .undef, .undef, .undef, .undef, .undef, .undef, .undef, .undef, .undef, .undef, .undef, .undef, .undef, .undef, .undef, .undef, .undef, .undef, .undef, .undef, .undef, .undef, .undef, .undef, .undef, .undef, .undef] h
noncomputable def milestonelaw3_QueueEven_b4 (T : Tab) (k : Nat) (q5 : AV) (h : Heap) : Option (AV × Heap) :=
  evB T k milestonelaw3_QueueEven_rs milestonelaw3_QueueEven_c3 [] [.undef, .undef, .undef, .undef, .undef, q5, .undef, .undef, .undef, .undef, .undef, .undef, .undef, .undef, .undef, .undef, .undef, .undef, .undef, .undef, .undef, .undef, .undef, .undef, .undef, .undef, .undef, .undef, .undef, .undef, .undef, .undef, .undef, .undef, .undef, .undef, .undef, .undef, .undef, .undef, .undef, .undef, .undef, .undef, .undef, .undef, .undef, .undef, .undef, .undef, .undef, .undef, .undef, .undef, .undef, .undef, .undef, .undef, .undef, .undef, .undef, .undef, .undef, .undef, .undef, .undef, .undef, .undef, .undef, .undef, .undef, .undef, .undef, .undef, .undef, .undef] h
theorem milestonelaw3_QueueEven_b4_eq (T : Tab) (k : Nat) (q5 : AV) (h : Heap) : milestonelaw3_QueueEven_b4 T k q5 h =
    ob (evalFn T k f_queue_Queue_Len [q5] h) fun t74_1 h_2 =>
    oa (binV .eql .scalar t74_1 (.int .i64 0)) fun t75_3 =>
    some (t75_3, h_2) := blockEq (by kernel_rfl)
theorem milestonelaw3_QueueEven_l3_eq (T : Tab) (k j0 : Nat) (key1 q5 there6 id9 : AV) (h : Heap) : milestonelaw3_QueueEven_l3 T k (j0 + 1) key1 q5 there6 id9 h =
    oa (binV .lss .scalar id9 (.int .i64 30)) fun t47_1 =>
    cond2 t47_1
      (
      oa (idxS 1 there6 id9) fun t52_2 =>
      oa (ld1 h t52_2) fun t53_3 =>
      oa (unV .not t53_3) fun t54_4 =>
      cond2 t54_4
        (
        oa (binV .add .scalar id9 (.int .i64 1)) fun t49_5 =>
        milestonelaw3_QueueEven_l3 T k j0 key1 q5 there6 t49_5 h
        )
        (
        ob (evalFn T k f_queue_Queue_Pop [q5] h) fun t57_6 h_7 =>
        oa (extr 0 t57_6) fun t58_8 =>
        oa (extr 1 t57_6) fun t59_9 =>
        oa (extr 2 t57_6) fun t60_10 =>
        oa (unV .not t60_10) fun t62_11 =>
        ob (gd t62_11 false (some (t58_8, h_7)) h_7) fun t64_12 h_13 =>
        ob (gd t62_11 false (some (id9, h_13)) h_13) fun t65_14 h_15 =>
        ob (gd t62_11 false (pure1 h_15 (binV .neq .scalar t64_12 t65_14)) h_15) fun t66_16 h_17 =>
        oa (pickV t62_11 (.bool true) t66_16) fun t67_18 =>
        ob (gd t67_18 false (some (t59_9, h_17)) h_17) fun t69_19 h_20 =>
        ob (gd t67_18 false (some (key1, h_20)) h_20) fun t70_21 h_22 =>
        ob (gd t67_18 false (pure1 h_22 (binV .neq .scalar t69_19 t70_21)) h_22) fun t71_23 h_24 =>
        oa (pickV t67_18 (.bool true) t71_23) fun t72_25 =>
        cond2 t72_25
          (
          some ((.bool false), h_24)
          )
          (
          oa (binV .add .scalar id9 (.int .i64 1)) fun t49_26 =>
          milestonelaw3_QueueEven_l3 T k j0 key1 q5 there6 t49_26 h_24
          )
        )
      )
      (
      milestonelaw3_QueueEven_b4 T k q5 h
      ) := loopEq (by kernel_rfl)
theorem milestonelaw3_QueueEven_b2_eq (T : Tab) (k : Nat) (key1 q5 there6 : AV) (h : Heap) : milestonelaw3_QueueEven_b2 T k key1 q5 there6 h =
    milestonelaw3_QueueEven_l3 T k k key1 q5 there6 (.int .i64 0) h := blockEq (by kernel_rfl)
theorem milestonelaw3_QueueEven_l1_eq (T : Tab) (k j0 : Nat) (order0 key1 q5 there6 i7 : AV) (h : Heap) : milestonelaw3_QueueEven_l1 T k (j0 + 1) order0 key1 q5 there6 i7 h =
    oa (lenS order0) fun t21_1 =>
    oa (binV .lss .scalar i7 t21_1) fun t22_2 =>
    ob (gd t22_2 true (some (i7, h)) h) fun t24_3 h_4 =>
    ob (gd t22_2 true (pure1 h_4 (binV .lss .scalar t24_3 (.int .i64 60))) h_4) fun t25_5 h_6 =>
    oa (pickV t22_2 t25_5 (.bool false)) fun t26_7 =>
    cond2 t26_7
      (
      oa (idxS 1 order0 i7) fun t31_8 =>
      oa (ld1 h_6 t31_8) fun t32_9 =>
      ob (evalFn T k f_milestonelaw3_within [t32_9, (.int .i64 30)] h_6) fun t33_10 h_11 =>
      oa (idxS 1 there6 t33_10) fun t82_12 =>
      oa (ld1 h_11 t82_12) fun t83_13 =>
      ob (evalFn T k f_queue_Queue_Put [q5, t33_10, key1] h_11) fun t79_14 h_15 =>
      chk ((sameB (pure1 h_15 (ld1 h_15 t82_12)) t83_13 && true)) <|
      oa (binV .eql .bool t79_14 t83_13) fun t84_16 =>
      cond2 t84_16
        (
        some ((.bool false), h_15)
        )
        (
        oa (idxS 1 there6 t33_10) fun t45_17 =>
        oh (stN 1 h_15 t45_17 (.bool true)) fun h_18 =>
        oa (binV .add .scalar i7 (.int .i64 1)) fun t28_19 =>
        milestonelaw3_QueueEven_l1 T k j0 order0 key1 q5 there6 t28_19 h_18
        )
      )
      (
      milestonelaw3_QueueEven_b2 T k key1 q5 there6 h_6
      ) := loopEq (by kernel_rfl)
theorem milestonelaw3_QueueEven_eq (T : Tab) (k : Nat) (order0 key1 : AV) (h : Heap) : runF T k milestonelaw3_QueueEven_mf [order0, key1] h =
    ob (evalFn T k f_milestonelaw3_known [] h) fun t13_1 h_2 =>
    oa (unV .not t13_1) fun t14_3 =>
    cond2 t14_3
      (
      some ((.bool false), h_2)
      )
      (
      ob (evalFn T k f_queue_New [(.int .i64 30)] h_2) fun t15_4 h_5 =>
      oa (binV .eql .ptr t15_4 .nilp) fun t17_6 =>
      cond2 t17_6
        (
        some ((.bool false), h_5)
        )
        (
        ob (mkSl [.bool false] 1 1 (.int .i64 30) (.int .i64 30) h_5) fun t18_7 h_8 =>
        milestonelaw3_QueueEven_l1 T k k order0 key1 t15_4 t18_7 (.int .i64 0) h_8
        )
      ) := runEq (by kernel_rfl)
def milestonelaw3_QueueGreat_rs : Res := [(6, none)]
noncomputable def milestonelaw3_QueueGreat_mf : MFn := ⟨76, milestonelaw3_QueueGreat_rs, .seq [6] (.region [⟨some 6, .op (.mv (.const (.bool false))), none⟩]) (.seq [18] (.seq [17] (.region [⟨some 17, .call f_milestonelaw3_known [], none⟩,
  ⟨some 18, .op (.un .not (.tmp 17)), none⟩]) (.cond (.tmp 18) (.seq [0, 1, 2, 18] (.region [⟨some 6, .op (.mv (.const (.bool false))), none⟩]) .ret) .skip)) (.seq [0, 19, 20, 21] (.region [⟨some 19, .op (.mv (.tmp 0)), none⟩,
  ⟨some 20, .call f_milestonelaw3_within [(.tmp 19), (.const (.int .i64 50000))], none⟩,
  ⟨some 21, .op (.bin .add .scalar (.const (.int .i64 1)) (.tmp 20)), none⟩,
  ⟨some 7, .op (.mv (.tmp 21)), none⟩]) (.seq [22, 23] (.region [⟨some 22, .op (.mv (.tmp 7)), none⟩,
  ⟨some 23, .call f_queue_New [(.tmp 22)], none⟩,
  ⟨some 8, .op (.mv (.tmp 23)), none⟩]) (.seq [25] (.seq [24] (.region [⟨some 24, .op (.mv (.tmp 8)), none⟩,
  ⟨some 25, .op (.bin .eql .ptr (.tmp 24) (.const .nilp)), none⟩]) (.cond (.tmp 25) (.seq [1, 2, 7, 8, 25] (.region [⟨some 6, .op (.mv (.const (.bool false))), none⟩]) .ret) .skip)) (.seq [1, 2, 7, 26, 27, 28, 29, 30, 31] (.region [⟨some 26, .op (.mv (.tmp 1)), none⟩,
  ⟨some 27, .op (.mv (.tmp 7)), none⟩,
  ⟨some 28, .call f_milestonelaw3_within [(.tmp 26), (.tmp 27)], none⟩,
  ⟨some 29, .op (.mv (.tmp 2)), none⟩,
  ⟨some 30, .op (.mv (.tmp 7)), none⟩,
  ⟨some 31, .call f_milestonelaw3_within [(.tmp 29), (.tmp 30)], none⟩,
  ⟨some 9, .op (.mv (.tmp 28)), none⟩,
  ⟨some 10, .op (.mv (.tmp 31)), none⟩]) (.seq [32, 33, 34] (.region [⟨some 32, .op (.mv (.tmp 8)), none⟩,
  ⟨some 33, .op (.mv (.tmp 9)), none⟩,
  ⟨some 34, .call f_queue_Queue_Put [(.tmp 32), (.tmp 33), (.const (.int .i64 9223372036854775807))], none⟩]) (.seq [35, 36, 37] (.region [⟨some 35, .op (.mv (.tmp 8)), none⟩,
  ⟨some 36, .op (.mv (.tmp 10)), none⟩,
  ⟨some 37, .call f_queue_Queue_Put [(.tmp 35), (.tmp 36), (.const (.int .i64 (-9223372036854775808)))], none⟩]) (.seq [38, 39, 40, 41, 42, 43] (.region [⟨some 39, .op (.mv (.tmp 8)), none⟩,
  ⟨some 40, .call f_queue_Queue_Pop [(.tmp 39)], none⟩,
  ⟨some 38, .op (.mv (.tmp 40)), none⟩,
  ⟨some 41, .op (.extract 0 (.tmp 38)), none⟩,
  ⟨some 42, .op (.extract 1 (.tmp 38)), none⟩,
  ⟨some 43, .op (.extract 2 (.tmp 38)), none⟩,
  ⟨some 11, .op (.mv (.tmp 41)), none⟩,
  ⟨some 12, .op (.mv (.tmp 42)), none⟩,
  ⟨some 13, .op (.mv (.tmp 43)), none⟩]) (.seq [54] (.seq [11, 12, 13, 44, 45, 46, 47, 48, 49, 50, 51, 52, 53] (.region [⟨some 44, .op (.mv (.tmp 13)), none⟩,
  ⟨some 45, .op (.un .not (.tmp 44)), none⟩,
  ⟨some 46, .op (.mv (.tmp 45)), none⟩,
  ⟨some 47, .op (.mv (.tmp 11)), some (46, false)⟩,
  ⟨some 48, .op (.mv (.tmp 10)), some (46, false)⟩,
  ⟨some 49, .op (.bin .neq .scalar (.tmp 47) (.tmp 48)), some (46, false)⟩,
  ⟨some 50, .op (.pick (.tmp 46) (.const (.bool true)) (.tmp 49)), none⟩,
  ⟨some 51, .op (.mv (.tmp 50)), none⟩,
  ⟨some 52, .op (.mv (.tmp 12)), some (51, false)⟩,
  ⟨some 53, .op (.bin .neq .scalar (.tmp 52) (.const (.int .i64 (-9223372036854775808)))), some (51, false)⟩,
  ⟨some 54, .op (.pick (.tmp 51) (.const (.bool true)) (.tmp 53)), none⟩]) (.cond (.tmp 54) (.seq [8, 9, 10, 54] (.region [⟨some 6, .op (.mv (.const (.bool false))), none⟩]) .ret) .skip)) (.seq [8, 55, 56, 57, 58, 59, 60] (.region [⟨some 56, .op (.mv (.tmp 8)), none⟩,
  ⟨some 57, .call f_queue_Queue_Pop [(.tmp 56)], none⟩,
  ⟨some 55, .op (.mv (.tmp 57)), none⟩,
  ⟨some 58, .op (.extract 0 (.tmp 55)), none⟩,
  ⟨some 59, .op (.extract 1 (.tmp 55)), none⟩,
  ⟨some 60, .op (.extract 2 (.tmp 55)), none⟩,
  ⟨some 14, .op (.mv (.tmp 58)), none⟩,
  ⟨some 15, .op (.mv (.tmp 59)), none⟩,
  ⟨some 16, .op (.mv (.tmp 60)), none⟩]) (.seq [63] (.seq [10, 61, 62] (.region [⟨some 61, .op (.mv (.tmp 9)), none⟩,
  ⟨some 62, .op (.mv (.tmp 10)), none⟩,
  ⟨some 63, .op (.bin .eql .scalar (.tmp 61) (.tmp 62)), none⟩]) (.cond (.tmp 63) (.seq [9, 14, 15, 16, 63, 64, 65] (.region [⟨some 64, .op (.mv (.tmp 16)), none⟩,
  ⟨some 65, .op (.un .not (.tmp 64)), none⟩,
  ⟨some 6, .op (.mv (.tmp 65)), none⟩]) .ret) .skip)) (.seq [9, 14, 15, 16, 66, 67, 68, 69, 70, 71, 72, 73, 74, 75] (.region [⟨some 66, .op (.mv (.tmp 16)), none⟩,
  ⟨some 67, .op (.mv (.tmp 66)), none⟩,
  ⟨some 68, .op (.mv (.tmp 14)), some (67, true)⟩,
  ⟨some 69, .op (.mv (.tmp 9)), some (67, true)⟩,
  ⟨some 70, .op (.bin .eql .scalar (.tmp 68) (.tmp 69)), some (67, true)⟩,
  ⟨some 71, .op (.pick (.tmp 67) (.tmp 70) (.const (.bool false))), none⟩,
  ⟨some 72, .op (.mv (.tmp 71)), none⟩,
  ⟨some 73, .op (.mv (.tmp 15)), some (72, true)⟩,
  ⟨some 74, .op (.bin .eql .scalar (.tmp 73) (.const (.int .i64 9223372036854775807))), some (72, true)⟩,
  ⟨some 75, .op (.pick (.tmp 72) (.tmp 74) (.const (.bool false))), none⟩,
  ⟨some 6, .op (.mv (.tmp 75)), none⟩]) .ret))))))))))))⟩
theorem milestonelaw3_QueueGreat_eq (T : Tab) (k : Nat) (n0 a1 b2 : AV) (h : Heap) : runF T k milestonelaw3_QueueGreat_mf [n0, a1, b2] h =
    ob (evalFn T k f_milestonelaw3_known [] h) fun t17_1 h_2 =>
    oa (unV .not t17_1) fun t18_3 =>
    cond2 t18_3
      (
      some ((.bool false), h_2)
      )
      (
      ob (evalFn T k f_milestonelaw3_within [n0, (.int .i64 50000)] h_2) fun t20_4 h_5 =>
      oa (binV .add .scalar (.int .i64 1) t20_4) fun t21_6 =>
      ob (evalFn T k f_queue_New [t21_6] h_5) fun t23_7 h_8 =>
      oa (binV .eql .ptr t23_7 .nilp) fun t25_9 =>
      cond2 t25_9
        (
        some ((.bool false), h_8)
        )
        (
        ob (evalFn T k f_milestonelaw3_within [a1, t21_6] h_8) fun t28_10 h_11 =>
        ob (evalFn T k f_milestonelaw3_within [b2, t21_6] h_11) fun t31_12 h_13 =>
        ob (evalFn T k f_queue_Queue_Put [t23_7, t28_10, (.int .i64 9223372036854775807)] h_13) fun t34_14 h_15 =>
        ob (evalFn T k f_queue_Queue_Put [t23_7, t31_12, (.int .i64 (-9223372036854775808))] h_15) fun t37_16 h_17 =>
        ob (evalFn T k f_queue_Queue_Pop [t23_7] h_17) fun t40_18 h_19 =>
        oa (extr 0 t40_18) fun t41_20 =>
        oa (extr 1 t40_18) fun t42_21 =>
        oa (extr 2 t40_18) fun t43_22 =>
        oa (unV .not t43_22) fun t45_23 =>
        ob (gd t45_23 false (some (t41_20, h_19)) h_19) fun t47_24 h_25 =>
        ob (gd t45_23 false (some (t31_12, h_25)) h_25) fun t48_26 h_27 =>
        ob (gd t45_23 false (pure1 h_27 (binV .neq .scalar t47_24 t48_26)) h_27) fun t49_28 h_29 =>
        oa (pickV t45_23 (.bool true) t49_28) fun t50_30 =>
        ob (gd t50_30 false (some (t42_21, h_29)) h_29) fun t52_31 h_32 =>
        ob (gd t50_30 false (pure1 h_32 (binV .neq .scalar t52_31 (.int .i64 (-9223372036854775808)))) h_32) fun t53_33 h_34 =>
        oa (pickV t50_30 (.bool true) t53_33) fun t54_35 =>
        cond2 t54_35
          (
          some ((.bool false), h_34)
          )
          (
          ob (evalFn T k f_queue_Queue_Pop [t23_7] h_34) fun t57_36 h_37 =>
          oa (extr 0 t57_36) fun t58_38 =>
          oa (extr 1 t57_36) fun t59_39 =>
          oa (extr 2 t57_36) fun t60_40 =>
          oa (binV .eql .scalar t28_10 t31_12) fun t63_41 =>
          cond2 t63_41
            (
            oa (unV .not t60_40) fun t65_42 =>
            some (t65_42, h_37)
            )
            (
            ob (gd t60_40 true (some (t58_38, h_37)) h_37) fun t68_43 h_44 =>
            ob (gd t60_40 true (some (t28_10, h_44)) h_44) fun t69_45 h_46 =>
            ob (gd t60_40 true (pure1 h_46 (binV .eql .scalar t68_43 t69_45)) h_46) fun t70_47 h_48 =>
            oa (pickV t60_40 t70_47 (.bool false)) fun t71_49 =>
            ob (gd t71_49 true (some (t59_39, h_48)) h_48) fun t73_50 h_51 =>
            ob (gd t71_49 true (pure1 h_51 (binV .eql .scalar t73_50 (.int .i64 9223372036854775807))) h_51) fun t74_52 h_53 =>
            oa (pickV t71_49 t74_52 (.bool false)) fun t75_54 =>
            some (t75_54, h_53)
            )
          )
        )
      ) := runEq (by kernel_rfl)
noncomputable def milestonelaw3_QueuePlays_c1 : MCode := .cond (.tmp 80) (.seq [12, 13, 70, 80, 83, 84, 85, 86, 87, 88] (.region [⟨some 84, .op (.mv (.tmp 8)), none⟩,
  ⟨some 85, .call f_queue_Queue_Pop [(.tmp 84)], none⟩,
  ⟨some 83, .op (.mv (.tmp 85)), none⟩,
  ⟨some 86, .op (.extract 0 (.tmp 83)), none⟩,
  ⟨some 87, .op (.extract 1 (.tmp 83)), none⟩,
  ⟨some 88, .op (.extract 2 (.tmp 83)), none⟩,
  ⟨some 14, .op (.mv (.tmp 86)), none⟩,
  ⟨some 15, .op (.mv (.tmp 87)), none⟩,
  ⟨some 16, .op (.mv (.tmp 88)), none⟩]) (.seq [89, 90, 91, 92, 93, 94] (.region [⟨some 90, .op (.mv (.tmp 9)), none⟩,
  ⟨some 91, .call f_milestoneref3_Queue_Pop [(.tmp 90)], none⟩,
  ⟨some 89, .op (.mv (.tmp 91)), none⟩,
  ⟨some 92, .op (.extract 0 (.tmp 89)), none⟩,
  ⟨some 93, .op (.extract 1 (.tmp 89)), none⟩,
  ⟨some 94, .op (.extract 2 (.tmp 89)), none⟩,
  ⟨some 17, .op (.mv (.tmp 92)), none⟩,
  ⟨some 18, .op (.mv (.tmp 93)), none⟩,
  ⟨some 19, .op (.mv (.tmp 94)), none⟩]) (.seq [14, 15, 16, 17, 18, 19, 95, 96, 97, 98, 99, 100, 101, 102, 103, 104, 105, 106] (.region [⟨some 95, .op (.mv (.tmp 14)), none⟩,
  ⟨some 96, .op (.mv (.tmp 17)), none⟩,
  ⟨some 97, .op (.bin .neq .scalar (.tmp 95) (.tmp 96)), none⟩,
  ⟨some 98, .op (.mv (.tmp 97)), none⟩,
  ⟨some 99, .op (.mv (.tmp 15)), some (98, false)⟩,
  ⟨some 100, .op (.mv (.tmp 18)), some (98, false)⟩,
  ⟨some 101, .op (.bin .neq .scalar (.tmp 99) (.tmp 100)), some (98, false)⟩,
  ⟨some 102, .op (.pick (.tmp 98) (.const (.bool true)) (.tmp 101)), none⟩,
  ⟨some 103, .op (.mv (.tmp 102)), none⟩,
  ⟨some 104, .op (.mv (.tmp 16)), some (103, false)⟩,
  ⟨some 105, .op (.mv (.tmp 19)), some (103, false)⟩,
  ⟨some 106, .op (.bin .neq .bool (.tmp 104) (.tmp 105)), some (103, false)⟩,
  ⟨some 107, .op (.pick (.tmp 103) (.const (.bool true)) (.tmp 106)), none⟩]) (.cond (.tmp 107) (.seq [1, 2, 7, 8, 9, 10, 107] (.region [⟨some 6, .op (.mv (.const (.bool false))), none⟩]) .ret) .skip)))) (.seq [70, 80, 109] (.region [⟨some 109, .op (.bin .eql .scalar (.tmp 70) (.const (.int .i64 2))), none⟩,
  ⟨some 108, .op (.mv (.tmp 109)), none⟩]) (.cond (.tmp 108) (.seq [13, 108, 110, 111, 112, 113, 114, 115] (.region [⟨some 111, .op (.mv (.tmp 8)), none⟩,
  ⟨some 112, .op (.mv (.tmp 12)), none⟩,
  ⟨some 113, .call f_queue_Queue_Key [(.tmp 111), (.tmp 112)], none⟩,
  ⟨some 110, .op (.mv (.tmp 113)), none⟩,
  ⟨some 114, .op (.extract 0 (.tmp 110)), none⟩,
  ⟨some 115, .op (.extract 1 (.tmp 110)), none⟩,
  ⟨some 20, .op (.mv (.tmp 114)), none⟩,
  ⟨some 21, .op (.mv (.tmp 115)), none⟩]) (.seq [12, 116, 117, 118, 119, 120, 121] (.region [⟨some 117, .op (.mv (.tmp 9)), none⟩,
  ⟨some 118, .op (.mv (.tmp 12)), none⟩,
  ⟨some 119, .call f_milestoneref3_Queue_Key [(.tmp 117), (.tmp 118)], none⟩,
  ⟨some 116, .op (.mv (.tmp 119)), none⟩,
  ⟨some 120, .op (.extract 0 (.tmp 116)), none⟩,
  ⟨some 121, .op (.extract 1 (.tmp 116)), none⟩,
  ⟨some 22, .op (.mv (.tmp 120)), none⟩,
  ⟨some 23, .op (.mv (.tmp 121)), none⟩]) (.seq [20, 21, 22, 23, 122, 123, 124, 125, 126, 127, 128] (.region [⟨some 122, .op (.mv (.tmp 20)), none⟩,
  ⟨some 123, .op (.mv (.tmp 22)), none⟩,
  ⟨some 124, .op (.bin .neq .scalar (.tmp 122) (.tmp 123)), none⟩,
  ⟨some 125, .op (.mv (.tmp 124)), none⟩,
  ⟨some 126, .op (.mv (.tmp 21)), some (125, false)⟩,
  ⟨some 127, .op (.mv (.tmp 23)), some (125, false)⟩,
  ⟨some 128, .op (.bin .neq .bool (.tmp 126) (.tmp 127)), some (125, false)⟩,
  ⟨some 129, .op (.pick (.tmp 125) (.const (.bool true)) (.tmp 128)), none⟩]) (.cond (.tmp 129) (.seq [1, 2, 7, 8, 9, 10, 129] (.region [⟨some 6, .op (.mv (.const (.bool false))), none⟩]) .ret) .skip)))) (.seq [12, 13, 71, 72, 73, 74, 75, 76, 77, 78, 108] (.region [⟨some 71, .op (.mv (.tmp 8)), none⟩,
  ⟨some 72, .op (.mv (.tmp 12)), none⟩,
  ⟨some 73, .op (.mv (.tmp 13)), none⟩,
  ⟨some 74, .call f_queue_Queue_Put [(.tmp 71), (.tmp 72), (.tmp 73)], none⟩,
  ⟨some 75, .op (.mv (.tmp 9)), none⟩,
  ⟨some 76, .op (.mv (.tmp 12)), none⟩,
  ⟨some 77, .op (.mv (.tmp 13)), none⟩,
  ⟨some 78, .call f_milestoneref3_Queue_Put [(.tmp 75), (.tmp 76), (.tmp 77)], none⟩,
  ⟨some 79, .op (.bin .neq .bool (.tmp 74) (.tmp 78)), none⟩]) (.cond (.tmp 79) (.seq [1, 2, 7, 8, 9, 10, 79] (.region [⟨some 6, .op (.mv (.const (.bool false))), none⟩]) .ret) .skip))))
noncomputable def milestonelaw3_QueuePlays_c2 : MCode := .seq [130, 131, 132, 133] (.region [⟨some 130, .op (.mv (.tmp 8)), none⟩,
  ⟨some 131, .call f_queue_Queue_Len [(.tmp 130)], none⟩,
  ⟨some 132, .op (.mv (.tmp 9)), none⟩,
  ⟨some 133, .call f_milestoneref3_Queue_Len [(.tmp 132)], none⟩,
  ⟨some 134, .op (.bin .neq .scalar (.tmp 131) (.tmp 133)), none⟩]) (.cond (.tmp 134) (.seq [1, 2, 7, 8, 9, 10, 134] (.region [⟨some 6, .op (.mv (.const (.bool false))), none⟩]) .ret) .skip)
noncomputable def milestonelaw3_QueuePlays_c3 : MCode := .seq [79, 107, 129] (.seq [66, 67, 68, 69] (.region [⟨some 66, .op (.mv (.tmp 1)), none⟩,
  ⟨some 67, .op (.mv (.tmp 10)), none⟩,
  ⟨some 68, .op (.idxSl 1 (.tmp 66) (.tmp 67)), none⟩,
  ⟨some 69, .op (.load none (.tmp 68)), none⟩,
  ⟨some 70, .call f_milestonelaw3_within [(.tmp 69), (.const (.int .i64 8))], none⟩]) (.block 2 (.seq [82] (.seq [81] (.region [⟨some 81, .op (.bin .eql .scalar (.tmp 70) (.const (.int .i64 0))), none⟩,
  ⟨some 80, .op (.mv (.tmp 81)), none⟩]) (.cond (.tmp 80) .skip (.region [⟨some 82, .op (.bin .eql .scalar (.tmp 70) (.const (.int .i64 1))), none⟩,
  ⟨some 80, .op (.mv (.tmp 82)), none⟩]))) (.lab milestonelaw3_QueuePlays_c1)))) (.lab milestonelaw3_QueuePlays_c2)
noncomputable def milestonelaw3_QueuePlays_c4 : MCode := .seq [64, 65] (.seq [11, 62, 63] (.region [⟨some 62, .op (.mv (.tmp 11)), none⟩,
  ⟨some 63, .call f_milestonelaw3_within [(.tmp 62), (.const (.int .i64 37))], none⟩,
  ⟨some 64, .op (.bin .eql .scalar (.tmp 63) (.const (.int .i64 0))), none⟩]) (.cond (.tmp 64) (.region [⟨some 65, .op (.mv (.tmp 2)), none⟩,
  ⟨some 12, .op (.mv (.tmp 65)), none⟩]) .skip)) (.lab milestonelaw3_QueuePlays_c3)
noncomputable def milestonelaw3_QueuePlays_c5 : MCode := .seq [41] (.seq [34, 35, 36, 37, 38, 39, 40] (.region [⟨some 34, .op (.mv (.tmp 10)), none⟩,
  ⟨some 35, .op (.mv (.tmp 1)), none⟩,
  ⟨some 36, .op (.lenSl (.tmp 35)), none⟩,
  ⟨some 37, .op (.bin .lss .scalar (.tmp 34) (.tmp 36)), none⟩,
  ⟨some 38, .op (.mv (.tmp 37)), none⟩,
  ⟨some 39, .op (.mv (.tmp 10)), some (38, true)⟩,
  ⟨some 40, .op (.bin .lss .scalar (.tmp 39) (.const (.int .i64 120))), some (38, true)⟩,
  ⟨some 41, .op (.pick (.tmp 38) (.tmp 40) (.const (.bool false))), none⟩]) (.cond (.tmp 41) .skip (.exit 0))) (.seq [134] (.block 1 (.seq [44, 45, 46, 47, 48] (.region [⟨some 44, .op (.mv (.tmp 1)), none⟩,
  ⟨some 45, .op (.mv (.tmp 10)), none⟩,
  ⟨some 46, .op (.idxSl 1 (.tmp 44) (.tmp 45)), none⟩,
  ⟨some 47, .op (.load none (.tmp 46)), none⟩,
  ⟨some 48, .op (.bin .quo .scalar (.tmp 47) (.const (.int .i64 8))), none⟩,
  ⟨some 11, .op (.mv (.tmp 48)), none⟩]) (.seq [49, 50, 51, 52, 53, 54, 55, 56, 57] (.region [⟨some 49, .op (.mv (.tmp 11)), none⟩,
  ⟨some 50, .op (.mv (.tmp 7)), none⟩,
  ⟨some 51, .op (.bin .add .scalar (.tmp 50) (.const (.int .i64 2))), none⟩,
  ⟨some 52, .call f_milestonelaw3_within [(.tmp 49), (.tmp 51)], none⟩,
  ⟨some 53, .op (.bin .sub .scalar (.tmp 52) (.const (.int .i64 1))), none⟩,
  ⟨some 54, .op (.mv (.tmp 11)), none⟩,
  ⟨some 55, .op (.bin .quo .scalar (.tmp 54) (.const (.int .i64 23))), none⟩,
  ⟨some 56, .call f_milestonelaw3_within [(.tmp 55), (.const (.int .i64 15))], none⟩,
  ⟨some 57, .op (.bin .sub .scalar (.tmp 56) (.const (.int .i64 3))), none⟩,
  ⟨some 12, .op (.mv (.tmp 53)), none⟩,
  ⟨some 13, .op (.mv (.tmp 57)), none⟩]) (.seq [60, 61] (.seq [58, 59] (.region [⟨some 58, .op (.mv (.tmp 11)), none⟩,
  ⟨some 59, .call f_milestonelaw3_within [(.tmp 58), (.const (.int .i64 29))], none⟩,
  ⟨some 60, .op (.bin .eql .scalar (.tmp 59) (.const (.int .i64 0))), none⟩]) (.cond (.tmp 60) (.region [⟨some 61, .op (.mv (.tmp 2)), none⟩,
  ⟨some 13, .op (.mv (.tmp 61)), none⟩]) .skip)) (.lab milestonelaw3_QueuePlays_c4))))) (.region [⟨some 42, .op (.mv (.tmp 10)), none⟩,
  ⟨some 43, .op (.bin .add .scalar (.tmp 42) (.const (.int .i64 1))), none⟩,
  ⟨some 10, .op (.mv (.tmp 43)), none⟩]))
def milestonelaw3_QueuePlays_rs : Res := [(6, none)]
noncomputable def milestonelaw3_QueuePlays_mf : MFn := ⟨135, milestonelaw3_QueuePlays_rs, .seq [6] (.region [⟨some 6, .op (.mv (.const (.bool false))), none⟩]) (.seq [25] (.seq [24] (.region [⟨some 24, .call f_milestonelaw3_known [], none⟩,
  ⟨some 25, .op (.un .not (.tmp 24)), none⟩]) (.cond (.tmp 25) (.seq [0, 1, 2, 25] (.region [⟨some 6, .op (.mv (.const (.bool false))), none⟩]) .ret) .skip)) (.seq [0, 26, 27] (.region [⟨some 26, .op (.mv (.tmp 0)), none⟩,
  ⟨some 27, .call f_milestonelaw3_within [(.tmp 26), (.const (.int .i64 20))], none⟩,
  ⟨some 7, .op (.mv (.tmp 27)), none⟩]) (.seq [28, 29, 30, 31] (.region [⟨some 28, .op (.mv (.tmp 7)), none⟩,
  ⟨some 29, .call f_queue_New [(.tmp 28)], none⟩,
  ⟨some 30, .op (.mv (.tmp 7)), none⟩,
  ⟨some 31, .call f_milestoneref3_New [(.tmp 30)], none⟩,
  ⟨some 8, .op (.mv (.tmp 29)), none⟩,
  ⟨some 9, .op (.mv (.tmp 31)), none⟩]) (.seq [33] (.seq [32] (.region [⟨some 32, .op (.mv (.tmp 8)), none⟩,
  ⟨some 33, .op (.bin .eql .ptr (.tmp 32) (.const .nilp)), none⟩]) (.cond (.tmp 33) (.seq [1, 2, 7, 8, 9, 33] (.region [⟨some 6, .op (.mv (.const (.bool false))), none⟩]) .ret) .skip)) (.seq [1, 2, 7, 8, 9, 10, 41] (.seq [] (.region [⟨some 10, .op (.mv (.const (.int .i64 0))), none⟩]) (.block 0 (.loop [42, 43] milestonelaw3_QueuePlays_c5))) (.seq [] (.region [⟨some 6, .op (.mv (.const (.bool true))), none⟩]) .ret))))))⟩
noncomputable def milestonelaw3_QueuePlays_l1 (T : Tab) (k j0 : Nat) (ns1 raw2 n7 q8 x9 i10 : AV) (h : Heap) : Option (AV × Heap) :=
  loopB T k milestonelaw3_QueuePlays_rs j0 [42, 43] milestonelaw3_QueuePlays_c5 [.blk 0, .seq [1, 2, 7, 8, 9, 10, 41] (.seq [] (.region [⟨some 6, .op (.mv (.const (.bool true))), none⟩]) .ret)] [.undef, ns1, raw2, .undef, .undef, .undef, .undef, n7, q8, x9, i10, .undef, .undef, .undef, .undef, .undef, .undef, .undef, .undef, .undef, .undef, .undef, .undef, .undef, .undef, .undef, .undef, .undef, .undef, .undef, .undef, .undef, .undef, .undef, .undef, .undef, .undef, .undef, .undef, .undef, .undef, .undef, .undef, .undef, .undef, .undef, .undef, .undef, .undef, .undef, .undef, .undef, .undef, .undef, .undef, .undef, .undef, .undef, .undef, .undef, .undef, .undef, .undef, .undef, .undef, .undef, .undef, .undef, .undef, .undef, .undef, .undef, .undef, .undef, .undef, .undef, .undef, .undef, .undef, .undef, .undef, .undef, .undef, .undef, .undef, .undef, .undef, .undef, .undef, .undef, .undef, .undef, .undef, .undef, .undef, .undef, .undef, .undef, .undef, .undef, .undef, .undef, .undef, .undef, .undef, .undef, .undef, .undef, .undef, .undef, .undef, .undef, .undef, .undef, .undef, .undef, .undef, .undef, .undef, .undef, .undef, .undef, .undef, .undef, .undef, .undef, .undef, .undef, .undef, .undef, .undef, .undef, .undef, .undef, .undef] h
noncomputable def milestonelaw3_QueuePlays_b2 (T : Tab) (k j0 : Nat) (ns1 raw2 n7 q8 x9 i10 k11 id12 key13 : AV) (h : Heap) : Option (AV × Heap) :=
  evB T k milestonelaw3_QueuePlays_rs milestonelaw3_QueuePlays_c4 [.blk 1, .seq [134] (.region [⟨some 42, .op (.mv (.tmp 10)), none⟩,
  ⟨some 43, .op (.bin .add .scalar (.tmp 42) (.const (.int .i64 1))), none⟩,
  ⟨some 10, .op (.mv (.tmp 43)), none⟩]), .lp j0 [42, 43] milestonelaw3_QueuePlays_c5, .blk 0, .seq [1, 2, 7, 8, 9, 10, 41] (.seq [] (.region [⟨some 6, .op (.mv (.const (.bool true))), none⟩]) .ret)] [.undef, ns1, raw2, .undef, .undef, .undef, .undef, n7, q8, x9, i10, k11, id12, key13, .undef, .undef, .undef, .undef, .undef, .undef, .undef, .undef, .undef, .undef, .undef, .undef, .undef, .undef, .undef, .undef, .undef, .undef, .undef, .undef, .undef, .undef, .undef, .undef, .undef, .undef, .undef, .undef, .undef, .undef, .undef, .undef, .undef, .undef, .undef, .undef, .undef, .undef, .undef, .undef, .undef, .undef, .undef, .undef, .undef, .undef, .undef, .undef, .undef, .undef, .undef, .undef, .undef, .undef, .undef, .undef, .undef, .undef, .undef, .undef, .undef, .undef, .undef, .undef, .undef, .undef, .undef, .undef, .undef, .undef, .undef, .undef, .undef, .undef, .undef, .undef, .undef, .undef, .undef, .undef, .undef, .undef, .undef, .undef, .undef, .undef, .undef, .undef, .undef, .undef, .undef, .undef, .undef, .undef, .undef, .undef, .undef, .undef, .undef, .undef, .undef, .undef, .undef, .undef, .undef, .undef, .undef, .undef, .undef, .undef, .undef, .undef, .undef, .undef, .undef, .undef, .undef, .undef, .undef, .undef, .undef] h
noncomputable def milestonelaw3_QueuePlays_b3 (T : Tab) (k j0 : Nat) (ns1 raw2 n7 q8 x9 i10 id12 key13 : AV) (h : Heap) : Option (AV × Heap) :=
  evB T k milestonelaw3_QueuePlays_rs milestonelaw3_QueuePlays_c3 [.blk 1, .seq [134] (.region [⟨some 42, .op (.mv (.tmp 10)), none⟩,
  ⟨some 43, .op (.bin .add .scalar (.tmp 42) (.const (.int .i64 1))), none⟩,
  ⟨some 10, .op (.mv (.tmp 43)), none⟩]), .lp j0 [42, 43] milestonelaw3_QueuePlays_c5, .blk 0, .seq [1, 2, 7, 8, 9, 10, 41] (.seq [] (.region [⟨some 6, .op (.mv (.const (.bool true))), none⟩]) .ret)] [.undef, ns1, raw2, .undef, .undef, .undef, .undef, n7, q8, x9, i10, .undef, id12, key13, .undef, .undef, .undef, .undef, .undef, .undef, .undef, .undef, .undef, .undef, .undef, .undef, .undef, .undef, .undef, .undef, .undef, .undef, .undef, .undef, .undef, .undef, .undef, .undef, .undef, .undef, .undef, .undef, .undef, .undef, .undef, .undef, .undef, .undef, .undef, .undef, .undef, .undef, .undef, .undef, .undef, .undef, .undef, .undef, .undef, .undef, .undef, .undef, .undef, .undef, .undef, .undef, .undef, .undef, .undef, .undef, .undef, .undef, .undef, .undef, .undef, .undef, .undef, .undef, .undef, .undef, .undef, .undef, .undef, .undef, .undef, .undef, .undef, .undef, .undef, .undef, .undef, .undef, .undef, .undef, .undef, .undef, .undef, .undef, .undef, .undef, .undef, .undef, .undef, .undef, .undef, .undef, .undef, .undef, .undef, .undef, .undef, .undef, .undef, .undef, .undef, .undef, .undef, .undef, .undef, .undef, .undef, .undef, .undef, .undef, .undef, .undef, .undef, .undef, .undef, .undef, .undef, .undef, .undef, .undef, .undef] h
noncomputable def milestonelaw3_QueuePlays_b4 (T : Tab) (k j0 : Nat) (ns1 raw2 n7 q8 x9 i10 id12 key13 t70 t80 : AV) (h : Heap) : Option (AV × Heap) :=
  evB T k milestonelaw3_QueuePlays_rs milestonelaw3_QueuePlays_c1 [.blk 2, .seq [79, 107, 129] (.lab milestonelaw3_QueuePlays_c2), .blk 1, .seq [134] (.region [⟨some 42, .op (.mv (.tmp 10)), none⟩,
  ⟨some 43, .op (.bin .add .scalar (.tmp 42) (.const (.int .i64 1))), none⟩,
  ⟨some 10, .op (.mv (.tmp 43)), none⟩]), .lp j0 [42, 43] milestonelaw3_QueuePlays_c5, .blk 0, .seq [1, 2, 7, 8, 9, 10, 41] (.seq [] (.region [⟨some 6, .op (.mv (.const (.bool true))), none⟩]) .ret)] [.undef, ns1, raw2, .undef, .undef, .undef, .undef, n7, q8, x9, i10, .undef, id12, key13, .undef, .undef, .undef, .undef, .undef, .undef, .undef, .undef, .undef, .undef, .undef, .undef, .undef, .undef, .undef, .undef, .undef, .undef, .undef, .undef, .undef, .undef, .undef, .undef, .undef, .undef, .undef, .undef, .undef, .undef, .undef, .undef, .undef, .undef, .undef, .undef, .undef, .undef, .undef, .undef, .undef, .undef, .undef, .undef, .undef, .undef, .undef, .undef, .undef, .undef, .undef, .undef, .undef, .undef, .undef, .undef, t70, .undef, .undef, .undef, .undef, .undef, .undef, .undef, .undef, .undef, t80, .undef, .undef, .undef, .undef, .undef, .undef, .undef, .undef, .undef, .undef, .undef, .undef, .undef, .undef, .undef, .undef, .undef, .undef, .undef, .undef, .undef, .undef, .undef, .undef, .undef, .undef, .undef, .undef, .undef, .undef, .undef, .undef, .undef, .undef, .undef, .undef, .undef, .undef, .undef, .undef, .undef, .undef, .undef, .undef, .undef, .undef, .undef, .undef, .undef, .undef, .undef, .undef, .undef, .undef] h
noncomputable def milestonelaw3_QueuePlays_b5 (T : Tab) (k j0 : Nat) (ns1 raw2 n7 q8 x9 i10 : AV) (h : Heap) : Option (AV × Heap) :=
  evB T k milestonelaw3_QueuePlays_rs milestonelaw3_QueuePlays_c2 [.blk 1, .seq [134] (.region [⟨some 42, .op (.mv (.tmp 10)), none⟩,
  ⟨some 43, .op (.bin .add .scalar (.tmp 42) (.const (.int .i64 1))), none⟩,
  ⟨some 10, .op (.mv (.tmp 43)), none⟩]), .lp j0 [42, 43] milestonelaw3_QueuePlays_c5, .blk 0, .seq [1, 2, 7, 8, 9, 10, 41] (.seq [] (.region [⟨some 6, .op (.mv (.const (.bool true))), none⟩]) .ret)] [.undef, ns1, raw2, .undef, .undef, .undef, .undef, n7, q8, x9, i10, .undef, .undef, .undef, .undef, .undef, .undef, .undef, .undef, .undef, .undef, .undef, .undef, .undef, .undef, .undef, .undef, .undef, .undef, .undef, .undef, .undef, .undef, .undef, .undef, .undef, .undef, .undef, .undef, .undef, .undef, .undef, .undef, .undef, .undef, .undef, .undef, .undef, .undef, .undef, .undef, .undef, .undef, .undef, .undef, .undef, .undef, .undef, .undef, .undef, .undef, .undef, .undef, .undef, .undef, .undef, .undef, .undef, .undef, .undef, .undef, .undef, .undef, .undef, .undef, .undef, .undef, .undef, .undef, .undef, .undef, .undef, .undef, .undef, .undef, .undef, .undef, .undef, .undef, .undef, .undef, .undef, .undef, .undef, .undef, .undef, .undef, .undef, .undef, .undef, .undef, .undef, .undef, .undef, .undef, .undef, .undef, .undef, .undef, .undef, .undef, .undef, .undef, .undef, .undef, .undef, .undef, .undef, .undef, .undef, .undef, .undef, .undef, .undef, .undef, .undef, .undef, .undef, .undef, .undef, .undef, .undef, .undef, .undef, .undef] h
theorem milestonelaw3_QueuePlays_b5_eq (T : Tab) (k j0 : Nat) (ns1 raw2 n7 q8 x9 i10 : AV) (h : Heap) : milestonelaw3_QueuePlays_b5 T k j0 ns1 raw2 n7 q8 x9 i10 h =
    ob (evalFn T k f_queue_Queue_Len [q8] h) fun t131_1 h_2 =>
    ob (evalFn T k f_milestoneref3_Queue_Len [x9] h_2) fun t133_3 h_4 =>
    oa (binV .neq .scalar t131_1 t133_3) fun t134_5 =>
    cond2 t134_5
      (
      some ((.bool false), h_4)
      )
      (
      oa (binV .add .scalar i10 (.int .i64 1)) fun t43_6 =>
      milestonelaw3_QueuePlays_l1 T k j0 ns1 raw2 n7 q8 x9 t43_6 h_4
      ) := blockEq (by kernel_rfl)
theorem milestonelaw3_QueuePlays_b4_eq (T : Tab) (k j0 : Nat) (ns1 raw2 n7 q8 x9 i10 id12 key13 t70 t80 : AV) (h : Heap) : milestonelaw3_QueuePlays_b4 T k j0 ns1 raw2 n7 q8 x9 i10 id12 key13 t70 t80 h =
    cond2 t80
      (
      ob (evalFn T k f_queue_Queue_Pop [q8] h) fun t85_1 h_2 =>
      oa (extr 0 t85_1) fun t86_3 =>
      oa (extr 1 t85_1) fun t87_4 =>
      oa (extr 2 t85_1) fun t88_5 =>
      ob (evalFn T k f_milestoneref3_Queue_Pop [x9] h_2) fun t91_6 h_7 =>
      oa (extr 0 t91_6) fun t92_8 =>
      oa (extr 1 t91_6) fun t93_9 =>
      oa (extr 2 t91_6) fun t94_10 =>
      oa (binV .neq .scalar t86_3 t92_8) fun t97_11 =>
      ob (gd t97_11 false (some (t87_4, h_7)) h_7) fun t99_12 h_13 =>
      ob (gd t97_11 false (some (t93_9, h_13)) h_13) fun t100_14 h_15 =>
      ob (gd t97_11 false (pure1 h_15 (binV .neq .scalar t99_12 t100_14)) h_15) fun t101_16 h_17 =>
      oa (pickV t97_11 (.bool true) t101_16) fun t102_18 =>
      ob (gd t102_18 false (some (t88_5, h_17)) h_17) fun t104_19 h_20 =>
      ob (gd t102_18 false (some (t94_10, h_20)) h_20) fun t105_21 h_22 =>
      ob (gd t102_18 false (pure1 h_22 (binV .neq .bool t104_19 t105_21)) h_22) fun t106_23 h_24 =>
      oa (pickV t102_18 (.bool true) t106_23) fun t107_25 =>
      cond2 t107_25
        (
        some ((.bool false), h_24)
        )
        (
        milestonelaw3_QueuePlays_b5 T k j0 ns1 raw2 n7 q8 x9 i10 h_24
        )
      )
      (
      oa (binV .eql .scalar t70 (.int .i64 2)) fun t109_26 =>
      cond2 t109_26
        (
        ob (evalFn T k f_queue_Queue_Key [q8, id12] h) fun t113_27 h_28 =>
        oa (extr 0 t113_27) fun t114_29 =>
        oa (extr 1 t113_27) fun t115_30 =>
        ob (evalFn T k f_milestoneref3_Queue_Key [x9, id12] h_28) fun t119_31 h_32 =>
        oa (extr 0 t119_31) fun t120_33 =>
        oa (extr 1 t119_31) fun t121_34 =>
        oa (binV .neq .scalar t114_29 t120_33) fun t124_35 =>
        ob (gd t124_35 false (some (t115_30, h_32)) h_32) fun t126_36 h_37 =>
        ob (gd t124_35 false (some (t121_34, h_37)) h_37) fun t127_38 h_39 =>
        ob (gd t124_35 false (pure1 h_39 (binV .neq .bool t126_36 t127_38)) h_39) fun t128_40 h_41 =>
        oa (pickV t124_35 (.bool true) t128_40) fun t129_42 =>
        cond2 t129_42
          (
          some ((.bool false), h_41)
          )
          (
          milestonelaw3_QueuePlays_b5 T k j0 ns1 raw2 n7 q8 x9 i10 h_41
          )
        )
        (
        ob (evalFn T k f_queue_Queue_Put [q8, id12, key13] h) fun t74_43 h_44 =>
        ob (evalFn T k f_milestoneref3_Queue_Put [x9, id12, key13] h_44) fun t78_45 h_46 =>
        oa (binV .neq .bool t74_43 t78_45) fun t79_47 =>
        cond2 t79_47
          (
          some ((.bool false), h_46)
          )
          (
          milestonelaw3_QueuePlays_b5 T k j0 ns1 raw2 n7 q8 x9 i10 h_46
          )
        )
      ) := blockEq (by kernel_rfl)
theorem milestonelaw3_QueuePlays_b3_eq (T : Tab) (k j0 : Nat) (ns1 raw2 n7 q8 x9 i10 id12 key13 : AV) (h : Heap) : milestonelaw3_QueuePlays_b3 T k j0 ns1 raw2 n7 q8 x9 i10 id12 key13 h =
    oa (idxS 1 ns1 i10) fun t68_1 =>
    oa (ld1 h t68_1) fun t69_2 =>
    ob (evalFn T k f_milestonelaw3_within [t69_2, (.int .i64 8)] h) fun t70_3 h_4 =>
    oa (binV .eql .scalar t70_3 (.int .i64 0)) fun t81_5 =>
    cond2 t81_5
      (
      milestonelaw3_QueuePlays_b4 T k j0 ns1 raw2 n7 q8 x9 i10 id12 key13 t70_3 t81_5 h_4
      )
      (
      oa (binV .eql .scalar t70_3 (.int .i64 1)) fun t82_6 =>
      milestonelaw3_QueuePlays_b4 T k j0 ns1 raw2 n7 q8 x9 i10 id12 key13 t70_3 t82_6 h_4
      ) := blockEq (by kernel_rfl)
theorem milestonelaw3_QueuePlays_b2_eq (T : Tab) (k j0 : Nat) (ns1 raw2 n7 q8 x9 i10 k11 id12 key13 : AV) (h : Heap) : milestonelaw3_QueuePlays_b2 T k j0 ns1 raw2 n7 q8 x9 i10 k11 id12 key13 h =
    ob (evalFn T k f_milestonelaw3_within [k11, (.int .i64 37)] h) fun t63_1 h_2 =>
    oa (binV .eql .scalar t63_1 (.int .i64 0)) fun t64_3 =>
    cond2 t64_3
      (
      milestonelaw3_QueuePlays_b3 T k j0 ns1 raw2 n7 q8 x9 i10 raw2 key13 h_2
      )
      (
      milestonelaw3_QueuePlays_b3 T k j0 ns1 raw2 n7 q8 x9 i10 id12 key13 h_2
      ) := blockEq (by kernel_rfl)
theorem milestonelaw3_QueuePlays_l1_eq (T : Tab) (k j0 : Nat) (ns1 raw2 n7 q8 x9 i10 : AV) (h : Heap) : milestonelaw3_QueuePlays_l1 T k (j0 + 1) ns1 raw2 n7 q8 x9 i10 h =
    oa (lenS ns1) fun t36_1 =>
    oa (binV .lss .scalar i10 t36_1) fun t37_2 =>
    ob (gd t37_2 true (some (i10, h)) h) fun t39_3 h_4 =>
    ob (gd t37_2 true (pure1 h_4 (binV .lss .scalar t39_3 (.int .i64 120))) h_4) fun t40_5 h_6 =>
    oa (pickV t37_2 t40_5 (.bool false)) fun t41_7 =>
    cond2 t41_7
      (
      oa (idxS 1 ns1 i10) fun t46_8 =>
      oa (ld1 h_6 t46_8) fun t47_9 =>
      oa (binV .quo .scalar t47_9 (.int .i64 8)) fun t48_10 =>
      oa (binV .add .scalar n7 (.int .i64 2)) fun t51_11 =>
      ob (evalFn T k f_milestonelaw3_within [t48_10, t51_11] h_6) fun t52_12 h_13 =>
      oa (binV .sub .scalar t52_12 (.int .i64 1)) fun t53_14 =>
      oa (binV .quo .scalar t48_10 (.int .i64 23)) fun t55_15 =>
      ob (evalFn T k f_milestonelaw3_within [t55_15, (.int .i64 15)] h_13) fun t56_16 h_17 =>
      oa (binV .sub .scalar t56_16 (.int .i64 3)) fun t57_18 =>
      ob (evalFn T k f_milestonelaw3_within [t48_10, (.int .i64 29)] h_17) fun t59_19 h_20 =>
      oa (binV .eql .scalar t59_19 (.int .i64 0)) fun t60_21 =>
      cond2 t60_21
        (
        milestonelaw3_QueuePlays_b2 T k j0 ns1 raw2 n7 q8 x9 i10 t48_10 t53_14 raw2 h_20
        )
        (
        milestonelaw3_QueuePlays_b2 T k j0 ns1 raw2 n7 q8 x9 i10 t48_10 t53_14 t57_18 h_20
        )
      )
      (
      some ((.bool true), h_6)
      ) := loopEq (by kernel_rfl)
theorem milestonelaw3_QueuePlays_eq (T : Tab) (k : Nat) (size0 ns1 raw2 : AV) (h : Heap) : runF T k milestonelaw3_QueuePlays_mf [size0, ns1, raw2] h =
    ob (evalFn T k f_milestonelaw3_known [] h) fun t24_1 h_2 =>
    oa (unV .not t24_1) fun t25_3 =>
    cond2 t25_3
      (
      some ((.bool false), h_2)
      )
      (
      ob (evalFn T k f_milestonelaw3_within [size0, (.int .i64 20)] h_2) fun t27_4 h_5 =>
      ob (evalFn T k f_queue_New [t27_4] h_5) fun t29_6 h_7 =>
      ob (evalFn T k f_milestoneref3_New [t27_4] h_7) fun t31_8 h_9 =>
      oa (binV .eql .ptr t29_6 .nilp) fun t33_10 =>
      cond2 t33_10
        (
        some ((.bool false), h_9)
        )
        (
        milestonelaw3_QueuePlays_l1 T k k ns1 raw2 t27_4 t29_6 t31_8 (.int .i64 0) h_9
        )
      ) := runEq (by kernel_rfl)
noncomputable def milestonelaw3_QueueSorts_c1 : MCode := .seq [35] (.seq [33, 34] (.region [⟨some 33, .op (.mv (.tmp 8)), none⟩,
  ⟨some 34, .op (.mv (.tmp 5)), none⟩,
  ⟨some 35, .op (.bin .lss .scalar (.tmp 33) (.tmp 34)), none⟩]) (.cond (.tmp 35) .skip (.exit 0))) (.seq [52] (.block 1 (.seq [38, 39, 40, 41, 42, 43, 44] (.region [⟨some 38, .op (.mv (.tmp 7)), none⟩,
  ⟨some 39, .op (.mv (.tmp 8)), none⟩,
  ⟨some 40, .op (.mv (.tmp 0)), none⟩,
  ⟨some 41, .op (.mv (.tmp 8)), none⟩,
  ⟨some 42, .op (.idxSl 1 (.tmp 40) (.tmp 41)), none⟩,
  ⟨some 43, .op (.load none (.tmp 42)), none⟩,
  ⟨some 44, .op (.idxSl 1 (.tmp 38) (.tmp 39)), none⟩,
  ⟨none, .op (.store 1 (.tmp 44) (.tmp 43)), none⟩]) (.seq [45, 46, 47, 48, 49, 50, 51] (.region [⟨some 45, .op (.mv (.tmp 6)), none⟩,
  ⟨some 46, .op (.mv (.tmp 8)), none⟩,
  ⟨some 47, .op (.mv (.tmp 0)), none⟩,
  ⟨some 48, .op (.mv (.tmp 8)), none⟩,
  ⟨some 49, .op (.idxSl 1 (.tmp 47) (.tmp 48)), none⟩,
  ⟨some 50, .op (.load none (.tmp 49)), none⟩,
  ⟨some 51, .call f_queue_Queue_Put [(.tmp 45), (.tmp 46), (.tmp 50)], none⟩,
  ⟨some 52, .op (.un .not (.tmp 51)), none⟩]) (.cond (.tmp 52) (.seq [0, 1, 5, 6, 7, 8, 52] (.region [⟨some 4, .op (.mv (.const (.bool false))), none⟩]) .ret) .skip)))) (.region [⟨some 36, .op (.mv (.tmp 8)), none⟩,
  ⟨some 37, .op (.bin .add .scalar (.tmp 36) (.const (.int .i64 1))), none⟩,
  ⟨some 8, .op (.mv (.tmp 37)), none⟩]))
noncomputable def milestonelaw3_QueueSorts_c2 : MCode := .seq [64] (.seq [53, 54, 55, 56, 57, 58, 59, 60, 61, 62, 63] (.region [⟨some 53, .op (.mv (.tmp 9)), none⟩,
  ⟨some 54, .op (.mv (.tmp 1)), none⟩,
  ⟨some 55, .op (.lenSl (.tmp 54)), none⟩,
  ⟨some 56, .op (.bin .lss .scalar (.tmp 53) (.tmp 55)), none⟩,
  ⟨some 57, .op (.mv (.tmp 56)), none⟩,
  ⟨some 58, .op (.mv (.tmp 9)), some (57, true)⟩,
  ⟨some 59, .op (.bin .lss .scalar (.tmp 58) (.const (.int .i64 60))), some (57, true)⟩,
  ⟨some 60, .op (.pick (.tmp 57) (.tmp 59) (.const (.bool false))), none⟩,
  ⟨some 61, .op (.mv (.tmp 60)), none⟩,
  ⟨some 62, .op (.mv (.tmp 5)), some (61, true)⟩,
  ⟨some 63, .op (.bin .gtr .scalar (.tmp 62) (.const (.int .i64 0))), some (61, true)⟩,
  ⟨some 64, .op (.pick (.tmp 61) (.tmp 63) (.const (.bool false))), none⟩]) (.cond (.tmp 64) .skip (.exit 2))) (.seq [10, 87, 88, 89, 90, 91, 92, 93, 94, 95, 96, 97, 98] (.block 3 (.seq [67, 68, 69] (.region [⟨some 67, .op (.mv (.tmp 9)), none⟩,
  ⟨some 68, .op (.mv (.tmp 5)), none⟩,
  ⟨some 69, .op (.bin .rem .scalar (.tmp 67) (.tmp 68)), none⟩,
  ⟨some 10, .op (.mv (.tmp 69)), none⟩]) (.seq [86] (.seq [70, 71, 72, 73, 74, 75, 76, 77, 78, 79, 80, 81, 82, 83, 84, 85] (.regionD 174 [⟨0, ⟨some 174, .op (.mv (.tmp 6)), none⟩, []⟩,
  ⟨1, ⟨some 175, .op (.mv (.tmp 10)), none⟩, []⟩,
  ⟨2, ⟨some 176, .op (.mv (.tmp 1)), none⟩, []⟩,
  ⟨3, ⟨some 177, .op (.mv (.tmp 9)), none⟩, []⟩,
  ⟨4, ⟨some 178, .op (.idxSl 1 (.tmp 176) (.tmp 177)), none⟩, []⟩,
  ⟨5, ⟨some 179, .op (.load none (.tmp 178)), none⟩, []⟩,
  ⟨7, ⟨some 181, .op (.mv (.tmp 1)), none⟩, []⟩,
  ⟨8, ⟨some 182, .op (.mv (.tmp 9)), none⟩, []⟩,
  ⟨9, ⟨some 183, .op (.idxSl 1 (.tmp 181) (.tmp 182)), none⟩, []⟩,
  ⟨10, ⟨some 184, .op (.load none (.tmp 183)), none⟩, []⟩,
  ⟨11, ⟨some 185, .op (.mv (.tmp 7)), none⟩, []⟩,
  ⟨12, ⟨some 186, .op (.mv (.tmp 10)), none⟩, []⟩,
  ⟨13, ⟨some 187, .op (.idxSl 1 (.tmp 185) (.tmp 186)), none⟩, []⟩,
  ⟨14, ⟨some 188, .op (.load none (.tmp 187)), none⟩, []⟩,
  ⟨15, ⟨some 189, .op (.bin .lss .scalar (.tmp 184) (.tmp 188)), none⟩, []⟩,
  ⟨6, ⟨some 180, .call f_queue_Queue_Put [(.tmp 174), (.tmp 175), (.tmp 179)], none⟩, [(184, ⟨some 184, .op (.load none (.tmp 183)), none⟩), (188, ⟨some 188, .op (.load none (.tmp 187)), none⟩)]⟩,
  ⟨16, ⟨some 190, .op (.bin .neq .bool (.tmp 180) (.tmp 189)), none⟩, []⟩] [(70, 174), (71, 175), (72, 176), (73, 177), (74, 178), (75, 179), (76, 180), (77, 181), (78, 182), (79, 183), (80, 184), (81, 185), (82, 186), (83, 187), (84, 188), (85, 189), (86, 190)]) (.cond (.tmp 86) (.seq [1, 5, 6, 7, 9, 10, 86] (.region [⟨some 4, .op (.mv (.const (.bool false))), none⟩]) .ret) .skip)) (.regionD 174 [⟨0, ⟨some 174, .op (.mv (.tmp 7)), none⟩, []⟩,
  ⟨1, ⟨some 175, .op (.mv (.tmp 10)), none⟩, []⟩,
  ⟨2, ⟨some 176, .op (.mv (.tmp 7)), none⟩, []⟩,
  ⟨3, ⟨some 177, .op (.mv (.tmp 10)), none⟩, []⟩,
  ⟨4, ⟨some 178, .op (.idxSl 1 (.tmp 176) (.tmp 177)), none⟩, []⟩,
  ⟨5, ⟨some 179, .op (.load none (.tmp 178)), none⟩, []⟩,
  ⟨6, ⟨some 180, .op (.mv (.tmp 1)), none⟩, []⟩,
  ⟨7, ⟨some 181, .op (.mv (.tmp 9)), none⟩, []⟩,
  ⟨8, ⟨some 182, .op (.idxSl 1 (.tmp 180) (.tmp 181)), none⟩, []⟩,
  ⟨9, ⟨some 183, .op (.load none (.tmp 182)), none⟩, []⟩,
  ⟨10, ⟨some 184, .op (.mm false (.tmp 179) (.tmp 183)), none⟩, []⟩,
  ⟨11, ⟨some 185, .op (.idxSl 1 (.tmp 174) (.tmp 175)), none⟩, []⟩,
  ⟨12, ⟨some 186, .op (.store 1 (.tmp 185) (.tmp 184)), none⟩, []⟩] [(87, 174), (88, 175), (89, 176), (90, 177), (91, 178), (92, 179), (93, 180), (94, 181), (95, 182), (96, 183), (97, 184), (98, 185)])))) (.region [⟨some 65, .op (.mv (.tmp 9)), none⟩,
  ⟨some 66, .op (.bin .add .scalar (.tmp 65) (.const (.int .i64 1))), none⟩,
  ⟨some 9, .op (.mv (.tmp 66)), none⟩]))
noncomputable def milestonelaw3_QueueSorts_c3 : MCode := .seq [101] (.seq [99, 100] (.region [⟨some 99, .op (.mv (.tmp 13)), none⟩,
  ⟨some 100, .op (.mv (.tmp 5)), none⟩,
  ⟨some 101, .op (.bin .lss .scalar (.tmp 99) (.tmp 100)), none⟩]) (.cond (.tmp 101) .skip (.exit 4))) (.seq [14, 15, 164, 165] (.block 5 (.seq [104, 105, 106, 107, 108, 109] (.region [⟨some 105, .op (.mv (.tmp 6)), none⟩,
  ⟨some 106, .call f_queue_Queue_Pop [(.tmp 105)], none⟩,
  ⟨some 104, .op (.mv (.tmp 106)), none⟩,
  ⟨some 107, .op (.extract 0 (.tmp 104)), none⟩,
  ⟨some 108, .op (.extract 1 (.tmp 104)), none⟩,
  ⟨some 109, .op (.extract 2 (.tmp 104)), none⟩,
  ⟨some 14, .op (.mv (.tmp 107)), none⟩,
  ⟨some 15, .op (.mv (.tmp 108)), none⟩,
  ⟨some 16, .op (.mv (.tmp 109)), none⟩]) (.seq [156] (.seq [11, 12, 16, 110, 111, 112, 113, 114, 115, 116, 117, 118, 119, 120, 121, 122, 123, 124, 125, 126, 127, 128, 129, 130, 131, 132, 133, 134, 135, 136, 137, 138, 139, 140, 141, 142, 143, 144, 145, 146, 147, 148, 149, 150, 151, 152, 153, 154, 155] (.region [⟨some 110, .op (.mv (.tmp 16)), none⟩,
  ⟨some 111, .op (.un .not (.tmp 110)), none⟩,
  ⟨some 112, .op (.mv (.tmp 111)), none⟩,
  ⟨some 113, .op (.mv (.tmp 14)), some (112, false)⟩,
  ⟨some 114, .op (.bin .lss .scalar (.tmp 113) (.const (.int .i64 0))), some (112, false)⟩,
  ⟨some 115, .op (.pick (.tmp 112) (.const (.bool true)) (.tmp 114)), none⟩,
  ⟨some 116, .op (.mv (.tmp 115)), none⟩,
  ⟨some 117, .op (.mv (.tmp 14)), some (116, false)⟩,
  ⟨some 118, .op (.mv (.tmp 5)), some (116, false)⟩,
  ⟨some 119, .op (.bin .geq .scalar (.tmp 117) (.tmp 118)), some (116, false)⟩,
  ⟨some 120, .op (.pick (.tmp 116) (.const (.bool true)) (.tmp 119)), none⟩,
  ⟨some 121, .op (.mv (.tmp 120)), none⟩,
  ⟨some 122, .op (.mv (.tmp 15)), some (121, false)⟩,
  ⟨some 123, .op (.mv (.tmp 7)), some (121, false)⟩,
  ⟨some 124, .op (.mv (.tmp 14)), some (121, false)⟩,
  ⟨some 125, .op (.idxSl 1 (.tmp 123) (.tmp 124)), some (121, false)⟩,
  ⟨some 126, .op (.load none (.tmp 125)), some (121, false)⟩,
  ⟨some 127, .op (.bin .neq .scalar (.tmp 122) (.tmp 126)), some (121, false)⟩,
  ⟨some 128, .op (.pick (.tmp 121) (.const (.bool true)) (.tmp 127)), none⟩,
  ⟨some 129, .op (.mv (.tmp 128)), none⟩,
  ⟨some 130, .op (.mv (.tmp 13)), some (129, false)⟩,
  ⟨some 131, .op (.bin .gtr .scalar (.tmp 130) (.const (.int .i64 0))), some (129, false)⟩,
  ⟨some 132, .op (.mv (.tmp 131)), some (129, false)⟩,
  ⟨some 133, .op (.mv (.tmp 15)), some (132, true)⟩,
  ⟨some 134, .op (.mv (.tmp 11)), some (132, true)⟩,
  ⟨some 135, .op (.bin .lss .scalar (.tmp 133) (.tmp 134)), some (132, true)⟩,
  ⟨some 136, .op (.mv (.tmp 135)), some (132, true)⟩,
  ⟨some 137, .op (.mv (.tmp 15)), some (136, false)⟩,
  ⟨some 138, .op (.mv (.tmp 11)), some (136, false)⟩,
  ⟨some 139, .op (.bin .eql .scalar (.tmp 137) (.tmp 138)), some (136, false)⟩,
  ⟨some 140, .op (.mv (.tmp 139)), some (136, false)⟩,
  ⟨some 141, .op (.mv (.tmp 14)), some (140, true)⟩,
  ⟨some 142, .op (.mv (.tmp 12)), some (140, true)⟩,
  ⟨some 143, .op (.bin .leq .scalar (.tmp 141) (.tmp 142)), some (140, true)⟩,
  ⟨some 144, .op (.pick (.tmp 140) (.tmp 143) (.const (.bool false))), some (136, false)⟩,
  ⟨some 145, .op (.pick (.tmp 136) (.const (.bool true)) (.tmp 144)), some (132, true)⟩,
  ⟨some 146, .op (.pick (.tmp 132) (.tmp 145) (.const (.bool false))), some (129, false)⟩,
  ⟨some 147, .op (.pick (.tmp 129) (.const (.bool true)) (.tmp 146)), none⟩,
  ⟨some 148, .op (.mv (.tmp 147)), none⟩,
  ⟨some 149, .op (.mv (.tmp 6)), some (148, false)⟩,
  ⟨some 150, .call f_queue_Queue_Len [(.tmp 149)], some (148, false)⟩,
  ⟨some 151, .op (.mv (.tmp 5)), some (148, false)⟩,
  ⟨some 152, .op (.bin .sub .scalar (.tmp 151) (.const (.int .i64 1))), some (148, false)⟩,
  ⟨some 153, .op (.mv (.tmp 13)), some (148, false)⟩,
  ⟨some 154, .op (.bin .sub .scalar (.tmp 152) (.tmp 153)), some (148, false)⟩,
  ⟨some 155, .op (.bin .neq .scalar (.tmp 150) (.tmp 154)), some (148, false)⟩,
  ⟨some 156, .op (.pick (.tmp 148) (.const (.bool true)) (.tmp 155)), none⟩]) (.cond (.tmp 156) (.seq [5, 6, 7, 13, 14, 15, 156] (.region [⟨some 4, .op (.mv (.const (.bool false))), none⟩]) .ret) .skip)) (.seq [163] (.seq [17, 157, 158, 159, 160, 161, 162] (.region [⟨some 158, .op (.mv (.tmp 6)), none⟩,
  ⟨some 159, .op (.mv (.tmp 14)), none⟩,
  ⟨some 160, .call f_queue_Queue_Key [(.tmp 158), (.tmp 159)], none⟩,
  ⟨some 157, .op (.mv (.tmp 160)), none⟩,
  ⟨some 161, .op (.extract 0 (.tmp 157)), none⟩,
  ⟨some 162, .op (.extract 1 (.tmp 157)), none⟩,
  ⟨some 17, .op (.mv (.tmp 161)), none⟩,
  ⟨some 18, .op (.mv (.tmp 162)), none⟩]) (.seq [18] (.region [⟨some 163, .op (.mv (.tmp 18)), none⟩]) (.cond (.tmp 163) (.seq [5, 6, 7, 13, 14, 15, 163] (.region [⟨some 4, .op (.mv (.const (.bool false))), none⟩]) .ret) .skip))) (.region [⟨some 164, .op (.mv (.tmp 15)), none⟩,
  ⟨some 165, .op (.mv (.tmp 14)), none⟩,
  ⟨some 11, .op (.mv (.tmp 164)), none⟩,
  ⟨some 12, .op (.mv (.tmp 165)), none⟩]))))) (.region [⟨some 102, .op (.mv (.tmp 13)), none⟩,
  ⟨some 103, .op (.bin .add .scalar (.tmp 102) (.const (.int .i64 1))), none⟩,
  ⟨some 13, .op (.mv (.tmp 103)), none⟩]))
noncomputable def milestonelaw3_QueueSorts_c4 : MCode := .seq [6, 19, 20, 166, 167, 168, 169, 170, 171] (.region [⟨some 167, .op (.mv (.tmp 6)), none⟩,
  ⟨some 168, .call f_queue_Queue_Pop [(.tmp 167)], none⟩,
  ⟨some 166, .op (.mv (.tmp 168)), none⟩,
  ⟨some 169, .op (.extract 0 (.tmp 166)), none⟩,
  ⟨some 170, .op (.extract 1 (.tmp 166)), none⟩,
  ⟨some 171, .op (.extract 2 (.tmp 166)), none⟩,
  ⟨some 19, .op (.mv (.tmp 169)), none⟩,
  ⟨some 20, .op (.mv (.tmp 170)), none⟩,
  ⟨some 21, .op (.mv (.tmp 171)), none⟩]) (.seq [21, 172, 173] (.region [⟨some 172, .op (.mv (.tmp 21)), none⟩,
  ⟨some 173, .op (.un .not (.tmp 172)), none⟩,
  ⟨some 4, .op (.mv (.tmp 173)), none⟩]) .ret)
noncomputable def milestonelaw3_QueueSorts_c5 : MCode := .seq [] (.region [⟨some 11, .op (.mv (.const (.int .i64 0))), none⟩,
  ⟨some 12, .op (.mv (.const (.int .i64 0))), none⟩]) (.seq [5, 7, 11, 12, 13, 101] (.seq [] (.region [⟨some 13, .op (.mv (.const (.int .i64 0))), none⟩]) (.block 4 (.loop [102, 103] milestonelaw3_QueueSorts_c3))) (.lab milestonelaw3_QueueSorts_c4))
noncomputable def milestonelaw3_QueueSorts_c6 : MCode := .seq [1, 9, 64] (.seq [] (.region [⟨some 9, .op (.mv (.const (.int .i64 0))), none⟩]) (.block 2 (.loop [65, 66] milestonelaw3_QueueSorts_c2))) (.lab milestonelaw3_QueueSorts_c5)
def milestonelaw3_QueueSorts_rs : Res := [(4, none)]
noncomputable def milestonelaw3_QueueSorts_mf : MFn := ⟨174, milestonelaw3_QueueSorts_rs, .seq [4] (.region [⟨some 4, .op (.mv (.const (.bool false))), none⟩]) (.seq [23] (.seq [22] (.region [⟨some 22, .call f_milestonelaw3_known [], none⟩,
  ⟨some 23, .op (.un .not (.tmp 22)), none⟩]) (.cond (.tmp 23) (.seq [0, 1, 23] (.region [⟨some 4, .op (.mv (.const (.bool false))), none⟩]) .ret) .skip)) (.seq [24, 25, 26] (.region [⟨some 24, .op (.mv (.tmp 0)), none⟩,
  ⟨some 25, .op (.lenSl (.tmp 24)), none⟩,
  ⟨some 26, .op (.mm false (.tmp 25) (.const (.int .i64 60))), none⟩,
  ⟨some 5, .op (.mv (.tmp 26)), none⟩]) (.seq [27, 28] (.region [⟨some 27, .op (.mv (.tmp 5)), none⟩,
  ⟨some 28, .call f_queue_New [(.tmp 27)], none⟩,
  ⟨some 6, .op (.mv (.tmp 28)), none⟩]) (.seq [30] (.seq [29] (.region [⟨some 29, .op (.mv (.tmp 6)), none⟩,
  ⟨some 30, .op (.bin .eql .ptr (.tmp 29) (.const .nilp)), none⟩]) (.cond (.tmp 30) (.seq [0, 1, 5, 6, 30] (.region [⟨some 4, .op (.mv (.const (.bool false))), none⟩]) .ret) .skip)) (.seq [31, 32] (.region [⟨some 31, .op (.mv (.tmp 5)), none⟩,
  ⟨some 32, .op (.mkSlice [.int .i64 0] 1 8 (.tmp 31) (.tmp 31)), none⟩,
  ⟨some 7, .op (.mv (.tmp 32)), none⟩]) (.seq [0, 8, 35] (.seq [] (.region [⟨some 8, .op (.mv (.const (.int .i64 0))), none⟩]) (.block 0 (.loop [36, 37] milestonelaw3_QueueSorts_c1))) (.lab milestonelaw3_QueueSorts_c6)))))))⟩
noncomputable def milestonelaw3_QueueSorts_l1 (T : Tab) (k j0 : Nat) (keys0 again1 n5 q6 least7 i8 : AV) (h : Heap) : Option (AV × Heap) :=
  loopB T k milestonelaw3_QueueSorts_rs j0 [36, 37] milestonelaw3_QueueSorts_c1 [.blk 0, .seq [0, 8, 35] (.lab milestonelaw3_QueueSorts_c6)] [keys0, again1, .undef, .undef, .undef, n5, q6, least7, i8, .undef, .undef, .undef, .undef, .undef, .undef, .undef, .undef, .undef, .undef, .undef, .undef, .undef, .undef, .undef, .undef, .undef, .undef, .undef, .undef, .undef, .undef, .undef, .undef, .undef, .undef, .undef, .undef, .undef, .undef, .undef, .undef, .undef, .undef, .undef, .undef, .undef, .undef, .undef, .undef, .undef, .undef, .undef, .undef, .undef, .undef, .undef, .undef, .undef, .undef, .undef, .undef, .undef, .undef, .undef, .undef, .undef, .undef, .undef, .undef, .undef, .undef, .undef, .undef, .undef, .undef, .undef, .undef, .undef, .undef, .undef, .undef, .undef, .undef, .undef, .undef, .undef, .undef, .undef, .undef, .undef, .undef, .undef, .undef, .undef, .undef, .undef, .undef, .undef, .undef, .undef, .undef, .undef, .undef, .undef, .undef, .undef, .undef, .undef, .undef, .undef, .undef, .undef, .undef, .undef, .undef, .undef, .undef, .undef, .undef, .undef, .undef, .undef, .undef, .undef, .undef, .undef, .undef, .undef, .undef, .undef, .undef, .undef, .undef, .undef, .undef, .undef, .undef, .undef, .undef, .undef, .undef, .undef, .undef, .undef, .undef, .undef, .undef, .undef, .undef, .undef, .undef, .undef, .undef, .undef, .undef, .undef, .undef, .undef, .undef, .undef, .undef, .undef, .undef, .undef, .undef, .undef, .undef, .undef, .undef, .undef, .undef, .undef, .undef, .undef] h
noncomputable def milestonelaw3_QueueSorts_b2 (T : Tab) (k : Nat) (again1 n5 q6 least7 : AV) (h : Heap) : Option (AV × Heap) :=
  evB T k milestonelaw3_QueueSorts_rs milestonelaw3_QueueSorts_c6 [] [.undef, again1, .undef, .undef, .undef, n5, q6, least7, .undef, .undef, .undef, .undef, .undef, .undef, .undef, .undef, .undef, .undef, .undef, .undef, .undef, .undef, .undef, .undef, .undef, .undef, .undef, .undef, .undef, .undef, .undef, .undef, .undef, .undef, .undef, .undef, .undef, .undef, .undef, .undef, .undef, .undef, .undef, .undef, .undef, .undef, .undef, .undef, .undef, .undef, .undef, .undef, .undef, .undef, .undef, .undef, .undef, .undef, .undef, .undef, .undef, .undef, .undef, .undef, .undef, .undef, .undef, .undef, .undef, .undef, .undef, .undef, .undef, .undef, .undef, .undef, .undef, .undef, .undef, .undef, .undef, .undef, .undef, .undef, .undef, .undef, .undef, .undef, .undef, .undef, .undef, .undef, .undef, .undef, .undef, .undef, .undef, .undef, .undef, .undef, .undef, .undef, .undef, .undef, .undef, .undef, .undef, .undef, .undef, .undef, .undef, .undef, .undef, .undef, .undef, .undef, .undef, .undef, .undef, .undef, .undef, .undef, .undef, .undef, .undef, .undef, .undef, .undef, .undef, .undef, .undef, .undef, .undef, .undef, .undef, .undef, .undef, .undef, .undef, .undef, .undef, .undef, .undef, .undef, .undef, .undef, .undef, .undef, .undef, .undef, .undef, .undef, .undef, .undef, .undef, .undef, .undef, .undef, .undef, .undef, .undef, .undef, .undef, .undef, .undef, .undef, .undef, .undef, .undef, .undef, .undef, .undef, .undef, .undef] h
noncomputable def milestonelaw3_QueueSorts_l3 (T : Tab) (k j0 : Nat) (again1 n5 q6 least7 i9 : AV) (h : Heap) : Option (AV × Heap) :=
  loopB T k milestonelaw3_QueueSorts_rs j0 [65, 66] milestonelaw3_QueueSorts_c2 [.blk 2, .seq [1, 9, 64] (.lab milestonelaw3_QueueSorts_c5)] [.undef, again1, .undef, .undef, .undef, n5, q6, least7, .undef, i9, .undef, .undef, .undef, .undef, .undef, .undef, .undef, .undef, .undef, .undef, .undef, .undef, .undef, .undef, .undef, .undef, .undef, .undef, .undef, .undef, .undef, .undef, .undef, .undef, .undef, .undef, .undef, .undef, .undef, .undef, .undef, .undef, .undef, .undef, .undef, .undef, .undef, .undef, .undef, .undef, .undef, .undef, .undef, .undef, .undef, .undef, .undef, .undef, .undef, .undef, .undef, .undef, .undef, .undef, .undef, .undef, .undef, .undef, .undef, .undef, .undef, .undef, .undef, .undef, .undef, .undef, .undef, .undef, .undef, .undef, .undef, .undef, .undef, .undef, .undef, .undef, .undef, .undef, .undef, .undef, .undef, .undef, .undef, .undef, .undef, .undef, .undef, .undef, .undef, .undef, .undef, .undef, .undef, .undef, .undef, .undef, .undef, .undef, .undef, .undef, .undef, .undef, .undef, .undef, .undef, .undef, .undef, .undef, .undef, .undef, .undef, .undef, .undef, .undef, .undef, .undef, .undef, .undef, .undef, .undef, .undef, .undef, .undef, .undef, .undef, .undef, .undef, .undef, .undef, .undef, .undef, .undef, .undef, .undef, .undef, .undef, .undef, .undef, .undef, .undef, .undef, .undef, .undef, .undef, .undef, .undef, .undef, .undef, .undef, .undef, .undef, .undef, .undef, .undef, .undef, .undef, .undef, .undef, .undef, .undef, .undef, .undef, .undef, .undef] h
noncomputable def milestonelaw3_QueueSorts_b4 (T : Tab) (k : Nat) (n5 q6 least7 : AV) (h : Heap) : Option (AV × Heap) :=
  evB T k milestonelaw3_QueueSorts_rs milestonelaw3_QueueSorts_c5 [] [.undef, .undef, .undef, .undef, .undef, n5, q6, least7, .undef, .undef, .undef, .undef, .undef, .undef, .undef, .undef, .undef, .undef, .undef, .undef, .undef, .undef, .undef, .undef, .undef, .undef, .undef, .undef, .undef, .undef, .undef, .undef, .undef, .undef, .undef, .undef, .undef, .undef, .undef, .undef, .undef, .undef, .undef, .undef, .undef, .undef, .undef, .undef, .undef, .undef, .undef, .undef, .undef, .undef, .undef, .undef, .undef, .undef, .undef, .undef, .undef, .undef, .undef, .undef, .undef, .undef, .undef, .undef, .undef, .undef, .undef, .undef, .undef, .undef, .undef, .undef, .undef, .undef, .undef, .undef, .undef, .undef, .undef, .undef, .undef, .undef, .undef, .undef, .undef, .undef, .undef, .undef, .undef, .undef, .undef, .undef, .undef, .undef, .undef, .undef, .undef, .undef, .undef, .undef, .undef, .undef, .undef, .undef, .undef, .undef, .undef, .undef, .undef, .undef, .undef, .undef, .undef, .undef, .undef, .undef, .undef, .undef, .undef, .undef, .undef, .undef, .undef, .undef, .undef, .undef, .undef, .undef, .undef, .undef, .undef, .undef, .undef, .undef, .undef, .undef, .undef, .undef, .undef, .undef, .undef, .undef, .undef, .undef, .undef, .undef, .undef, .undef, .undef, .undef, .undef, .undef, .undef, .undef, .undef, .undef, .undef, .undef, .undef, .undef, .undef, .undef, .undef, .undef, .undef, .undef, .undef, .undef, .undef, .undef] h
noncomputable def milestonelaw3_QueueSorts_l5 (T : Tab) (k j0 : Nat) (n5 q6 least7 last11 lastId12 i13 : AV) (h : Heap) : Option (AV × Heap) :=
  loopB T k milestonelaw3_QueueSorts_rs j0 [102, 103] milestonelaw3_QueueSorts_c3 [.blk 4, .seq [5, 7, 11, 12, 13, 101] (.lab milestonelaw3_QueueSorts_c4)] [.undef, .undef, .undef, .undef, .undef, n5, q6, least7, .undef, .undef, .undef, last11, lastId12, i13, .undef, .undef, .undef, .undef, .undef, .undef, .undef, .undef, .undef, .undef, .undef, .undef, .undef, .undef, .undef, .undef, .undef, .undef, .undef, .undef, .undef, .undef, .undef, .undef, .undef, .undef, .undef, .undef, .undef, .undef, .undef, .undef, .undef, .undef, .undef, .undef, .undef, .undef, .undef, .undef, .undef, .undef, .undef, .undef, .undef, .undef, .undef, .undef, .undef, .undef, .undef, .undef, .undef, .undef, .undef, .undef, .undef, .undef, .undef, .undef, .undef, .undef, .undef, .undef, .undef, .undef, .undef, .undef, .undef, .undef, .undef, .undef, .undef, .undef, .undef, .undef, .undef, .undef, .undef, .undef, .undef, .undef, .undef, .undef, .undef, .undef, .undef, .undef, .undef, .undef, .undef, .undef, .undef, .undef, .undef, .undef, .undef, .undef, .undef, .undef, .undef, .undef, .undef, .undef, .undef, .undef, .undef, .undef, .undef, .undef, .undef, .undef, .undef, .undef, .undef, .undef, .undef, .undef, .undef, .undef, .undef, .undef, .undef, .undef, .undef, .undef, .undef, .undef, .undef, .undef, .undef, .undef, .undef, .undef, .undef, .undef, .undef, .undef, .undef, .undef, .undef, .undef, .undef, .undef, .undef, .undef, .undef, .undef, .undef, .undef, .undef, .undef, .undef, .undef, .undef, .undef, .undef, .undef, .undef, .undef] h
noncomputable def milestonelaw3_QueueSorts_b6 (T : Tab) (k : Nat) (q6 : AV) (h : Heap) : Option (AV × Heap) :=
  evB T k milestonelaw3_QueueSorts_rs milestonelaw3_QueueSorts_c4 [] [.undef, .undef, .undef, .undef, .undef, .undef, q6, .undef, .undef, .undef, .undef, .undef, .undef, .undef, .undef, .undef, .undef, .undef, .undef, .undef, .undef, .undef, .undef, .undef, .undef, .undef, .undef, .undef, .undef, .undef, .undef, .undef, .undef, .undef, .undef, .undef, .undef, .undef, .undef, .undef, .undef, .undef, .undef, .undef, .undef, .undef, .undef, .undef, .undef, .undef, .undef, .undef, .undef, .undef, .undef, .undef, .undef, .undef, .undef, .undef, .undef, .undef, .undef, .undef, .undef, .undef, .undef, .undef, .undef, .undef, .undef, .undef, .undef, .undef, .undef, .undef, .undef, .undef, .undef, .undef, .undef, .undef, .undef, .undef, .undef, .undef, .undef, .undef, .undef, .undef, .undef, .undef, .undef, .undef, .undef, .undef, .undef, .undef, .undef, .undef, .undef, .undef, .undef, .undef, .undef, .undef, .undef, .undef, .undef, .undef, .undef, .undef, .undef, .undef, .undef, .undef, .undef, .undef, .undef, .undef, .undef, .undef, .undef, .undef, .undef, .undef, .undef, .undef, .undef, .undef, .undef, .undef, .undef, .undef, .undef, .undef, .undef, .undef, .undef, .undef, .undef, .undef, .undef, .undef, .undef, .undef, .undef, .undef, .undef, .undef, .undef, .undef, .undef, .undef, .undef, .undef, .undef, .undef, .undef, .undef, .undef, .undef, .undef, .undef, .undef, .undef, .undef, .undef, .undef, .undef, .undef, .undef, .undef, .undef] h
theorem milestonelaw3_QueueSorts_b6_eq (T : Tab) (k : Nat) (q6 : AV) (h : Heap) : milestonelaw3_QueueSorts_b6 T k q6 h =
    ob (evalFn T k f_queue_Queue_Pop [q6] h) fun t168_1 h_2 =>
    oa (extr 0 t168_1) fun t169_3 =>
    oa (extr 1 t168_1) fun t170_4 =>
    oa (extr 2 t168_1) fun t171_5 =>
    oa (unV .not t171_5) fun t173_6 =>
    some (t173_6, h_2) := blockEq (by kernel_rfl)
theorem milestonelaw3_QueueSorts_l5_eq (T : Tab) (k j0 : Nat) (n5 q6 least7 last11 lastId12 i13 : AV) (h : Heap) : milestonelaw3_QueueSorts_l5 T k (j0 + 1) n5 q6 least7 last11 lastId12 i13 h =
    oa (binV .lss .scalar i13 n5) fun t101_1 =>
    cond2 t101_1
      (
      ob (evalFn T k f_queue_Queue_Pop [q6] h) fun t106_2 h_3 =>
      oa (extr 0 t106_2) fun t107_4 =>
      oa (extr 1 t106_2) fun t108_5 =>
      oa (extr 2 t106_2) fun t109_6 =>
      oa (unV .not t109_6) fun t111_7 =>
      ob (gd t111_7 false (some (t107_4, h_3)) h_3) fun t113_8 h_9 =>
      ob (gd t111_7 false (pure1 h_9 (binV .lss .scalar t113_8 (.int .i64 0))) h_9) fun t114_10 h_11 =>
      oa (pickV t111_7 (.bool true) t114_10) fun t115_12 =>
      ob (gd t115_12 false (some (t107_4, h_11)) h_11) fun t117_13 h_14 =>
      ob (gd t115_12 false (some (n5, h_14)) h_14) fun t118_15 h_16 =>
      ob (gd t115_12 false (pure1 h_16 (binV .geq .scalar t117_13 t118_15)) h_16) fun t119_17 h_18 =>
      oa (pickV t115_12 (.bool true) t119_17) fun t120_19 =>
      ob (gd t120_19 false (some (t108_5, h_18)) h_18) fun t122_20 h_21 =>
      ob (gd t120_19 false (some (least7, h_21)) h_21) fun t123_22 h_23 =>
      ob (gd t120_19 false (some (t107_4, h_23)) h_23) fun t124_24 h_25 =>
      ob (gd t120_19 false (pure1 h_25 (idxS 1 t123_22 t124_24)) h_25) fun t125_26 h_27 =>
      ob (gd t120_19 false (pure1 h_27 (ld1 h_27 t125_26)) h_27) fun t126_28 h_29 =>
      ob (gd t120_19 false (pure1 h_29 (binV .neq .scalar t122_20 t126_28)) h_29) fun t127_30 h_31 =>
      oa (pickV t120_19 (.bool true) t127_30) fun t128_32 =>
      ob (gd t128_32 false (some (i13, h_31)) h_31) fun t130_33 h_34 =>
      ob (gd t128_32 false (pure1 h_34 (binV .gtr .scalar t130_33 (.int .i64 0))) h_34) fun t131_35 h_36 =>
      ob (gd t128_32 false (some (t131_35, h_36)) h_36) fun t132_37 h_38 =>
      ob (gd t132_37 true (some (t108_5, h_38)) h_38) fun t133_39 h_40 =>
      ob (gd t132_37 true (some (last11, h_40)) h_40) fun t134_41 h_42 =>
      ob (gd t132_37 true (pure1 h_42 (binV .lss .scalar t133_39 t134_41)) h_42) fun t135_43 h_44 =>
      ob (gd t132_37 true (some (t135_43, h_44)) h_44) fun t136_45 h_46 =>
      ob (gd t136_45 false (some (t108_5, h_46)) h_46) fun t137_47 h_48 =>
      ob (gd t136_45 false (some (last11, h_48)) h_48) fun t138_49 h_50 =>
      ob (gd t136_45 false (pure1 h_50 (binV .eql .scalar t137_47 t138_49)) h_50) fun t139_51 h_52 =>
      ob (gd t136_45 false (some (t139_51, h_52)) h_52) fun t140_53 h_54 =>
      ob (gd t140_53 true (some (t107_4, h_54)) h_54) fun t141_55 h_56 =>
      ob (gd t140_53 true (some (lastId12, h_56)) h_56) fun t142_57 h_58 =>
      ob (gd t140_53 true (pure1 h_58 (binV .leq .scalar t141_55 t142_57)) h_58) fun t143_59 h_60 =>
      ob (gd t136_45 false (pure1 h_60 (pickV t140_53 t143_59 (.bool false))) h_60) fun t144_61 h_62 =>
      ob (gd t132_37 true (pure1 h_62 (pickV t136_45 (.bool true) t144_61)) h_62) fun t145_63 h_64 =>
      ob (gd t128_32 false (pure1 h_64 (pickV t132_37 t145_63 (.bool false))) h_64) fun t146_65 h_66 =>
      oa (pickV t128_32 (.bool true) t146_65) fun t147_67 =>
      ob (gd t147_67 false (some (q6, h_66)) h_66) fun t149_68 h_69 =>
      ob (gd t147_67 false (evalFn T k f_queue_Queue_Len [t149_68] h_69) h_69) fun t150_70 h_71 =>
      ob (gd t147_67 false (some (n5, h_71)) h_71) fun t151_72 h_73 =>
      ob (gd t147_67 false (pure1 h_73 (binV .sub .scalar t151_72 (.int .i64 1))) h_73) fun t152_74 h_75 =>
      ob (gd t147_67 false (some (i13, h_75)) h_75) fun t153_76 h_77 =>
      ob (gd t147_67 false (pure1 h_77 (binV .sub .scalar t152_74 t153_76)) h_77) fun t154_78 h_79 =>
      ob (gd t147_67 false (pure1 h_79 (binV .neq .scalar t150_70 t154_78)) h_79) fun t155_80 h_81 =>
      oa (pickV t147_67 (.bool true) t155_80) fun t156_82 =>
      cond2 t156_82
        (
        some ((.bool false), h_81)
        )
        (
        ob (evalFn T k f_queue_Queue_Key [q6, t107_4] h_81) fun t160_83 h_84 =>
        oa (extr 0 t160_83) fun t161_85 =>
        oa (extr 1 t160_83) fun t162_86 =>
        cond2 t162_86
          (
          some ((.bool false), h_84)
          )
          (
          oa (binV .add .scalar i13 (.int .i64 1)) fun t103_87 =>
          milestonelaw3_QueueSorts_l5 T k j0 n5 q6 least7 t108_5 t107_4 t103_87 h_84
          )
        )
      )
      (
      milestonelaw3_QueueSorts_b6 T k q6 h
      ) := loopEq (by kernel_rfl)
theorem milestonelaw3_QueueSorts_b4_eq (T : Tab) (k : Nat) (n5 q6 least7 : AV) (h : Heap) : milestonelaw3_QueueSorts_b4 T k n5 q6 least7 h =
    milestonelaw3_QueueSorts_l5 T k k n5 q6 least7 (.int .i64 0) (.int .i64 0) (.int .i64 0) h := blockEq (by kernel_rfl)
theorem milestonelaw3_QueueSorts_l3_eq (T : Tab) (k j0 : Nat) (again1 n5 q6 least7 i9 : AV) (h : Heap) : milestonelaw3_QueueSorts_l3 T k (j0 + 1) again1 n5 q6 least7 i9 h =
    oa (lenS again1) fun t55_1 =>
    oa (binV .lss .scalar i9 t55_1) fun t56_2 =>
    ob (gd t56_2 true (some (i9, h)) h) fun t58_3 h_4 =>
    ob (gd t56_2 true (pure1 h_4 (binV .lss .scalar t58_3 (.int .i64 60))) h_4) fun t59_5 h_6 =>
    oa (pickV t56_2 t59_5 (.bool false)) fun t60_7 =>
    ob (gd t60_7 true (some (n5, h_6)) h_6) fun t62_8 h_9 =>
    ob (gd t60_7 true (pure1 h_9 (binV .gtr .scalar t62_8 (.int .i64 0))) h_9) fun t63_10 h_11 =>
    oa (pickV t60_7 t63_10 (.bool false)) fun t64_12 =>
    cond2 t64_12
      (
      oa (binV .rem .scalar i9 n5) fun t69_13 =>
      oa (idxS 1 again1 i9) fun t178_14 =>
      oa (ld1 h_11 t178_14) fun t179_15 =>
      oa (idxS 1 again1 i9) fun t183_16 =>
      oa (ld1 h_11 t183_16) fun t184_17 =>
      oa (idxS 1 least7 t69_13) fun t187_18 =>
      oa (ld1 h_11 t187_18) fun t188_19 =>
      oa (binV .lss .scalar t184_17 t188_19) fun t189_20 =>
      ob (evalFn T k f_queue_Queue_Put [q6, t69_13, t179_15] h_11) fun t180_21 h_22 =>
      chk ((sameB (pure1 h_22 (ld1 h_22 t183_16)) t184_17 && (sameB (pure1 h_22 (ld1 h_22 t187_18)) t188_19 && true))) <|
      oa (binV .neq .bool t180_21 t189_20) fun t190_23 =>
      cond2 t190_23
        (
        some ((.bool false), h_22)
        )
        (
        oa (idxS 1 least7 t69_13) fun t178_24 =>
        oa (ld1 h_22 t178_24) fun t179_25 =>
        oa (idxS 1 again1 i9) fun t182_26 =>
        oa (ld1 h_22 t182_26) fun t183_27 =>
        oa (mmV false t179_25 t183_27) fun t184_28 =>
        oa (idxS 1 least7 t69_13) fun t185_29 =>
        oh (stN 1 h_22 t185_29 t184_28) fun h_30 =>
        oa (binV .add .scalar i9 (.int .i64 1)) fun t66_31 =>
        milestonelaw3_QueueSorts_l3 T k j0 again1 n5 q6 least7 t66_31 h_30
        )
      )
      (
      milestonelaw3_QueueSorts_b4 T k n5 q6 least7 h_11
      ) := loopEq (by kernel_rfl)
theorem milestonelaw3_QueueSorts_b2_eq (T : Tab) (k : Nat) (again1 n5 q6 least7 : AV) (h : Heap) : milestonelaw3_QueueSorts_b2 T k again1 n5 q6 least7 h =
    milestonelaw3_QueueSorts_l3 T k k again1 n5 q6 least7 (.int .i64 0) h := blockEq (by kernel_rfl)
theorem milestonelaw3_QueueSorts_l1_eq (T : Tab) (k j0 : Nat) (keys0 again1 n5 q6 least7 i8 : AV) (h : Heap) : milestonelaw3_QueueSorts_l1 T k (j0 + 1) keys0 again1 n5 q6 least7 i8 h =
    oa (binV .lss .scalar i8 n5) fun t35_1 =>
    cond2 t35_1
      (
      oa (idxS 1 keys0 i8) fun t42_2 =>
      oa (ld1 h t42_2) fun t43_3 =>
      oa (idxS 1 least7 i8) fun t44_4 =>
      oh (stN 1 h t44_4 t43_3) fun h_5 =>
      oa (idxS 1 keys0 i8) fun t49_6 =>
      oa (ld1 h_5 t49_6) fun t50_7 =>
      ob (evalFn T k f_queue_Queue_Put [q6, i8, t50_7] h_5) fun t51_8 h_9 =>
      oa (unV .not t51_8) fun t52_10 =>
      cond2 t52_10
        (
        some ((.bool false), h_9)
        )
        (
        oa (binV .add .scalar i8 (.int .i64 1)) fun t37_11 =>
        milestonelaw3_QueueSorts_l1 T k j0 keys0 again1 n5 q6 least7 t37_11 h_9
        )
      )
      (
      milestonelaw3_QueueSorts_b2 T k again1 n5 q6 least7 h
      ) := loopEq (by kernel_rfl)
theorem milestonelaw3_QueueSorts_eq (T : Tab) (k : Nat) (keys0 again1 : AV) (h : Heap) : runF T k milestonelaw3_QueueSorts_mf [keys0, again1] h =
    ob (evalFn T k f_milestonelaw3_known [] h) fun t22_1 h_2 =>
    oa (unV .not t22_1) fun t23_3 =>
    cond2 t23_3
      (
      some ((.bool false), h_2)
      )
      (
      oa (lenS keys0) fun t25_4 =>
      oa (mmV false t25_4 (.int .i64 60)) fun t26_5 =>
      ob (evalFn T k f_queue_New [t26_5] h_2) fun t28_6 h_7 =>
      oa (binV .eql .ptr t28_6 .nilp) fun t30_8 =>
      cond2 t30_8
        (
        some ((.bool false), h_7)
        )
        (
        ob (mkSl [.int .i64 0] 1 8 t26_5 t26_5 h_7) fun t32_9 h_10 =>
        milestonelaw3_QueueSorts_l1 T k k keys0 again1 t26_5 t28_6 t32_9 (.int .i64 0) h_10
        )
      ) := runEq (by kernel_rfl)
noncomputable def milestonelaw3_QueueBack_c1 : MCode := .seq [22] (.seq [15, 16, 17, 18, 19, 20, 21] (.region [⟨some 15, .op (.mv (.tmp 4)), none⟩,
  ⟨some 16, .op (.mv (.tmp 0)), none⟩,
  ⟨some 17, .op (.lenSl (.tmp 16)), none⟩,
  ⟨some 18, .op (.bin .lss .scalar (.tmp 15) (.tmp 17)), none⟩,
  ⟨some 19, .op (.mv (.tmp 18)), none⟩,
  ⟨some 20, .op (.mv (.tmp 4)), some (19, true)⟩,
  ⟨some 21, .op (.bin .lss .scalar (.tmp 20) (.const (.int .i64 40))), some (19, true)⟩,
  ⟨some 22, .op (.pick (.tmp 19) (.tmp 21) (.const (.bool false))), none⟩]) (.cond (.tmp 22) .skip (.exit 0))) (.seq [86] (.block 1 (.seq [44] (.seq [25, 26, 27, 28, 29, 30, 31, 32, 33, 34, 35, 36, 37, 38, 39, 40, 41, 42, 43] (.region [⟨some 25, .op (.mv (.tmp 3)), none⟩,
  ⟨some 26, .op (.mv (.tmp 0)), none⟩,
  ⟨some 27, .op (.mv (.tmp 4)), none⟩,
  ⟨some 28, .op (.idxSl 1 (.tmp 26) (.tmp 27)), none⟩,
  ⟨some 29, .op (.load none (.tmp 28)), none⟩,
  ⟨some 30, .call f_queue_Queue_Put [(.tmp 25), (.const (.int .i64 1)), (.tmp 29)], none⟩,
  ⟨some 31, .op (.un .not (.tmp 30)), none⟩,
  ⟨some 32, .op (.mv (.tmp 31)), none⟩,
  ⟨some 33, .op (.mv (.tmp 3)), some (32, false)⟩,
  ⟨some 34, .op (.mv (.tmp 0)), some (32, false)⟩,
  ⟨some 35, .op (.mv (.tmp 4)), some (32, false)⟩,
  ⟨some 36, .op (.idxSl 1 (.tmp 34) (.tmp 35)), some (32, false)⟩,
  ⟨some 37, .op (.load none (.tmp 36)), some (32, false)⟩,
  ⟨some 38, .call f_queue_Queue_Put [(.tmp 33), (.const (.int .i64 1)), (.tmp 37)], some (32, false)⟩,
  ⟨some 39, .op (.pick (.tmp 32) (.const (.bool true)) (.tmp 38)), none⟩,
  ⟨some 40, .op (.mv (.tmp 39)), none⟩,
  ⟨some 41, .op (.mv (.tmp 3)), some (40, false)⟩,
  ⟨some 42, .call f_queue_Queue_Len [(.tmp 41)], some (40, false)⟩,
  ⟨some 43, .op (.bin .neq .scalar (.tmp 42) (.const (.int .i64 1))), some (40, false)⟩,
  ⟨some 44, .op (.pick (.tmp 40) (.const (.bool true)) (.tmp 43)), none⟩]) (.cond (.tmp 44) (.seq [0, 3, 4, 44] (.region [⟨some 2, .op (.mv (.const (.bool false))), none⟩]) .ret) .skip)) (.seq [45, 46, 47, 48, 49] (.region [⟨some 46, .op (.mv (.tmp 3)), none⟩,
  ⟨some 47, .call f_queue_Queue_Key [(.tmp 46), (.const (.int .i64 1))], none⟩,
  ⟨some 45, .op (.mv (.tmp 47)), none⟩,
  ⟨some 48, .op (.extract 0 (.tmp 45)), none⟩,
  ⟨some 49, .op (.extract 1 (.tmp 45)), none⟩,
  ⟨some 5, .op (.mv (.tmp 48)), none⟩,
  ⟨some 6, .op (.mv (.tmp 49)), none⟩]) (.seq [50, 51, 52, 53, 54, 55] (.region [⟨some 51, .op (.mv (.tmp 3)), none⟩,
  ⟨some 52, .call f_queue_Queue_Pop [(.tmp 51)], none⟩,
  ⟨some 50, .op (.mv (.tmp 52)), none⟩,
  ⟨some 53, .op (.extract 0 (.tmp 50)), none⟩,
  ⟨some 54, .op (.extract 1 (.tmp 50)), none⟩,
  ⟨some 55, .op (.extract 2 (.tmp 50)), none⟩,
  ⟨some 7, .op (.mv (.tmp 53)), none⟩,
  ⟨some 8, .op (.mv (.tmp 54)), none⟩,
  ⟨some 9, .op (.mv (.tmp 55)), none⟩]) (.seq [5, 6, 7, 8, 9, 56, 57, 58, 59, 60, 61, 62, 63, 64, 65, 66, 67, 68, 69, 70, 71, 72, 73, 74, 75, 76, 77, 78, 79, 80, 81, 82, 83, 84, 85] (.region [⟨some 56, .op (.mv (.tmp 6)), none⟩,
  ⟨some 57, .op (.un .not (.tmp 56)), none⟩,
  ⟨some 58, .op (.mv (.tmp 57)), none⟩,
  ⟨some 59, .op (.mv (.tmp 5)), some (58, false)⟩,
  ⟨some 60, .op (.mv (.tmp 0)), some (58, false)⟩,
  ⟨some 61, .op (.mv (.tmp 4)), some (58, false)⟩,
  ⟨some 62, .op (.idxSl 1 (.tmp 60) (.tmp 61)), some (58, false)⟩,
  ⟨some 63, .op (.load none (.tmp 62)), some (58, false)⟩,
  ⟨some 64, .op (.bin .neq .scalar (.tmp 59) (.tmp 63)), some (58, false)⟩,
  ⟨some 65, .op (.pick (.tmp 58) (.const (.bool true)) (.tmp 64)), none⟩,
  ⟨some 66, .op (.mv (.tmp 65)), none⟩,
  ⟨some 67, .op (.mv (.tmp 9)), some (66, false)⟩,
  ⟨some 68, .op (.un .not (.tmp 67)), some (66, false)⟩,
  ⟨some 69, .op (.pick (.tmp 66) (.const (.bool true)) (.tmp 68)), none⟩,
  ⟨some 70, .op (.mv (.tmp 69)), none⟩,
  ⟨some 71, .op (.mv (.tmp 7)), some (70, false)⟩,
  ⟨some 72, .op (.bin .neq .scalar (.tmp 71) (.const (.int .i64 1))), some (70, false)⟩,
  ⟨some 73, .op (.pick (.tmp 70) (.const (.bool true)) (.tmp 72)), none⟩,
  ⟨some 74, .op (.mv (.tmp 73)), none⟩,
  ⟨some 75, .op (.mv (.tmp 8)), some (74, false)⟩,
  ⟨some 76, .op (.mv (.tmp 0)), some (74, false)⟩,
  ⟨some 77, .op (.mv (.tmp 4)), some (74, false)⟩,
  ⟨some 78, .op (.idxSl 1 (.tmp 76) (.tmp 77)), some (74, false)⟩,
  ⟨some 79, .op (.load none (.tmp 78)), some (74, false)⟩,
  ⟨some 80, .op (.bin .neq .scalar (.tmp 75) (.tmp 79)), some (74, false)⟩,
  ⟨some 81, .op (.pick (.tmp 74) (.const (.bool true)) (.tmp 80)), none⟩,
  ⟨some 82, .op (.mv (.tmp 81)), none⟩,
  ⟨some 83, .op (.mv (.tmp 3)), some (82, false)⟩,
  ⟨some 84, .call f_queue_Queue_Len [(.tmp 83)], some (82, false)⟩,
  ⟨some 85, .op (.bin .neq .scalar (.tmp 84) (.const (.int .i64 0))), some (82, false)⟩,
  ⟨some 86, .op (.pick (.tmp 82) (.const (.bool true)) (.tmp 85)), none⟩]) (.cond (.tmp 86) (.seq [0, 3, 4, 86] (.region [⟨some 2, .op (.mv (.const (.bool false))), none⟩]) .ret) .skip)))))) (.region [⟨some 23, .op (.mv (.tmp 4)), none⟩,
  ⟨some 24, .op (.bin .add .scalar (.tmp 23) (.const (.int .i64 1))), none⟩,
  ⟨some 4, .op (.mv (.tmp 24)), none⟩]))
def milestonelaw3_QueueBack_rs : Res := [(2, none)]
noncomputable def milestonelaw3_QueueBack_mf : MFn := ⟨87, milestonelaw3_QueueBack_rs, .seq [2] (.region [⟨some 2, .op (.mv (.const (.bool false))), none⟩]) (.seq [11] (.seq [10] (.region [⟨some 10, .call f_milestonelaw3_known [], none⟩,
  ⟨some 11, .op (.un .not (.tmp 10)), none⟩]) (.cond (.tmp 11) (.seq [0, 11] (.region [⟨some 2, .op (.mv (.const (.bool false))), none⟩]) .ret) .skip)) (.seq [12] (.region [⟨some 12, .call f_queue_New [(.const (.int .i64 2))], none⟩,
  ⟨some 3, .op (.mv (.tmp 12)), none⟩]) (.seq [14] (.seq [13] (.region [⟨some 13, .op (.mv (.tmp 3)), none⟩,
  ⟨some 14, .op (.bin .eql .ptr (.tmp 13) (.const .nilp)), none⟩]) (.cond (.tmp 14) (.seq [0, 3, 14] (.region [⟨some 2, .op (.mv (.const (.bool false))), none⟩]) .ret) .skip)) (.seq [0, 3, 4, 22] (.seq [] (.region [⟨some 4, .op (.mv (.const (.int .i64 0))), none⟩]) (.block 0 (.loop [23, 24] milestonelaw3_QueueBack_c1))) (.seq [] (.region [⟨some 2, .op (.mv (.const (.bool true))), none⟩]) .ret)))))⟩
noncomputable def milestonelaw3_QueueBack_l1 (T : Tab) (k j0 : Nat) (keys0 q3 i4 : AV) (h : Heap) : Option (AV × Heap) :=
  loopB T k milestonelaw3_QueueBack_rs j0 [23, 24] milestonelaw3_QueueBack_c1 [.blk 0, .seq [0, 3, 4, 22] (.seq [] (.region [⟨some 2, .op (.mv (.const (.bool true))), none⟩]) .ret)] [keys0, .undef, .undef, q3, i4, .undef, .undef, .undef, .undef, .undef, .undef, .undef, .undef, .undef, .undef, .undef, .undef, .undef, .undef, .undef, .undef, .undef, .undef, .undef, .undef, .undef, .undef, .undef, .undef, .undef, .undef, .undef, .undef, .undef, .undef, .undef, .undef, .undef, .undef, .undef, .undef, .undef, .undef, .undef, .undef, .undef, .undef, .undef, .undef, .undef, .undef, .undef, .undef, .undef, .undef, .undef, .undef, .undef, .undef, .undef, .undef, .undef, .undef, .undef, .undef, .undef, .undef, .undef, .undef, .undef, .undef, .undef, .undef, .undef, .undef, .undef, .undef, .undef, .undef, .undef, .undef, .undef, .undef, .undef, .undef, .undef, .undef] h
theorem milestonelaw3_QueueBack_l1_eq (T : Tab) (k j0 : Nat) (keys0 q3 i4 : AV) (h : Heap) : milestonelaw3_QueueBack_l1 T k (j0 + 1) keys0 q3 i4 h =
    oa (lenS keys0) fun t17_1 =>
    oa (binV .lss .scalar i4 t17_1) fun t18_2 =>
    ob (gd t18_2 true (some (i4, h)) h) fun t20_3 h_4 =>
    ob (gd t18_2 true (pure1 h_4 (binV .lss .scalar t20_3 (.int .i64 40))) h_4) fun t21_5 h_6 =>
    oa (pickV t18_2 t21_5 (.bool false)) fun t22_7 =>
    cond2 t22_7
      (
      oa (idxS 1 keys0 i4) fun t28_8 =>
      oa (ld1 h_6 t28_8) fun t29_9 =>
      ob (evalFn T k f_queue_Queue_Put [q3, (.int .i64 1), t29_9] h_6) fun t30_10 h_11 =>
      oa (unV .not t30_10) fun t31_12 =>
      ob (gd t31_12 false (some (q3, h_11)) h_11) fun t33_13 h_14 =>
      ob (gd t31_12 false (some (keys0, h_14)) h_14) fun t34_15 h_16 =>
      ob (gd t31_12 false (some (i4, h_16)) h_16) fun t35_17 h_18 =>
      ob (gd t31_12 false (pure1 h_18 (idxS 1 t34_15 t35_17)) h_18) fun t36_19 h_20 =>
      ob (gd t31_12 false (pure1 h_20 (ld1 h_20 t36_19)) h_20) fun t37_21 h_22 =>
      ob (gd t31_12 false (evalFn T k f_queue_Queue_Put [t33_13, (.int .i64 1), t37_21] h_22) h_22) fun t38_23 h_24 =>
      oa (pickV t31_12 (.bool true) t38_23) fun t39_25 =>
      ob (gd t39_25 false (some (q3, h_24)) h_24) fun t41_26 h_27 =>
      ob (gd t39_25 false (evalFn T k f_queue_Queue_Len [t41_26] h_27) h_27) fun t42_28 h_29 =>
      ob (gd t39_25 false (pure1 h_29 (binV .neq .scalar t42_28 (.int .i64 1))) h_29) fun t43_30 h_31 =>
      oa (pickV t39_25 (.bool true) t43_30) fun t44_32 =>
      cond2 t44_32
        (
        some ((.bool false), h_31)
        )
        (
        ob (evalFn T k f_queue_Queue_Key [q3, (.int .i64 1)] h_31) fun t47_33 h_34 =>
        oa (extr 0 t47_33) fun t48_35 =>
        oa (extr 1 t47_33) fun t49_36 =>
        ob (evalFn T k f_queue_Queue_Pop [q3] h_34) fun t52_37 h_38 =>
        oa (extr 0 t52_37) fun t53_39 =>
        oa (extr 1 t52_37) fun t54_40 =>
        oa (extr 2 t52_37) fun t55_41 =>
        oa (unV .not t49_36) fun t57_42 =>
        ob (gd t57_42 false (some (t48_35, h_38)) h_38) fun t59_43 h_44 =>
        ob (gd t57_42 false (some (keys0, h_44)) h_44) fun t60_45 h_46 =>
        ob (gd t57_42 false (some (i4, h_46)) h_46) fun t61_47 h_48 =>
        ob (gd t57_42 false (pure1 h_48 (idxS 1 t60_45 t61_47)) h_48) fun t62_49 h_50 =>
        ob (gd t57_42 false (pure1 h_50 (ld1 h_50 t62_49)) h_50) fun t63_51 h_52 =>
        ob (gd t57_42 false (pure1 h_52 (binV .neq .scalar t59_43 t63_51)) h_52) fun t64_53 h_54 =>
        oa (pickV t57_42 (.bool true) t64_53) fun t65_55 =>
        ob (gd t65_55 false (some (t55_41, h_54)) h_54) fun t67_56 h_57 =>
        ob (gd t65_55 false (pure1 h_57 (unV .not t67_56)) h_57) fun t68_58 h_59 =>
        oa (pickV t65_55 (.bool true) t68_58) fun t69_60 =>
        ob (gd t69_60 false (some (t53_39, h_59)) h_59) fun t71_61 h_62 =>
        ob (gd t69_60 false (pure1 h_62 (binV .neq .scalar t71_61 (.int .i64 1))) h_62) fun t72_63 h_64 =>
        oa (pickV t69_60 (.bool true) t72_63) fun t73_65 =>
        ob (gd t73_65 false (some (t54_40, h_64)) h_64) fun t75_66 h_67 =>
        ob (gd t73_65 false (some (keys0, h_67)) h_67) fun t76_68 h_69 =>
        ob (gd t73_65 false (some (i4, h_69)) h_69) fun t77_70 h_71 =>
        ob (gd t73_65 false (pure1 h_71 (idxS 1 t76_68 t77_70)) h_71) fun t78_72 h_73 =>
        ob (gd t73_65 false (pure1 h_73 (ld1 h_73 t78_72)) h_73) fun t79_74 h_75 =>
        ob (gd t73_65 false (pure1 h_75 (binV .neq .scalar t75_66 t79_74)) h_75) fun t80_76 h_77 =>
        oa (pickV t73_65 (.bool true) t80_76) fun t81_78 =>
        ob (gd t81_78 false (some (q3, h_77)) h_77) fun t83_79 h_80 =>
        ob (gd t81_78 false (evalFn T k f_queue_Queue_Len [t83_79] h_80) h_80) fun t84_81 h_82 =>
        ob (gd t81_78 false (pure1 h_82 (binV .neq .scalar t84_81 (.int .i64 0))) h_82) fun t85_83 h_84 =>
        oa (pickV t81_78 (.bool true) t85_83) fun t86_85 =>
        cond2 t86_85
          (
          some ((.bool false), h_84)
          )
          (
          oa (binV .add .scalar i4 (.int .i64 1)) fun t24_86 =>
          milestonelaw3_QueueBack_l1 T k j0 keys0 q3 t24_86 h_84
          )
        )
      )
      (
      some ((.bool true), h_6)
      ) := loopEq (by kernel_rfl)
theorem milestonelaw3_QueueBack_eq (T : Tab) (k : Nat) (keys0 : AV) (h : Heap) : runF T k milestonelaw3_QueueBack_mf [keys0] h =
    ob (evalFn T k f_milestonelaw3_known [] h) fun t10_1 h_2 =>
    oa (unV .not t10_1) fun t11_3 =>
    cond2 t11_3
      (
      some ((.bool false), h_2)
      )
      (
      ob (evalFn T k f_queue_New [(.int .i64 2)] h_2) fun t12_4 h_5 =>
      oa (binV .eql .ptr t12_4 .nilp) fun t14_6 =>
      cond2 t14_6
        (
        some ((.bool false), h_5)
        )
        (
        milestonelaw3_QueueBack_l1 T k k keys0 t12_4 (.int .i64 0) h_5
        )
      ) := runEq (by kernel_rfl)
def milestonelaw3_QueueErrs_rs : Res := [(6, none)]
noncomputable def milestonelaw3_QueueErrs_mf : MFn := ⟨93, milestonelaw3_QueueErrs_rs, .seq [6] (.region [⟨some 6, .op (.mv (.const (.bool false))), none⟩]) (.seq [18] (.seq [17] (.region [⟨some 17, .call f_milestonelaw3_known [], none⟩,
  ⟨some 18, .op (.un .not (.tmp 17)), none⟩]) (.cond (.tmp 18) (.seq [0, 1, 2, 18] (.region [⟨some 6, .op (.mv (.const (.bool false))), none⟩]) .ret) .skip)) (.seq [0, 19, 20] (.region [⟨some 19, .op (.mv (.tmp 0)), none⟩,
  ⟨some 20, .call f_milestonelaw3_within [(.tmp 19), (.const (.int .i64 50))], none⟩,
  ⟨some 7, .op (.mv (.tmp 20)), none⟩]) (.seq [21, 22] (.region [⟨some 21, .op (.mv (.tmp 7)), none⟩,
  ⟨some 22, .call f_queue_New [(.tmp 21)], none⟩,
  ⟨some 8, .op (.mv (.tmp 22)), none⟩]) (.seq [24] (.seq [23] (.region [⟨some 23, .op (.mv (.tmp 8)), none⟩,
  ⟨some 24, .op (.bin .eql .ptr (.tmp 23) (.const .nilp)), none⟩]) (.cond (.tmp 24) (.seq [1, 2, 7, 8, 24] (.region [⟨some 6, .op (.mv (.const (.bool false))), none⟩]) .ret) .skip)) (.seq [25, 26, 27, 28] (.region [⟨some 25, .op (.mv (.tmp 8)), none⟩,
  ⟨some 26, .op (.mv (.tmp 1)), none⟩,
  ⟨some 27, .op (.mv (.tmp 2)), none⟩,
  ⟨some 28, .call f_queue_Queue_Put [(.tmp 25), (.tmp 26), (.tmp 27)], none⟩,
  ⟨some 9, .op (.mv (.tmp 28)), none⟩]) (.seq [29, 30, 31, 32, 33, 34] (.region [⟨some 30, .op (.mv (.tmp 8)), none⟩,
  ⟨some 31, .op (.mv (.tmp 1)), none⟩,
  ⟨some 32, .call f_queue_Queue_Key [(.tmp 30), (.tmp 31)], none⟩,
  ⟨some 29, .op (.mv (.tmp 32)), none⟩,
  ⟨some 33, .op (.extract 0 (.tmp 29)), none⟩,
  ⟨some 34, .op (.extract 1 (.tmp 29)), none⟩,
  ⟨some 10, .op (.mv (.tmp 33)), none⟩,
  ⟨some 11, .op (.mv (.tmp 34)), none⟩]) (.seq [1, 35, 36, 37, 38, 39, 40, 41] (.region [⟨some 35, .op (.mv (.tmp 1)), none⟩,
  ⟨some 36, .op (.bin .geq .scalar (.tmp 35) (.const (.int .i64 0))), none⟩,
  ⟨some 37, .op (.mv (.tmp 36)), none⟩,
  ⟨some 38, .op (.mv (.tmp 1)), some (37, true)⟩,
  ⟨some 39, .op (.mv (.tmp 7)), some (37, true)⟩,
  ⟨some 40, .op (.bin .lss .scalar (.tmp 38) (.tmp 39)), some (37, true)⟩,
  ⟨some 41, .op (.pick (.tmp 37) (.tmp 40) (.const (.bool false))), none⟩,
  ⟨some 12, .op (.mv (.tmp 41)), none⟩]) (.seq [57] (.seq [2, 9, 10, 11, 42, 43, 44, 45, 46, 47, 48, 49, 50, 51, 52, 53, 54, 55, 56] (.region [⟨some 42, .op (.mv (.tmp 9)), none⟩,
  ⟨some 43, .op (.mv (.tmp 12)), none⟩,
  ⟨some 44, .op (.bin .neq .bool (.tmp 42) (.tmp 43)), none⟩,
  ⟨some 45, .op (.mv (.tmp 44)), none⟩,
  ⟨some 46, .op (.mv (.tmp 11)), some (45, false)⟩,
  ⟨some 47, .op (.mv (.tmp 12)), some (45, false)⟩,
  ⟨some 48, .op (.bin .neq .bool (.tmp 46) (.tmp 47)), some (45, false)⟩,
  ⟨some 49, .op (.pick (.tmp 45) (.const (.bool true)) (.tmp 48)), none⟩,
  ⟨some 50, .op (.mv (.tmp 49)), none⟩,
  ⟨some 51, .op (.mv (.tmp 12)), some (50, false)⟩,
  ⟨some 52, .op (.mv (.tmp 51)), some (50, false)⟩,
  ⟨some 53, .op (.mv (.tmp 10)), some (52, true)⟩,
  ⟨some 54, .op (.mv (.tmp 2)), some (52, true)⟩,
  ⟨some 55, .op (.bin .neq .scalar (.tmp 53) (.tmp 54)), some (52, true)⟩,
  ⟨some 56, .op (.pick (.tmp 52) (.tmp 55) (.const (.bool false))), some (50, false)⟩,
  ⟨some 57, .op (.pick (.tmp 50) (.const (.bool true)) (.tmp 56)), none⟩]) (.cond (.tmp 57) (.seq [7, 8, 12, 57] (.region [⟨some 6, .op (.mv (.const (.bool false))), none⟩]) .ret) .skip)) (.seq [13, 58, 59, 60, 61, 62] (.region [⟨some 59, .op (.mv (.tmp 8)), none⟩,
  ⟨some 60, .call f_queue_Queue_Key [(.tmp 59), (.const (.int .i64 (-1)))], none⟩,
  ⟨some 58, .op (.mv (.tmp 60)), none⟩,
  ⟨some 61, .op (.extract 0 (.tmp 58)), none⟩,
  ⟨some 62, .op (.extract 1 (.tmp 58)), none⟩,
  ⟨some 13, .op (.mv (.tmp 61)), none⟩,
  ⟨some 14, .op (.mv (.tmp 62)), none⟩]) (.seq [15, 63, 64, 65, 66, 67, 68] (.region [⟨some 64, .op (.mv (.tmp 8)), none⟩,
  ⟨some 65, .op (.mv (.tmp 7)), none⟩,
  ⟨some 66, .call f_queue_Queue_Key [(.tmp 64), (.tmp 65)], none⟩,
  ⟨some 63, .op (.mv (.tmp 66)), none⟩,
  ⟨some 67, .op (.extract 0 (.tmp 63)), none⟩,
  ⟨some 68, .op (.extract 1 (.tmp 63)), none⟩,
  ⟨some 15, .op (.mv (.tmp 67)), none⟩,
  ⟨some 16, .op (.mv (.tmp 68)), none⟩]) (.seq [7, 8, 12, 14, 16, 69, 70, 71, 72, 73, 74, 75, 76, 77, 78, 79, 80, 81, 82, 83, 84, 85, 86, 87, 88, 89, 90, 91, 92] (.region [⟨some 69, .op (.mv (.tmp 14)), none⟩,
  ⟨some 70, .op (.un .not (.tmp 69)), none⟩,
  ⟨some 71, .op (.mv (.tmp 70)), none⟩,
  ⟨some 72, .op (.mv (.tmp 16)), some (71, true)⟩,
  ⟨some 73, .op (.un .not (.tmp 72)), some (71, true)⟩,
  ⟨some 74, .op (.pick (.tmp 71) (.tmp 73) (.const (.bool false))), none⟩,
  ⟨some 75, .op (.mv (.tmp 74)), none⟩,
  ⟨some 76, .op (.mv (.tmp 8)), some (75, true)⟩,
  ⟨some 77, .op (.mv (.tmp 7)), some (75, true)⟩,
  ⟨some 78, .call f_queue_Queue_Put [(.tmp 76), (.tmp 77), (.const (.int .i64 0))], some (75, true)⟩,
  ⟨some 79, .op (.un .not (.tmp 78)), some (75, true)⟩,
  ⟨some 80, .op (.pick (.tmp 75) (.tmp 79) (.const (.bool false))), none⟩,
  ⟨some 81, .op (.mv (.tmp 80)), none⟩,
  ⟨some 82, .op (.mv (.tmp 8)), some (81, true)⟩,
  ⟨some 83, .call f_queue_Queue_Put [(.tmp 82), (.const (.int .i64 (-1))), (.const (.int .i64 0))], some (81, true)⟩,
  ⟨some 84, .op (.un .not (.tmp 83)), some (81, true)⟩,
  ⟨some 85, .op (.pick (.tmp 81) (.tmp 84) (.const (.bool false))), none⟩,
  ⟨some 86, .op (.mv (.tmp 85)), none⟩,
  ⟨some 87, .op (.mv (.tmp 8)), some (86, true)⟩,
  ⟨some 88, .call f_queue_Queue_Len [(.tmp 87)], some (86, true)⟩,
  ⟨some 89, .op (.bin .eql .scalar (.tmp 88) (.const (.int .i64 1))), some (86, true)⟩,
  ⟨some 90, .op (.mv (.tmp 12)), some (86, true)⟩,
  ⟨some 91, .op (.bin .eql .bool (.tmp 89) (.tmp 90)), some (86, true)⟩,
  ⟨some 92, .op (.pick (.tmp 86) (.tmp 91) (.const (.bool false))), none⟩,
  ⟨some 6, .op (.mv (.tmp 92)), none⟩]) .ret)))))))))))⟩
theorem milestonelaw3_QueueErrs_eq (T : Tab) (k : Nat) (size0 id1 key2 : AV) (h : Heap) : runF T k milestonelaw3_QueueErrs_mf [size0, id1, key2] h =
    ob (evalFn T k f_milestonelaw3_known [] h) fun t17_1 h_2 =>
    oa (unV .not t17_1) fun t18_3 =>
    cond2 t18_3
      (
      some ((.bool false), h_2)
      )
      (
      ob (evalFn T k f_milestonelaw3_within [size0, (.int .i64 50)] h_2) fun t20_4 h_5 =>
      ob (evalFn T k f_queue_New [t20_4] h_5) fun t22_6 h_7 =>
      oa (binV .eql .ptr t22_6 .nilp) fun t24_8 =>
      cond2 t24_8
        (
        some ((.bool false), h_7)
        )
        (
        ob (evalFn T k f_queue_Queue_Put [t22_6, id1, key2] h_7) fun t28_9 h_10 =>
        ob (evalFn T k f_queue_Queue_Key [t22_6, id1] h_10) fun t32_11 h_12 =>
        oa (extr 0 t32_11) fun t33_13 =>
        oa (extr 1 t32_11) fun t34_14 =>
        oa (binV .geq .scalar id1 (.int .i64 0)) fun t36_15 =>
        ob (gd t36_15 true (some (id1, h_12)) h_12) fun t38_16 h_17 =>
        ob (gd t36_15 true (some (t20_4, h_17)) h_17) fun t39_18 h_19 =>
        ob (gd t36_15 true (pure1 h_19 (binV .lss .scalar t38_16 t39_18)) h_19) fun t40_20 h_21 =>
        oa (pickV t36_15 t40_20 (.bool false)) fun t41_22 =>
        oa (binV .neq .bool t28_9 t41_22) fun t44_23 =>
        ob (gd t44_23 false (some (t34_14, h_21)) h_21) fun t46_24 h_25 =>
        ob (gd t44_23 false (some (t41_22, h_25)) h_25) fun t47_26 h_27 =>
        ob (gd t44_23 false (pure1 h_27 (binV .neq .bool t46_24 t47_26)) h_27) fun t48_28 h_29 =>
        oa (pickV t44_23 (.bool true) t48_28) fun t49_30 =>
        ob (gd t49_30 false (some (t41_22, h_29)) h_29) fun t51_31 h_32 =>
        ob (gd t49_30 false (some (t51_31, h_32)) h_32) fun t52_33 h_34 =>
        ob (gd t52_33 true (some (t33_13, h_34)) h_34) fun t53_35 h_36 =>
        ob (gd t52_33 true (some (key2, h_36)) h_36) fun t54_37 h_38 =>
        ob (gd t52_33 true (pure1 h_38 (binV .neq .scalar t53_35 t54_37)) h_38) fun t55_39 h_40 =>
        ob (gd t49_30 false (pure1 h_40 (pickV t52_33 t55_39 (.bool false))) h_40) fun t56_41 h_42 =>
        oa (pickV t49_30 (.bool true) t56_41) fun t57_43 =>
        cond2 t57_43
          (
          some ((.bool false), h_42)
          )
          (
          ob (evalFn T k f_queue_Queue_Key [t22_6, (.int .i64 (-1))] h_42) fun t60_44 h_45 =>
          oa (extr 0 t60_44) fun t61_46 =>
          oa (extr 1 t60_44) fun t62_47 =>
          ob (evalFn T k f_queue_Queue_Key [t22_6, t20_4] h_45) fun t66_48 h_49 =>
          oa (extr 0 t66_48) fun t67_50 =>
          oa (extr 1 t66_48) fun t68_51 =>
          oa (unV .not t62_47) fun t70_52 =>
          ob (gd t70_52 true (some (t68_51, h_49)) h_49) fun t72_53 h_54 =>
          ob (gd t70_52 true (pure1 h_54 (unV .not t72_53)) h_54) fun t73_55 h_56 =>
          oa (pickV t70_52 t73_55 (.bool false)) fun t74_57 =>
          ob (gd t74_57 true (some (t22_6, h_56)) h_56) fun t76_58 h_59 =>
          ob (gd t74_57 true (some (t20_4, h_59)) h_59) fun t77_60 h_61 =>
          ob (gd t74_57 true (evalFn T k f_queue_Queue_Put [t76_58, t77_60, (.int .i64 0)] h_61) h_61) fun t78_62 h_63 =>
          ob (gd t74_57 true (pure1 h_63 (unV .not t78_62)) h_63) fun t79_64 h_65 =>
          oa (pickV t74_57 t79_64 (.bool false)) fun t80_66 =>
          ob (gd t80_66 true (some (t22_6, h_65)) h_65) fun t82_67 h_68 =>
          ob (gd t80_66 true (evalFn T k f_queue_Queue_Put [t82_67, (.int .i64 (-1)), (.int .i64 0)] h_68) h_68) fun t83_69 h_70 =>
          ob (gd t80_66 true (pure1 h_70 (unV .not t83_69)) h_70) fun t84_71 h_72 =>
          oa (pickV t80_66 t84_71 (.bool false)) fun t85_73 =>
          ob (gd t85_73 true (some (t22_6, h_72)) h_72) fun t87_74 h_75 =>
          ob (gd t85_73 true (evalFn T k f_queue_Queue_Len [t87_74] h_75) h_75) fun t88_76 h_77 =>
          ob (gd t85_73 true (pure1 h_77 (binV .eql .scalar t88_76 (.int .i64 1))) h_77) fun t89_78 h_79 =>
          ob (gd t85_73 true (some (t41_22, h_79)) h_79) fun t90_80 h_81 =>
          ob (gd t85_73 true (pure1 h_81 (binV .eql .bool t89_78 t90_80)) h_81) fun t91_82 h_83 =>
          oa (pickV t85_73 t91_82 (.bool false)) fun t92_84 =>
          some (t92_84, h_83)
          )
        )
      ) := runEq (by kernel_rfl)
noncomputable def milestonelaw3_QueueLowers_c1 : MCode := .seq [48, 49, 50, 51, 52] (.region [⟨some 49, .op (.mv (.tmp 3)), none⟩,
  ⟨some 50, .call f_queue_Queue_Key [(.tmp 49), (.const (.int .i64 0))], none⟩,
  ⟨some 48, .op (.mv (.tmp 50)), none⟩,
  ⟨some 51, .op (.extract 0 (.tmp 48)), none⟩,
  ⟨some 52, .op (.extract 1 (.tmp 48)), none⟩,
  ⟨some 8, .op (.mv (.tmp 51)), none⟩,
  ⟨some 9, .op (.mv (.tmp 52)), none⟩]) (.seq [8, 9, 53, 54, 55, 56, 57, 58] (.region [⟨some 53, .op (.mv (.tmp 9)), none⟩,
  ⟨some 54, .op (.un .not (.tmp 53)), none⟩,
  ⟨some 55, .op (.mv (.tmp 54)), none⟩,
  ⟨some 56, .op (.mv (.tmp 8)), some (55, false)⟩,
  ⟨some 57, .op (.mv (.tmp 4)), some (55, false)⟩,
  ⟨some 58, .op (.bin .neq .scalar (.tmp 56) (.tmp 57)), some (55, false)⟩,
  ⟨some 59, .op (.pick (.tmp 55) (.const (.bool true)) (.tmp 58)), none⟩]) (.cond (.tmp 59) (.seq [0, 3, 4, 5, 6, 59] (.region [⟨some 2, .op (.mv (.const (.bool false))), none⟩]) .ret) .skip))
noncomputable def milestonelaw3_QueueLowers_c2 : MCode := .seq [22] (.seq [15, 16, 17, 18, 19, 20, 21] (.region [⟨some 15, .op (.mv (.tmp 6)), none⟩,
  ⟨some 16, .op (.mv (.tmp 0)), none⟩,
  ⟨some 17, .op (.lenSl (.tmp 16)), none⟩,
  ⟨some 18, .op (.bin .lss .scalar (.tmp 15) (.tmp 17)), none⟩,
  ⟨some 19, .op (.mv (.tmp 18)), none⟩,
  ⟨some 20, .op (.mv (.tmp 6)), some (19, true)⟩,
  ⟨some 21, .op (.bin .lss .scalar (.tmp 20) (.const (.int .i64 60))), some (19, true)⟩,
  ⟨some 22, .op (.pick (.tmp 19) (.tmp 21) (.const (.bool false))), none⟩]) (.cond (.tmp 22) .skip (.exit 0))) (.seq [59] (.block 1 (.seq [25, 26, 27, 28, 29, 30, 31, 32, 33, 34] (.region [⟨some 25, .op (.mv (.tmp 5)), none⟩,
  ⟨some 26, .op (.un .not (.tmp 25)), none⟩,
  ⟨some 27, .op (.mv (.tmp 26)), none⟩,
  ⟨some 28, .op (.mv (.tmp 0)), some (27, false)⟩,
  ⟨some 29, .op (.mv (.tmp 6)), some (27, false)⟩,
  ⟨some 30, .op (.idxSl 1 (.tmp 28) (.tmp 29)), some (27, false)⟩,
  ⟨some 31, .op (.load none (.tmp 30)), some (27, false)⟩,
  ⟨some 32, .op (.mv (.tmp 4)), some (27, false)⟩,
  ⟨some 33, .op (.bin .lss .scalar (.tmp 31) (.tmp 32)), some (27, false)⟩,
  ⟨some 34, .op (.pick (.tmp 27) (.const (.bool true)) (.tmp 33)), none⟩,
  ⟨some 7, .op (.mv (.tmp 34)), none⟩]) (.seq [42] (.seq [35, 36, 37, 38, 39, 40, 41] (.region [⟨some 35, .op (.mv (.tmp 3)), none⟩,
  ⟨some 36, .op (.mv (.tmp 0)), none⟩,
  ⟨some 37, .op (.mv (.tmp 6)), none⟩,
  ⟨some 38, .op (.idxSl 1 (.tmp 36) (.tmp 37)), none⟩,
  ⟨some 39, .op (.load none (.tmp 38)), none⟩,
  ⟨some 40, .call f_queue_Queue_Put [(.tmp 35), (.const (.int .i64 0)), (.tmp 39)], none⟩,
  ⟨some 41, .op (.mv (.tmp 7)), none⟩,
  ⟨some 42, .op (.bin .neq .bool (.tmp 40) (.tmp 41)), none⟩]) (.cond (.tmp 42) (.seq [0, 3, 4, 5, 6, 7, 42] (.region [⟨some 2, .op (.mv (.const (.bool false))), none⟩]) .ret) .skip)) (.seq [43, 44, 45, 46, 47] (.seq [7] (.region [⟨some 43, .op (.mv (.tmp 7)), none⟩]) (.cond (.tmp 43) (.region [⟨some 44, .op (.mv (.tmp 0)), none⟩,
  ⟨some 45, .op (.mv (.tmp 6)), none⟩,
  ⟨some 46, .op (.idxSl 1 (.tmp 44) (.tmp 45)), none⟩,
  ⟨some 47, .op (.load none (.tmp 46)), none⟩,
  ⟨some 4, .op (.mv (.tmp 47)), none⟩,
  ⟨some 5, .op (.mv (.const (.bool true))), none⟩]) .skip)) (.lab milestonelaw3_QueueLowers_c1))))) (.region [⟨some 23, .op (.mv (.tmp 6)), none⟩,
  ⟨some 24, .op (.bin .add .scalar (.tmp 23) (.const (.int .i64 1))), none⟩,
  ⟨some 6, .op (.mv (.tmp 24)), none⟩]))
noncomputable def milestonelaw3_QueueLowers_c3 : MCode := .seq [3, 60, 61, 62] (.region [⟨some 60, .op (.mv (.tmp 3)), none⟩,
  ⟨some 61, .call f_queue_Queue_Len [(.tmp 60)], none⟩,
  ⟨some 62, .op (.bin .leq .scalar (.tmp 61) (.const (.int .i64 1))), none⟩,
  ⟨some 2, .op (.mv (.tmp 62)), none⟩]) .ret
def milestonelaw3_QueueLowers_rs : Res := [(2, none)]
noncomputable def milestonelaw3_QueueLowers_mf : MFn := ⟨63, milestonelaw3_QueueLowers_rs, .seq [2] (.region [⟨some 2, .op (.mv (.const (.bool false))), none⟩]) (.seq [11] (.seq [10] (.region [⟨some 10, .call f_milestonelaw3_known [], none⟩,
  ⟨some 11, .op (.un .not (.tmp 10)), none⟩]) (.cond (.tmp 11) (.seq [0, 11] (.region [⟨some 2, .op (.mv (.const (.bool false))), none⟩]) .ret) .skip)) (.seq [12] (.region [⟨some 12, .call f_queue_New [(.const (.int .i64 1))], none⟩,
  ⟨some 3, .op (.mv (.tmp 12)), none⟩]) (.seq [14] (.seq [13] (.region [⟨some 13, .op (.mv (.tmp 3)), none⟩,
  ⟨some 14, .op (.bin .eql .ptr (.tmp 13) (.const .nilp)), none⟩]) (.cond (.tmp 14) (.seq [0, 3, 14] (.region [⟨some 2, .op (.mv (.const (.bool false))), none⟩]) .ret) .skip)) (.seq [] (.region [⟨some 4, .op (.mv (.const (.int .i64 0))), none⟩,
  ⟨some 5, .op (.mv (.const (.bool false))), none⟩]) (.seq [0, 4, 5, 6, 22] (.seq [] (.region [⟨some 6, .op (.mv (.const (.int .i64 0))), none⟩]) (.block 0 (.loop [23, 24] milestonelaw3_QueueLowers_c2))) (.lab milestonelaw3_QueueLowers_c3))))))⟩
noncomputable def milestonelaw3_QueueLowers_l1 (T : Tab) (k j0 : Nat) (keys0 q3 least4 is5 i6 : AV) (h : Heap) : Option (AV × Heap) :=
  loopB T k milestonelaw3_QueueLowers_rs j0 [23, 24] milestonelaw3_QueueLowers_c2 [.blk 0, .seq [0, 4, 5, 6, 22] (.lab milestonelaw3_QueueLowers_c3)] [keys0, .undef, .undef, q3, least4, is5, i6, .undef, .undef, .undef, .undef, .undef, .undef, .undef, .undef, .undef, .undef, .undef, .undef, .undef, .undef, .undef, .undef, .undef, .undef, .undef, .undef, .undef, .undef, .undef, .undef, .undef, .undef, .undef, .undef, .undef, .undef, .undef, .undef, .undef, .undef, .undef, .undef, .undef, .undef, .undef, .undef, .undef, .undef, .undef, .undef, .undef, .undef, .undef, .undef, .undef, .undef, .undef, .undef, .undef, .undef, .undef, .undef] h
noncomputable def milestonelaw3_QueueLowers_b2 (T : Tab) (k j0 : Nat) (keys0 q3 least4 is5 i6 : AV) (h : Heap) : Option (AV × Heap) :=
  evB T k milestonelaw3_QueueLowers_rs milestonelaw3_QueueLowers_c1 [.blk 1, .seq [59] (.region [⟨some 23, .op (.mv (.tmp 6)), none⟩,
  ⟨some 24, .op (.bin .add .scalar (.tmp 23) (.const (.int .i64 1))), none⟩,
  ⟨some 6, .op (.mv (.tmp 24)), none⟩]), .lp j0 [23, 24] milestonelaw3_QueueLowers_c2, .blk 0, .seq [0, 4, 5, 6, 22] (.lab milestonelaw3_QueueLowers_c3)] [keys0, .undef, .undef, q3, least4, is5, i6, .undef, .undef, .undef, .undef, .undef, .undef, .undef, .undef, .undef, .undef, .undef, .undef, .undef, .undef, .undef, .undef, .undef, .undef, .undef, .undef, .undef, .undef, .undef, .undef, .undef, .undef, .undef, .undef, .undef, .undef, .undef, .undef, .undef, .undef, .undef, .undef, .undef, .undef, .undef, .undef, .undef, .undef, .undef, .undef, .undef, .undef, .undef, .undef, .undef, .undef, .undef, .undef, .undef, .undef, .undef, .undef] h
noncomputable def milestonelaw3_QueueLowers_b3 (T : Tab) (k : Nat) (q3 : AV) (h : Heap) : Option (AV × Heap) :=
  evB T k milestonelaw3_QueueLowers_rs milestonelaw3_QueueLowers_c3 [] [.undef, .undef, .undef, q3, .undef, .undef, .undef, .undef, .undef, .undef, .undef, .undef, .undef, .undef, .undef, .undef, .undef, .undef, .undef, .undef, .undef, .undef, .undef, .undef, .undef, .undef, .undef, .undef, .undef, .undef, .undef, .undef, .undef, .undef, .undef, .undef, .undef, .undef, .undef, .undef, .undef, .undef, .undef, .undef, .undef, .undef, .undef, .undef, .undef, .undef, .undef, .undef, .undef, .undef, .undef, .undef, .undef, .undef, .undef, .undef, .undef, .undef, .undef] h
theorem milestonelaw3_QueueLowers_b2_eq (T : Tab) (k j0 : Nat) (keys0 q3 least4 is5 i6 : AV) (h : Heap) : milestonelaw3_QueueLowers_b2 T k j0 keys0 q3 least4 is5 i6 h =
    ob (evalFn T k f_queue_Queue_Key [q3, (.int .i64 0)] h) fun t50_1 h_2 =>
    oa (extr 0 t50_1) fun t51_3 =>
    oa (extr 1 t50_1) fun t52_4 =>
    oa (unV .not t52_4) fun t54_5 =>
    ob (gd t54_5 false (some (t51_3, h_2)) h_2) fun t56_6 h_7 =>
    ob (gd t54_5 false (some (least4, h_7)) h_7) fun t57_8 h_9 =>
    ob (gd t54_5 false (pure1 h_9 (binV .neq .scalar t56_6 t57_8)) h_9) fun t58_10 h_11 =>
    oa (pickV t54_5 (.bool true) t58_10) fun t59_12 =>
    cond2 t59_12
      (
      some ((.bool false), h_11)
      )
      (
      oa (binV .add .scalar i6 (.int .i64 1)) fun t24_13 =>
      milestonelaw3_QueueLowers_l1 T k j0 keys0 q3 least4 is5 t24_13 h_11
      ) := blockEq (by kernel_rfl)
theorem milestonelaw3_QueueLowers_b3_eq (T : Tab) (k : Nat) (q3 : AV) (h : Heap) : milestonelaw3_QueueLowers_b3 T k q3 h =
    ob (evalFn T k f_queue_Queue_Len [q3] h) fun t61_1 h_2 =>
    oa (binV .leq .scalar t61_1 (.int .i64 1)) fun t62_3 =>
    some (t62_3, h_2) := blockEq (by kernel_rfl)
theorem milestonelaw3_QueueLowers_l1_eq (T : Tab) (k j0 : Nat) (keys0 q3 least4 is5 i6 : AV) (h : Heap) : milestonelaw3_QueueLowers_l1 T k (j0 + 1) keys0 q3 least4 is5 i6 h =
    oa (lenS keys0) fun t17_1 =>
    oa (binV .lss .scalar i6 t17_1) fun t18_2 =>
    ob (gd t18_2 true (some (i6, h)) h) fun t20_3 h_4 =>
    ob (gd t18_2 true (pure1 h_4 (binV .lss .scalar t20_3 (.int .i64 60))) h_4) fun t21_5 h_6 =>
    oa (pickV t18_2 t21_5 (.bool false)) fun t22_7 =>
    cond2 t22_7
      (
      oa (unV .not is5) fun t26_8 =>
      ob (gd t26_8 false (some (keys0, h_6)) h_6) fun t28_9 h_10 =>
      ob (gd t26_8 false (some (i6, h_10)) h_10) fun t29_11 h_12 =>
      ob (gd t26_8 false (pure1 h_12 (idxS 1 t28_9 t29_11)) h_12) fun t30_13 h_14 =>
      ob (gd t26_8 false (pure1 h_14 (ld1 h_14 t30_13)) h_14) fun t31_15 h_16 =>
      ob (gd t26_8 false (some (least4, h_16)) h_16) fun t32_17 h_18 =>
      ob (gd t26_8 false (pure1 h_18 (binV .lss .scalar t31_15 t32_17)) h_18) fun t33_19 h_20 =>
      oa (pickV t26_8 (.bool true) t33_19) fun t34_21 =>
      oa (idxS 1 keys0 i6) fun t38_22 =>
      oa (ld1 h_20 t38_22) fun t39_23 =>
      ob (evalFn T k f_queue_Queue_Put [q3, (.int .i64 0), t39_23] h_20) fun t40_24 h_25 =>
      oa (binV .neq .bool t40_24 t34_21) fun t42_26 =>
      cond2 t42_26
        (
        some ((.bool false), h_25)
        )
        (
        cond2 t34_21
          (
          oa (idxS 1 keys0 i6) fun t46_27 =>
          oa (ld1 h_25 t46_27) fun t47_28 =>
          milestonelaw3_QueueLowers_b2 T k j0 keys0 q3 t47_28 (.bool true) i6 h_25
          )
          (
          milestonelaw3_QueueLowers_b2 T k j0 keys0 q3 least4 is5 i6 h_25
          )
        )
      )
      (
      milestonelaw3_QueueLowers_b3 T k q3 h_6
      ) := loopEq (by kernel_rfl)
theorem milestonelaw3_QueueLowers_eq (T : Tab) (k : Nat) (keys0 : AV) (h : Heap) : runF T k milestonelaw3_QueueLowers_mf [keys0] h =
    ob (evalFn T k f_milestonelaw3_known [] h) fun t10_1 h_2 =>
    oa (unV .not t10_1) fun t11_3 =>
    cond2 t11_3
      (
      some ((.bool false), h_2)
      )
      (
      ob (evalFn T k f_queue_New [(.int .i64 1)] h_2) fun t12_4 h_5 =>
      oa (binV .eql .ptr t12_4 .nilp) fun t14_6 =>
      cond2 t14_6
        (
        some ((.bool false), h_5)
        )
        (
        milestonelaw3_QueueLowers_l1 T k k keys0 t12_4 (.int .i64 0) (.bool false) (.int .i64 0) h_5
        )
      ) := runEq (by kernel_rfl)
noncomputable def milestonelaw3_QueueKeys_c1 : MCode := .seq [67] (.seq [66] (.region [⟨some 66, .op (.mv (.tmp 7)), none⟩,
  ⟨some 67, .op (.bin .leq .scalar (.tmp 66) (.const (.int .i64 12))), none⟩]) (.cond (.tmp 67) .skip (.exit 2))) (.seq [90, 91, 92] (.block 3 (.seq [70, 71, 72, 73, 74, 75] (.region [⟨some 71, .op (.mv (.tmp 3)), none⟩,
  ⟨some 72, .op (.mv (.tmp 7)), none⟩,
  ⟨some 73, .call f_queue_Queue_Key [(.tmp 71), (.tmp 72)], none⟩,
  ⟨some 70, .op (.mv (.tmp 73)), none⟩,
  ⟨some 74, .op (.extract 0 (.tmp 70)), none⟩,
  ⟨some 75, .op (.extract 1 (.tmp 70)), none⟩,
  ⟨some 8, .op (.mv (.tmp 74)), none⟩,
  ⟨some 9, .op (.mv (.tmp 75)), none⟩]) (.seq [76, 77, 78, 79, 80, 81] (.region [⟨some 77, .op (.mv (.tmp 4)), none⟩,
  ⟨some 78, .op (.mv (.tmp 7)), none⟩,
  ⟨some 79, .call f_milestoneref3_Queue_Key [(.tmp 77), (.tmp 78)], none⟩,
  ⟨some 76, .op (.mv (.tmp 79)), none⟩,
  ⟨some 80, .op (.extract 0 (.tmp 76)), none⟩,
  ⟨some 81, .op (.extract 1 (.tmp 76)), none⟩,
  ⟨some 10, .op (.mv (.tmp 80)), none⟩,
  ⟨some 11, .op (.mv (.tmp 81)), none⟩]) (.seq [89] (.seq [8, 10, 11, 82, 83, 84, 85, 86, 87, 88] (.region [⟨some 82, .op (.mv (.tmp 8)), none⟩,
  ⟨some 83, .op (.mv (.tmp 10)), none⟩,
  ⟨some 84, .op (.bin .neq .scalar (.tmp 82) (.tmp 83)), none⟩,
  ⟨some 85, .op (.mv (.tmp 84)), none⟩,
  ⟨some 86, .op (.mv (.tmp 9)), some (85, false)⟩,
  ⟨some 87, .op (.mv (.tmp 11)), some (85, false)⟩,
  ⟨some 88, .op (.bin .neq .bool (.tmp 86) (.tmp 87)), some (85, false)⟩,
  ⟨some 89, .op (.pick (.tmp 85) (.const (.bool true)) (.tmp 88)), none⟩]) (.cond (.tmp 89) (.seq [0, 3, 4, 5, 6, 7, 9, 89] (.region [⟨some 2, .op (.mv (.const (.bool false))), none⟩]) .ret) .skip)) (.seq [9] (.region [⟨some 90, .op (.mv (.tmp 9)), none⟩]) (.cond (.tmp 90) (.region [⟨some 91, .op (.mv (.tmp 6)), none⟩,
  ⟨some 92, .op (.bin .add .scalar (.tmp 91) (.const (.int .i64 1))), none⟩,
  ⟨some 6, .op (.mv (.tmp 92)), none⟩]) .skip)))))) (.region [⟨some 68, .op (.mv (.tmp 7)), none⟩,
  ⟨some 69, .op (.bin .add .scalar (.tmp 68) (.const (.int .i64 1))), none⟩,
  ⟨some 7, .op (.mv (.tmp 69)), none⟩]))
noncomputable def milestonelaw3_QueueKeys_c2 : MCode := .seq [6, 93, 94, 95] (.region [⟨some 93, .op (.mv (.tmp 3)), none⟩,
  ⟨some 94, .call f_queue_Queue_Len [(.tmp 93)], none⟩,
  ⟨some 95, .op (.mv (.tmp 6)), none⟩,
  ⟨some 96, .op (.bin .neq .scalar (.tmp 94) (.tmp 95)), none⟩]) (.cond (.tmp 96) (.seq [0, 3, 4, 5, 96] (.region [⟨some 2, .op (.mv (.const (.bool false))), none⟩]) .ret) .skip)
noncomputable def milestonelaw3_QueueKeys_c3 : MCode := .seq [] (.region [⟨some 6, .op (.mv (.const (.int .i64 0))), none⟩]) (.seq [7, 67] (.seq [] (.region [⟨some 7, .op (.mv (.const (.int .i64 (-1)))), none⟩]) (.block 2 (.loop [68, 69] milestonelaw3_QueueKeys_c1))) (.lab milestonelaw3_QueueKeys_c2))
noncomputable def milestonelaw3_QueueKeys_c4 : MCode := .region [⟨some 26, .op (.mv (.tmp 5)), none⟩,
  ⟨some 27, .op (.bin .add .scalar (.tmp 26) (.const (.int .i64 1))), none⟩,
  ⟨some 5, .op (.mv (.tmp 27)), none⟩]
noncomputable def milestonelaw3_QueueKeys_c5 : MCode := .seq [25] (.seq [18, 19, 20, 21, 22, 23, 24] (.region [⟨some 18, .op (.mv (.tmp 5)), none⟩,
  ⟨some 19, .op (.mv (.tmp 0)), none⟩,
  ⟨some 20, .op (.lenSl (.tmp 19)), none⟩,
  ⟨some 21, .op (.bin .lss .scalar (.tmp 18) (.tmp 20)), none⟩,
  ⟨some 22, .op (.mv (.tmp 21)), none⟩,
  ⟨some 23, .op (.mv (.tmp 5)), some (22, true)⟩,
  ⟨some 24, .op (.bin .lss .scalar (.tmp 23) (.const (.int .i64 60))), some (22, true)⟩,
  ⟨some 25, .op (.pick (.tmp 22) (.tmp 24) (.const (.bool false))), none⟩]) (.cond (.tmp 25) .skip (.exit 0))) (.seq [96] (.block 1 (.seq [36, 37, 52, 53, 54, 55, 56, 57, 58, 59, 60, 61, 62, 63, 64, 65] (.seq [28, 29, 30, 31, 32] (.region [⟨some 28, .op (.mv (.tmp 0)), none⟩,
  ⟨some 29, .op (.mv (.tmp 5)), none⟩,
  ⟨some 30, .op (.idxSl 1 (.tmp 28) (.tmp 29)), none⟩,
  ⟨some 31, .op (.load none (.tmp 30)), none⟩,
  ⟨some 32, .call f_milestonelaw3_within [(.tmp 31), (.const (.int .i64 4))], none⟩,
  ⟨some 33, .op (.bin .eql .scalar (.tmp 32) (.const (.int .i64 0))), none⟩]) (.cond (.tmp 33) (.seq [33, 34, 35] (.region [⟨some 34, .op (.mv (.tmp 3)), none⟩,
  ⟨some 35, .call f_queue_Queue_Pop [(.tmp 34)], none⟩]) (.region [⟨some 36, .op (.mv (.tmp 4)), none⟩,
  ⟨some 37, .call f_milestoneref3_Queue_Pop [(.tmp 36)], none⟩])) (.seq [33, 38, 39, 40, 41, 42, 43, 44, 45, 46, 47, 48, 49, 50, 51] (.regionD 97 [⟨0, ⟨some 97, .op (.mv (.tmp 3)), none⟩, []⟩,
  ⟨1, ⟨some 98, .op (.mv (.tmp 0)), none⟩, []⟩,
  ⟨2, ⟨some 99, .op (.mv (.tmp 5)), none⟩, []⟩,
  ⟨3, ⟨some 100, .op (.idxSl 1 (.tmp 98) (.tmp 99)), none⟩, []⟩,
  ⟨4, ⟨some 101, .op (.load none (.tmp 100)), none⟩, []⟩,
  ⟨5, ⟨some 102, .op (.bin .quo .scalar (.tmp 101) (.const (.int .i64 4))), none⟩, []⟩,
  ⟨7, ⟨some 104, .op (.mv (.tmp 0)), none⟩, []⟩,
  ⟨8, ⟨some 105, .op (.mv (.tmp 5)), none⟩, []⟩,
  ⟨9, ⟨some 106, .op (.idxSl 1 (.tmp 104) (.tmp 105)), none⟩, []⟩,
  ⟨10, ⟨some 107, .op (.load none (.tmp 106)), none⟩, []⟩,
  ⟨11, ⟨some 108, .op (.bin .quo .scalar (.tmp 107) (.const (.int .i64 48))), none⟩, []⟩,
  ⟨6, ⟨some 103, .call f_milestonelaw3_within [(.tmp 102), (.const (.int .i64 12))], none⟩, [(107, ⟨some 107, .op (.load none (.tmp 106)), none⟩)]⟩,
  ⟨12, ⟨some 109, .call f_milestonelaw3_within [(.tmp 108), (.const (.int .i64 50))], none⟩, []⟩,
  ⟨13, ⟨some 110, .call f_queue_Queue_Put [(.tmp 97), (.tmp 103), (.tmp 109)], none⟩, []⟩] [(38, 97), (39, 98), (40, 99), (41, 100), (42, 101), (43, 102), (44, 103), (45, 104), (46, 105), (47, 106), (48, 107), (49, 108), (50, 109), (51, 110)]) (.regionD 97 [⟨0, ⟨some 97, .op (.mv (.tmp 4)), none⟩, []⟩,
  ⟨1, ⟨some 98, .op (.mv (.tmp 0)), none⟩, []⟩,
  ⟨2, ⟨some 99, .op (.mv (.tmp 5)), none⟩, []⟩,
  ⟨3, ⟨some 100, .op (.idxSl 1 (.tmp 98) (.tmp 99)), none⟩, []⟩,
  ⟨4, ⟨some 101, .op (.load none (.tmp 100)), none⟩, []⟩,
  ⟨5, ⟨some 102, .op (.bin .quo .scalar (.tmp 101) (.const (.int .i64 4))), none⟩, []⟩,
  ⟨7, ⟨some 104, .op (.mv (.tmp 0)), none⟩, []⟩,
  ⟨8, ⟨some 105, .op (.mv (.tmp 5)), none⟩, []⟩,
  ⟨9, ⟨some 106, .op (.idxSl 1 (.tmp 104) (.tmp 105)), none⟩, []⟩,
  ⟨10, ⟨some 107, .op (.load none (.tmp 106)), none⟩, []⟩,
  ⟨11, ⟨some 108, .op (.bin .quo .scalar (.tmp 107) (.const (.int .i64 48))), none⟩, []⟩,
  ⟨6, ⟨some 103, .call f_milestonelaw3_within [(.tmp 102), (.const (.int .i64 12))], none⟩, [(107, ⟨some 107, .op (.load none (.tmp 106)), none⟩)]⟩,
  ⟨12, ⟨some 109, .call f_milestonelaw3_within [(.tmp 108), (.const (.int .i64 50))], none⟩, []⟩,
  ⟨13, ⟨some 110, .call f_milestoneref3_Queue_Put [(.tmp 97), (.tmp 103), (.tmp 109)], none⟩, []⟩] [(52, 97), (53, 98), (54, 99), (55, 100), (56, 101), (57, 102), (58, 103), (59, 104), (60, 105), (61, 106), (62, 107), (63, 108), (64, 109), (65, 110)])))) (.lab milestonelaw3_QueueKeys_c3))) (.lab milestonelaw3_QueueKeys_c4))
def milestonelaw3_QueueKeys_rs : Res := [(2, none)]
noncomputable def milestonelaw3_QueueKeys_mf : MFn := ⟨97, milestonelaw3_QueueKeys_rs, .seq [2] (.region [⟨some 2, .op (.mv (.const (.bool false))), none⟩]) (.seq [13] (.seq [12] (.region [⟨some 12, .call f_milestonelaw3_known [], none⟩,
  ⟨some 13, .op (.un .not (.tmp 12)), none⟩]) (.cond (.tmp 13) (.seq [0, 13] (.region [⟨some 2, .op (.mv (.const (.bool false))), none⟩]) .ret) .skip)) (.seq [14, 15] (.region [⟨some 14, .call f_queue_New [(.const (.int .i64 12))], none⟩,
  ⟨some 15, .call f_milestoneref3_New [(.const (.int .i64 12))], none⟩,
  ⟨some 3, .op (.mv (.tmp 14)), none⟩,
  ⟨some 4, .op (.mv (.tmp 15)), none⟩]) (.seq [17] (.seq [16] (.region [⟨some 16, .op (.mv (.tmp 3)), none⟩,
  ⟨some 17, .op (.bin .eql .ptr (.tmp 16) (.const .nilp)), none⟩]) (.cond (.tmp 17) (.seq [0, 3, 4, 17] (.region [⟨some 2, .op (.mv (.const (.bool false))), none⟩]) .ret) .skip)) (.seq [0, 3, 4, 5, 25] (.seq [] (.region [⟨some 5, .op (.mv (.const (.int .i64 0))), none⟩]) (.block 0 (.loop [26, 27] milestonelaw3_QueueKeys_c5))) (.seq [] (.region [⟨some 2, .op (.mv (.const (.bool true))), none⟩]) .ret)))))⟩
noncomputable def milestonelaw3_QueueKeys_l1 (T : Tab) (k j0 : Nat) (ns0 q3 x4 i5 : AV) (h : Heap) : Option (AV × Heap) :=
  loopB T k milestonelaw3_QueueKeys_rs j0 [26, 27] milestonelaw3_QueueKeys_c5 [.blk 0, .seq [0, 3, 4, 5, 25] (.seq [] (.region [⟨some 2, .op (.mv (.const (.bool true))), none⟩]) .ret)] [ns0, .undef, .undef, q3, x4, i5, .undef, .undef, .undef, .undef, .undef, .undef, .undef, .undef, .undef, .undef, .undef, .undef, .undef, .undef, .undef, .undef, .undef, .undef, .undef, .undef, .undef, .undef, .undef, .undef, .undef, .undef, .undef, .undef, .undef, .undef, .undef, .undef, .undef, .undef, .undef, .undef, .undef, .undef, .undef, .undef, .undef, .undef, .undef, .undef, .undef, .undef, .undef, .undef, .undef, .undef, .undef, .undef, .undef, .undef, .undef, .undef, .undef, .undef, .undef, .undef, .undef, .undef, .undef, .undef, .undef, .undef, .undef, .undef, .undef, .undef, .undef, .undef, .undef, .undef, .undef, .undef, .undef, .undef, .undef, .undef, .undef, .undef, .undef, .undef, .undef, .undef, .undef, .undef, .undef, .undef, .undef] h
noncomputable def milestonelaw3_QueueKeys_b2 (T : Tab) (k j0 : Nat) (ns0 q3 x4 i5 : AV) (h : Heap) : Option (AV × Heap) :=
  evB T k milestonelaw3_QueueKeys_rs milestonelaw3_QueueKeys_c3 [.blk 1, .seq [96] (.lab milestonelaw3_QueueKeys_c4), .lp j0 [26, 27] milestonelaw3_QueueKeys_c5, .blk 0, .seq [0, 3, 4, 5, 25] (.seq [] (.region [⟨some 2, .op (.mv (.const (.bool true))), none⟩]) .ret)] [ns0, .undef, .undef, q3, x4, i5, .undef, .undef, .undef, .undef, .undef, .undef, .undef, .undef, .undef, .undef, .undef, .undef, .undef, .undef, .undef, .undef, .undef, .undef, .undef, .undef, .undef, .undef, .undef, .undef, .undef, .undef, .undef, .undef, .undef, .undef, .undef, .undef, .undef, .undef, .undef, .undef, .undef, .undef, .undef, .undef, .undef, .undef, .undef, .undef, .undef, .undef, .undef, .undef, .undef, .undef, .undef, .undef, .undef, .undef, .undef, .undef, .undef, .undef, .undef, .undef, .undef, .undef, .undef, .undef, .undef, .undef, .undef, .undef, .undef, .undef, .undef, .undef, .undef, .undef, .undef, .undef, .undef, .undef, .undef, .undef, .undef, .undef, .undef, .undef, .undef, .undef, .undef, .undef, .undef, .undef, .undef] h
noncomputable def milestonelaw3_QueueKeys_l3 (T : Tab) (k j0 j1 : Nat) (ns0 q3 x4 i5 n6 id7 : AV) (h : Heap) : Option (AV × Heap) :=
  loopB T k milestonelaw3_QueueKeys_rs j1 [68, 69] milestonelaw3_QueueKeys_c1 [.blk 2, .seq [7, 67] (.lab milestonelaw3_QueueKeys_c2), .blk 1, .seq [96] (.lab milestonelaw3_QueueKeys_c4), .lp j0 [26, 27] milestonelaw3_QueueKeys_c5, .blk 0, .seq [0, 3, 4, 5, 25] (.seq [] (.region [⟨some 2, .op (.mv (.const (.bool true))), none⟩]) .ret)] [ns0, .undef, .undef, q3, x4, i5, n6, id7, .undef, .undef, .undef, .undef, .undef, .undef, .undef, .undef, .undef, .undef, .undef, .undef, .undef, .undef, .undef, .undef, .undef, .undef, .undef, .undef, .undef, .undef, .undef, .undef, .undef, .undef, .undef, .undef, .undef, .undef, .undef, .undef, .undef, .undef, .undef, .undef, .undef, .undef, .undef, .undef, .undef, .undef, .undef, .undef, .undef, .undef, .undef, .undef, .undef, .undef, .undef, .undef, .undef, .undef, .undef, .undef, .undef, .undef, .undef, .undef, .undef, .undef, .undef, .undef, .undef, .undef, .undef, .undef, .undef, .undef, .undef, .undef, .undef, .undef, .undef, .undef, .undef, .undef, .undef, .undef, .undef, .undef, .undef, .undef, .undef, .undef, .undef, .undef, .undef] h
noncomputable def milestonelaw3_QueueKeys_b4 (T : Tab) (k j0 : Nat) (ns0 q3 x4 i5 n6 : AV) (h : Heap) : Option (AV × Heap) :=
  evB T k milestonelaw3_QueueKeys_rs milestonelaw3_QueueKeys_c2 [.blk 1, .seq [96] (.lab milestonelaw3_QueueKeys_c4), .lp j0 [26, 27] milestonelaw3_QueueKeys_c5, .blk 0, .seq [0, 3, 4, 5, 25] (.seq [] (.region [⟨some 2, .op (.mv (.const (.bool true))), none⟩]) .ret)] [ns0, .undef, .undef, q3, x4, i5, n6, .undef, .undef, .undef, .undef, .undef, .undef, .undef, .undef, .undef, .undef, .undef, .undef, .undef, .undef, .undef, .undef, .undef, .undef, .undef, .undef, .undef, .undef, .undef, .undef, .undef, .undef, .undef, .undef, .undef, .undef, .undef, .undef, .undef, .undef, .undef, .undef, .undef, .undef, .undef, .undef, .undef, .undef, .undef, .undef, .undef, .undef, .undef, .undef, .undef, .undef, .undef, .undef, .undef, .undef, .undef, .undef, .undef, .undef, .undef, .undef, .undef, .undef, .undef, .undef, .undef, .undef, .undef, .undef, .undef, .undef, .undef, .undef, .undef, .undef, .undef, .undef, .undef, .undef, .undef, .undef, .undef, .undef, .undef, .undef, .undef, .undef, .undef, .undef, .undef, .undef] h
noncomputable def milestonelaw3_QueueKeys_b5 (T : Tab) (k j0 : Nat) (ns0 q3 x4 i5 : AV) (h : Heap) : Option (AV × Heap) :=
  evB T k milestonelaw3_QueueKeys_rs milestonelaw3_QueueKeys_c4 [.lp j0 [26, 27] milestonelaw3_QueueKeys_c5, .blk 0, .seq [0, 3, 4, 5, 25] (.seq [] (.region [⟨some 2, .op (.mv (.const (.bool true))), none⟩]) .ret)] [ns0, .undef, .undef, q3, x4, i5, .undef, .undef, .undef, .undef, .undef, .undef, .undef, .undef, .undef, .undef, .undef, .undef, .undef, .undef, .undef, .undef, .undef, .undef, .undef, .undef, .undef, .undef, .undef, .undef, .undef, .undef, .undef, .undef, .undef, .undef, .undef, .undef, .undef, .undef, .undef, .undef, .undef, .undef, .undef, .undef, .undef, .undef, .undef, .undef, .undef, .undef, .undef, .undef, .undef, .undef, .undef, .undef, .undef, .undef, .undef, .undef, .undef, .undef, .undef, .undef, .undef, .undef, .undef, .undef, .undef, .undef, .undef, .undef, .undef, .undef, .undef, .undef, .undef, .undef, .undef, .undef, .undef, .undef, .undef, .undef, .undef, .undef, .undef, .undef, .undef, .undef, .undef, .undef, .undef, .undef, .undef] h
theorem milestonelaw3_QueueKeys_b5_eq (T : Tab) (k j0 : Nat) (ns0 q3 x4 i5 : AV) (h : Heap) : milestonelaw3_QueueKeys_b5 T k j0 ns0 q3 x4 i5 h =
    oa (binV .add .scalar i5 (.int .i64 1)) fun t27_1 =>
    milestonelaw3_QueueKeys_l1 T k j0 ns0 q3 x4 t27_1 h := blockEq (by kernel_rfl)
theorem milestonelaw3_QueueKeys_b4_eq (T : Tab) (k j0 : Nat) (ns0 q3 x4 i5 n6 : AV) (h : Heap) : milestonelaw3_QueueKeys_b4 T k j0 ns0 q3 x4 i5 n6 h =
    ob (evalFn T k f_queue_Queue_Len [q3] h) fun t94_1 h_2 =>
    oa (binV .neq .scalar t94_1 n6) fun t96_3 =>
    cond2 t96_3
      (
      some ((.bool false), h_2)
      )
      (
      milestonelaw3_QueueKeys_b5 T k j0 ns0 q3 x4 i5 h_2
      ) := blockEq (by kernel_rfl)
theorem milestonelaw3_QueueKeys_l3_eq (T : Tab) (k j0 j1 : Nat) (ns0 q3 x4 i5 n6 id7 : AV) (h : Heap) : milestonelaw3_QueueKeys_l3 T k j0 (j1 + 1) ns0 q3 x4 i5 n6 id7 h =
    oa (binV .leq .scalar id7 (.int .i64 12)) fun t67_1 =>
    cond2 t67_1
      (
      ob (evalFn T k f_queue_Queue_Key [q3, id7] h) fun t73_2 h_3 =>
      oa (extr 0 t73_2) fun t74_4 =>
      oa (extr 1 t73_2) fun t75_5 =>
      ob (evalFn T k f_milestoneref3_Queue_Key [x4, id7] h_3) fun t79_6 h_7 =>
      oa (extr 0 t79_6) fun t80_8 =>
      oa (extr 1 t79_6) fun t81_9 =>
      oa (binV .neq .scalar t74_4 t80_8) fun t84_10 =>
      ob (gd t84_10 false (some (t75_5, h_7)) h_7) fun t86_11 h_12 =>
      ob (gd t84_10 false (some (t81_9, h_12)) h_12) fun t87_13 h_14 =>
      ob (gd t84_10 false (pure1 h_14 (binV .neq .bool t86_11 t87_13)) h_14) fun t88_15 h_16 =>
      oa (pickV t84_10 (.bool true) t88_15) fun t89_17 =>
      cond2 t89_17
        (
        some ((.bool false), h_16)
        )
        (
        cond2 t75_5
          (
          oa (binV .add .scalar n6 (.int .i64 1)) fun t92_18 =>
          oa (binV .add .scalar id7 (.int .i64 1)) fun t69_19 =>
          milestonelaw3_QueueKeys_l3 T k j0 j1 ns0 q3 x4 i5 t92_18 t69_19 h_16
          )
          (
          oa (binV .add .scalar id7 (.int .i64 1)) fun t69_20 =>
          milestonelaw3_QueueKeys_l3 T k j0 j1 ns0 q3 x4 i5 n6 t69_20 h_16
          )
        )
      )
      (
      milestonelaw3_QueueKeys_b4 T k j0 ns0 q3 x4 i5 n6 h
      ) := loopEq (by kernel_rfl)
theorem milestonelaw3_QueueKeys_b2_eq (T : Tab) (k j0 : Nat) (ns0 q3 x4 i5 : AV) (h : Heap) : milestonelaw3_QueueKeys_b2 T k j0 ns0 q3 x4 i5 h =
    milestonelaw3_QueueKeys_l3 T k j0 k ns0 q3 x4 i5 (.int .i64 0) (.int .i64 (-1)) h := blockEq (by kernel_rfl)
theorem milestonelaw3_QueueKeys_l1_eq (T : Tab) (k j0 : Nat) (ns0 q3 x4 i5 : AV) (h : Heap) : milestonelaw3_QueueKeys_l1 T k (j0 + 1) ns0 q3 x4 i5 h =
    oa (lenS ns0) fun t20_1 =>
    oa (binV .lss .scalar i5 t20_1) fun t21_2 =>
    ob (gd t21_2 true (some (i5, h)) h) fun t23_3 h_4 =>
    ob (gd t21_2 true (pure1 h_4 (binV .lss .scalar t23_3 (.int .i64 60))) h_4) fun t24_5 h_6 =>
    oa (pickV t21_2 t24_5 (.bool false)) fun t25_7 =>
    cond2 t25_7
      (
      oa (idxS 1 ns0 i5) fun t30_8 =>
      oa (ld1 h_6 t30_8) fun t31_9 =>
      ob (evalFn T k f_milestonelaw3_within [t31_9, (.int .i64 4)] h_6) fun t32_10 h_11 =>
      oa (binV .eql .scalar t32_10 (.int .i64 0)) fun t33_12 =>
      cond2 t33_12
        (
        ob (evalFn T k f_queue_Queue_Pop [q3] h_11) fun t35_13 h_14 =>
        ob (evalFn T k f_milestoneref3_Queue_Pop [x4] h_14) fun t37_15 h_16 =>
        milestonelaw3_QueueKeys_b2 T k j0 ns0 q3 x4 i5 h_16
        )
        (
        oa (idxS 1 ns0 i5) fun t100_17 =>
        oa (ld1 h_11 t100_17) fun t101_18 =>
        oa (binV .quo .scalar t101_18 (.int .i64 4)) fun t102_19 =>
        oa (idxS 1 ns0 i5) fun t106_20 =>
        oa (ld1 h_11 t106_20) fun t107_21 =>
        oa (binV .quo .scalar t107_21 (.int .i64 48)) fun t108_22 =>
        ob (evalFn T k f_milestonelaw3_within [t102_19, (.int .i64 12)] h_11) fun t103_23 h_24 =>
        chk ((sameB (pure1 h_24 (ld1 h_24 t106_20)) t107_21 && true)) <|
        ob (evalFn T k f_milestonelaw3_within [t108_22, (.int .i64 50)] h_24) fun t109_25 h_26 =>
        ob (evalFn T k f_queue_Queue_Put [q3, t103_23, t109_25] h_26) fun t110_27 h_28 =>
        oa (idxS 1 ns0 i5) fun t100_29 =>
        oa (ld1 h_28 t100_29) fun t101_30 =>
        oa (binV .quo .scalar t101_30 (.int .i64 4)) fun t102_31 =>
        oa (idxS 1 ns0 i5) fun t106_32 =>
        oa (ld1 h_28 t106_32) fun t107_33 =>
        oa (binV .quo .scalar t107_33 (.int .i64 48)) fun t108_34 =>
        ob (evalFn T k f_milestonelaw3_within [t102_31, (.int .i64 12)] h_28) fun t103_35 h_36 =>
        chk ((sameB (pure1 h_36 (ld1 h_36 t106_32)) t107_33 && true)) <|
        ob (evalFn T k f_milestonelaw3_within [t108_34, (.int .i64 50)] h_36) fun t109_37 h_38 =>
        ob (evalFn T k f_milestoneref3_Queue_Put [x4, t103_35, t109_37] h_38) fun t110_39 h_40 =>
        milestonelaw3_QueueKeys_b2 T k j0 ns0 q3 x4 i5 h_40
        )
      )
      (
      some ((.bool true), h_6)
      ) := loopEq (by kernel_rfl)
theorem milestonelaw3_QueueKeys_eq (T : Tab) (k : Nat) (ns0 : AV) (h : Heap) : runF T k milestonelaw3_QueueKeys_mf [ns0] h =
    ob (evalFn T k f_milestonelaw3_known [] h) fun t12_1 h_2 =>
    oa (unV .not t12_1) fun t13_3 =>
    cond2 t13_3
      (
      some ((.bool false), h_2)
      )
      (
      ob (evalFn T k f_queue_New [(.int .i64 12)] h_2) fun t14_4 h_5 =>
      ob (evalFn T k f_milestoneref3_New [(.int .i64 12)] h_5) fun t15_6 h_7 =>
      oa (binV .eql .ptr t14_4 .nilp) fun t17_8 =>
      cond2 t17_8
        (
        some ((.bool false), h_7)
        )
        (
        milestonelaw3_QueueKeys_l1 T k k ns0 t14_4 t15_6 (.int .i64 0) h_7
        )
      ) := runEq (by kernel_rfl)
def milestonelaw3_known_rs : Res := [(0, none)]
noncomputable def milestonelaw3_known_mf : MFn := ⟨25, milestonelaw3_known_rs, .seq [0] (.region [⟨some 0, .op (.mv (.const (.bool false))), none⟩]) (.seq [5] (.region [⟨some 5, .call f_queue_New [(.const (.int .i64 3))], none⟩,
  ⟨some 1, .op (.mv (.tmp 5)), none⟩]) (.seq [7] (.seq [6] (.region [⟨some 6, .op (.mv (.tmp 1)), none⟩,
  ⟨some 7, .op (.bin .eql .ptr (.tmp 6) (.const .nilp)), none⟩]) (.cond (.tmp 7) (.seq [1, 7] (.region [⟨some 0, .op (.mv (.const (.bool false))), none⟩]) .ret) .skip)) (.seq [2, 3, 8, 9, 10, 11, 12, 13] (.region [⟨some 9, .op (.mv (.tmp 1)), none⟩,
  ⟨some 10, .call f_queue_Queue_Pop [(.tmp 9)], none⟩,
  ⟨some 8, .op (.mv (.tmp 10)), none⟩,
  ⟨some 11, .op (.extract 0 (.tmp 8)), none⟩,
  ⟨some 12, .op (.extract 1 (.tmp 8)), none⟩,
  ⟨some 13, .op (.extract 2 (.tmp 8)), none⟩,
  ⟨some 2, .op (.mv (.tmp 11)), none⟩,
  ⟨some 3, .op (.mv (.tmp 12)), none⟩,
  ⟨some 4, .op (.mv (.tmp 13)), none⟩]) (.seq [1, 4, 14, 15, 16, 17, 18, 19, 20, 21, 22, 23, 24] (.region [⟨some 14, .op (.mv (.tmp 4)), none⟩,
  ⟨some 15, .op (.un .not (.tmp 14)), none⟩,
  ⟨some 16, .op (.mv (.tmp 15)), none⟩,
  ⟨some 17, .op (.mv (.tmp 1)), some (16, true)⟩,
  ⟨some 18, .call f_queue_Queue_Put [(.tmp 17), (.const (.int .i64 2)), (.const (.int .i64 7))], some (16, true)⟩,
  ⟨some 19, .op (.pick (.tmp 16) (.tmp 18) (.const (.bool false))), none⟩,
  ⟨some 20, .op (.mv (.tmp 19)), none⟩,
  ⟨some 21, .op (.mv (.tmp 1)), some (20, true)⟩,
  ⟨some 22, .call f_queue_Queue_Len [(.tmp 21)], some (20, true)⟩,
  ⟨some 23, .op (.bin .eql .scalar (.tmp 22) (.const (.int .i64 1))), some (20, true)⟩,
  ⟨some 24, .op (.pick (.tmp 20) (.tmp 23) (.const (.bool false))), none⟩,
  ⟨some 0, .op (.mv (.tmp 24)), none⟩]) .ret))))⟩
theorem milestonelaw3_known_eq (T : Tab) (k : Nat) (h : Heap) : runF T k milestonelaw3_known_mf [] h =
    ob (evalFn T k f_queue_New [(.int .i64 3)] h) fun t5_1 h_2 =>
    oa (binV .eql .ptr t5_1 .nilp) fun t7_3 =>
    cond2 t7_3
      (
      some ((.bool false), h_2)
      )
      (
      ob (evalFn T k f_queue_Queue_Pop [t5_1] h_2) fun t10_4 h_5 =>
      oa (extr 0 t10_4) fun t11_6 =>
      oa (extr 1 t10_4) fun t12_7 =>
      oa (extr 2 t10_4) fun t13_8 =>
      oa (unV .not t13_8) fun t15_9 =>
      ob (gd t15_9 true (some (t5_1, h_5)) h_5) fun t17_10 h_11 =>
      ob (gd t15_9 true (evalFn T k f_queue_Queue_Put [t17_10, (.int .i64 2), (.int .i64 7)] h_11) h_11) fun t18_12 h_13 =>
      oa (pickV t15_9 t18_12 (.bool false)) fun t19_14 =>
      ob (gd t19_14 true (some (t5_1, h_13)) h_13) fun t21_15 h_16 =>
      ob (gd t19_14 true (evalFn T k f_queue_Queue_Len [t21_15] h_16) h_16) fun t22_17 h_18 =>
      ob (gd t19_14 true (pure1 h_18 (binV .eql .scalar t22_17 (.int .i64 1))) h_18) fun t23_19 h_20 =>
      oa (pickV t19_14 t23_19 (.bool false)) fun t24_21 =>
      some (t24_21, h_20)
      ) := runEq (by kernel_rfl)
noncomputable def queue_New_c1 : MCode := .seq [] (.region [⟨some 18, .op (.bin .lss .scalar (.tmp 17) (.tmp 16)), none⟩]) (.seq [18] (.cond (.tmp 18) .skip (.exit 0)) (.seq [4, 20, 21, 22, 23, 24, 25, 26] (.block 1 (.seq [19] (.region [⟨some 19, .op (.mv (.tmp 17)), none⟩,
  ⟨some 4, .op (.mv (.tmp 19)), none⟩]) (.region [⟨some 20, .op (.mv (.tmp 3)), none⟩,
  ⟨some 21, .op (.nilCheck (.tmp 20)), none⟩,
  ⟨some 22, .op (.fieldAddr 0 (.tmp 21)), none⟩,
  ⟨some 23, .op (.fieldAddr 1 (.tmp 22)), none⟩,
  ⟨some 24, .op (.load none (.tmp 23)), none⟩,
  ⟨some 25, .op (.mv (.tmp 4)), none⟩,
  ⟨some 26, .op (.idxSl 1 (.tmp 24) (.tmp 25)), none⟩,
  ⟨none, .op (.store 1 (.tmp 26) (.const (.int .i64 (-1)))), none⟩]))) (.region [⟨some 27, .op (.bin .add .scalar (.tmp 17) (.const (.int .i64 1))), none⟩,
  ⟨some 17, .op (.mv (.tmp 27)), none⟩])))
def queue_New_rs : Res := [(2, none)]
noncomputable def queue_New_mf : MFn := ⟨29, queue_New_rs, .seq [2] (.region [⟨some 2, .op (.mv (.const .nilp)), none⟩]) (.seq [0, 5, 6, 7, 8, 9, 10] (.region [⟨some 5, .op (.mv (.tmp 0)), none⟩,
  ⟨some 6, .op (.mm true (.tmp 5) (.const (.int .i64 0))), none⟩,
  ⟨some 7, .op (.mkSlice [.int .i64 0] 1 8 (.tmp 6) (.tmp 6)), none⟩,
  ⟨some 8, .op (.build [.nils, .nils] [(1, 1, (.tmp 7))]), none⟩,
  ⟨some 9, .op (.build [.nils, .nils] [(0, 2, (.tmp 8))]), none⟩,
  ⟨some 10, .op (.box (.tmp 9)), none⟩,
  ⟨some 3, .op (.mv (.tmp 10)), none⟩]) (.seq [16, 17, 18] (.seq [11, 12, 13, 14, 15] (.region [⟨some 11, .op (.mv (.tmp 3)), none⟩,
  ⟨some 12, .op (.nilCheck (.tmp 11)), none⟩,
  ⟨some 13, .op (.fieldAddr 0 (.tmp 12)), none⟩,
  ⟨some 14, .op (.fieldAddr 1 (.tmp 13)), none⟩,
  ⟨some 15, .op (.load none (.tmp 14)), none⟩,
  ⟨some 16, .op (.lenSl (.tmp 15)), none⟩,
  ⟨some 17, .op (.mv (.const (.int .i64 0))), none⟩]) (.block 0 (.loop [27] queue_New_c1))) (.seq [3, 28] (.region [⟨some 28, .op (.mv (.tmp 3)), none⟩,
  ⟨some 2, .op (.mv (.tmp 28)), none⟩]) .ret)))⟩
noncomputable def queue_New_l1 (T : Tab) (k j0 : Nat) (q3 t16 t17 : AV) (h : Heap) : Option (AV × Heap) :=
  loopB T k queue_New_rs j0 [27] queue_New_c1 [.blk 0, .seq [16, 17, 18] (.seq [3, 28] (.region [⟨some 28, .op (.mv (.tmp 3)), none⟩,
  ⟨some 2, .op (.mv (.tmp 28)), none⟩]) .ret)] [.undef, .undef, .undef, q3, .undef, .undef, .undef, .undef, .undef, .undef, .undef, .undef, .undef, .undef, .undef, .undef, t16, t17, .undef, .undef, .undef, .undef, .undef, .undef, .undef, .undef, .undef, .undef, .undef] h
theorem queue_New_l1_eq (T : Tab) (k j0 : Nat) (q3 t16 t17 : AV) (h : Heap) : queue_New_l1 T k (j0 + 1) q3 t16 t17 h =
    oa (binV .lss .scalar t17 t16) fun t18_1 =>
    cond2 t18_1
      (
      oa (nilCk q3) fun t21_2 =>
      oa (fldA 0 t21_2) fun t22_3 =>
      oa (fldA 1 t22_3) fun t23_4 =>
      oa (ld1 h t23_4) fun t24_5 =>
      oa (idxS 1 t24_5 t17) fun t26_6 =>
      oh (stN 1 h t26_6 (.int .i64 (-1))) fun h_7 =>
      oa (binV .add .scalar t17 (.int .i64 1)) fun t27_8 =>
      queue_New_l1 T k j0 q3 t16 t27_8 h_7
      )
      (
      some (q3, h)
      ) := loopEq (by kernel_rfl)
theorem queue_New_eq (T : Tab) (k : Nat) (n0 : AV) (h : Heap) : runF T k queue_New_mf [n0] h =
    oa (mmV true n0 (.int .i64 0)) fun t6_1 =>
    ob (mkSl [.int .i64 0] 1 8 t6_1 t6_1 h) fun t7_2 h_3 =>
    oa (buildV [.nils, .nils] [(1, 1, t7_2)]) fun t8_4 =>
    oa (buildV [.nils, .nils] [(0, 2, t8_4)]) fun t9_5 =>
    ob (newVar h_3 (AV.cells t9_5)) fun t10_6 h_7 =>
    oa (nilCk t10_6) fun t12_8 =>
    oa (fldA 0 t12_8) fun t13_9 =>
    oa (fldA 1 t13_9) fun t14_10 =>
    oa (ld1 h_7 t14_10) fun t15_11 =>
    oa (lenS t15_11) fun t16_12 =>
    queue_New_l1 T k k t10_6 t16_12 (.int .i64 0) h_7 := runEq (by kernel_rfl)
def milestoneref3_New_rs : Res := [(2, none)]
noncomputable def milestoneref3_New_mf : MFn := ⟨9, milestoneref3_New_rs, .seq [2] (.region [⟨some 2, .op (.mv (.const .nilp)), none⟩]) (.seq [0, 3, 4, 5, 6, 7, 8] (.regionD 9 [⟨0, ⟨some 9, .op (.mv (.tmp 0)), none⟩, []⟩,
  ⟨1, ⟨some 10, .op (.mkSlice [.int .i64 0] 1 8 (.tmp 9) (.tmp 9)), none⟩, []⟩,
  ⟨2, ⟨some 11, .op (.mv (.tmp 0)), none⟩, []⟩,
  ⟨3, ⟨some 12, .op (.mkSlice [.bool false] 1 1 (.tmp 11) (.tmp 11)), none⟩, []⟩,
  ⟨4, ⟨some 13, .op (.build [.nils, .nils, .int .i64 0] [(0, 1, (.tmp 10)), (1, 1, (.tmp 12))]), none⟩, []⟩,
  ⟨5, ⟨some 14, .op (.box (.tmp 13)), none⟩, []⟩,
  ⟨6, ⟨some 15, .op (.mv (.tmp 14)), none⟩, []⟩] [(3, 9), (4, 10), (5, 11), (6, 12), (7, 13), (8, 14), (2, 15)]) .ret)⟩
theorem milestoneref3_New_eq (T : Tab) (k : Nat) (n0 : AV) (h : Heap) : runF T k milestoneref3_New_mf [n0] h =
    ob (mkSl [.int .i64 0] 1 8 n0 n0 h) fun t10_1 h_2 =>
    ob (mkSl [.bool false] 1 1 n0 n0 h_2) fun t12_3 h_4 =>
    oa (buildV [.nils, .nils, .int .i64 0] [(0, 1, t10_1), (1, 1, t12_3)]) fun t13_5 =>
    ob (newVar h_4 (AV.cells t13_5)) fun t14_6 h_7 =>
    some (t14_6, h_7) := runEq (by kernel_rfl)
def milestonelaw3_within_rs : Res := [(4, none)]
noncomputable def milestonelaw3_within_mf : MFn := ⟨15, milestonelaw3_within_rs, .seq [4] (.region [⟨some 4, .op (.mv (.const (.int .i64 0))), none⟩]) (.seq [0, 6, 7, 8] (.region [⟨some 6, .op (.mv (.tmp 0)), none⟩,
  ⟨some 7, .op (.mv (.tmp 1)), none⟩,
  ⟨some 8, .op (.bin .rem .scalar (.tmp 6) (.tmp 7)), none⟩,
  ⟨some 5, .op (.mv (.tmp 8)), none⟩]) (.seq [1, 10, 11, 12, 13] (.seq [9] (.region [⟨some 9, .op (.mv (.tmp 5)), none⟩,
  ⟨some 10, .op (.bin .lss .scalar (.tmp 9) (.const (.int .i64 0))), none⟩]) (.cond (.tmp 10) (.region [⟨some 11, .op (.mv (.tmp 5)), none⟩,
  ⟨some 12, .op (.mv (.tmp 1)), none⟩,
  ⟨some 13, .op (.bin .add .scalar (.tmp 11) (.tmp 12)), none⟩,
  ⟨some 5, .op (.mv (.tmp 13)), none⟩]) .skip)) (.seq [5, 14] (.region [⟨some 14, .op (.mv (.tmp 5)), none⟩,
  ⟨some 4, .op (.mv (.tmp 14)), none⟩]) .ret)))⟩
theorem milestonelaw3_within_eq (T : Tab) (k : Nat) (at0 n1 : AV) (h : Heap) : runF T k milestonelaw3_within_mf [at0, n1] h =
    oa (binV .rem .scalar at0 n1) fun t8_1 =>
    oa (binV .lss .scalar t8_1 (.int .i64 0)) fun t10_2 =>
    cond2 t10_2
      (
      oa (binV .add .scalar t8_1 n1) fun t13_3 =>
      some (t13_3, h)
      )
      (
      some (t8_1, h)
      ) := runEq (by kernel_rfl)
def queue_Queue_Pop_rs : Res := [(2, none), (3, none), (4, none)]
noncomputable def queue_Queue_Pop_mf : MFn := ⟨23, queue_Queue_Pop_rs, .seq [2, 3, 4] (.region [⟨some 2, .op (.mv (.const (.int .i64 0))), none⟩,
  ⟨some 3, .op (.mv (.const (.int .i64 0))), none⟩,
  ⟨some 4, .op (.mv (.const (.bool false))), none⟩]) (.seq [10] (.seq [6, 7, 8, 9] (.region [⟨some 6, .op (.mv (.tmp 0)), none⟩,
  ⟨some 7, .op (.nilCheck (.tmp 6)), none⟩,
  ⟨some 8, .op (.fieldAddr 0 (.tmp 7)), none⟩,
  ⟨some 9, .call f_queue_heaped_Len [(.tmp 8)], none⟩,
  ⟨some 10, .op (.bin .eql .scalar (.tmp 9) (.const (.int .i64 0))), none⟩]) (.cond (.tmp 10) (.seq [0, 10] (.region [⟨some 2, .op (.mv (.const (.int .i64 0))), none⟩,
  ⟨some 3, .op (.mv (.const (.int .i64 0))), none⟩,
  ⟨some 4, .op (.mv (.const (.bool false))), none⟩]) .ret) .skip)) (.seq [0, 11, 12, 13, 14, 15, 16, 17] (.region [⟨some 12, .op (.mv (.tmp 0)), none⟩,
  ⟨some 13, .call f_queue_Queue_line [(.tmp 12)], none⟩,
  ⟨some 14, .call f_container_heap_Pop [(.tmp 13)], none⟩,
  ⟨some 15, .op (.typeAssert 49 (.agg [.int .i64 0, .int .i64 0]) true (.tmp 14)), none⟩,
  ⟨some 11, .op (.mv (.tmp 15)), none⟩,
  ⟨some 16, .op (.extract 0 (.tmp 11)), none⟩,
  ⟨some 17, .op (.extract 1 (.tmp 11)), none⟩,
  ⟨some 5, .op (.alloc [.int .i64 0, .int .i64 0]), none⟩,
  ⟨none, .op (.store 2 (.tmp 5) (.tmp 16)), none⟩,
  ⟨some 4, .op (.mv (.tmp 17)), none⟩]) (.seq [5, 18, 19, 20, 21, 22] (.regionD 23 [⟨0, ⟨some 23, .op (.fieldAddr 0 (.tmp 5)), none⟩, []⟩,
  ⟨1, ⟨some 24, .op (.load none (.tmp 23)), none⟩, []⟩,
  ⟨2, ⟨some 25, .op (.fieldAddr 1 (.tmp 5)), none⟩, []⟩,
  ⟨3, ⟨some 26, .op (.load none (.tmp 25)), none⟩, []⟩,
  ⟨4, ⟨some 27, .op (.mv (.tmp 4)), none⟩, []⟩,
  ⟨5, ⟨some 28, .op (.mv (.tmp 24)), none⟩, []⟩,
  ⟨6, ⟨some 29, .op (.mv (.tmp 26)), none⟩, []⟩,
  ⟨7, ⟨some 30, .op (.mv (.tmp 27)), none⟩, []⟩] [(18, 23), (19, 24), (20, 25), (21, 26), (22, 27), (2, 28), (3, 29), (4, 30)]) .ret)))⟩
theorem queue_Queue_Pop_eq (T : Tab) (k : Nat) (q0 : AV) (h : Heap) : runF T k queue_Queue_Pop_mf [q0] h =
    oa (nilCk q0) fun t7_1 =>
    oa (fldA 0 t7_1) fun t8_2 =>
    ob (evalFn T k f_queue_heaped_Len [t8_2] h) fun t9_3 h_4 =>
    oa (binV .eql .scalar t9_3 (.int .i64 0)) fun t10_5 =>
    cond2 t10_5
      (
      some (.tup [(.int .i64 0), (.int .i64 0), (.bool false)], h_4)
      )
      (
      ob (evalFn T k f_queue_Queue_line [q0] h_4) fun t13_6 h_7 =>
      ob (evalFn T k f_container_heap_Pop [t13_6] h_7) fun t14_8 h_9 =>
      oa (tAssert 49 (.agg [.int .i64 0, .int .i64 0]) true t14_8) fun t15_10 =>
      oa (extr 0 t15_10) fun t16_11 =>
      oa (extr 1 t15_10) fun t17_12 =>
      ob (newVar h_9 [.int .i64 0, .int .i64 0]) fun x5_13 h_14 =>
      oh (stN 2 h_14 x5_13 t16_11) fun h_15 =>
      oa (fldA 0 x5_13) fun t23_16 =>
      oa (ld1 h_15 t23_16) fun t24_17 =>
      oa (fldA 1 x5_13) fun t25_18 =>
      oa (ld1 h_15 t25_18) fun t26_19 =>
      some (.tup [t24_17, t26_19, t17_12], h_15)
      ) := runEq (by kernel_rfl)
def queue_Queue_Put_rs : Res := [(6, none)]
noncomputable def queue_Queue_Put_mf : MFn := ⟨57, queue_Queue_Put_rs, .seq [6] (.region [⟨some 6, .op (.mv (.const (.bool false))), none⟩]) (.seq [20] (.seq [9, 10, 11, 12, 13, 14, 15, 16, 17, 18, 19] (.region [⟨some 9, .op (.mv (.tmp 1)), none⟩,
  ⟨some 10, .op (.bin .lss .scalar (.tmp 9) (.const (.int .i64 0))), none⟩,
  ⟨some 11, .op (.mv (.tmp 10)), none⟩,
  ⟨some 12, .op (.mv (.tmp 1)), some (11, false)⟩,
  ⟨some 13, .op (.mv (.tmp 0)), some (11, false)⟩,
  ⟨some 14, .op (.nilCheck (.tmp 13)), some (11, false)⟩,
  ⟨some 15, .op (.fieldAddr 0 (.tmp 14)), some (11, false)⟩,
  ⟨some 16, .op (.fieldAddr 1 (.tmp 15)), some (11, false)⟩,
  ⟨some 17, .op (.load none (.tmp 16)), some (11, false)⟩,
  ⟨some 18, .op (.lenSl (.tmp 17)), some (11, false)⟩,
  ⟨some 19, .op (.bin .geq .scalar (.tmp 12) (.tmp 18)), some (11, false)⟩,
  ⟨some 20, .op (.pick (.tmp 11) (.const (.bool true)) (.tmp 19)), none⟩]) (.cond (.tmp 20) (.seq [0, 1, 2, 20] (.region [⟨some 6, .op (.mv (.const (.bool false))), none⟩]) .ret) .skip)) (.seq [21, 22] (.region [⟨some 21, .op (.mv (.tmp 0)), none⟩,
  ⟨some 22, .call f_queue_Queue_line [(.tmp 21)], none⟩,
  ⟨some 7, .op (.mv (.tmp 22)), none⟩]) (.seq [23, 24, 25] (.region [⟨some 23, .op (.mv (.tmp 7)), none⟩,
  ⟨some 24, .op (.mv (.tmp 1)), none⟩,
  ⟨some 25, .invoke "milestone/queue.place" (.tmp 23) [(.tmp 24)], none⟩,
  ⟨some 8, .op (.mv (.tmp 25)), none⟩]) (.seq [1, 27] (.seq [26] (.region [⟨some 26, .op (.mv (.tmp 8)), none⟩,
  ⟨some 27, .op (.bin .lss .scalar (.tmp 26) (.const (.int .i64 0))), none⟩]) (.cond (.tmp 27) (.seq [0, 1, 2, 7, 8, 27, 28, 29, 30, 31, 32, 33] (.region [⟨some 28, .op (.mv (.tmp 7)), none⟩,
  ⟨some 29, .op (.mv (.tmp 1)), none⟩,
  ⟨some 30, .op (.mv (.tmp 2)), none⟩,
  ⟨some 31, .op (.build [.int .i64 0, .int .i64 0] [(0, 1, (.tmp 29)), (1, 1, (.tmp 30))]), none⟩,
  ⟨some 32, .op (.mkIfc 49 (.tmp 31)), none⟩,
  ⟨some 33, .call f_container_heap_Push [(.tmp 28), (.tmp 32)], none⟩]) (.seq [] (.region [⟨some 6, .op (.mv (.const (.bool true))), none⟩]) .ret)) .skip)) (.seq [44] (.seq [34, 35, 36, 37, 38, 39, 40, 41, 42, 43] (.region [⟨some 34, .op (.mv (.tmp 0)), none⟩,
  ⟨some 35, .op (.nilCheck (.tmp 34)), none⟩,
  ⟨some 36, .op (.fieldAddr 0 (.tmp 35)), none⟩,
  ⟨some 37, .op (.fieldAddr 0 (.tmp 36)), none⟩,
  ⟨some 38, .op (.load none (.tmp 37)), none⟩,
  ⟨some 39, .op (.mv (.tmp 8)), none⟩,
  ⟨some 40, .op (.idxSl 2 (.tmp 38) (.tmp 39)), none⟩,
  ⟨some 41, .op (.fieldAddr 1 (.tmp 40)), none⟩,
  ⟨some 42, .op (.load none (.tmp 41)), none⟩,
  ⟨some 43, .op (.mv (.tmp 2)), none⟩,
  ⟨some 44, .op (.bin .leq .scalar (.tmp 42) (.tmp 43)), none⟩]) (.cond (.tmp 44) (.seq [0, 2, 7, 8, 44] (.region [⟨some 6, .op (.mv (.const (.bool false))), none⟩]) .ret) .skip)) (.seq [0, 2, 45, 46, 47, 48, 49, 50, 51, 52, 53] (.region [⟨some 45, .op (.mv (.tmp 0)), none⟩,
  ⟨some 46, .op (.nilCheck (.tmp 45)), none⟩,
  ⟨some 47, .op (.fieldAddr 0 (.tmp 46)), none⟩,
  ⟨some 48, .op (.fieldAddr 0 (.tmp 47)), none⟩,
  ⟨some 49, .op (.load none (.tmp 48)), none⟩,
  ⟨some 50, .op (.mv (.tmp 8)), none⟩,
  ⟨some 51, .op (.mv (.tmp 2)), none⟩,
  ⟨some 52, .op (.idxSl 2 (.tmp 49) (.tmp 50)), none⟩,
  ⟨some 53, .op (.fieldAddr 1 (.tmp 52)), none⟩,
  ⟨none, .op (.store 1 (.tmp 53) (.tmp 51)), none⟩]) (.seq [7, 8, 54, 55, 56] (.region [⟨some 54, .op (.mv (.tmp 7)), none⟩,
  ⟨some 55, .op (.mv (.tmp 8)), none⟩,
  ⟨some 56, .call f_container_heap_Fix [(.tmp 54), (.tmp 55)], none⟩]) (.seq [] (.region [⟨some 6, .op (.mv (.const (.bool true))), none⟩]) .ret))))))))⟩
theorem queue_Queue_Put_eq (T : Tab) (k : Nat) (q0 id1 key2 : AV) (h : Heap) : runF T k queue_Queue_Put_mf [q0, id1, key2] h =
    oa (binV .lss .scalar id1 (.int .i64 0)) fun t10_1 =>
    ob (gd t10_1 false (some (id1, h)) h) fun t12_2 h_3 =>
    ob (gd t10_1 false (some (q0, h_3)) h_3) fun t13_4 h_5 =>
    ob (gd t10_1 false (pure1 h_5 (nilCk t13_4)) h_5) fun t14_6 h_7 =>
    ob (gd t10_1 false (pure1 h_7 (fldA 0 t14_6)) h_7) fun t15_8 h_9 =>
    ob (gd t10_1 false (pure1 h_9 (fldA 1 t15_8)) h_9) fun t16_10 h_11 =>
    ob (gd t10_1 false (pure1 h_11 (ld1 h_11 t16_10)) h_11) fun t17_12 h_13 =>
    ob (gd t10_1 false (pure1 h_13 (lenS t17_12)) h_13) fun t18_14 h_15 =>
    ob (gd t10_1 false (pure1 h_15 (binV .geq .scalar t12_2 t18_14)) h_15) fun t19_16 h_17 =>
    oa (pickV t10_1 (.bool true) t19_16) fun t20_18 =>
    cond2 t20_18
      (
      some ((.bool false), h_17)
      )
      (
      ob (evalFn T k f_queue_Queue_line [q0] h_17) fun t22_19 h_20 =>
      ob (callMeth T (evalFn T k) "milestone/queue.place" t22_19 [id1] h_20) fun t25_21 h_22 =>
      oa (binV .lss .scalar t25_21 (.int .i64 0)) fun t27_23 =>
      cond2 t27_23
        (
        oa (buildV [.int .i64 0, .int .i64 0] [(0, 1, id1), (1, 1, key2)]) fun t31_24 =>
        ob (evalFn T k f_container_heap_Push [t22_19, (.ifc 49 t31_24)] h_22) fun t33_25 h_26 =>
        some ((.bool true), h_26)
        )
        (
        oa (nilCk q0) fun t35_27 =>
        oa (fldA 0 t35_27) fun t36_28 =>
        oa (fldA 0 t36_28) fun t37_29 =>
        oa (ld1 h_22 t37_29) fun t38_30 =>
        oa (idxS 2 t38_30 t25_21) fun t40_31 =>
        oa (fldA 1 t40_31) fun t41_32 =>
        oa (ld1 h_22 t41_32) fun t42_33 =>
        oa (binV .leq .scalar t42_33 key2) fun t44_34 =>
        cond2 t44_34
          (
          some ((.bool false), h_22)
          )
          (
          oa (nilCk q0) fun t46_35 =>
          oa (fldA 0 t46_35) fun t47_36 =>
          oa (fldA 0 t47_36) fun t48_37 =>
          oa (ld1 h_22 t48_37) fun t49_38 =>
          oa (idxS 2 t49_38 t25_21) fun t52_39 =>
          oa (fldA 1 t52_39) fun t53_40 =>
          oh (stN 1 h_22 t53_40 key2) fun h_41 =>
          ob (evalFn T k f_container_heap_Fix [t22_19, t25_21] h_41) fun t56_42 h_43 =>
          some ((.bool true), h_43)
          )
        )
      ) := runEq (by kernel_rfl)
noncomputable def milestoneref3_Queue_Pop_c1 : MCode := .seq [13] (.seq [7, 8, 9, 10, 11, 12] (.region [⟨some 7, .op (.mv (.tmp 6)), none⟩,
  ⟨some 8, .op (.mv (.tmp 0)), none⟩,
  ⟨some 9, .op (.nilCheck (.tmp 8)), none⟩,
  ⟨some 10, .op (.fieldAddr 0 (.tmp 9)), none⟩,
  ⟨some 11, .op (.load none (.tmp 10)), none⟩,
  ⟨some 12, .op (.lenSl (.tmp 11)), none⟩,
  ⟨some 13, .op (.bin .lss .scalar (.tmp 7) (.tmp 12)), none⟩]) (.cond (.tmp 13) .skip (.exit 0))) (.seq [43, 44] (.block 1 (.seq [16, 17, 18, 19, 20, 21, 22, 23, 24, 25, 26, 27, 28, 29, 30, 31, 32, 33, 34, 35, 36, 37, 38, 39, 40, 41, 42] (.regionD 68 [⟨0, ⟨some 68, .op (.mv (.tmp 0)), none⟩, []⟩,
  ⟨1, ⟨some 69, .op (.nilCheck (.tmp 68)), none⟩, []⟩,
  ⟨2, ⟨some 70, .op (.fieldAddr 1 (.tmp 69)), none⟩, []⟩,
  ⟨3, ⟨some 71, .op (.load none (.tmp 70)), none⟩, []⟩,
  ⟨4, ⟨some 72, .op (.mv (.tmp 6)), none⟩, []⟩,
  ⟨5, ⟨some 73, .op (.idxSl 1 (.tmp 71) (.tmp 72)), none⟩, []⟩,
  ⟨6, ⟨some 74, .op (.load none (.tmp 73)), none⟩, []⟩,
  ⟨7, ⟨some 75, .op (.mv (.tmp 74)), none⟩, []⟩,
  ⟨8, ⟨some 76, .op (.mv (.tmp 5)), some (75, true)⟩, []⟩,
  ⟨9, ⟨some 77, .op (.bin .lss .scalar (.tmp 76) (.const (.int .i64 0))), some (75, true)⟩, []⟩,
  ⟨10, ⟨some 78, .op (.mv (.tmp 77)), some (75, true)⟩, []⟩,
  ⟨11, ⟨some 79, .op (.mv (.tmp 0)), some (78, false)⟩, []⟩,
  ⟨12, ⟨some 80, .op (.nilCheck (.tmp 79)), some (78, false)⟩, []⟩,
  ⟨13, ⟨some 81, .op (.fieldAddr 0 (.tmp 80)), some (78, false)⟩, []⟩,
  ⟨14, ⟨some 82, .op (.load none (.tmp 81)), some (78, false)⟩, []⟩,
  ⟨15, ⟨some 83, .op (.mv (.tmp 6)), some (78, false)⟩, []⟩,
  ⟨16, ⟨some 84, .op (.idxSl 1 (.tmp 82) (.tmp 83)), some (78, false)⟩, []⟩,
  ⟨17, ⟨some 85, .op (.load none (.tmp 84)), some (78, false)⟩, []⟩,
  ⟨18, ⟨some 86, .op (.mv (.tmp 0)), some (78, false)⟩, []⟩,
  ⟨19, ⟨some 87, .op (.nilCheck (.tmp 86)), some (78, false)⟩, []⟩,
  ⟨20, ⟨some 88, .op (.fieldAddr 0 (.tmp 87)), some (78, false)⟩, []⟩,
  ⟨21, ⟨some 89, .op (.load none (.tmp 88)), some (78, false)⟩, []⟩,
  ⟨22, ⟨some 90, .op (.mv (.tmp 5)), some (78, false)⟩, []⟩,
  ⟨23, ⟨some 91, .op (.idxSl 1 (.tmp 89) (.tmp 90)), some (78, false)⟩, []⟩,
  ⟨24, ⟨some 92, .op (.load none (.tmp 91)), some (78, false)⟩, []⟩,
  ⟨25, ⟨some 93, .op (.bin .lss .scalar (.tmp 85) (.tmp 92)), some (78, false)⟩, []⟩,
  ⟨26, ⟨some 94, .op (.pick (.tmp 78) (.const (.bool true)) (.tmp 93)), some (75, true)⟩, []⟩,
  ⟨27, ⟨some 95, .op (.pick (.tmp 75) (.tmp 94) (.const (.bool false))), none⟩, []⟩] [(16, 68), (17, 69), (18, 70), (19, 71), (20, 72), (21, 73), (22, 74), (23, 75), (24, 76), (25, 77), (26, 78), (27, 79), (28, 80), (29, 81), (30, 82), (31, 83), (32, 84), (33, 85), (34, 86), (35, 87), (36, 88), (37, 89), (38, 90), (39, 91), (40, 92), (41, 93), (42, 94), (43, 95)]) (.cond (.tmp 43) (.region [⟨some 44, .op (.mv (.tmp 6)), none⟩,
  ⟨some 5, .op (.mv (.tmp 44)), none⟩]) .skip))) (.region [⟨some 14, .op (.mv (.tmp 6)), none⟩,
  ⟨some 15, .op (.bin .add .scalar (.tmp 14) (.const (.int .i64 1))), none⟩,
  ⟨some 6, .op (.mv (.tmp 15)), none⟩]))
noncomputable def milestoneref3_Queue_Pop_c2 : MCode := .seq [46] (.seq [45] (.region [⟨some 45, .op (.mv (.tmp 5)), none⟩,
  ⟨some 46, .op (.bin .lss .scalar (.tmp 45) (.const (.int .i64 0))), none⟩]) (.cond (.tmp 46) (.seq [0, 5, 46] (.region [⟨some 2, .op (.mv (.const (.int .i64 0))), none⟩,
  ⟨some 3, .op (.mv (.const (.int .i64 0))), none⟩,
  ⟨some 4, .op (.mv (.const (.bool false))), none⟩]) .ret) .skip)) (.seq [47, 48, 49, 50, 51, 52] (.region [⟨some 47, .op (.mv (.tmp 0)), none⟩,
  ⟨some 48, .op (.nilCheck (.tmp 47)), none⟩,
  ⟨some 49, .op (.fieldAddr 1 (.tmp 48)), none⟩,
  ⟨some 50, .op (.load none (.tmp 49)), none⟩,
  ⟨some 51, .op (.mv (.tmp 5)), none⟩,
  ⟨some 52, .op (.idxSl 1 (.tmp 50) (.tmp 51)), none⟩,
  ⟨none, .op (.store 1 (.tmp 52) (.const (.bool false))), none⟩]) (.seq [53, 54, 55, 56, 57, 58, 59] (.region [⟨some 53, .op (.mv (.tmp 0)), none⟩,
  ⟨some 54, .op (.nilCheck (.tmp 53)), none⟩,
  ⟨some 55, .op (.fieldAddr 2 (.tmp 54)), none⟩,
  ⟨some 56, .op (.load none (.tmp 55)), none⟩,
  ⟨some 57, .op (.bin .sub .scalar (.tmp 56) (.const (.int .i64 1))), none⟩,
  ⟨some 58, .op (.nilCheck (.tmp 53)), none⟩,
  ⟨some 59, .op (.fieldAddr 2 (.tmp 58)), none⟩,
  ⟨none, .op (.store 1 (.tmp 59) (.tmp 57)), none⟩]) (.seq [0, 5, 60, 61, 62, 63, 64, 65, 66, 67] (.regionD 68 [⟨0, ⟨some 68, .op (.mv (.tmp 5)), none⟩, []⟩,
  ⟨1, ⟨some 69, .op (.mv (.tmp 0)), none⟩, []⟩,
  ⟨2, ⟨some 70, .op (.nilCheck (.tmp 69)), none⟩, []⟩,
  ⟨3, ⟨some 71, .op (.fieldAddr 0 (.tmp 70)), none⟩, []⟩,
  ⟨4, ⟨some 72, .op (.load none (.tmp 71)), none⟩, []⟩,
  ⟨5, ⟨some 73, .op (.mv (.tmp 5)), none⟩, []⟩,
  ⟨6, ⟨some 74, .op (.idxSl 1 (.tmp 72) (.tmp 73)), none⟩, []⟩,
  ⟨7, ⟨some 75, .op (.load none (.tmp 74)), none⟩, []⟩,
  ⟨8, ⟨some 76, .op (.mv (.tmp 68)), none⟩, []⟩,
  ⟨9, ⟨some 77, .op (.mv (.tmp 75)), none⟩, []⟩,
  ⟨10, ⟨some 78, .op (.mv (.const (.bool true))), none⟩, []⟩] [(60, 68), (61, 69), (62, 70), (63, 71), (64, 72), (65, 73), (66, 74), (67, 75), (2, 76), (3, 77), (4, 78)]) .ret)))
def milestoneref3_Queue_Pop_rs : Res := [(2, none), (3, none), (4, none)]
noncomputable def milestoneref3_Queue_Pop_mf : MFn := ⟨68, milestoneref3_Queue_Pop_rs, .seq [2, 3, 4] (.region [⟨some 2, .op (.mv (.const (.int .i64 0))), none⟩,
  ⟨some 3, .op (.mv (.const (.int .i64 0))), none⟩,
  ⟨some 4, .op (.mv (.const (.bool false))), none⟩]) (.seq [] (.region [⟨some 5, .op (.mv (.const (.int .i64 (-1)))), none⟩]) (.seq [6, 13] (.seq [] (.region [⟨some 6, .op (.mv (.const (.int .i64 0))), none⟩]) (.block 0 (.loop [14, 15] milestoneref3_Queue_Pop_c1))) (.lab milestoneref3_Queue_Pop_c2)))⟩
noncomputable def milestoneref3_Queue_Pop_l1 (T : Tab) (k j0 : Nat) (q0 best5 i6 : AV) (h : Heap) : Option (AV × Heap) :=
  loopB T k milestoneref3_Queue_Pop_rs j0 [14, 15] milestoneref3_Queue_Pop_c1 [.blk 0, .seq [6, 13] (.lab milestoneref3_Queue_Pop_c2)] [q0, .undef, .undef, .undef, .undef, best5, i6, .undef, .undef, .undef, .undef, .undef, .undef, .undef, .undef, .undef, .undef, .undef, .undef, .undef, .undef, .undef, .undef, .undef, .undef, .undef, .undef, .undef, .undef, .undef, .undef, .undef, .undef, .undef, .undef, .undef, .undef, .undef, .undef, .undef, .undef, .undef, .undef, .undef, .undef, .undef, .undef, .undef, .undef, .undef, .undef, .undef, .undef, .undef, .undef, .undef, .undef, .undef, .undef, .undef, .undef, .undef, .undef, .undef, .undef, .undef, .undef, .undef] h
noncomputable def milestoneref3_Queue_Pop_b2 (T : Tab) (k : Nat) (q0 best5 : AV) (h : Heap) : Option (AV × Heap) :=
  evB T k milestoneref3_Queue_Pop_rs milestoneref3_Queue_Pop_c2 [] [q0, .undef, .undef, .undef, .undef, best5, .undef, .undef, .undef, .undef, .undef, .undef, .undef, .undef, .undef, .undef, .undef, .undef, .undef, .undef, .undef, .undef, .undef, .undef, .undef, .undef, .undef, .undef, .undef, .undef, .undef, .undef, .undef, .undef, .undef, .undef, .undef, .undef, .undef, .undef, .undef, .undef, .undef, .undef, .undef, .undef, .undef, .undef, .undef, .undef, .undef, .undef, .undef, .undef, .undef, .undef, .undef, .undef, .undef, .undef, .undef, .undef, .undef, .undef, .undef, .undef, .undef, .undef] h
theorem milestoneref3_Queue_Pop_b2_eq (T : Tab) (k : Nat) (q0 best5 : AV) (h : Heap) : milestoneref3_Queue_Pop_b2 T k q0 best5 h =
    oa (binV .lss .scalar best5 (.int .i64 0)) fun t46_1 =>
    cond2 t46_1
      (
      some (.tup [(.int .i64 0), (.int .i64 0), (.bool false)], h)
      )
      (
      oa (nilCk q0) fun t48_2 =>
      oa (fldA 1 t48_2) fun t49_3 =>
      oa (ld1 h t49_3) fun t50_4 =>
      oa (idxS 1 t50_4 best5) fun t52_5 =>
      oh (stN 1 h t52_5 (.bool false)) fun h_6 =>
      oa (nilCk q0) fun t54_7 =>
      oa (fldA 2 t54_7) fun t55_8 =>
      oa (ld1 h_6 t55_8) fun t56_9 =>
      oa (binV .sub .scalar t56_9 (.int .i64 1)) fun t57_10 =>
      oa (nilCk q0) fun t58_11 =>
      oa (fldA 2 t58_11) fun t59_12 =>
      oh (stN 1 h_6 t59_12 t57_10) fun h_13 =>
      oa (nilCk q0) fun t70_14 =>
      oa (fldA 0 t70_14) fun t71_15 =>
      oa (ld1 h_13 t71_15) fun t72_16 =>
      oa (idxS 1 t72_16 best5) fun t74_17 =>
      oa (ld1 h_13 t74_17) fun t75_18 =>
      some (.tup [best5, t75_18, (.bool true)], h_13)
      ) := blockEq (by kernel_rfl)
theorem milestoneref3_Queue_Pop_l1_eq (T : Tab) (k j0 : Nat) (q0 best5 i6 : AV) (h : Heap) : milestoneref3_Queue_Pop_l1 T k (j0 + 1) q0 best5 i6 h =
    oa (nilCk q0) fun t9_1 =>
    oa (fldA 0 t9_1) fun t10_2 =>
    oa (ld1 h t10_2) fun t11_3 =>
    oa (lenS t11_3) fun t12_4 =>
    oa (binV .lss .scalar i6 t12_4) fun t13_5 =>
    cond2 t13_5
      (
      oa (nilCk q0) fun t69_6 =>
      oa (fldA 1 t69_6) fun t70_7 =>
      oa (ld1 h t70_7) fun t71_8 =>
      oa (idxS 1 t71_8 i6) fun t73_9 =>
      oa (ld1 h t73_9) fun t74_10 =>
      ob (gd t74_10 true (some (best5, h)) h) fun t76_11 h_12 =>
      ob (gd t74_10 true (pure1 h_12 (binV .lss .scalar t76_11 (.int .i64 0))) h_12) fun t77_13 h_14 =>
      ob (gd t74_10 true (some (t77_13, h_14)) h_14) fun t78_15 h_16 =>
      ob (gd t78_15 false (some (q0, h_16)) h_16) fun t79_17 h_18 =>
      ob (gd t78_15 false (pure1 h_18 (nilCk t79_17)) h_18) fun t80_19 h_20 =>
      ob (gd t78_15 false (pure1 h_20 (fldA 0 t80_19)) h_20) fun t81_21 h_22 =>
      ob (gd t78_15 false (pure1 h_22 (ld1 h_22 t81_21)) h_22) fun t82_23 h_24 =>
      ob (gd t78_15 false (some (i6, h_24)) h_24) fun t83_25 h_26 =>
      ob (gd t78_15 false (pure1 h_26 (idxS 1 t82_23 t83_25)) h_26) fun t84_27 h_28 =>
      ob (gd t78_15 false (pure1 h_28 (ld1 h_28 t84_27)) h_28) fun t85_29 h_30 =>
      ob (gd t78_15 false (some (q0, h_30)) h_30) fun t86_31 h_32 =>
      ob (gd t78_15 false (pure1 h_32 (nilCk t86_31)) h_32) fun t87_33 h_34 =>
      ob (gd t78_15 false (pure1 h_34 (fldA 0 t87_33)) h_34) fun t88_35 h_36 =>
      ob (gd t78_15 false (pure1 h_36 (ld1 h_36 t88_35)) h_36) fun t89_37 h_38 =>
      ob (gd t78_15 false (some (best5, h_38)) h_38) fun t90_39 h_40 =>
      ob (gd t78_15 false (pure1 h_40 (idxS 1 t89_37 t90_39)) h_40) fun t91_41 h_42 =>
      ob (gd t78_15 false (pure1 h_42 (ld1 h_42 t91_41)) h_42) fun t92_43 h_44 =>
      ob (gd t78_15 false (pure1 h_44 (binV .lss .scalar t85_29 t92_43)) h_44) fun t93_45 h_46 =>
      ob (gd t74_10 true (pure1 h_46 (pickV t78_15 (.bool true) t93_45)) h_46) fun t94_47 h_48 =>
      oa (pickV t74_10 t94_47 (.bool false)) fun t95_49 =>
      cond2 t95_49
        (
        oa (binV .add .scalar i6 (.int .i64 1)) fun t15_50 =>
        milestoneref3_Queue_Pop_l1 T k j0 q0 i6 t15_50 h_48
        )
        (
        oa (binV .add .scalar i6 (.int .i64 1)) fun t15_51 =>
        milestoneref3_Queue_Pop_l1 T k j0 q0 best5 t15_51 h_48
        )
      )
      (
      milestoneref3_Queue_Pop_b2 T k q0 best5 h
      ) := loopEq (by kernel_rfl)
theorem milestoneref3_Queue_Pop_eq (T : Tab) (k : Nat) (q0 : AV) (h : Heap) : runF T k milestoneref3_Queue_Pop_mf [q0] h =
    milestoneref3_Queue_Pop_l1 T k k q0 (.int .i64 (-1)) (.int .i64 0) h := runEq (by kernel_rfl)
noncomputable def milestoneref3_Queue_Put_c1 : MCode := .seq [0, 1, 2, 53, 54, 55, 56, 57, 58, 59, 60, 61, 62, 63, 64, 65] (.regionD 66 [⟨0, ⟨some 66, .op (.mv (.tmp 0)), none⟩, []⟩,
  ⟨1, ⟨some 67, .op (.nilCheck (.tmp 66)), none⟩, []⟩,
  ⟨2, ⟨some 68, .op (.fieldAddr 0 (.tmp 67)), none⟩, []⟩,
  ⟨3, ⟨some 69, .op (.load none (.tmp 68)), none⟩, []⟩,
  ⟨4, ⟨some 70, .op (.mv (.tmp 1)), none⟩, []⟩,
  ⟨5, ⟨some 71, .op (.mv (.tmp 0)), none⟩, []⟩,
  ⟨6, ⟨some 72, .op (.nilCheck (.tmp 71)), none⟩, []⟩,
  ⟨7, ⟨some 73, .op (.fieldAddr 1 (.tmp 72)), none⟩, []⟩,
  ⟨8, ⟨some 74, .op (.load none (.tmp 73)), none⟩, []⟩,
  ⟨9, ⟨some 75, .op (.mv (.tmp 1)), none⟩, []⟩,
  ⟨10, ⟨some 76, .op (.mv (.tmp 2)), none⟩, []⟩,
  ⟨11, ⟨some 77, .op (.idxSl 1 (.tmp 69) (.tmp 70)), none⟩, []⟩,
  ⟨12, ⟨some 78, .op (.store 1 (.tmp 77) (.tmp 76)), none⟩, []⟩,
  ⟨13, ⟨some 79, .op (.idxSl 1 (.tmp 74) (.tmp 75)), none⟩, []⟩,
  ⟨14, ⟨some 80, .op (.store 1 (.tmp 79) (.const (.bool true))), none⟩, []⟩] [(53, 66), (54, 67), (55, 68), (56, 69), (57, 70), (58, 71), (59, 72), (60, 73), (61, 74), (62, 75), (63, 76), (64, 77), (65, 79)]) (.seq [] (.region [⟨some 6, .op (.mv (.const (.bool true))), none⟩]) .ret)
def milestoneref3_Queue_Put_rs : Res := [(6, none)]
noncomputable def milestoneref3_Queue_Put_mf : MFn := ⟨66, milestoneref3_Queue_Put_rs, .seq [6] (.region [⟨some 6, .op (.mv (.const (.bool false))), none⟩]) (.seq [37] (.seq [7, 8, 9, 10, 11, 12, 13, 14, 15, 16, 17, 18, 19, 20, 21, 22, 23, 24, 25, 26, 27, 28, 29, 30, 31, 32, 33, 34, 35, 36] (.region [⟨some 7, .op (.mv (.tmp 1)), none⟩,
  ⟨some 8, .op (.bin .lss .scalar (.tmp 7) (.const (.int .i64 0))), none⟩,
  ⟨some 9, .op (.mv (.tmp 8)), none⟩,
  ⟨some 10, .op (.mv (.tmp 1)), some (9, false)⟩,
  ⟨some 11, .op (.mv (.tmp 0)), some (9, false)⟩,
  ⟨some 12, .op (.nilCheck (.tmp 11)), some (9, false)⟩,
  ⟨some 13, .op (.fieldAddr 0 (.tmp 12)), some (9, false)⟩,
  ⟨some 14, .op (.load none (.tmp 13)), some (9, false)⟩,
  ⟨some 15, .op (.lenSl (.tmp 14)), some (9, false)⟩,
  ⟨some 16, .op (.bin .geq .scalar (.tmp 10) (.tmp 15)), some (9, false)⟩,
  ⟨some 17, .op (.pick (.tmp 9) (.const (.bool true)) (.tmp 16)), none⟩,
  ⟨some 18, .op (.mv (.tmp 17)), none⟩,
  ⟨some 19, .op (.mv (.tmp 0)), some (18, false)⟩,
  ⟨some 20, .op (.nilCheck (.tmp 19)), some (18, false)⟩,
  ⟨some 21, .op (.fieldAddr 1 (.tmp 20)), some (18, false)⟩,
  ⟨some 22, .op (.load none (.tmp 21)), some (18, false)⟩,
  ⟨some 23, .op (.mv (.tmp 1)), some (18, false)⟩,
  ⟨some 24, .op (.idxSl 1 (.tmp 22) (.tmp 23)), some (18, false)⟩,
  ⟨some 25, .op (.load none (.tmp 24)), some (18, false)⟩,
  ⟨some 26, .op (.mv (.tmp 25)), some (18, false)⟩,
  ⟨some 27, .op (.mv (.tmp 0)), some (26, true)⟩,
  ⟨some 28, .op (.nilCheck (.tmp 27)), some (26, true)⟩,
  ⟨some 29, .op (.fieldAddr 0 (.tmp 28)), some (26, true)⟩,
  ⟨some 30, .op (.load none (.tmp 29)), some (26, true)⟩,
  ⟨some 31, .op (.mv (.tmp 1)), some (26, true)⟩,
  ⟨some 32, .op (.idxSl 1 (.tmp 30) (.tmp 31)), some (26, true)⟩,
  ⟨some 33, .op (.load none (.tmp 32)), some (26, true)⟩,
  ⟨some 34, .op (.mv (.tmp 2)), some (26, true)⟩,
  ⟨some 35, .op (.bin .leq .scalar (.tmp 33) (.tmp 34)), some (26, true)⟩,
  ⟨some 36, .op (.pick (.tmp 26) (.tmp 35) (.const (.bool false))), some (18, false)⟩,
  ⟨some 37, .op (.pick (.tmp 18) (.const (.bool true)) (.tmp 36)), none⟩]) (.cond (.tmp 37) (.seq [0, 1, 2, 37] (.region [⟨some 6, .op (.mv (.const (.bool false))), none⟩]) .ret) .skip)) (.seq [45, 46, 47, 48, 49, 50, 51, 52] (.seq [38, 39, 40, 41, 42, 43, 44] (.region [⟨some 38, .op (.mv (.tmp 0)), none⟩,
  ⟨some 39, .op (.nilCheck (.tmp 38)), none⟩,
  ⟨some 40, .op (.fieldAddr 1 (.tmp 39)), none⟩,
  ⟨some 41, .op (.load none (.tmp 40)), none⟩,
  ⟨some 42, .op (.mv (.tmp 1)), none⟩,
  ⟨some 43, .op (.idxSl 1 (.tmp 41) (.tmp 42)), none⟩,
  ⟨some 44, .op (.load none (.tmp 43)), none⟩,
  ⟨some 45, .op (.un .not (.tmp 44)), none⟩]) (.cond (.tmp 45) (.region [⟨some 46, .op (.mv (.tmp 0)), none⟩,
  ⟨some 47, .op (.nilCheck (.tmp 46)), none⟩,
  ⟨some 48, .op (.fieldAddr 2 (.tmp 47)), none⟩,
  ⟨some 49, .op (.load none (.tmp 48)), none⟩,
  ⟨some 50, .op (.bin .add .scalar (.tmp 49) (.const (.int .i64 1))), none⟩,
  ⟨some 51, .op (.nilCheck (.tmp 46)), none⟩,
  ⟨some 52, .op (.fieldAddr 2 (.tmp 51)), none⟩,
  ⟨none, .op (.store 1 (.tmp 52) (.tmp 50)), none⟩]) .skip)) (.lab milestoneref3_Queue_Put_c1)))⟩
noncomputable def milestoneref3_Queue_Put_b1 (T : Tab) (k : Nat) (q0 id1 key2 : AV) (h : Heap) : Option (AV × Heap) :=
  evB T k milestoneref3_Queue_Put_rs milestoneref3_Queue_Put_c1 [] [q0, id1, key2, .undef, .undef, .undef, .undef, .undef, .undef, .undef, .undef, .undef, .undef, .undef, .undef, .undef, .undef, .undef, .undef, .undef, .undef, .undef, .undef, .undef, .undef, .undef, .undef, .undef, .undef, .undef, .undef, .undef, .undef, .undef, .undef, .undef, .undef, .undef, .undef, .undef, .undef, .undef, .undef, .undef, .undef, .undef, .undef, .undef, .undef, .undef, .undef, .undef, .undef, .undef, .undef, .undef, .undef, .undef, .undef, .undef, .undef, .undef, .undef, .undef, .undef, .undef] h
theorem milestoneref3_Queue_Put_b1_eq (T : Tab) (k : Nat) (q0 id1 key2 : AV) (h : Heap) : milestoneref3_Queue_Put_b1 T k q0 id1 key2 h =
    oa (nilCk q0) fun t67_1 =>
    oa (fldA 0 t67_1) fun t68_2 =>
    oa (ld1 h t68_2) fun t69_3 =>
    oa (nilCk q0) fun t72_4 =>
    oa (fldA 1 t72_4) fun t73_5 =>
    oa (ld1 h t73_5) fun t74_6 =>
    oa (idxS 1 t69_3 id1) fun t77_7 =>
    oh (stN 1 h t77_7 key2) fun h_8 =>
    oa (idxS 1 t74_6 id1) fun t79_9 =>
    oh (stN 1 h_8 t79_9 (.bool true)) fun h_10 =>
    some ((.bool true), h_10) := blockEq (by kernel_rfl)
theorem milestoneref3_Queue_Put_eq (T : Tab) (k : Nat) (q0 id1 key2 : AV) (h : Heap) : runF T k milestoneref3_Queue_Put_mf [q0, id1, key2] h =
    oa (binV .lss .scalar id1 (.int .i64 0)) fun t8_1 =>
    ob (gd t8_1 false (some (id1, h)) h) fun t10_2 h_3 =>
    ob (gd t8_1 false (some (q0, h_3)) h_3) fun t11_4 h_5 =>
    ob (gd t8_1 false (pure1 h_5 (nilCk t11_4)) h_5) fun t12_6 h_7 =>
    ob (gd t8_1 false (pure1 h_7 (fldA 0 t12_6)) h_7) fun t13_8 h_9 =>
    ob (gd t8_1 false (pure1 h_9 (ld1 h_9 t13_8)) h_9) fun t14_10 h_11 =>
    ob (gd t8_1 false (pure1 h_11 (lenS t14_10)) h_11) fun t15_12 h_13 =>
    ob (gd t8_1 false (pure1 h_13 (binV .geq .scalar t10_2 t15_12)) h_13) fun t16_14 h_15 =>
    oa (pickV t8_1 (.bool true) t16_14) fun t17_16 =>
    ob (gd t17_16 false (some (q0, h_15)) h_15) fun t19_17 h_18 =>
    ob (gd t17_16 false (pure1 h_18 (nilCk t19_17)) h_18) fun t20_19 h_20 =>
    ob (gd t17_16 false (pure1 h_20 (fldA 1 t20_19)) h_20) fun t21_21 h_22 =>
    ob (gd t17_16 false (pure1 h_22 (ld1 h_22 t21_21)) h_22) fun t22_23 h_24 =>
    ob (gd t17_16 false (some (id1, h_24)) h_24) fun t23_25 h_26 =>
    ob (gd t17_16 false (pure1 h_26 (idxS 1 t22_23 t23_25)) h_26) fun t24_27 h_28 =>
    ob (gd t17_16 false (pure1 h_28 (ld1 h_28 t24_27)) h_28) fun t25_29 h_30 =>
    ob (gd t17_16 false (some (t25_29, h_30)) h_30) fun t26_31 h_32 =>
    ob (gd t26_31 true (some (q0, h_32)) h_32) fun t27_33 h_34 =>
    ob (gd t26_31 true (pure1 h_34 (nilCk t27_33)) h_34) fun t28_35 h_36 =>
    ob (gd t26_31 true (pure1 h_36 (fldA 0 t28_35)) h_36) fun t29_37 h_38 =>
    ob (gd t26_31 true (pure1 h_38 (ld1 h_38 t29_37)) h_38) fun t30_39 h_40 =>
    ob (gd t26_31 true (some (id1, h_40)) h_40) fun t31_41 h_42 =>
    ob (gd t26_31 true (pure1 h_42 (idxS 1 t30_39 t31_41)) h_42) fun t32_43 h_44 =>
    ob (gd t26_31 true (pure1 h_44 (ld1 h_44 t32_43)) h_44) fun t33_45 h_46 =>
    ob (gd t26_31 true (some (key2, h_46)) h_46) fun t34_47 h_48 =>
    ob (gd t26_31 true (pure1 h_48 (binV .leq .scalar t33_45 t34_47)) h_48) fun t35_49 h_50 =>
    ob (gd t17_16 false (pure1 h_50 (pickV t26_31 t35_49 (.bool false))) h_50) fun t36_51 h_52 =>
    oa (pickV t17_16 (.bool true) t36_51) fun t37_53 =>
    cond2 t37_53
      (
      some ((.bool false), h_52)
      )
      (
      oa (nilCk q0) fun t39_54 =>
      oa (fldA 1 t39_54) fun t40_55 =>
      oa (ld1 h_52 t40_55) fun t41_56 =>
      oa (idxS 1 t41_56 id1) fun t43_57 =>
      oa (ld1 h_52 t43_57) fun t44_58 =>
      oa (unV .not t44_58) fun t45_59 =>
      cond2 t45_59
        (
        oa (nilCk q0) fun t47_60 =>
        oa (fldA 2 t47_60) fun t48_61 =>
        oa (ld1 h_52 t48_61) fun t49_62 =>
        oa (binV .add .scalar t49_62 (.int .i64 1)) fun t50_63 =>
        oa (nilCk q0) fun t51_64 =>
        oa (fldA 2 t51_64) fun t52_65 =>
        oh (stN 1 h_52 t52_65 t50_63) fun h_66 =>
        milestoneref3_Queue_Put_b1 T k q0 id1 key2 h_66
        )
        (
        milestoneref3_Queue_Put_b1 T k q0 id1 key2 h_52
        )
      ) := runEq (by kernel_rfl)
def queue_Queue_Len_rs : Res := [(2, none)]
noncomputable def queue_Queue_Len_mf : MFn := ⟨7, queue_Queue_Len_rs, .seq [2] (.region [⟨some 2, .op (.mv (.const (.int .i64 0))), none⟩]) (.seq [0, 3, 4, 5, 6] (.region [⟨some 3, .op (.mv (.tmp 0)), none⟩,
  ⟨some 4, .op (.nilCheck (.tmp 3)), none⟩,
  ⟨some 5, .op (.fieldAddr 0 (.tmp 4)), none⟩,
  ⟨some 6, .call f_queue_heaped_Len [(.tmp 5)], none⟩,
  ⟨some 2, .op (.mv (.tmp 6)), none⟩]) .ret)⟩
theorem queue_Queue_Len_eq (T : Tab) (k : Nat) (q0 : AV) (h : Heap) : runF T k queue_Queue_Len_mf [q0] h =
    oa (nilCk q0) fun t4_1 =>
    oa (fldA 0 t4_1) fun t5_2 =>
    ob (evalFn T k f_queue_heaped_Len [t5_2] h) fun t6_3 h_4 =>
    some (t6_3, h_4) := runEq (by kernel_rfl)
def milestoneref3_Queue_Len_rs : Res := [(2, none)]
noncomputable def milestoneref3_Queue_Len_mf : MFn := ⟨7, milestoneref3_Queue_Len_rs, .seq [2] (.region [⟨some 2, .op (.mv (.const (.int .i64 0))), none⟩]) (.seq [0, 3, 4, 5, 6] (.region [⟨some 3, .op (.mv (.tmp 0)), none⟩,
  ⟨some 4, .op (.nilCheck (.tmp 3)), none⟩,
  ⟨some 5, .op (.fieldAddr 2 (.tmp 4)), none⟩,
  ⟨some 6, .op (.load none (.tmp 5)), none⟩,
  ⟨some 2, .op (.mv (.tmp 6)), none⟩]) .ret)⟩
theorem milestoneref3_Queue_Len_eq (T : Tab) (k : Nat) (q0 : AV) (h : Heap) : runF T k milestoneref3_Queue_Len_mf [q0] h =
    oa (nilCk q0) fun t4_1 =>
    oa (fldA 2 t4_1) fun t5_2 =>
    oa (ld1 h t5_2) fun t6_3 =>
    some (t6_3, h) := runEq (by kernel_rfl)
def queue_Queue_Key_rs : Res := [(4, none), (5, none)]
noncomputable def queue_Queue_Key_mf : MFn := ⟨22, queue_Queue_Key_rs, .seq [4, 5] (.region [⟨some 4, .op (.mv (.const (.int .i64 0))), none⟩,
  ⟨some 5, .op (.mv (.const (.bool false))), none⟩]) (.seq [1, 7, 8, 9, 10] (.region [⟨some 7, .op (.mv (.tmp 0)), none⟩,
  ⟨some 8, .call f_queue_Queue_line [(.tmp 7)], none⟩,
  ⟨some 9, .op (.mv (.tmp 1)), none⟩,
  ⟨some 10, .invoke "milestone/queue.place" (.tmp 8) [(.tmp 9)], none⟩,
  ⟨some 6, .op (.mv (.tmp 10)), none⟩]) (.seq [12] (.seq [11] (.region [⟨some 11, .op (.mv (.tmp 6)), none⟩,
  ⟨some 12, .op (.bin .lss .scalar (.tmp 11) (.const (.int .i64 0))), none⟩]) (.cond (.tmp 12) (.seq [0, 6, 12] (.region [⟨some 4, .op (.mv (.const (.int .i64 0))), none⟩,
  ⟨some 5, .op (.mv (.const (.bool false))), none⟩]) .ret) .skip)) (.seq [0, 6, 13, 14, 15, 16, 17, 18, 19, 20, 21] (.region [⟨some 13, .op (.mv (.tmp 0)), none⟩,
  ⟨some 14, .op (.nilCheck (.tmp 13)), none⟩,
  ⟨some 15, .op (.fieldAddr 0 (.tmp 14)), none⟩,
  ⟨some 16, .op (.fieldAddr 0 (.tmp 15)), none⟩,
  ⟨some 17, .op (.load none (.tmp 16)), none⟩,
  ⟨some 18, .op (.mv (.tmp 6)), none⟩,
  ⟨some 19, .op (.idxSl 2 (.tmp 17) (.tmp 18)), none⟩,
  ⟨some 20, .op (.fieldAddr 1 (.tmp 19)), none⟩,
  ⟨some 21, .op (.load none (.tmp 20)), none⟩,
  ⟨some 4, .op (.mv (.tmp 21)), none⟩,
  ⟨some 5, .op (.mv (.const (.bool true))), none⟩]) .ret)))⟩
theorem queue_Queue_Key_eq (T : Tab) (k : Nat) (q0 id1 : AV) (h : Heap) : runF T k queue_Queue_Key_mf [q0, id1] h =
    ob (evalFn T k f_queue_Queue_line [q0] h) fun t8_1 h_2 =>
    ob (callMeth T (evalFn T k) "milestone/queue.place" t8_1 [id1] h_2) fun t10_3 h_4 =>
    oa (binV .lss .scalar t10_3 (.int .i64 0)) fun t12_5 =>
    cond2 t12_5
      (
      some (.tup [(.int .i64 0), (.bool false)], h_4)
      )
      (
      oa (nilCk q0) fun t14_6 =>
      oa (fldA 0 t14_6) fun t15_7 =>
      oa (fldA 0 t15_7) fun t16_8 =>
      oa (ld1 h_4 t16_8) fun t17_9 =>
      oa (idxS 2 t17_9 t10_3) fun t19_10 =>
      oa (fldA 1 t19_10) fun t20_11 =>
      oa (ld1 h_4 t20_11) fun t21_12 =>
      some (.tup [t21_12, (.bool true)], h_4)
      ) := runEq (by kernel_rfl)
def milestoneref3_Queue_Key_rs : Res := [(4, none), (5, none)]
noncomputable def milestoneref3_Queue_Key_mf : MFn := ⟨34, milestoneref3_Queue_Key_rs, .seq [4, 5] (.region [⟨some 4, .op (.mv (.const (.int .i64 0))), none⟩,
  ⟨some 5, .op (.mv (.const (.bool false))), none⟩]) (.seq [26] (.seq [6, 7, 8, 9, 10, 11, 12, 13, 14, 15, 16, 17, 18, 19, 20, 21, 22, 23, 24, 25] (.region [⟨some 6, .op (.mv (.tmp 1)), none⟩,
  ⟨some 7, .op (.bin .lss .scalar (.tmp 6) (.const (.int .i64 0))), none⟩,
  ⟨some 8, .op (.mv (.tmp 7)), none⟩,
  ⟨some 9, .op (.mv (.tmp 1)), some (8, false)⟩,
  ⟨some 10, .op (.mv (.tmp 0)), some (8, false)⟩,
  ⟨some 11, .op (.nilCheck (.tmp 10)), some (8, false)⟩,
  ⟨some 12, .op (.fieldAddr 0 (.tmp 11)), some (8, false)⟩,
  ⟨some 13, .op (.load none (.tmp 12)), some (8, false)⟩,
  ⟨some 14, .op (.lenSl (.tmp 13)), some (8, false)⟩,
  ⟨some 15, .op (.bin .geq .scalar (.tmp 9) (.tmp 14)), some (8, false)⟩,
  ⟨some 16, .op (.pick (.tmp 8) (.const (.bool true)) (.tmp 15)), none⟩,
  ⟨some 17, .op (.mv (.tmp 16)), none⟩,
  ⟨some 18, .op (.mv (.tmp 0)), some (17, false)⟩,
  ⟨some 19, .op (.nilCheck (.tmp 18)), some (17, false)⟩,
  ⟨some 20, .op (.fieldAddr 1 (.tmp 19)), some (17, false)⟩,
  ⟨some 21, .op (.load none (.tmp 20)), some (17, false)⟩,
  ⟨some 22, .op (.mv (.tmp 1)), some (17, false)⟩,
  ⟨some 23, .op (.idxSl 1 (.tmp 21) (.tmp 22)), some (17, false)⟩,
  ⟨some 24, .op (.load none (.tmp 23)), some (17, false)⟩,
  ⟨some 25, .op (.un .not (.tmp 24)), some (17, false)⟩,
  ⟨some 26, .op (.pick (.tmp 17) (.const (.bool true)) (.tmp 25)), none⟩]) (.cond (.tmp 26) (.seq [0, 1, 26] (.region [⟨some 4, .op (.mv (.const (.int .i64 0))), none⟩,
  ⟨some 5, .op (.mv (.const (.bool false))), none⟩]) .ret) .skip)) (.seq [0, 1, 27, 28, 29, 30, 31, 32, 33] (.region [⟨some 27, .op (.mv (.tmp 0)), none⟩,
  ⟨some 28, .op (.nilCheck (.tmp 27)), none⟩,
  ⟨some 29, .op (.fieldAddr 0 (.tmp 28)), none⟩,
  ⟨some 30, .op (.load none (.tmp 29)), none⟩,
  ⟨some 31, .op (.mv (.tmp 1)), none⟩,
  ⟨some 32, .op (.idxSl 1 (.tmp 30) (.tmp 31)), none⟩,
  ⟨some 33, .op (.load none (.tmp 32)), none⟩,
  ⟨some 4, .op (.mv (.tmp 33)), none⟩,
  ⟨some 5, .op (.mv (.const (.bool true))), none⟩]) .ret))⟩
theorem milestoneref3_Queue_Key_eq (T : Tab) (k : Nat) (q0 id1 : AV) (h : Heap) : runF T k milestoneref3_Queue_Key_mf [q0, id1] h =
    oa (binV .lss .scalar id1 (.int .i64 0)) fun t7_1 =>
    ob (gd t7_1 false (some (id1, h)) h) fun t9_2 h_3 =>
    ob (gd t7_1 false (some (q0, h_3)) h_3) fun t10_4 h_5 =>
    ob (gd t7_1 false (pure1 h_5 (nilCk t10_4)) h_5) fun t11_6 h_7 =>
    ob (gd t7_1 false (pure1 h_7 (fldA 0 t11_6)) h_7) fun t12_8 h_9 =>
    ob (gd t7_1 false (pure1 h_9 (ld1 h_9 t12_8)) h_9) fun t13_10 h_11 =>
    ob (gd t7_1 false (pure1 h_11 (lenS t13_10)) h_11) fun t14_12 h_13 =>
    ob (gd t7_1 false (pure1 h_13 (binV .geq .scalar t9_2 t14_12)) h_13) fun t15_14 h_15 =>
    oa (pickV t7_1 (.bool true) t15_14) fun t16_16 =>
    ob (gd t16_16 false (some (q0, h_15)) h_15) fun t18_17 h_18 =>
    ob (gd t16_16 false (pure1 h_18 (nilCk t18_17)) h_18) fun t19_19 h_20 =>
    ob (gd t16_16 false (pure1 h_20 (fldA 1 t19_19)) h_20) fun t20_21 h_22 =>
    ob (gd t16_16 false (pure1 h_22 (ld1 h_22 t20_21)) h_22) fun t21_23 h_24 =>
    ob (gd t16_16 false (some (id1, h_24)) h_24) fun t22_25 h_26 =>
    ob (gd t16_16 false (pure1 h_26 (idxS 1 t21_23 t22_25)) h_26) fun t23_27 h_28 =>
    ob (gd t16_16 false (pure1 h_28 (ld1 h_28 t23_27)) h_28) fun t24_29 h_30 =>
    ob (gd t16_16 false (pure1 h_30 (unV .not t24_29)) h_30) fun t25_31 h_32 =>
    oa (pickV t16_16 (.bool true) t25_31) fun t26_33 =>
    cond2 t26_33
      (
      some (.tup [(.int .i64 0), (.bool false)], h_32)
      )
      (
      oa (nilCk q0) fun t28_34 =>
      oa (fldA 0 t28_34) fun t29_35 =>
      oa (ld1 h_32 t29_35) fun t30_36 =>
      oa (idxS 1 t30_36 id1) fun t32_37 =>
      oa (ld1 h_32 t32_37) fun t33_38 =>
      some (.tup [t33_38, (.bool true)], h_32)
      ) := runEq (by kernel_rfl)
def queue_heaped_Len_rs : Res := [(2, none)]
noncomputable def queue_heaped_Len_mf : MFn := ⟨8, queue_heaped_Len_rs, .seq [2] (.region [⟨some 2, .op (.mv (.const (.int .i64 0))), none⟩]) (.seq [0, 3, 4, 5, 6, 7] (.region [⟨some 3, .op (.mv (.tmp 0)), none⟩,
  ⟨some 4, .op (.nilCheck (.tmp 3)), none⟩,
  ⟨some 5, .op (.fieldAddr 0 (.tmp 4)), none⟩,
  ⟨some 6, .op (.load none (.tmp 5)), none⟩,
  ⟨some 7, .op (.lenSl (.tmp 6)), none⟩,
  ⟨some 2, .op (.mv (.tmp 7)), none⟩]) .ret)⟩
theorem queue_heaped_Len_eq (T : Tab) (k : Nat) (h0 : AV) (h : Heap) : runF T k queue_heaped_Len_mf [h0] h =
    oa (nilCk h0) fun t4_1 =>
    oa (fldA 0 t4_1) fun t5_2 =>
    oa (ld1 h t5_2) fun t6_3 =>
    oa (lenS t6_3) fun t7_4 =>
    some (t7_4, h) := runEq (by kernel_rfl)
def container_heap_Pop_rs : Res := [(2, none)]
noncomputable def container_heap_Pop_mf : MFn := ⟨15, container_heap_Pop_rs, .seq [2] (.region [⟨some 2, .op (.mv (.const .nilifc)), none⟩]) (.seq [4, 5, 6] (.region [⟨some 4, .op (.mv (.tmp 0)), none⟩,
  ⟨some 5, .invoke "Len" (.tmp 4) [], none⟩,
  ⟨some 6, .op (.bin .sub .scalar (.tmp 5) (.const (.int .i64 1))), none⟩,
  ⟨some 3, .op (.mv (.tmp 6)), none⟩]) (.seq [7, 8, 9] (.region [⟨some 7, .op (.mv (.tmp 0)), none⟩,
  ⟨some 8, .op (.mv (.tmp 3)), none⟩,
  ⟨some 9, .invoke "Swap" (.tmp 7) [(.const (.int .i64 0)), (.tmp 8)], none⟩]) (.seq [3, 10, 11, 12] (.region [⟨some 10, .op (.mv (.tmp 0)), none⟩,
  ⟨some 11, .op (.mv (.tmp 3)), none⟩,
  ⟨some 12, .call f_container_heap_down [(.tmp 10), (.const (.int .i64 0)), (.tmp 11)], none⟩]) (.seq [0, 13, 14] (.region [⟨some 13, .op (.mv (.tmp 0)), none⟩,
  ⟨some 14, .invoke "Pop" (.tmp 13) [], none⟩,
  ⟨some 2, .op (.mv (.tmp 14)), none⟩]) .ret))))⟩
theorem container_heap_Pop_eq (T : Tab) (k : Nat) (h0 : AV) (h : Heap) : runF T k container_heap_Pop_mf [h0] h =
    ob (callMeth T (evalFn T k) "Len" h0 [] h) fun t5_1 h_2 =>
    oa (binV .sub .scalar t5_1 (.int .i64 1)) fun t6_3 =>
    ob (callMeth T (evalFn T k) "Swap" h0 [(.int .i64 0), t6_3] h_2) fun t9_4 h_5 =>
    ob (evalFn T k f_container_heap_down [h0, (.int .i64 0), t6_3] h_5) fun t12_6 h_7 =>
    ob (callMeth T (evalFn T k) "Pop" h0 [] h_7) fun t14_8 h_9 =>
    some (t14_8, h_9) := runEq (by kernel_rfl)
def queue_Queue_line_rs : Res := [(2, none)]
noncomputable def queue_Queue_line_mf : MFn := ⟨7, queue_Queue_line_rs, .seq [2] (.region [⟨some 2, .op (.mv (.const .nilifc)), none⟩]) (.seq [0, 3, 4, 5, 6] (.region [⟨some 3, .op (.mv (.tmp 0)), none⟩,
  ⟨some 4, .op (.nilCheck (.tmp 3)), none⟩,
  ⟨some 5, .op (.fieldAddr 0 (.tmp 4)), none⟩,
  ⟨some 6, .op (.mkIfc 58 (.tmp 5)), none⟩,
  ⟨some 2, .op (.mv (.tmp 6)), none⟩]) .ret)⟩
theorem queue_Queue_line_eq (T : Tab) (k : Nat) (q0 : AV) (h : Heap) : runF T k queue_Queue_line_mf [q0] h =
    oa (nilCk q0) fun t4_1 =>
    oa (fldA 0 t4_1) fun t5_2 =>
    some ((.ifc 58 t5_2), h) := runEq (by kernel_rfl)
def container_heap_Push_rs : Res := []
noncomputable def container_heap_Push_mf : MFn := ⟨12, container_heap_Push_rs, .seq [1, 4, 5, 6] (.region [⟨some 4, .op (.mv (.tmp 0)), none⟩,
  ⟨some 5, .op (.mv (.tmp 1)), none⟩,
  ⟨some 6, .invoke "Push" (.tmp 4) [(.tmp 5)], none⟩]) (.region [⟨some 7, .op (.mv (.tmp 0)), none⟩,
  ⟨some 8, .op (.mv (.tmp 0)), none⟩,
  ⟨some 9, .invoke "Len" (.tmp 8) [], none⟩,
  ⟨some 10, .op (.bin .sub .scalar (.tmp 9) (.const (.int .i64 1))), none⟩,
  ⟨some 11, .call f_container_heap_up [(.tmp 7), (.tmp 10)], none⟩])⟩
theorem container_heap_Push_eq (T : Tab) (k : Nat) (h0 x1 : AV) (h : Heap) : runF T k container_heap_Push_mf [h0, x1] h =
    ob (callMeth T (evalFn T k) "Push" h0 [x1] h) fun t6_1 h_2 =>
    ob (callMeth T (evalFn T k) "Len" h0 [] h_2) fun t9_3 h_4 =>
    oa (binV .sub .scalar t9_3 (.int .i64 1)) fun t10_5 =>
    ob (evalFn T k f_container_heap_up [h0, t10_5] h_4) fun t11_6 h_7 =>
    some (.tup [], h_7) := runEq (by kernel_rfl)
def container_heap_Fix_rs : Res := []
noncomputable def container_heap_Fix_mf : MFn := ⟨13, container_heap_Fix_rs, .seq [4, 5, 6, 7, 8] (.region [⟨some 4, .op (.mv (.tmp 0)), none⟩,
  ⟨some 5, .op (.mv (.tmp 1)), none⟩,
  ⟨some 6, .op (.mv (.tmp 0)), none⟩,
  ⟨some 7, .invoke "Len" (.tmp 6) [], none⟩,
  ⟨some 8, .call f_container_heap_down [(.tmp 4), (.tmp 5), (.tmp 7)], none⟩,
  ⟨some 9, .op (.un .not (.tmp 8)), none⟩]) (.cond (.tmp 9) (.region [⟨some 10, .op (.mv (.tmp 0)), none⟩,
  ⟨some 11, .op (.mv (.tmp 1)), none⟩,
  ⟨some 12, .call f_container_heap_up [(.tmp 10), (.tmp 11)], none⟩]) .skip)⟩
theorem container_heap_Fix_eq (T : Tab) (k : Nat) (h0 i1 : AV) (h : Heap) : runF T k container_heap_Fix_mf [h0, i1] h =
    ob (callMeth T (evalFn T k) "Len" h0 [] h) fun t7_1 h_2 =>
    ob (evalFn T k f_container_heap_down [h0, i1, t7_1] h_2) fun t8_3 h_4 =>
    oa (unV .not t8_3) fun t9_5 =>
    cond2 t9_5
      (
      ob (evalFn T k f_container_heap_up [h0, i1] h_4) fun t12_6 h_7 =>
      some (.tup [], h_7)
      )
      (
      some (.tup [], h_4)
      ) := runEq (by kernel_rfl)
noncomputable def container_heap_down_c1 : MCode := .seq [39] (.seq [35, 36, 37, 38] (.region [⟨some 35, .op (.mv (.tmp 0)), none⟩,
  ⟨some 36, .op (.mv (.tmp 9)), none⟩,
  ⟨some 37, .op (.mv (.tmp 7)), none⟩,
  ⟨some 38, .invoke "Less" (.tmp 35) [(.tmp 36), (.tmp 37)], none⟩,
  ⟨some 39, .op (.un .not (.tmp 38)), none⟩]) (.cond (.tmp 39) (.exit 0) .skip)) (.seq [7, 40, 41, 42, 43] (.region [⟨some 40, .op (.mv (.tmp 0)), none⟩,
  ⟨some 41, .op (.mv (.tmp 7)), none⟩,
  ⟨some 42, .op (.mv (.tmp 9)), none⟩,
  ⟨some 43, .invoke "Swap" (.tmp 40) [(.tmp 41), (.tmp 42)], none⟩]) (.region [⟨some 44, .op (.mv (.tmp 9)), none⟩,
  ⟨some 7, .op (.mv (.tmp 44)), none⟩]))
noncomputable def container_heap_down_c2 : MCode := .block 1 (.seq [12, 13, 14] (.region [⟨some 12, .op (.mv (.tmp 7)), none⟩,
  ⟨some 13, .op (.bin .mul .scalar (.const (.int .i64 2)) (.tmp 12)), none⟩,
  ⟨some 14, .op (.bin .add .scalar (.tmp 13) (.const (.int .i64 1))), none⟩,
  ⟨some 8, .op (.mv (.tmp 14)), none⟩]) (.seq [21] (.seq [15, 16, 17, 18, 19, 20] (.region [⟨some 15, .op (.mv (.tmp 8)), none⟩,
  ⟨some 16, .op (.mv (.tmp 2)), none⟩,
  ⟨some 17, .op (.bin .geq .scalar (.tmp 15) (.tmp 16)), none⟩,
  ⟨some 18, .op (.mv (.tmp 17)), none⟩,
  ⟨some 19, .op (.mv (.tmp 8)), some (18, false)⟩,
  ⟨some 20, .op (.bin .lss .scalar (.tmp 19) (.const (.int .i64 0))), some (18, false)⟩,
  ⟨some 21, .op (.pick (.tmp 18) (.const (.bool true)) (.tmp 20)), none⟩]) (.cond (.tmp 21) (.exit 0) .skip)) (.seq [22] (.region [⟨some 22, .op (.mv (.tmp 8)), none⟩,
  ⟨some 9, .op (.mv (.tmp 22)), none⟩]) (.seq [10, 33, 34] (.seq [23, 24] (.region [⟨some 23, .op (.mv (.tmp 8)), none⟩,
  ⟨some 24, .op (.bin .add .scalar (.tmp 23) (.const (.int .i64 1))), none⟩,
  ⟨some 10, .op (.mv (.tmp 24)), none⟩]) (.seq [8, 25, 26, 27, 28, 29, 30, 31, 32] (.region [⟨some 25, .op (.mv (.tmp 10)), none⟩,
  ⟨some 26, .op (.mv (.tmp 2)), none⟩,
  ⟨some 27, .op (.bin .lss .scalar (.tmp 25) (.tmp 26)), none⟩,
  ⟨some 28, .op (.mv (.tmp 27)), none⟩,
  ⟨some 29, .op (.mv (.tmp 0)), some (28, true)⟩,
  ⟨some 30, .op (.mv (.tmp 10)), some (28, true)⟩,
  ⟨some 31, .op (.mv (.tmp 8)), some (28, true)⟩,
  ⟨some 32, .invoke "Less" (.tmp 29) [(.tmp 30), (.tmp 31)], some (28, true)⟩,
  ⟨some 33, .op (.pick (.tmp 28) (.tmp 32) (.const (.bool false))), none⟩]) (.cond (.tmp 33) (.region [⟨some 34, .op (.mv (.tmp 10)), none⟩,
  ⟨some 9, .op (.mv (.tmp 34)), none⟩]) .skip))) (.lab container_heap_down_c1)))))
noncomputable def container_heap_down_c3 : MCode := .seq [1, 7, 45, 46, 47] (.region [⟨some 45, .op (.mv (.tmp 7)), none⟩,
  ⟨some 46, .op (.mv (.tmp 1)), none⟩,
  ⟨some 47, .op (.bin .gtr .scalar (.tmp 45) (.tmp 46)), none⟩,
  ⟨some 6, .op (.mv (.tmp 47)), none⟩]) .ret
def container_heap_down_rs : Res := [(6, none)]
noncomputable def container_heap_down_mf : MFn := ⟨48, container_heap_down_rs, .seq [6] (.region [⟨some 6, .op (.mv (.const (.bool false))), none⟩]) (.seq [11] (.region [⟨some 11, .op (.mv (.tmp 1)), none⟩,
  ⟨some 7, .op (.mv (.tmp 11)), none⟩]) (.seq [0, 2, 8, 9, 21, 39] (.block 0 (.loop [9, 44] container_heap_down_c2)) (.lab container_heap_down_c3)))⟩
noncomputable def container_heap_down_l1 (T : Tab) (k j0 : Nat) (h0 i01 n2 i7 : AV) (h : Heap) : Option (AV × Heap) :=
  loopB T k container_heap_down_rs j0 [9, 44] container_heap_down_c2 [.blk 0, .seq [0, 2, 8, 9, 21, 39] (.lab container_heap_down_c3)] [h0, i01, n2, .undef, .undef, .undef, .undef, i7, .undef, .undef, .undef, .undef, .undef, .undef, .undef, .undef, .undef, .undef, .undef, .undef, .undef, .undef, .undef, .undef, .undef, .undef, .undef, .undef, .undef, .undef, .undef, .undef, .undef, .undef, .undef, .undef, .undef, .undef, .undef, .undef, .undef, .undef, .undef, .undef, .undef, .undef, .undef, .undef] h
noncomputable def container_heap_down_b2 (T : Tab) (k : Nat) (i01 i7 : AV) (h : Heap) : Option (AV × Heap) :=
  evB T k container_heap_down_rs container_heap_down_c3 [] [.undef, i01, .undef, .undef, .undef, .undef, .undef, i7, .undef, .undef, .undef, .undef, .undef, .undef, .undef, .undef, .undef, .undef, .undef, .undef, .undef, .undef, .undef, .undef, .undef, .undef, .undef, .undef, .undef, .undef, .undef, .undef, .undef, .undef, .undef, .undef, .undef, .undef, .undef, .undef, .undef, .undef, .undef, .undef, .undef, .undef, .undef, .undef] h
noncomputable def container_heap_down_b3 (T : Tab) (k j0 : Nat) (h0 i01 n2 i7 j9 : AV) (h : Heap) : Option (AV × Heap) :=
  evB T k container_heap_down_rs container_heap_down_c1 [.blk 1, .lp j0 [9, 44] container_heap_down_c2, .blk 0, .seq [0, 2, 8, 9, 21, 39] (.lab container_heap_down_c3)] [h0, i01, n2, .undef, .undef, .undef, .undef, i7, .undef, j9, .undef, .undef, .undef, .undef, .undef, .undef, .undef, .undef, .undef, .undef, .undef, .undef, .undef, .undef, .undef, .undef, .undef, .undef, .undef, .undef, .undef, .undef, .undef, .undef, .undef, .undef, .undef, .undef, .undef, .undef, .undef, .undef, .undef, .undef, .undef, .undef, .undef, .undef] h
theorem container_heap_down_b2_eq (T : Tab) (k : Nat) (i01 i7 : AV) (h : Heap) : container_heap_down_b2 T k i01 i7 h =
    oa (binV .gtr .scalar i7 i01) fun t47_1 =>
    some (t47_1, h) := blockEq (by kernel_rfl)
theorem container_heap_down_b3_eq (T : Tab) (k j0 : Nat) (h0 i01 n2 i7 j9 : AV) (h : Heap) : container_heap_down_b3 T k j0 h0 i01 n2 i7 j9 h =
    ob (callMeth T (evalFn T k) "Less" h0 [j9, i7] h) fun t38_1 h_2 =>
    oa (unV .not t38_1) fun t39_3 =>
    cond2 t39_3
      (
      container_heap_down_b2 T k i01 i7 h_2
      )
      (
      ob (callMeth T (evalFn T k) "Swap" h0 [i7, j9] h_2) fun t43_4 h_5 =>
      container_heap_down_l1 T k j0 h0 i01 n2 j9 h_5
      ) := blockEq (by kernel_rfl)
theorem container_heap_down_l1_eq (T : Tab) (k j0 : Nat) (h0 i01 n2 i7 : AV) (h : Heap) : container_heap_down_l1 T k (j0 + 1) h0 i01 n2 i7 h =
    oa (binV .mul .scalar (.int .i64 2) i7) fun t13_1 =>
    oa (binV .add .scalar t13_1 (.int .i64 1)) fun t14_2 =>
    oa (binV .geq .scalar t14_2 n2) fun t17_3 =>
    ob (gd t17_3 false (some (t14_2, h)) h) fun t19_4 h_5 =>
    ob (gd t17_3 false (pure1 h_5 (binV .lss .scalar t19_4 (.int .i64 0))) h_5) fun t20_6 h_7 =>
    oa (pickV t17_3 (.bool true) t20_6) fun t21_8 =>
    cond2 t21_8
      (
      container_heap_down_b2 T k i01 i7 h_7
      )
      (
      oa (binV .add .scalar t14_2 (.int .i64 1)) fun t24_9 =>
      oa (binV .lss .scalar t24_9 n2) fun t27_10 =>
      ob (gd t27_10 true (some (h0, h_7)) h_7) fun t29_11 h_12 =>
      ob (gd t27_10 true (some (t24_9, h_12)) h_12) fun t30_13 h_14 =>
      ob (gd t27_10 true (some (t14_2, h_14)) h_14) fun t31_15 h_16 =>
      ob (gd t27_10 true (callMeth T (evalFn T k) "Less" t29_11 [t30_13, t31_15] h_16) h_16) fun t32_17 h_18 =>
      oa (pickV t27_10 t32_17 (.bool false)) fun t33_19 =>
      cond2 t33_19
        (
        container_heap_down_b3 T k j0 h0 i01 n2 i7 t24_9 h_18
        )
        (
        container_heap_down_b3 T k j0 h0 i01 n2 i7 t14_2 h_18
        )
      ) := loopEq (by kernel_rfl)
theorem container_heap_down_eq (T : Tab) (k : Nat) (h0 i01 n2 : AV) (h : Heap) : runF T k container_heap_down_mf [h0, i01, n2] h =
    container_heap_down_l1 T k k h0 i01 n2 i01 h := runEq (by kernel_rfl)
noncomputable def container_heap_up_c1 : MCode := .block 1 (.seq [5, 6, 7] (.region [⟨some 5, .op (.mv (.tmp 1)), none⟩,
  ⟨some 6, .op (.bin .sub .scalar (.tmp 5) (.const (.int .i64 1))), none⟩,
  ⟨some 7, .op (.bin .quo .scalar (.tmp 6) (.const (.int .i64 2))), none⟩,
  ⟨some 4, .op (.mv (.tmp 7)), none⟩]) (.seq [17] (.seq [8, 9, 10, 11, 12, 13, 14, 15, 16] (.region [⟨some 8, .op (.mv (.tmp 4)), none⟩,
  ⟨some 9, .op (.mv (.tmp 1)), none⟩,
  ⟨some 10, .op (.bin .eql .scalar (.tmp 8) (.tmp 9)), none⟩,
  ⟨some 11, .op (.mv (.tmp 10)), none⟩,
  ⟨some 12, .op (.mv (.tmp 0)), some (11, false)⟩,
  ⟨some 13, .op (.mv (.tmp 1)), some (11, false)⟩,
  ⟨some 14, .op (.mv (.tmp 4)), some (11, false)⟩,
  ⟨some 15, .invoke "Less" (.tmp 12) [(.tmp 13), (.tmp 14)], some (11, false)⟩,
  ⟨some 16, .op (.un .not (.tmp 15)), some (11, false)⟩,
  ⟨some 17, .op (.pick (.tmp 11) (.const (.bool true)) (.tmp 16)), none⟩]) (.cond (.tmp 17) (.exit 0) .skip)) (.seq [1, 18, 19, 20, 21] (.region [⟨some 18, .op (.mv (.tmp 0)), none⟩,
  ⟨some 19, .op (.mv (.tmp 4)), none⟩,
  ⟨some 20, .op (.mv (.tmp 1)), none⟩,
  ⟨some 21, .invoke "Swap" (.tmp 18) [(.tmp 19), (.tmp 20)], none⟩]) (.region [⟨some 22, .op (.mv (.tmp 4)), none⟩,
  ⟨some 1, .op (.mv (.tmp 22)), none⟩]))))
def container_heap_up_rs : Res := []
noncomputable def container_heap_up_mf : MFn := ⟨23, container_heap_up_rs, .block 0 (.loop [4, 22] container_heap_up_c1)⟩
noncomputable def container_heap_up_l1 (T : Tab) (k j0 : Nat) (h0 j1 : AV) (h : Heap) : Option (AV × Heap) :=
  loopB T k container_heap_up_rs j0 [4, 22] container_heap_up_c1 [.blk 0] [h0, j1, .undef, .undef, .undef, .undef, .undef, .undef, .undef, .undef, .undef, .undef, .undef, .undef, .undef, .undef, .undef, .undef, .undef, .undef, .undef, .undef, .undef] h
theorem container_heap_up_l1_eq (T : Tab) (k j0 : Nat) (h0 j1 : AV) (h : Heap) : container_heap_up_l1 T k (j0 + 1) h0 j1 h =
    oa (binV .sub .scalar j1 (.int .i64 1)) fun t6_1 =>
    oa (binV .quo .scalar t6_1 (.int .i64 2)) fun t7_2 =>
    oa (binV .eql .scalar t7_2 j1) fun t10_3 =>
    ob (gd t10_3 false (some (h0, h)) h) fun t12_4 h_5 =>
    ob (gd t10_3 false (some (j1, h_5)) h_5) fun t13_6 h_7 =>
    ob (gd t10_3 false (some (t7_2, h_7)) h_7) fun t14_8 h_9 =>
    ob (gd t10_3 false (callMeth T (evalFn T k) "Less" t12_4 [t13_6, t14_8] h_9) h_9) fun t15_10 h_11 =>
    ob (gd t10_3 false (pure1 h_11 (unV .not t15_10)) h_11) fun t16_12 h_13 =>
    oa (pickV t10_3 (.bool true) t16_12) fun t17_14 =>
    cond2 t17_14
      (
      some (.tup [], h_13)
      )
      (
      ob (callMeth T (evalFn T k) "Swap" h0 [t7_2, j1] h_13) fun t21_15 h_16 =>
      container_heap_up_l1 T k j0 h0 t7_2 h_16
      ) := loopEq (by kernel_rfl)
theorem container_heap_up_eq (T : Tab) (k : Nat) (h0 j1 : AV) (h : Heap) : runF T k container_heap_up_mf [h0, j1] h =
    container_heap_up_l1 T k k h0 j1 h := runEq (by kernel_rfl)
def queue_item_before_rs : Res := [(4, none)]
noncomputable def queue_item_before_mf : MFn := ⟨20, queue_item_before_rs, .seq [0, 1, 4] (.region [⟨some 2, .op (.box (.tmp 0)), none⟩,
  ⟨some 3, .op (.box (.tmp 1)), none⟩,
  ⟨some 4, .op (.mv (.const (.bool false))), none⟩]) (.seq [9] (.seq [5, 6, 7, 8] (.region [⟨some 5, .op (.fieldAddr 1 (.tmp 2)), none⟩,
  ⟨some 6, .op (.load none (.tmp 5)), none⟩,
  ⟨some 7, .op (.fieldAddr 1 (.tmp 3)), none⟩,
  ⟨some 8, .op (.load none (.tmp 7)), none⟩,
  ⟨some 9, .op (.bin .neq .scalar (.tmp 6) (.tmp 8)), none⟩]) (.cond (.tmp 9) (.seq [2, 3, 9, 10, 11, 12, 13, 14] (.region [⟨some 10, .op (.fieldAddr 1 (.tmp 2)), none⟩,
  ⟨some 11, .op (.load none (.tmp 10)), none⟩,
  ⟨some 12, .op (.fieldAddr 1 (.tmp 3)), none⟩,
  ⟨some 13, .op (.load none (.tmp 12)), none⟩,
  ⟨some 14, .op (.bin .lss .scalar (.tmp 11) (.tmp 13)), none⟩,
  ⟨some 4, .op (.mv (.tmp 14)), none⟩]) .ret) .skip)) (.seq [2, 3, 15, 16, 17, 18, 19] (.region [⟨some 15, .op (.fieldAddr 0 (.tmp 2)), none⟩,
  ⟨some 16, .op (.load none (.tmp 15)), none⟩,
  ⟨some 17, .op (.fieldAddr 0 (.tmp 3)), none⟩,
  ⟨some 18, .op (.load none (.tmp 17)), none⟩,
  ⟨some 19, .op (.bin .lss .scalar (.tmp 16) (.tmp 18)), none⟩,
  ⟨some 4, .op (.mv (.tmp 19)), none⟩]) .ret))⟩
theorem queue_item_before_eq (T : Tab) (k : Nat) (x0 y1 : AV) (h : Heap) : runF T k queue_item_before_mf [x0, y1] h =
    ob (newVar h (AV.cells x0)) fun x2_1 h_2 =>
    ob (newVar h_2 (AV.cells y1)) fun y3_3 h_4 =>
    oa (fldA 1 x2_1) fun t5_5 =>
    oa (ld1 h_4 t5_5) fun t6_6 =>
    oa (fldA 1 y3_3) fun t7_7 =>
    oa (ld1 h_4 t7_7) fun t8_8 =>
    oa (binV .neq .scalar t6_6 t8_8) fun t9_9 =>
    cond2 t9_9
      (
      oa (fldA 1 x2_1) fun t10_10 =>
      oa (ld1 h_4 t10_10) fun t11_11 =>
      oa (fldA 1 y3_3) fun t12_12 =>
      oa (ld1 h_4 t12_12) fun t13_13 =>
      oa (binV .lss .scalar t11_11 t13_13) fun t14_14 =>
      some (t14_14, h_4)
      )
      (
      oa (fldA 0 x2_1) fun t15_15 =>
      oa (ld1 h_4 t15_15) fun t16_16 =>
      oa (fldA 0 y3_3) fun t17_17 =>
      oa (ld1 h_4 t17_17) fun t18_18 =>
      oa (binV .lss .scalar t16_16 t18_18) fun t19_19 =>
      some (t19_19, h_4)
      ) := runEq (by kernel_rfl)
def queue_heaped_Less_rs : Res := [(6, none)]
noncomputable def queue_heaped_Less_mf : MFn := ⟨24, queue_heaped_Less_rs, .seq [6] (.region [⟨some 6, .op (.mv (.const (.bool false))), none⟩]) (.seq [] (.region [⟨some 7, .op (.mv (.const (.fn f_queue_item_before [] []))), none⟩]) (.seq [0, 1, 2, 7, 8, 9, 10, 11, 12, 13, 14, 15, 16, 17, 18, 19, 20, 21, 22, 23] (.regionD 24 [⟨0, ⟨some 24, .op (.mv (.tmp 7)), none⟩, []⟩,
  ⟨1, ⟨some 25, .op (.mv (.tmp 0)), none⟩, []⟩,
  ⟨2, ⟨some 26, .op (.nilCheck (.tmp 25)), none⟩, []⟩,
  ⟨3, ⟨some 27, .op (.fieldAddr 0 (.tmp 26)), none⟩, []⟩,
  ⟨4, ⟨some 28, .op (.load none (.tmp 27)), none⟩, []⟩,
  ⟨5, ⟨some 29, .op (.mv (.tmp 1)), none⟩, []⟩,
  ⟨6, ⟨some 30, .op (.idxSl 2 (.tmp 28) (.tmp 29)), none⟩, []⟩,
  ⟨7, ⟨some 31, .op (.load (some 2) (.tmp 30)), none⟩, []⟩,
  ⟨8, ⟨some 32, .op (.mv (.tmp 0)), none⟩, []⟩,
  ⟨9, ⟨some 33, .op (.nilCheck (.tmp 32)), none⟩, []⟩,
  ⟨10, ⟨some 34, .op (.fieldAddr 0 (.tmp 33)), none⟩, []⟩,
  ⟨11, ⟨some 35, .op (.load none (.tmp 34)), none⟩, []⟩,
  ⟨12, ⟨some 36, .op (.mv (.tmp 2)), none⟩, []⟩,
  ⟨13, ⟨some 37, .op (.idxSl 2 (.tmp 35) (.tmp 36)), none⟩, []⟩,
  ⟨14, ⟨some 38, .op (.load (some 2) (.tmp 37)), none⟩, []⟩,
  ⟨15, ⟨some 39, .callV (.tmp 24) [(.tmp 31), (.tmp 38)], none⟩, []⟩,
  ⟨16, ⟨some 40, .op (.mv (.tmp 39)), none⟩, []⟩] [(8, 24), (9, 25), (10, 26), (11, 27), (12, 28), (13, 29), (14, 30), (15, 31), (16, 32), (17, 33), (18, 34), (19, 35), (20, 36), (21, 37), (22, 38), (23, 39), (6, 40)]) .ret))⟩
theorem queue_heaped_Less_eq (T : Tab) (k : Nat) (h0 i1 j2 : AV) (h : Heap) : runF T k queue_heaped_Less_mf [h0, i1, j2] h =
    oa (nilCk h0) fun t26_1 =>
    oa (fldA 0 t26_1) fun t27_2 =>
    oa (ld1 h t27_2) fun t28_3 =>
    oa (idxS 2 t28_3 i1) fun t30_4 =>
    oa (ldN 2 h t30_4) fun t31_5 =>
    oa (nilCk h0) fun t33_6 =>
    oa (fldA 0 t33_6) fun t34_7 =>
    oa (ld1 h t34_7) fun t35_8 =>
    oa (idxS 2 t35_8 j2) fun t37_9 =>
    oa (ldN 2 h t37_9) fun t38_10 =>
    ob (callVal (evalFn T k) (.fn f_queue_item_before [] []) [t31_5, t38_10] h) fun t39_11 h_12 =>
    some (t39_11, h_12) := runEq (by kernel_rfl)
def queue_heaped_Pop_rs : Res := [(2, none)]
noncomputable def queue_heaped_Pop_mf : MFn := ⟨36, queue_heaped_Pop_rs, .seq [2] (.region [⟨some 2, .op (.mv (.const .nilifc)), none⟩]) (.seq [5, 6, 7, 8, 9, 10] (.region [⟨some 5, .op (.mv (.tmp 0)), none⟩,
  ⟨some 6, .op (.nilCheck (.tmp 5)), none⟩,
  ⟨some 7, .op (.fieldAddr 0 (.tmp 6)), none⟩,
  ⟨some 8, .op (.load none (.tmp 7)), none⟩,
  ⟨some 9, .op (.lenSl (.tmp 8)), none⟩,
  ⟨some 10, .op (.bin .sub .scalar (.tmp 9) (.const (.int .i64 1))), none⟩,
  ⟨some 3, .op (.mv (.tmp 10)), none⟩]) (.seq [11, 12, 13, 14, 15, 16, 17] (.region [⟨some 11, .op (.mv (.tmp 0)), none⟩,
  ⟨some 12, .op (.nilCheck (.tmp 11)), none⟩,
  ⟨some 13, .op (.fieldAddr 0 (.tmp 12)), none⟩,
  ⟨some 14, .op (.load none (.tmp 13)), none⟩,
  ⟨some 15, .op (.mv (.tmp 3)), none⟩,
  ⟨some 16, .op (.idxSl 2 (.tmp 14) (.tmp 15)), none⟩,
  ⟨some 17, .op (.load (some 2) (.tmp 16)), none⟩,
  ⟨some 4, .op (.alloc [.int .i64 0, .int .i64 0]), none⟩,
  ⟨none, .op (.store 2 (.tmp 4) (.tmp 17)), none⟩]) (.seq [3, 18, 19, 20, 21, 22, 23, 24, 25, 26] (.region [⟨some 18, .op (.mv (.tmp 0)), none⟩,
  ⟨some 19, .op (.mv (.tmp 0)), none⟩,
  ⟨some 20, .op (.nilCheck (.tmp 19)), none⟩,
  ⟨some 21, .op (.fieldAddr 0 (.tmp 20)), none⟩,
  ⟨some 22, .op (.load none (.tmp 21)), none⟩,
  ⟨some 23, .op (.mv (.tmp 3)), none⟩,
  ⟨some 24, .op (.sliceSl 2 (.tmp 22) none (some (.tmp 23)) none), none⟩,
  ⟨some 25, .op (.nilCheck (.tmp 18)), none⟩,
  ⟨some 26, .op (.fieldAddr 0 (.tmp 25)), none⟩,
  ⟨none, .op (.store 1 (.tmp 26) (.tmp 24)), none⟩]) (.seq [0, 27, 28, 29, 30, 31, 32, 33] (.regionD 36 [⟨0, ⟨some 36, .op (.mv (.tmp 0)), none⟩, []⟩,
  ⟨1, ⟨some 37, .op (.nilCheck (.tmp 36)), none⟩, []⟩,
  ⟨2, ⟨some 38, .op (.fieldAddr 1 (.tmp 37)), none⟩, []⟩,
  ⟨3, ⟨some 39, .op (.load none (.tmp 38)), none⟩, []⟩,
  ⟨4, ⟨some 40, .op (.fieldAddr 0 (.tmp 4)), none⟩, []⟩,
  ⟨5, ⟨some 41, .op (.load none (.tmp 40)), none⟩, []⟩,
  ⟨6, ⟨some 42, .op (.idxSl 1 (.tmp 39) (.tmp 41)), none⟩, []⟩,
  ⟨7, ⟨some 43, .op (.store 1 (.tmp 42) (.const (.int .i64 (-1)))), none⟩, []⟩] [(27, 36), (28, 37), (29, 38), (30, 39), (31, 40), (32, 41), (33, 42)]) (.seq [4, 34, 35] (.region [⟨some 34, .op (.load (some 2) (.tmp 4)), none⟩,
  ⟨some 35, .op (.mkIfc 49 (.tmp 34)), none⟩,
  ⟨some 2, .op (.mv (.tmp 35)), none⟩]) .ret)))))⟩
theorem queue_heaped_Pop_eq (T : Tab) (k : Nat) (h0 : AV) (h : Heap) : runF T k queue_heaped_Pop_mf [h0] h =
    oa (nilCk h0) fun t6_1 =>
    oa (fldA 0 t6_1) fun t7_2 =>
    oa (ld1 h t7_2) fun t8_3 =>
    oa (lenS t8_3) fun t9_4 =>
    oa (binV .sub .scalar t9_4 (.int .i64 1)) fun t10_5 =>
    oa (nilCk h0) fun t12_6 =>
    oa (fldA 0 t12_6) fun t13_7 =>
    oa (ld1 h t13_7) fun t14_8 =>
    oa (idxS 2 t14_8 t10_5) fun t16_9 =>
    oa (ldN 2 h t16_9) fun t17_10 =>
    ob (newVar h [.int .i64 0, .int .i64 0]) fun x4_11 h_12 =>
    oh (stN 2 h_12 x4_11 t17_10) fun h_13 =>
    oa (nilCk h0) fun t20_14 =>
    oa (fldA 0 t20_14) fun t21_15 =>
    oa (ld1 h_13 t21_15) fun t22_16 =>
    oa (slSl 2 t22_16 none (some t10_5) none) fun t24_17 =>
    oa (nilCk h0) fun t25_18 =>
    oa (fldA 0 t25_18) fun t26_19 =>
    oh (stN 1 h_13 t26_19 t24_17) fun h_20 =>
    oa (nilCk h0) fun t37_21 =>
    oa (fldA 1 t37_21) fun t38_22 =>
    oa (ld1 h_20 t38_22) fun t39_23 =>
    oa (fldA 0 x4_11) fun t40_24 =>
    oa (ld1 h_20 t40_24) fun t41_25 =>
    oa (idxS 1 t39_23 t41_25) fun t42_26 =>
    oh (stN 1 h_20 t42_26 (.int .i64 (-1))) fun h_27 =>
    oa (ldN 2 h_27 x4_11) fun t34_28 =>
    some ((.ifc 49 t34_28), h_27) := runEq (by kernel_rfl)
def queue_heaped_Push_rs : Res := []
noncomputable def queue_heaped_Push_mf : MFn := ⟨34, queue_heaped_Push_rs, .seq [1, 6, 7, 8, 9, 10] (.region [⟨some 7, .op (.mv (.tmp 1)), none⟩,
  ⟨some 8, .op (.typeAssert 49 (.agg [.int .i64 0, .int .i64 0]) true (.tmp 7)), none⟩,
  ⟨some 6, .op (.mv (.tmp 8)), none⟩,
  ⟨some 9, .op (.extract 0 (.tmp 6)), none⟩,
  ⟨some 10, .op (.extract 1 (.tmp 6)), none⟩,
  ⟨some 4, .op (.alloc [.int .i64 0, .int .i64 0]), none⟩,
  ⟨none, .op (.store 2 (.tmp 4) (.tmp 9)), none⟩,
  ⟨some 5, .op (.mv (.tmp 10)), none⟩]) (.seq [5] (.region [⟨some 11, .op (.mv (.tmp 5)), none⟩]) (.cond (.tmp 11) (.seq [11, 12, 13, 14, 15, 16, 17, 18, 19, 20, 21, 22, 23] (.regionD 34 [⟨0, ⟨some 34, .op (.mv (.tmp 0)), none⟩, []⟩,
  ⟨1, ⟨some 35, .op (.nilCheck (.tmp 34)), none⟩, []⟩,
  ⟨2, ⟨some 36, .op (.fieldAddr 1 (.tmp 35)), none⟩, []⟩,
  ⟨3, ⟨some 37, .op (.load none (.tmp 36)), none⟩, []⟩,
  ⟨4, ⟨some 38, .op (.fieldAddr 0 (.tmp 4)), none⟩, []⟩,
  ⟨5, ⟨some 39, .op (.load none (.tmp 38)), none⟩, []⟩,
  ⟨6, ⟨some 40, .op (.mv (.tmp 0)), none⟩, []⟩,
  ⟨7, ⟨some 41, .op (.nilCheck (.tmp 40)), none⟩, []⟩,
  ⟨8, ⟨some 42, .op (.fieldAddr 0 (.tmp 41)), none⟩, []⟩,
  ⟨9, ⟨some 43, .op (.load none (.tmp 42)), none⟩, []⟩,
  ⟨10, ⟨some 44, .op (.lenSl (.tmp 43)), none⟩, []⟩,
  ⟨11, ⟨some 45, .op (.idxSl 1 (.tmp 37) (.tmp 39)), none⟩, []⟩,
  ⟨12, ⟨some 46, .op (.store 1 (.tmp 45) (.tmp 44)), none⟩, []⟩] [(12, 34), (13, 35), (14, 36), (15, 37), (16, 38), (17, 39), (18, 40), (19, 41), (20, 42), (21, 43), (22, 44), (23, 45)]) (.regionD 34 [⟨0, ⟨some 34, .op (.mv (.tmp 0)), none⟩, []⟩,
  ⟨1, ⟨some 35, .op (.mv (.tmp 0)), none⟩, []⟩,
  ⟨2, ⟨some 36, .op (.nilCheck (.tmp 35)), none⟩, []⟩,
  ⟨3, ⟨some 37, .op (.fieldAddr 0 (.tmp 36)), none⟩, []⟩,
  ⟨4, ⟨some 38, .op (.load none (.tmp 37)), none⟩, []⟩,
  ⟨5, ⟨some 39, .op (.load (some 2) (.tmp 4)), none⟩, []⟩,
  ⟨6, ⟨some 40, .op (.buildSlice 2 1 [.int .i64 0, .int .i64 0] [(0, 2, (.tmp 39))]), none⟩, []⟩,
  ⟨7, ⟨some 41, .op (.append 2 16 (.tmp 38) (.tmp 40)), none⟩, []⟩,
  ⟨8, ⟨some 42, .op (.nilCheck (.tmp 34)), none⟩, []⟩,
  ⟨9, ⟨some 43, .op (.fieldAddr 0 (.tmp 42)), none⟩, []⟩,
  ⟨10, ⟨some 44, .op (.store 1 (.tmp 43) (.tmp 41)), none⟩, []⟩] [(24, 34), (25, 35), (26, 36), (27, 37), (28, 38), (29, 39), (30, 40), (31, 41), (32, 42), (33, 43)])) .skip))⟩
theorem queue_heaped_Push_eq (T : Tab) (k : Nat) (h0 x1 : AV) (h : Heap) : runF T k queue_heaped_Push_mf [h0, x1] h =
    oa (tAssert 49 (.agg [.int .i64 0, .int .i64 0]) true x1) fun t8_1 =>
    oa (extr 0 t8_1) fun t9_2 =>
    oa (extr 1 t8_1) fun t10_3 =>
    ob (newVar h [.int .i64 0, .int .i64 0]) fun y4_4 h_5 =>
    oh (stN 2 h_5 y4_4 t9_2) fun h_6 =>
    cond2 t10_3
      (
      oa (nilCk h0) fun t35_7 =>
      oa (fldA 1 t35_7) fun t36_8 =>
      oa (ld1 h_6 t36_8) fun t37_9 =>
      oa (fldA 0 y4_4) fun t38_10 =>
      oa (ld1 h_6 t38_10) fun t39_11 =>
      oa (nilCk h0) fun t41_12 =>
      oa (fldA 0 t41_12) fun t42_13 =>
      oa (ld1 h_6 t42_13) fun t43_14 =>
      oa (lenS t43_14) fun t44_15 =>
      oa (idxS 1 t37_9 t39_11) fun t45_16 =>
      oh (stN 1 h_6 t45_16 t44_15) fun h_17 =>
      oa (nilCk h0) fun t36_18 =>
      oa (fldA 0 t36_18) fun t37_19 =>
      oa (ld1 h_17 t37_19) fun t38_20 =>
      oa (ldN 2 h_17 y4_4) fun t39_21 =>
      ob (buildSl 2 1 [.int .i64 0, .int .i64 0] [(0, 2, t39_21)] h_17) fun t40_22 h_23 =>
      ob (apnd 2 16 t38_20 t40_22 h_23) fun t41_24 h_25 =>
      oa (nilCk h0) fun t42_26 =>
      oa (fldA 0 t42_26) fun t43_27 =>
      oh (stN 1 h_25 t43_27 t41_24) fun h_28 =>
      some (.tup [], h_28)
      )
      (
      some (.tup [], h_6)
      ) := runEq (by kernel_rfl)
def queue_heaped_Swap_rs : Res := []
noncomputable def queue_heaped_Swap_mf : MFn := ⟨60, queue_heaped_Swap_rs, .seq [6, 7, 8, 9, 10, 11, 12, 13, 14, 15, 16, 17, 18, 19, 20, 21, 22, 23, 24, 25, 26, 27, 28, 29, 30, 31] (.regionD 60 [⟨0, ⟨some 60, .op (.mv (.tmp 0)), none⟩, []⟩,
  ⟨1, ⟨some 61, .op (.nilCheck (.tmp 60)), none⟩, []⟩,
  ⟨2, ⟨some 62, .op (.fieldAddr 0 (.tmp 61)), none⟩, []⟩,
  ⟨3, ⟨some 63, .op (.load none (.tmp 62)), none⟩, []⟩,
  ⟨4, ⟨some 64, .op (.mv (.tmp 1)), none⟩, []⟩,
  ⟨5, ⟨some 65, .op (.mv (.tmp 0)), none⟩, []⟩,
  ⟨6, ⟨some 66, .op (.nilCheck (.tmp 65)), none⟩, []⟩,
  ⟨7, ⟨some 67, .op (.fieldAddr 0 (.tmp 66)), none⟩, []⟩,
  ⟨8, ⟨some 68, .op (.load none (.tmp 67)), none⟩, []⟩,
  ⟨9, ⟨some 69, .op (.mv (.tmp 2)), none⟩, []⟩,
  ⟨10, ⟨some 70, .op (.mv (.tmp 0)), none⟩, []⟩,
  ⟨11, ⟨some 71, .op (.nilCheck (.tmp 70)), none⟩, []⟩,
  ⟨12, ⟨some 72, .op (.fieldAddr 0 (.tmp 71)), none⟩, []⟩,
  ⟨13, ⟨some 73, .op (.load none (.tmp 72)), none⟩, []⟩,
  ⟨14, ⟨some 74, .op (.mv (.tmp 2)), none⟩, []⟩,
  ⟨15, ⟨some 75, .op (.idxSl 2 (.tmp 73) (.tmp 74)), none⟩, []⟩,
  ⟨16, ⟨some 76, .op (.load (some 2) (.tmp 75)), none⟩, []⟩,
  ⟨17, ⟨some 77, .op (.mv (.tmp 0)), none⟩, []⟩,
  ⟨18, ⟨some 78, .op (.nilCheck (.tmp 77)), none⟩, []⟩,
  ⟨19, ⟨some 79, .op (.fieldAddr 0 (.tmp 78)), none⟩, []⟩,
  ⟨20, ⟨some 80, .op (.load none (.tmp 79)), none⟩, []⟩,
  ⟨21, ⟨some 81, .op (.mv (.tmp 1)), none⟩, []⟩,
  ⟨22, ⟨some 82, .op (.idxSl 2 (.tmp 80) (.tmp 81)), none⟩, []⟩,
  ⟨23, ⟨some 83, .op (.load (some 2) (.tmp 82)), none⟩, []⟩,
  ⟨24, ⟨some 84, .op (.idxSl 2 (.tmp 63) (.tmp 64)), none⟩, []⟩,
  ⟨25, ⟨some 85, .op (.store 2 (.tmp 84) (.tmp 76)), none⟩, []⟩,
  ⟨26, ⟨some 86, .op (.idxSl 2 (.tmp 68) (.tmp 69)), none⟩, []⟩,
  ⟨27, ⟨some 87, .op (.store 2 (.tmp 86) (.tmp 83)), none⟩, []⟩] [(6, 60), (7, 61), (8, 62), (9, 63), (10, 64), (11, 65), (12, 66), (13, 67), (14, 68), (15, 69), (16, 70), (17, 71), (18, 72), (19, 73), (20, 74), (21, 75), (22, 76), (23, 77), (24, 78), (25, 79), (26, 80), (27, 81), (28, 82), (29, 83), (30, 84), (31, 86)]) (.regionD 60 [⟨0, ⟨some 60, .op (.mv (.tmp 0)), none⟩, []⟩,
  ⟨1, ⟨some 61, .op (.nilCheck (.tmp 60)), none⟩, []⟩,
  ⟨2, ⟨some 62, .op (.fieldAddr 1 (.tmp 61)), none⟩, []⟩,
  ⟨3, ⟨some 63, .op (.load none (.tmp 62)), none⟩, []⟩,
  ⟨4, ⟨some 64, .op (.mv (.tmp 0)), none⟩, []⟩,
  ⟨5, ⟨some 65, .op (.nilCheck (.tmp 64)), none⟩, []⟩,
  ⟨6, ⟨some 66, .op (.fieldAddr 0 (.tmp 65)), none⟩, []⟩,
  ⟨7, ⟨some 67, .op (.load none (.tmp 66)), none⟩, []⟩,
  ⟨8, ⟨some 68, .op (.mv (.tmp 1)), none⟩, []⟩,
  ⟨9, ⟨some 69, .op (.idxSl 2 (.tmp 67) (.tmp 68)), none⟩, []⟩,
  ⟨10, ⟨some 70, .op (.fieldAddr 0 (.tmp 69)), none⟩, []⟩,
  ⟨11, ⟨some 71, .op (.load none (.tmp 70)), none⟩, []⟩,
  ⟨12, ⟨some 72, .op (.mv (.tmp 0)), none⟩, []⟩,
  ⟨13, ⟨some 73, .op (.nilCheck (.tmp 72)), none⟩, []⟩,
  ⟨14, ⟨some 74, .op (.fieldAddr 1 (.tmp 73)), none⟩, []⟩,
  ⟨15, ⟨some 75, .op (.load none (.tmp 74)), none⟩, []⟩,
  ⟨16, ⟨some 76, .op (.mv (.tmp 0)), none⟩, []⟩,
  ⟨17, ⟨some 77, .op (.nilCheck (.tmp 76)), none⟩, []⟩,
  ⟨18, ⟨some 78, .op (.fieldAddr 0 (.tmp 77)), none⟩, []⟩,
  ⟨19, ⟨some 79, .op (.load none (.tmp 78)), none⟩, []⟩,
  ⟨20, ⟨some 80, .op (.mv (.tmp 2)), none⟩, []⟩,
  ⟨21, ⟨some 81, .op (.idxSl 2 (.tmp 79) (.tmp 80)), none⟩, []⟩,
  ⟨22, ⟨some 82, .op (.fieldAddr 0 (.tmp 81)), none⟩, []⟩,
  ⟨23, ⟨some 83, .op (.load none (.tmp 82)), none⟩, []⟩,
  ⟨24, ⟨some 84, .op (.mv (.tmp 1)), none⟩, []⟩,
  ⟨25, ⟨some 85, .op (.mv (.tmp 2)), none⟩, []⟩,
  ⟨26, ⟨some 86, .op (.idxSl 1 (.tmp 63) (.tmp 71)), none⟩, []⟩,
  ⟨27, ⟨some 87, .op (.store 1 (.tmp 86) (.tmp 84)), none⟩, []⟩,
  ⟨28, ⟨some 88, .op (.idxSl 1 (.tmp 75) (.tmp 83)), none⟩, []⟩,
  ⟨29, ⟨some 89, .op (.store 1 (.tmp 88) (.tmp 85)), none⟩, []⟩] [(32, 60), (33, 61), (34, 62), (35, 63), (36, 64), (37, 65), (38, 66), (39, 67), (40, 68), (41, 69), (42, 70), (43, 71), (44, 72), (45, 73), (46, 74), (47, 75), (48, 76), (49, 77), (50, 78), (51, 79), (52, 80), (53, 81), (54, 82), (55, 83), (56, 84), (57, 85), (58, 86), (59, 88)])⟩
theorem queue_heaped_Swap_eq (T : Tab) (k : Nat) (h0 i1 j2 : AV) (h : Heap) : runF T k queue_heaped_Swap_mf [h0, i1, j2] h =
    oa (nilCk h0) fun t61_1 =>
    oa (fldA 0 t61_1) fun t62_2 =>
    oa (ld1 h t62_2) fun t63_3 =>
    oa (nilCk h0) fun t66_4 =>
    oa (fldA 0 t66_4) fun t67_5 =>
    oa (ld1 h t67_5) fun t68_6 =>
    oa (nilCk h0) fun t71_7 =>
    oa (fldA 0 t71_7) fun t72_8 =>
    oa (ld1 h t72_8) fun t73_9 =>
    oa (idxS 2 t73_9 j2) fun t75_10 =>
    oa (ldN 2 h t75_10) fun t76_11 =>
    oa (nilCk h0) fun t78_12 =>
    oa (fldA 0 t78_12) fun t79_13 =>
    oa (ld1 h t79_13) fun t80_14 =>
    oa (idxS 2 t80_14 i1) fun t82_15 =>
    oa (ldN 2 h t82_15) fun t83_16 =>
    oa (idxS 2 t63_3 i1) fun t84_17 =>
    oh (stN 2 h t84_17 t76_11) fun h_18 =>
    oa (idxS 2 t68_6 j2) fun t86_19 =>
    oh (stN 2 h_18 t86_19 t83_16) fun h_20 =>
    oa (nilCk h0) fun t61_21 =>
    oa (fldA 1 t61_21) fun t62_22 =>
    oa (ld1 h_20 t62_22) fun t63_23 =>
    oa (nilCk h0) fun t65_24 =>
    oa (fldA 0 t65_24) fun t66_25 =>
    oa (ld1 h_20 t66_25) fun t67_26 =>
    oa (idxS 2 t67_26 i1) fun t69_27 =>
    oa (fldA 0 t69_27) fun t70_28 =>
    oa (ld1 h_20 t70_28) fun t71_29 =>
    oa (nilCk h0) fun t73_30 =>
    oa (fldA 1 t73_30) fun t74_31 =>
    oa (ld1 h_20 t74_31) fun t75_32 =>
    oa (nilCk h0) fun t77_33 =>
    oa (fldA 0 t77_33) fun t78_34 =>
    oa (ld1 h_20 t78_34) fun t79_35 =>
    oa (idxS 2 t79_35 j2) fun t81_36 =>
    oa (fldA 0 t81_36) fun t82_37 =>
    oa (ld1 h_20 t82_37) fun t83_38 =>
    oa (idxS 1 t63_23 t71_29) fun t86_39 =>
    oh (stN 1 h_20 t86_39 i1) fun h_40 =>
    oa (idxS 1 t75_32 t83_38) fun t88_41 =>
    oh (stN 1 h_40 t88_41 j2) fun h_42 =>
    some (.tup [], h_42) := runEq (by kernel_rfl)
def queue_heaped_place_rs : Res := [(4, none)]
noncomputable def queue_heaped_place_mf : MFn := ⟨23, queue_heaped_place_rs, .seq [4] (.region [⟨some 4, .op (.mv (.const (.int .i64 0))), none⟩]) (.seq [15] (.seq [5, 6, 7, 8, 9, 10, 11, 12, 13, 14] (.region [⟨some 5, .op (.mv (.tmp 1)), none⟩,
  ⟨some 6, .op (.bin .lss .scalar (.tmp 5) (.const (.int .i64 0))), none⟩,
  ⟨some 7, .op (.mv (.tmp 6)), none⟩,
  ⟨some 8, .op (.mv (.tmp 1)), some (7, false)⟩,
  ⟨some 9, .op (.mv (.tmp 0)), some (7, false)⟩,
  ⟨some 10, .op (.nilCheck (.tmp 9)), some (7, false)⟩,
  ⟨some 11, .op (.fieldAddr 1 (.tmp 10)), some (7, false)⟩,
  ⟨some 12, .op (.load none (.tmp 11)), some (7, false)⟩,
  ⟨some 13, .op (.lenSl (.tmp 12)), some (7, false)⟩,
  ⟨some 14, .op (.bin .geq .scalar (.tmp 8) (.tmp 13)), some (7, false)⟩,
  ⟨some 15, .op (.pick (.tmp 7) (.const (.bool true)) (.tmp 14)), none⟩]) (.cond (.tmp 15) (.seq [0, 1, 15] (.region [⟨some 4, .op (.mv (.const (.int .i64 (-1)))), none⟩]) .ret) .skip)) (.seq [0, 1, 16, 17, 18, 19, 20, 21, 22] (.region [⟨some 16, .op (.mv (.tmp 0)), none⟩,
  ⟨some 17, .op (.nilCheck (.tmp 16)), none⟩,
  ⟨some 18, .op (.fieldAddr 1 (.tmp 17)), none⟩,
  ⟨some 19, .op (.load none (.tmp 18)), none⟩,
  ⟨some 20, .op (.mv (.tmp 1)), none⟩,
  ⟨some 21, .op (.idxSl 1 (.tmp 19) (.tmp 20)), none⟩,
  ⟨some 22, .op (.load none (.tmp 21)), none⟩,
  ⟨some 4, .op (.mv (.tmp 22)), none⟩]) .ret))⟩
theorem queue_heaped_place_eq (T : Tab) (k : Nat) (h0 id1 : AV) (h : Heap) : runF T k queue_heaped_place_mf [h0, id1] h =
    oa (binV .lss .scalar id1 (.int .i64 0)) fun t6_1 =>
    ob (gd t6_1 false (some (id1, h)) h) fun t8_2 h_3 =>
    ob (gd t6_1 false (some (h0, h_3)) h_3) fun t9_4 h_5 =>
    ob (gd t6_1 false (pure1 h_5 (nilCk t9_4)) h_5) fun t10_6 h_7 =>
    ob (gd t6_1 false (pure1 h_7 (fldA 1 t10_6)) h_7) fun t11_8 h_9 =>
    ob (gd t6_1 false (pure1 h_9 (ld1 h_9 t11_8)) h_9) fun t12_10 h_11 =>
    ob (gd t6_1 false (pure1 h_11 (lenS t12_10)) h_11) fun t13_12 h_13 =>
    ob (gd t6_1 false (pure1 h_13 (binV .geq .scalar t8_2 t13_12)) h_13) fun t14_14 h_15 =>
    oa (pickV t6_1 (.bool true) t14_14) fun t15_16 =>
    cond2 t15_16
      (
      some ((.int .i64 (-1)), h_15)
      )
      (
      oa (nilCk h0) fun t17_17 =>
      oa (fldA 1 t17_17) fun t18_18 =>
      oa (ld1 h_15 t18_18) fun t19_19 =>
      oa (idxS 1 t19_19 id1) fun t21_20 =>
      oa (ld1 h_15 t21_20) fun t22_21 =>
      some (t22_21, h_15)
      ) := runEq (by kernel_rfl)
end Go.Gm.A3
