/- A part of the proof: GmA2: an abstract machine, what it does, and what the functions of the program come to on it. -/
import Derived.Test.YtfihknbnoblihaaGmK
import Derived.KernelRfl
set_option linter.unusedVariables false
namespace Go.Gm.A2
open Go Go.Gm
abbrev f_main_main : FuncId := 0
abbrev f_gosem_cut : FuncId := 1
abbrev f_gosem_cut_init : FuncId := 2
abbrev f_milestonelaw2_AdjEach : FuncId := 3
abbrev f_milestonelaw2_AdjReach : FuncId := 4
abbrev f_milestonelaw2_AdjModes : FuncId := 5
abbrev f_milestonelaw2_AdjOwn : FuncId := 6
abbrev f_milestonelaw2_AdjTurned : FuncId := 7
abbrev f_milestonelaw2_AdjLine : FuncId := 8
abbrev f_milestonelaw2_AdjMore : FuncId := 9
abbrev f_milestonelaw2_known : FuncId := 10
abbrev f_milestonelaw1_Make : FuncId := 11
abbrev f_adj_New : FuncId := 12
abbrev f_adj_Adj_Out : FuncId := 13
abbrev f_adj_Adj_In : FuncId := 14
abbrev f_milestonelaw2_within : FuncId := 15
abbrev f_adj_Adj_Reach : FuncId := 16
abbrev f_milestonelaw2_has : FuncId := 17
abbrev f_adj_Adj_Modes : FuncId := 18
abbrev f_milestoneref2_New : FuncId := 19
abbrev f_milestoneref1_Ints : FuncId := 20
abbrev f_milestoneref2_Adj_Out : FuncId := 21
abbrev f_milestoneref2_Adj_In : FuncId := 22
abbrev f_milestoneref2_Adj_Modes : FuncId := 23
abbrev f_milestonelaw1_within : FuncId := 24
abbrev f_slices_Clone_api_Edge : FuncId := 25
abbrev f_adj_Adj_is : FuncId := 26
abbrev f_adj_ends_add : FuncId := 27
abbrev f_adj_ends_list : FuncId := 28
abbrev f_adj_Adj_side : FuncId := 29
abbrev f_slices_Clone_int : FuncId := 30
abbrev f_runtime_boundsError_Error : FuncId := 31
abbrev f_runtime_boundsError_RuntimeError : FuncId := 32
abbrev f_runtime_errorString_Error : FuncId := 33
abbrev f_runtime_errorString_RuntimeError : FuncId := 34
abbrev f_runtime_plainError_Error : FuncId := 35
abbrev f_runtime_plainError_RuntimeError : FuncId := 36
abbrev f_runtime_errorAddressString_Error : FuncId := 37
abbrev f_runtime_errorAddressString_RuntimeError : FuncId := 38
abbrev f_runtime_TypeAssertionError_Error : FuncId := 39
abbrev f_runtime_TypeAssertionError_RuntimeError : FuncId := 40
abbrev f_runtime_PanicNilError_Error : FuncId := 41
abbrev f_runtime_PanicNilError_RuntimeError : FuncId := 42
abbrev f_internal_abi_Type_Align : FuncId := 43
abbrev f_internal_runtime_maps_unhashableTypeError_Error : FuncId := 44
abbrev f_internal_runtime_maps_unhashableTypeError_RuntimeError : FuncId := 45
abbrev f_internal_abi_Kind_String : FuncId := 46
noncomputable def milestonelaw2_AdjEach_c1 : MCode := .seq [46] (.seq [43, 44, 45] (.region [⟨some 43, .op (.mv (.tmp 12)), none⟩,
  ⟨some 44, .op (.mv (.tmp 10)), none⟩,
  ⟨some 45, .op (.lenSl (.tmp 44)), none⟩,
  ⟨some 46, .op (.bin .lss .scalar (.tmp 43) (.tmp 45)), none⟩]) (.cond (.tmp 46) .skip (.exit 2))) (.seq [92] (.block 3 (.seq [49, 50, 51, 52, 53, 54, 55, 56, 57, 58, 59, 60, 61, 62, 63, 64, 65, 66, 67, 68, 69, 70, 71, 72, 73, 74, 75, 76, 77, 78, 79, 80, 81, 82, 83, 84, 85, 86, 87, 88, 89, 90, 91] (.regionD 155 [⟨0, ⟨some 155, .op (.mv (.tmp 10)), none⟩, []⟩,
  ⟨1, ⟨some 156, .op (.mv (.tmp 12)), none⟩, []⟩,
  ⟨2, ⟨some 157, .op (.idxSl 1 (.tmp 155) (.tmp 156)), none⟩, []⟩,
  ⟨3, ⟨some 158, .op (.load none (.tmp 157)), none⟩, []⟩,
  ⟨4, ⟨some 159, .op (.bin .lss .scalar (.tmp 158) (.const (.int .i64 0))), none⟩, []⟩,
  ⟨5, ⟨some 160, .op (.mv (.tmp 159)), none⟩, []⟩,
  ⟨6, ⟨some 161, .op (.mv (.tmp 10)), some (160, false)⟩, []⟩,
  ⟨7, ⟨some 162, .op (.mv (.tmp 12)), some (160, false)⟩, []⟩,
  ⟨8, ⟨some 163, .op (.idxSl 1 (.tmp 161) (.tmp 162)), some (160, false)⟩, []⟩,
  ⟨9, ⟨some 164, .op (.load none (.tmp 163)), some (160, false)⟩, []⟩,
  ⟨10, ⟨some 165, .op (.fieldAddr 1 (.tmp 5)), some (160, false)⟩, []⟩,
  ⟨11, ⟨some 166, .op (.load none (.tmp 165)), some (160, false)⟩, []⟩,
  ⟨12, ⟨some 167, .op (.lenSl (.tmp 166)), some (160, false)⟩, []⟩,
  ⟨13, ⟨some 168, .op (.bin .geq .scalar (.tmp 164) (.tmp 167)), some (160, false)⟩, []⟩,
  ⟨14, ⟨some 169, .op (.pick (.tmp 160) (.const (.bool true)) (.tmp 168)), none⟩, []⟩,
  ⟨15, ⟨some 170, .op (.mv (.tmp 169)), none⟩, []⟩,
  ⟨16, ⟨some 171, .op (.fieldAddr 1 (.tmp 5)), some (170, false)⟩, []⟩,
  ⟨17, ⟨some 172, .op (.load none (.tmp 171)), some (170, false)⟩, []⟩,
  ⟨18, ⟨some 173, .op (.mv (.tmp 10)), some (170, false)⟩, []⟩,
  ⟨19, ⟨some 174, .op (.mv (.tmp 12)), some (170, false)⟩, []⟩,
  ⟨20, ⟨some 175, .op (.idxSl 1 (.tmp 173) (.tmp 174)), some (170, false)⟩, []⟩,
  ⟨21, ⟨some 176, .op (.load none (.tmp 175)), some (170, false)⟩, []⟩,
  ⟨22, ⟨some 177, .op (.idxSl 4 (.tmp 172) (.tmp 176)), some (170, false)⟩, []⟩,
  ⟨23, ⟨some 178, .op (.fieldAddr 0 (.tmp 177)), some (170, false)⟩, []⟩,
  ⟨24, ⟨some 179, .op (.load none (.tmp 178)), some (170, false)⟩, []⟩,
  ⟨25, ⟨some 180, .op (.mv (.tmp 9)), some (170, false)⟩, []⟩,
  ⟨26, ⟨some 181, .op (.bin .neq .scalar (.tmp 179) (.tmp 180)), some (170, false)⟩, []⟩,
  ⟨27, ⟨some 182, .op (.pick (.tmp 170) (.const (.bool true)) (.tmp 181)), none⟩, []⟩,
  ⟨28, ⟨some 183, .op (.mv (.tmp 182)), none⟩, []⟩,
  ⟨29, ⟨some 184, .op (.mv (.tmp 12)), some (183, false)⟩, []⟩,
  ⟨30, ⟨some 185, .op (.bin .gtr .scalar (.tmp 184) (.const (.int .i64 0))), some (183, false)⟩, []⟩,
  ⟨31, ⟨some 186, .op (.mv (.tmp 185)), some (183, false)⟩, []⟩,
  ⟨32, ⟨some 187, .op (.mv (.tmp 10)), some (186, true)⟩, []⟩,
  ⟨33, ⟨some 188, .op (.mv (.tmp 12)), some (186, true)⟩, []⟩,
  ⟨34, ⟨some 189, .op (.bin .sub .scalar (.tmp 188) (.const (.int .i64 1))), some (186, true)⟩, []⟩,
  ⟨35, ⟨some 190, .op (.idxSl 1 (.tmp 187) (.tmp 189)), some (186, true)⟩, []⟩,
  ⟨36, ⟨some 191, .op (.load none (.tmp 190)), some (186, true)⟩, []⟩,
  ⟨37, ⟨some 192, .op (.mv (.tmp 10)), some (186, true)⟩, []⟩,
  ⟨38, ⟨some 193, .op (.mv (.tmp 12)), some (186, true)⟩, []⟩,
  ⟨39, ⟨some 194, .op (.idxSl 1 (.tmp 192) (.tmp 193)), some (186, true)⟩, []⟩,
  ⟨40, ⟨some 195, .op (.load none (.tmp 194)), some (186, true)⟩, []⟩,
  ⟨41, ⟨some 196, .op (.bin .geq .scalar (.tmp 191) (.tmp 195)), some (186, true)⟩, []⟩,
  ⟨42, ⟨some 197, .op (.pick (.tmp 186) (.tmp 196) (.const (.bool false))), some (183, false)⟩, []⟩,
  ⟨43, ⟨some 198, .op (.pick (.tmp 183) (.const (.bool true)) (.tmp 197)), none⟩, []⟩] [(49, 155), (50, 156), (51, 157), (52, 158), (53, 159), (54, 160), (55, 161), (56, 162), (57, 163), (58, 164), (59, 165), (60, 166), (61, 167), (62, 168), (63, 169), (64, 170), (65, 171), (66, 172), (67, 173), (68, 174), (69, 175), (70, 176), (71, 177), (72, 178), (73, 179), (74, 180), (75, 181), (76, 182), (77, 183), (78, 184), (79, 185), (80, 186), (81, 187), (82, 188), (83, 189), (84, 190), (85, 191), (86, 192), (87, 193), (88, 194), (89, 195), (90, 196), (91, 197), (92, 198)]) (.cond (.tmp 92) (.seq [5, 6, 7, 8, 9, 10, 11, 12, 92] (.region [⟨some 4, .op (.mv (.const (.bool false))), none⟩]) .ret) .skip))) (.region [⟨some 47, .op (.mv (.tmp 12)), none⟩,
  ⟨some 48, .op (.bin .add .scalar (.tmp 47) (.const (.int .i64 1))), none⟩,
  ⟨some 12, .op (.mv (.tmp 48)), none⟩]))
noncomputable def milestonelaw2_AdjEach_c2 : MCode := .seq [96] (.seq [93, 94, 95] (.region [⟨some 93, .op (.mv (.tmp 13)), none⟩,
  ⟨some 94, .op (.mv (.tmp 11)), none⟩,
  ⟨some 95, .op (.lenSl (.tmp 94)), none⟩,
  ⟨some 96, .op (.bin .lss .scalar (.tmp 93) (.tmp 95)), none⟩]) (.cond (.tmp 96) .skip (.exit 4))) (.seq [142] (.block 5 (.seq [99, 100, 101, 102, 103, 104, 105, 106, 107, 108, 109, 110, 111, 112, 113, 114, 115, 116, 117, 118, 119, 120, 121, 122, 123, 124, 125, 126, 127, 128, 129, 130, 131, 132, 133, 134, 135, 136, 137, 138, 139, 140, 141] (.regionD 155 [⟨0, ⟨some 155, .op (.mv (.tmp 11)), none⟩, []⟩,
  ⟨1, ⟨some 156, .op (.mv (.tmp 13)), none⟩, []⟩,
  ⟨2, ⟨some 157, .op (.idxSl 1 (.tmp 155) (.tmp 156)), none⟩, []⟩,
  ⟨3, ⟨some 158, .op (.load none (.tmp 157)), none⟩, []⟩,
  ⟨4, ⟨some 159, .op (.bin .lss .scalar (.tmp 158) (.const (.int .i64 0))), none⟩, []⟩,
  ⟨5, ⟨some 160, .op (.mv (.tmp 159)), none⟩, []⟩,
  ⟨6, ⟨some 161, .op (.mv (.tmp 11)), some (160, false)⟩, []⟩,
  ⟨7, ⟨some 162, .op (.mv (.tmp 13)), some (160, false)⟩, []⟩,
  ⟨8, ⟨some 163, .op (.idxSl 1 (.tmp 161) (.tmp 162)), some (160, false)⟩, []⟩,
  ⟨9, ⟨some 164, .op (.load none (.tmp 163)), some (160, false)⟩, []⟩,
  ⟨10, ⟨some 165, .op (.fieldAddr 1 (.tmp 5)), some (160, false)⟩, []⟩,
  ⟨11, ⟨some 166, .op (.load none (.tmp 165)), some (160, false)⟩, []⟩,
  ⟨12, ⟨some 167, .op (.lenSl (.tmp 166)), some (160, false)⟩, []⟩,
  ⟨13, ⟨some 168, .op (.bin .geq .scalar (.tmp 164) (.tmp 167)), some (160, false)⟩, []⟩,
  ⟨14, ⟨some 169, .op (.pick (.tmp 160) (.const (.bool true)) (.tmp 168)), none⟩, []⟩,
  ⟨15, ⟨some 170, .op (.mv (.tmp 169)), none⟩, []⟩,
  ⟨16, ⟨some 171, .op (.fieldAddr 1 (.tmp 5)), some (170, false)⟩, []⟩,
  ⟨17, ⟨some 172, .op (.load none (.tmp 171)), some (170, false)⟩, []⟩,
  ⟨18, ⟨some 173, .op (.mv (.tmp 11)), some (170, false)⟩, []⟩,
  ⟨19, ⟨some 174, .op (.mv (.tmp 13)), some (170, false)⟩, []⟩,
  ⟨20, ⟨some 175, .op (.idxSl 1 (.tmp 173) (.tmp 174)), some (170, false)⟩, []⟩,
  ⟨21, ⟨some 176, .op (.load none (.tmp 175)), some (170, false)⟩, []⟩,
  ⟨22, ⟨some 177, .op (.idxSl 4 (.tmp 172) (.tmp 176)), some (170, false)⟩, []⟩,
  ⟨23, ⟨some 178, .op (.fieldAddr 1 (.tmp 177)), some (170, false)⟩, []⟩,
  ⟨24, ⟨some 179, .op (.load none (.tmp 178)), some (170, false)⟩, []⟩,
  ⟨25, ⟨some 180, .op (.mv (.tmp 9)), some (170, false)⟩, []⟩,
  ⟨26, ⟨some 181, .op (.bin .neq .scalar (.tmp 179) (.tmp 180)), some (170, false)⟩, []⟩,
  ⟨27, ⟨some 182, .op (.pick (.tmp 170) (.const (.bool true)) (.tmp 181)), none⟩, []⟩,
  ⟨28, ⟨some 183, .op (.mv (.tmp 182)), none⟩, []⟩,
  ⟨29, ⟨some 184, .op (.mv (.tmp 13)), some (183, false)⟩, []⟩,
  ⟨30, ⟨some 185, .op (.bin .gtr .scalar (.tmp 184) (.const (.int .i64 0))), some (183, false)⟩, []⟩,
  ⟨31, ⟨some 186, .op (.mv (.tmp 185)), some (183, false)⟩, []⟩,
  ⟨32, ⟨some 187, .op (.mv (.tmp 11)), some (186, true)⟩, []⟩,
  ⟨33, ⟨some 188, .op (.mv (.tmp 13)), some (186, true)⟩, []⟩,
  ⟨34, ⟨some 189, .op (.bin .sub .scalar (.tmp 188) (.const (.int .i64 1))), some (186, true)⟩, []⟩,
  ⟨35, ⟨some 190, .op (.idxSl 1 (.tmp 187) (.tmp 189)), some (186, true)⟩, []⟩,
  ⟨36, ⟨some 191, .op (.load none (.tmp 190)), some (186, true)⟩, []⟩,
  ⟨37, ⟨some 192, .op (.mv (.tmp 11)), some (186, true)⟩, []⟩,
  ⟨38, ⟨some 193, .op (.mv (.tmp 13)), some (186, true)⟩, []⟩,
  ⟨39, ⟨some 194, .op (.idxSl 1 (.tmp 192) (.tmp 193)), some (186, true)⟩, []⟩,
  ⟨40, ⟨some 195, .op (.load none (.tmp 194)), some (186, true)⟩, []⟩,
  ⟨41, ⟨some 196, .op (.bin .geq .scalar (.tmp 191) (.tmp 195)), some (186, true)⟩, []⟩,
  ⟨42, ⟨some 197, .op (.pick (.tmp 186) (.tmp 196) (.const (.bool false))), some (183, false)⟩, []⟩,
  ⟨43, ⟨some 198, .op (.pick (.tmp 183) (.const (.bool true)) (.tmp 197)), none⟩, []⟩] [(99, 155), (100, 156), (101, 157), (102, 158), (103, 159), (104, 160), (105, 161), (106, 162), (107, 163), (108, 164), (109, 165), (110, 166), (111, 167), (112, 168), (113, 169), (114, 170), (115, 171), (116, 172), (117, 173), (118, 174), (119, 175), (120, 176), (121, 177), (122, 178), (123, 179), (124, 180), (125, 181), (126, 182), (127, 183), (128, 184), (129, 185), (130, 186), (131, 187), (132, 188), (133, 189), (134, 190), (135, 191), (136, 192), (137, 193), (138, 194), (139, 195), (140, 196), (141, 197), (142, 198)]) (.cond (.tmp 142) (.seq [5, 6, 7, 8, 9, 11, 13, 142] (.region [⟨some 4, .op (.mv (.const (.bool false))), none⟩]) .ret) .skip))) (.region [⟨some 97, .op (.mv (.tmp 13)), none⟩,
  ⟨some 98, .op (.bin .add .scalar (.tmp 97) (.const (.int .i64 1))), none⟩,
  ⟨some 13, .op (.mv (.tmp 98)), none⟩]))
noncomputable def milestonelaw2_AdjEach_c3 : MCode := .seq [] (.region [⟨some 13, .op (.mv (.const (.int .i64 0))), none⟩]) (.block 4 (.loop [97, 98] milestonelaw2_AdjEach_c2))
noncomputable def milestonelaw2_AdjEach_c4 : MCode := .region [⟨some 27, .op (.mv (.tmp 9)), none⟩,
  ⟨some 28, .op (.bin .add .scalar (.tmp 27) (.const (.int .i64 1))), none⟩,
  ⟨some 9, .op (.mv (.tmp 28)), none⟩]
noncomputable def milestonelaw2_AdjEach_c5 : MCode := .seq [26] (.seq [23, 24, 25] (.region [⟨some 23, .op (.mv (.tmp 9)), none⟩,
  ⟨some 24, .op (.fieldAddr 0 (.tmp 5)), none⟩,
  ⟨some 25, .op (.load none (.tmp 24)), none⟩,
  ⟨some 26, .op (.bin .lss .scalar (.tmp 23) (.tmp 25)), none⟩]) (.cond (.tmp 26) .skip (.exit 0))) (.seq [11, 13, 96] (.block 1 (.seq [29, 30, 31, 32, 33, 34] (.region [⟨some 29, .op (.mv (.tmp 6)), none⟩,
  ⟨some 30, .op (.mv (.tmp 9)), none⟩,
  ⟨some 31, .call f_adj_Adj_Out [(.tmp 29), (.tmp 30)], none⟩,
  ⟨some 32, .op (.mv (.tmp 6)), none⟩,
  ⟨some 33, .op (.mv (.tmp 9)), none⟩,
  ⟨some 34, .call f_adj_Adj_In [(.tmp 32), (.tmp 33)], none⟩,
  ⟨some 10, .op (.mv (.tmp 31)), none⟩,
  ⟨some 11, .op (.mv (.tmp 34)), none⟩]) (.seq [35, 36, 37, 38, 39, 40, 41, 42] (.region [⟨some 35, .op (.mv (.tmp 7)), none⟩,
  ⟨some 36, .op (.mv (.tmp 10)), none⟩,
  ⟨some 37, .op (.lenSl (.tmp 36)), none⟩,
  ⟨some 38, .op (.bin .add .scalar (.tmp 35) (.tmp 37)), none⟩,
  ⟨some 39, .op (.mv (.tmp 8)), none⟩,
  ⟨some 40, .op (.mv (.tmp 11)), none⟩,
  ⟨some 41, .op (.lenSl (.tmp 40)), none⟩,
  ⟨some 42, .op (.bin .add .scalar (.tmp 39) (.tmp 41)), none⟩,
  ⟨some 7, .op (.mv (.tmp 38)), none⟩,
  ⟨some 8, .op (.mv (.tmp 42)), none⟩]) (.seq [10, 12, 46] (.seq [] (.region [⟨some 12, .op (.mv (.const (.int .i64 0))), none⟩]) (.block 2 (.loop [47, 48] milestonelaw2_AdjEach_c1))) (.lab milestonelaw2_AdjEach_c3))))) (.lab milestonelaw2_AdjEach_c4))
noncomputable def milestonelaw2_AdjEach_c6 : MCode := .seq [5, 7, 8, 143, 144, 145, 146, 147, 148, 149, 150, 151, 152, 153, 154] (.region [⟨some 143, .op (.mv (.tmp 7)), none⟩,
  ⟨some 144, .op (.fieldAddr 1 (.tmp 5)), none⟩,
  ⟨some 145, .op (.load none (.tmp 144)), none⟩,
  ⟨some 146, .op (.lenSl (.tmp 145)), none⟩,
  ⟨some 147, .op (.bin .eql .scalar (.tmp 143) (.tmp 146)), none⟩,
  ⟨some 148, .op (.mv (.tmp 147)), none⟩,
  ⟨some 149, .op (.mv (.tmp 8)), some (148, true)⟩,
  ⟨some 150, .op (.fieldAddr 1 (.tmp 5)), some (148, true)⟩,
  ⟨some 151, .op (.load none (.tmp 150)), some (148, true)⟩,
  ⟨some 152, .op (.lenSl (.tmp 151)), some (148, true)⟩,
  ⟨some 153, .op (.bin .eql .scalar (.tmp 149) (.tmp 152)), some (148, true)⟩,
  ⟨some 154, .op (.pick (.tmp 148) (.tmp 153) (.const (.bool false))), none⟩,
  ⟨some 4, .op (.mv (.tmp 154)), none⟩]) .ret
def milestonelaw2_AdjEach_rs : Res := [(4, none)]
noncomputable def milestonelaw2_AdjEach_mf : MFn := ⟨155, milestonelaw2_AdjEach_rs, .seq [4] (.region [⟨some 4, .op (.mv (.const (.bool false))), none⟩]) (.seq [15] (.seq [14] (.region [⟨some 14, .call f_milestonelaw2_known [], none⟩,
  ⟨some 15, .op (.un .not (.tmp 14)), none⟩]) (.cond (.tmp 15) (.seq [0, 1, 15] (.region [⟨some 4, .op (.mv (.const (.bool false))), none⟩]) .ret) .skip)) (.seq [0, 1, 16, 17, 18] (.region [⟨some 16, .op (.mv (.tmp 0)), none⟩,
  ⟨some 17, .op (.mv (.tmp 1)), none⟩,
  ⟨some 18, .call f_milestonelaw1_Make [(.tmp 16), (.tmp 17), (.const (.int .i64 2))], none⟩,
  ⟨some 5, .op (.alloc [.int .i64 0, .nils]), none⟩,
  ⟨none, .op (.store 2 (.tmp 5) (.tmp 18)), none⟩]) (.seq [19, 20] (.region [⟨some 19, .op (.load (some 2) (.tmp 5)), none⟩,
  ⟨some 20, .call f_adj_New [(.tmp 19)], none⟩,
  ⟨some 6, .op (.mv (.tmp 20)), none⟩]) (.seq [22] (.seq [21] (.region [⟨some 21, .op (.mv (.tmp 6)), none⟩,
  ⟨some 22, .op (.bin .eql .ptr (.tmp 21) (.const .nilp)), none⟩]) (.cond (.tmp 22) (.seq [5, 6, 22] (.region [⟨some 4, .op (.mv (.const (.bool false))), none⟩]) .ret) .skip)) (.seq [] (.region [⟨some 7, .op (.mv (.const (.int .i64 0))), none⟩,
  ⟨some 8, .op (.mv (.const (.int .i64 0))), none⟩]) (.seq [6, 9, 26] (.seq [] (.region [⟨some 9, .op (.mv (.const (.int .i64 0))), none⟩]) (.block 0 (.loop [27, 28] milestonelaw2_AdjEach_c5))) (.lab milestonelaw2_AdjEach_c6)))))))⟩
noncomputable def milestonelaw2_AdjEach_l1 (T : Tab) (k j0 : Nat) (n5 a6 out7 in8 v9 : AV) (h : Heap) : Option (AV × Heap) :=
  loopB T k milestonelaw2_AdjEach_rs j0 [27, 28] milestonelaw2_AdjEach_c5 [.blk 0, .seq [6, 9, 26] (.lab milestonelaw2_AdjEach_c6)] [.undef, .undef, .undef, .undef, .undef, n5, a6, out7, in8, v9, .undef, .undef, .undef, .undef, .undef, .undef, .undef, .undef, .undef, .undef, .undef, .undef, .undef, .undef, .undef, .undef, .undef, .undef, .undef, .undef, .undef, .undef, .undef, .undef, .undef, .undef, .undef, .undef, .undef, .undef, .undef, .undef, .undef, .undef, .undef, .undef, .undef, .undef, .undef, .undef, .undef, .undef, .undef, .undef, .undef, .undef, .undef, .undef, .undef, .undef, .undef, .undef, .undef, .undef, .undef, .undef, .undef, .undef, .undef, .undef, .undef, .undef, .undef, .undef, .undef, .undef, .undef, .undef, .undef, .undef, .undef, .undef, .undef, .undef, .undef, .undef, .undef, .undef, .undef, .undef, .undef, .undef, .undef, .undef, .undef, .undef, .undef, .undef, .undef, .undef, .undef, .undef, .undef, .undef, .undef, .undef, .undef, .undef, .undef, .undef, .undef, .undef, .undef, .undef, .undef, .undef, .undef, .undef, .undef, .undef, .undef, .undef, .undef, .undef, .undef, .undef, .undef, .undef, .undef, .undef, .undef, .undef, .undef, .undef, .undef, .undef, .undef, .undef, .undef, .undef, .undef, .undef, .undef, .undef, .undef, .undef, .undef, .undef, .undef, .undef, .undef, .undef, .undef, .undef, .undef] h
noncomputable def milestonelaw2_AdjEach_l2 (T : Tab) (k j0 j1 : Nat) (n5 a6 out7 in8 v9 o10 i11 k12 : AV) (h : Heap) : Option (AV × Heap) :=
  loopB T k milestonelaw2_AdjEach_rs j1 [47, 48] milestonelaw2_AdjEach_c1 [.blk 2, .seq [10, 12, 46] (.lab milestonelaw2_AdjEach_c3), .blk 1, .seq [11, 13, 96] (.lab milestonelaw2_AdjEach_c4), .lp j0 [27, 28] milestonelaw2_AdjEach_c5, .blk 0, .seq [6, 9, 26] (.lab milestonelaw2_AdjEach_c6)] [.undef, .undef, .undef, .undef, .undef, n5, a6, out7, in8, v9, o10, i11, k12, .undef, .undef, .undef, .undef, .undef, .undef, .undef, .undef, .undef, .undef, .undef, .undef, .undef, .undef, .undef, .undef, .undef, .undef, .undef, .undef, .undef, .undef, .undef, .undef, .undef, .undef, .undef, .undef, .undef, .undef, .undef, .undef, .undef, .undef, .undef, .undef, .undef, .undef, .undef, .undef, .undef, .undef, .undef, .undef, .undef, .undef, .undef, .undef, .undef, .undef, .undef, .undef, .undef, .undef, .undef, .undef, .undef, .undef, .undef, .undef, .undef, .undef, .undef, .undef, .undef, .undef, .undef, .undef, .undef, .undef, .undef, .undef, .undef, .undef, .undef, .undef, .undef, .undef, .undef, .undef, .undef, .undef, .undef, .undef, .undef, .undef, .undef, .undef, .undef, .undef, .undef, .undef, .undef, .undef, .undef, .undef, .undef, .undef, .undef, .undef, .undef, .undef, .undef, .undef, .undef, .undef, .undef, .undef, .undef, .undef, .undef, .undef, .undef, .undef, .undef, .undef, .undef, .undef, .undef, .undef, .undef, .undef, .undef, .undef, .undef, .undef, .undef, .undef, .undef, .undef, .undef, .undef, .undef, .undef, .undef, .undef, .undef, .undef, .undef, .undef, .undef, .undef] h
noncomputable def milestonelaw2_AdjEach_b3 (T : Tab) (k j0 : Nat) (n5 a6 out7 in8 v9 i11 : AV) (h : Heap) : Option (AV × Heap) :=
  evB T k milestonelaw2_AdjEach_rs milestonelaw2_AdjEach_c3 [.blk 1, .seq [11, 13, 96] (.lab milestonelaw2_AdjEach_c4), .lp j0 [27, 28] milestonelaw2_AdjEach_c5, .blk 0, .seq [6, 9, 26] (.lab milestonelaw2_AdjEach_c6)] [.undef, .undef, .undef, .undef, .undef, n5, a6, out7, in8, v9, .undef, i11, .undef, .undef, .undef, .undef, .undef, .undef, .undef, .undef, .undef, .undef, .undef, .undef, .undef, .undef, .undef, .undef, .undef, .undef, .undef, .undef, .undef, .undef, .undef, .undef, .undef, .undef, .undef, .undef, .undef, .undef, .undef, .undef, .undef, .undef, .undef, .undef, .undef, .undef, .undef, .undef, .undef, .undef, .undef, .undef, .undef, .undef, .undef, .undef, .undef, .undef, .undef, .undef, .undef, .undef, .undef, .undef, .undef, .undef, .undef, .undef, .undef, .undef, .undef, .undef, .undef, .undef, .undef, .undef, .undef, .undef, .undef, .undef, .undef, .undef, .undef, .undef, .undef, .undef, .undef, .undef, .undef, .undef, .undef, .undef, .undef, .undef, .undef, .undef, .undef, .undef, .undef, .undef, .undef, .undef, .undef, .undef, .undef, .undef, .undef, .undef, .undef, .undef, .undef, .undef, .undef, .undef, .undef, .undef, .undef, .undef, .undef, .undef, .undef, .undef, .undef, .undef, .undef, .undef, .undef, .undef, .undef, .undef, .undef, .undef, .undef, .undef, .undef, .undef, .undef, .undef, .undef, .undef, .undef, .undef, .undef, .undef, .undef, .undef, .undef, .undef, .undef, .undef, .undef] h
noncomputable def milestonelaw2_AdjEach_l4 (T : Tab) (k j0 j1 : Nat) (n5 a6 out7 in8 v9 i11 k13 : AV) (h : Heap) : Option (AV × Heap) :=
  loopB T k milestonelaw2_AdjEach_rs j1 [97, 98] milestonelaw2_AdjEach_c2 [.blk 4, .blk 1, .seq [11, 13, 96] (.lab milestonelaw2_AdjEach_c4), .lp j0 [27, 28] milestonelaw2_AdjEach_c5, .blk 0, .seq [6, 9, 26] (.lab milestonelaw2_AdjEach_c6)] [.undef, .undef, .undef, .undef, .undef, n5, a6, out7, in8, v9, .undef, i11, .undef, k13, .undef, .undef, .undef, .undef, .undef, .undef, .undef, .undef, .undef, .undef, .undef, .undef, .undef, .undef, .undef, .undef, .undef, .undef, .undef, .undef, .undef, .undef, .undef, .undef, .undef, .undef, .undef, .undef, .undef, .undef, .undef, .undef, .undef, .undef, .undef, .undef, .undef, .undef, .undef, .undef, .undef, .undef, .undef, .undef, .undef, .undef, .undef, .undef, .undef, .undef, .undef, .undef, .undef, .undef, .undef, .undef, .undef, .undef, .undef, .undef, .undef, .undef, .undef, .undef, .undef, .undef, .undef, .undef, .undef, .undef, .undef, .undef, .undef, .undef, .undef, .undef, .undef, .undef, .undef, .undef, .undef, .undef, .undef, .undef, .undef, .undef, .undef, .undef, .undef, .undef, .undef, .undef, .undef, .undef, .undef, .undef, .undef, .undef, .undef, .undef, .undef, .undef, .undef, .undef, .undef, .undef, .undef, .undef, .undef, .undef, .undef, .undef, .undef, .undef, .undef, .undef, .undef, .undef, .undef, .undef, .undef, .undef, .undef, .undef, .undef, .undef, .undef, .undef, .undef, .undef, .undef, .undef, .undef, .undef, .undef, .undef, .undef, .undef, .undef, .undef, .undef] h
noncomputable def milestonelaw2_AdjEach_b5 (T : Tab) (k j0 : Nat) (n5 a6 out7 in8 v9 : AV) (h : Heap) : Option (AV × Heap) :=
  evB T k milestonelaw2_AdjEach_rs milestonelaw2_AdjEach_c4 [.lp j0 [27, 28] milestonelaw2_AdjEach_c5, .blk 0, .seq [6, 9, 26] (.lab milestonelaw2_AdjEach_c6)] [.undef, .undef, .undef, .undef, .undef, n5, a6, out7, in8, v9, .undef, .undef, .undef, .undef, .undef, .undef, .undef, .undef, .undef, .undef, .undef, .undef, .undef, .undef, .undef, .undef, .undef, .undef, .undef, .undef, .undef, .undef, .undef, .undef, .undef, .undef, .undef, .undef, .undef, .undef, .undef, .undef, .undef, .undef, .undef, .undef, .undef, .undef, .undef, .undef, .undef, .undef, .undef, .undef, .undef, .undef, .undef, .undef, .undef, .undef, .undef, .undef, .undef, .undef, .undef, .undef, .undef, .undef, .undef, .undef, .undef, .undef, .undef, .undef, .undef, .undef, .undef, .undef, .undef, .undef, .undef, .undef, .undef, .undef, .undef, .undef, .undef, .undef, .undef, .undef, .undef, .undef, .undef, .undef, .undef, .undef, .undef, .undef, .undef, .undef, .undef, .undef, .undef, .undef, .undef, .undef, .undef, .undef, .undef, .undef, .undef, .undef, .undef, .undef, .undef, .undef, .undef, .undef, .undef, .undef, .undef, .undef, .undef, .undef, .undef, .undef, .undef, .undef, .undef, .undef, .undef, .undef, .undef, .undef, .undef, .undef, .undef, .undef, .undef, .undef, .undef, .undef, .undef, .undef, .undef, .undef, .undef, .undef, .undef, .undef, .undef, .undef, .undef, .undef, .undef] h
noncomputable def milestonelaw2_AdjEach_b6 (T : Tab) (k : Nat) (n5 out7 in8 : AV) (h : Heap) : Option (AV × Heap) :=
  evB T k milestonelaw2_AdjEach_rs milestonelaw2_AdjEach_c6 [] [.undef, .undef, .undef, .undef, .undef, n5, .undef, out7, in8, .undef, .undef, .undef, .undef, .undef, .undef, .undef, .undef, .undef, .undef, .undef, .undef, .undef, .undef, .undef, .undef, .undef, .undef, .undef, .undef, .undef, .undef, .undef, .undef, .undef, .undef, .undef, .undef, .undef, .undef, .undef, .undef, .undef, .undef, .undef, .undef, .undef, .undef, .undef, .undef, .undef, .undef, .undef, .undef, .undef, .undef, .undef, .undef, .undef, .undef, .undef, .undef, .undef, .undef, .undef, .undef, .undef, .undef, .undef, .undef, .undef, .undef, .undef, .undef, .undef, .undef, .undef, .undef, .undef, .undef, .undef, .undef, .undef, .undef, .undef, .undef, .undef, .undef, .undef, .undef, .undef, .undef, .undef, .undef, .undef, .undef, .undef, .undef, .undef, .undef, .undef, .undef, .undef, .undef, .undef, .undef, .undef, .undef, .undef, .undef, .undef, .undef, .undef, .undef, .undef, .undef, .undef, .undef, .undef, .undef, .undef, .undef, .undef, .undef, .undef, .undef, .undef, .undef, .undef, .undef, .undef, .undef, .undef, .undef, .undef, .undef, .undef, .undef, .undef, .undef, .undef, .undef, .undef, .undef, .undef, .undef, .undef, .undef, .undef, .undef, .undef, .undef, .undef, .undef, .undef, .undef] h
theorem milestonelaw2_AdjEach_b5_eq (T : Tab) (k j0 : Nat) (n5 a6 out7 in8 v9 : AV) (h : Heap) : milestonelaw2_AdjEach_b5 T k j0 n5 a6 out7 in8 v9 h =
    oa (binV .add .scalar v9 (.int .i64 1)) fun t28_1 =>
    milestonelaw2_AdjEach_l1 T k j0 n5 a6 out7 in8 t28_1 h := blockEq (by kernel_rfl)
theorem milestonelaw2_AdjEach_l4_eq (T : Tab) (k j0 j1 : Nat) (n5 a6 out7 in8 v9 i11 k13 : AV) (h : Heap) : milestonelaw2_AdjEach_l4 T k j0 (j1 + 1) n5 a6 out7 in8 v9 i11 k13 h =
    oa (lenS i11) fun t95_1 =>
    oa (binV .lss .scalar k13 t95_1) fun t96_2 =>
    cond2 t96_2
      (
      oa (idxS 1 i11 k13) fun t157_3 =>
      oa (ld1 h t157_3) fun t158_4 =>
      oa (binV .lss .scalar t158_4 (.int .i64 0)) fun t159_5 =>
      ob (gd t159_5 false (some (i11, h)) h) fun t161_6 h_7 =>
      ob (gd t159_5 false (some (k13, h_7)) h_7) fun t162_8 h_9 =>
      ob (gd t159_5 false (pure1 h_9 (idxS 1 t161_6 t162_8)) h_9) fun t163_10 h_11 =>
      ob (gd t159_5 false (pure1 h_11 (ld1 h_11 t163_10)) h_11) fun t164_12 h_13 =>
      ob (gd t159_5 false (pure1 h_13 (fldA 1 n5)) h_13) fun t165_14 h_15 =>
      ob (gd t159_5 false (pure1 h_15 (ld1 h_15 t165_14)) h_15) fun t166_16 h_17 =>
      ob (gd t159_5 false (pure1 h_17 (lenS t166_16)) h_17) fun t167_18 h_19 =>
      ob (gd t159_5 false (pure1 h_19 (binV .geq .scalar t164_12 t167_18)) h_19) fun t168_20 h_21 =>
      oa (pickV t159_5 (.bool true) t168_20) fun t169_22 =>
      ob (gd t169_22 false (pure1 h_21 (fldA 1 n5)) h_21) fun t171_23 h_24 =>
      ob (gd t169_22 false (pure1 h_24 (ld1 h_24 t171_23)) h_24) fun t172_25 h_26 =>
      ob (gd t169_22 false (some (i11, h_26)) h_26) fun t173_27 h_28 =>
      ob (gd t169_22 false (some (k13, h_28)) h_28) fun t174_29 h_30 =>
      ob (gd t169_22 false (pure1 h_30 (idxS 1 t173_27 t174_29)) h_30) fun t175_31 h_32 =>
      ob (gd t169_22 false (pure1 h_32 (ld1 h_32 t175_31)) h_32) fun t176_33 h_34 =>
      ob (gd t169_22 false (pure1 h_34 (idxS 4 t172_25 t176_33)) h_34) fun t177_35 h_36 =>
      ob (gd t169_22 false (pure1 h_36 (fldA 1 t177_35)) h_36) fun t178_37 h_38 =>
      ob (gd t169_22 false (pure1 h_38 (ld1 h_38 t178_37)) h_38) fun t179_39 h_40 =>
      ob (gd t169_22 false (some (v9, h_40)) h_40) fun t180_41 h_42 =>
      ob (gd t169_22 false (pure1 h_42 (binV .neq .scalar t179_39 t180_41)) h_42) fun t181_43 h_44 =>
      oa (pickV t169_22 (.bool true) t181_43) fun t182_45 =>
      ob (gd t182_45 false (some (k13, h_44)) h_44) fun t184_46 h_47 =>
      ob (gd t182_45 false (pure1 h_47 (binV .gtr .scalar t184_46 (.int .i64 0))) h_47) fun t185_48 h_49 =>
      ob (gd t182_45 false (some (t185_48, h_49)) h_49) fun t186_50 h_51 =>
      ob (gd t186_50 true (some (i11, h_51)) h_51) fun t187_52 h_53 =>
      ob (gd t186_50 true (some (k13, h_53)) h_53) fun t188_54 h_55 =>
      ob (gd t186_50 true (pure1 h_55 (binV .sub .scalar t188_54 (.int .i64 1))) h_55) fun t189_56 h_57 =>
      ob (gd t186_50 true (pure1 h_57 (idxS 1 t187_52 t189_56)) h_57) fun t190_58 h_59 =>
      ob (gd t186_50 true (pure1 h_59 (ld1 h_59 t190_58)) h_59) fun t191_60 h_61 =>
      ob (gd t186_50 true (some (i11, h_61)) h_61) fun t192_62 h_63 =>
      ob (gd t186_50 true (some (k13, h_63)) h_63) fun t193_64 h_65 =>
      ob (gd t186_50 true (pure1 h_65 (idxS 1 t192_62 t193_64)) h_65) fun t194_66 h_67 =>
      ob (gd t186_50 true (pure1 h_67 (ld1 h_67 t194_66)) h_67) fun t195_68 h_69 =>
      ob (gd t186_50 true (pure1 h_69 (binV .geq .scalar t191_60 t195_68)) h_69) fun t196_70 h_71 =>
      ob (gd t182_45 false (pure1 h_71 (pickV t186_50 t196_70 (.bool false))) h_71) fun t197_72 h_73 =>
      oa (pickV t182_45 (.bool true) t197_72) fun t198_74 =>
      cond2 t198_74
        (
        some ((.bool false), h_73)
        )
        (
        oa (binV .add .scalar k13 (.int .i64 1)) fun t98_75 =>
        milestonelaw2_AdjEach_l4 T k j0 j1 n5 a6 out7 in8 v9 i11 t98_75 h_73
        )
      )
      (
      milestonelaw2_AdjEach_b5 T k j0 n5 a6 out7 in8 v9 h
      ) := loopEq (by kernel_rfl)
theorem milestonelaw2_AdjEach_b3_eq (T : Tab) (k j0 : Nat) (n5 a6 out7 in8 v9 i11 : AV) (h : Heap) : milestonelaw2_AdjEach_b3 T k j0 n5 a6 out7 in8 v9 i11 h =
    milestonelaw2_AdjEach_l4 T k j0 k n5 a6 out7 in8 v9 i11 (.int .i64 0) h := blockEq (by kernel_rfl)
theorem milestonelaw2_AdjEach_l2_eq (T : Tab) (k j0 j1 : Nat) (n5 a6 out7 in8 v9 o10 i11 k12 : AV) (h : Heap) : milestonelaw2_AdjEach_l2 T k j0 (j1 + 1) n5 a6 out7 in8 v9 o10 i11 k12 h =
    oa (lenS o10) fun t45_1 =>
    oa (binV .lss .scalar k12 t45_1) fun t46_2 =>
    cond2 t46_2
      (
      oa (idxS 1 o10 k12) fun t157_3 =>
      oa (ld1 h t157_3) fun t158_4 =>
      oa (binV .lss .scalar t158_4 (.int .i64 0)) fun t159_5 =>
      ob (gd t159_5 false (some (o10, h)) h) fun t161_6 h_7 =>
      ob (gd t159_5 false (some (k12, h_7)) h_7) fun t162_8 h_9 =>
      ob (gd t159_5 false (pure1 h_9 (idxS 1 t161_6 t162_8)) h_9) fun t163_10 h_11 =>
      ob (gd t159_5 false (pure1 h_11 (ld1 h_11 t163_10)) h_11) fun t164_12 h_13 =>
      ob (gd t159_5 false (pure1 h_13 (fldA 1 n5)) h_13) fun t165_14 h_15 =>
      ob (gd t159_5 false (pure1 h_15 (ld1 h_15 t165_14)) h_15) fun t166_16 h_17 =>
      ob (gd t159_5 false (pure1 h_17 (lenS t166_16)) h_17) fun t167_18 h_19 =>
      ob (gd t159_5 false (pure1 h_19 (binV .geq .scalar t164_12 t167_18)) h_19) fun t168_20 h_21 =>
      oa (pickV t159_5 (.bool true) t168_20) fun t169_22 =>
      ob (gd t169_22 false (pure1 h_21 (fldA 1 n5)) h_21) fun t171_23 h_24 =>
      ob (gd t169_22 false (pure1 h_24 (ld1 h_24 t171_23)) h_24) fun t172_25 h_26 =>
      ob (gd t169_22 false (some (o10, h_26)) h_26) fun t173_27 h_28 =>
      ob (gd t169_22 false (some (k12, h_28)) h_28) fun t174_29 h_30 =>
      ob (gd t169_22 false (pure1 h_30 (idxS 1 t173_27 t174_29)) h_30) fun t175_31 h_32 =>
      ob (gd t169_22 false (pure1 h_32 (ld1 h_32 t175_31)) h_32) fun t176_33 h_34 =>
      ob (gd t169_22 false (pure1 h_34 (idxS 4 t172_25 t176_33)) h_34) fun t177_35 h_36 =>
      ob (gd t169_22 false (pure1 h_36 (fldA 0 t177_35)) h_36) fun t178_37 h_38 =>
      ob (gd t169_22 false (pure1 h_38 (ld1 h_38 t178_37)) h_38) fun t179_39 h_40 =>
      ob (gd t169_22 false (some (v9, h_40)) h_40) fun t180_41 h_42 =>
      ob (gd t169_22 false (pure1 h_42 (binV .neq .scalar t179_39 t180_41)) h_42) fun t181_43 h_44 =>
      oa (pickV t169_22 (.bool true) t181_43) fun t182_45 =>
      ob (gd t182_45 false (some (k12, h_44)) h_44) fun t184_46 h_47 =>
      ob (gd t182_45 false (pure1 h_47 (binV .gtr .scalar t184_46 (.int .i64 0))) h_47) fun t185_48 h_49 =>
      ob (gd t182_45 false (some (t185_48, h_49)) h_49) fun t186_50 h_51 =>
      ob (gd t186_50 true (some (o10, h_51)) h_51) fun t187_52 h_53 =>
      ob (gd t186_50 true (some (k12, h_53)) h_53) fun t188_54 h_55 =>
      ob (gd t186_50 true (pure1 h_55 (binV .sub .scalar t188_54 (.int .i64 1))) h_55) fun t189_56 h_57 =>
      ob (gd t186_50 true (pure1 h_57 (idxS 1 t187_52 t189_56)) h_57) fun t190_58 h_59 =>
      ob (gd t186_50 true (pure1 h_59 (ld1 h_59 t190_58)) h_59) fun t191_60 h_61 =>
      ob (gd t186_50 true (some (o10, h_61)) h_61) fun t192_62 h_63 =>
      ob (gd t186_50 true (some (k12, h_63)) h_63) fun t193_64 h_65 =>
      ob (gd t186_50 true (pure1 h_65 (idxS 1 t192_62 t193_64)) h_65) fun t194_66 h_67 =>
      ob (gd t186_50 true (pure1 h_67 (ld1 h_67 t194_66)) h_67) fun t195_68 h_69 =>
      ob (gd t186_50 true (pure1 h_69 (binV .geq .scalar t191_60 t195_68)) h_69) fun t196_70 h_71 =>
      ob (gd t182_45 false (pure1 h_71 (pickV t186_50 t196_70 (.bool false))) h_71) fun t197_72 h_73 =>
      oa (pickV t182_45 (.bool true) t197_72) fun t198_74 =>
      cond2 t198_74
        (
        some ((.bool false), h_73)
        )
        (
        oa (binV .add .scalar k12 (.int .i64 1)) fun t48_75 =>
        milestonelaw2_AdjEach_l2 T k j0 j1 n5 a6 out7 in8 v9 o10 i11 t48_75 h_73
        )
      )
      (
      milestonelaw2_AdjEach_b3 T k j0 n5 a6 out7 in8 v9 i11 h
      ) := loopEq (by kernel_rfl)
theorem milestonelaw2_AdjEach_b6_eq (T : Tab) (k : Nat) (n5 out7 in8 : AV) (h : Heap) : milestonelaw2_AdjEach_b6 T k n5 out7 in8 h =
    oa (fldA 1 n5) fun t144_1 =>
    oa (ld1 h t144_1) fun t145_2 =>
    oa (lenS t145_2) fun t146_3 =>
    oa (binV .eql .scalar out7 t146_3) fun t147_4 =>
    ob (gd t147_4 true (some (in8, h)) h) fun t149_5 h_6 =>
    ob (gd t147_4 true (pure1 h_6 (fldA 1 n5)) h_6) fun t150_7 h_8 =>
    ob (gd t147_4 true (pure1 h_8 (ld1 h_8 t150_7)) h_8) fun t151_9 h_10 =>
    ob (gd t147_4 true (pure1 h_10 (lenS t151_9)) h_10) fun t152_11 h_12 =>
    ob (gd t147_4 true (pure1 h_12 (binV .eql .scalar t149_5 t152_11)) h_12) fun t153_13 h_14 =>
    oa (pickV t147_4 t153_13 (.bool false)) fun t154_15 =>
    some (t154_15, h_14) := blockEq (by kernel_rfl)
theorem milestonelaw2_AdjEach_l1_eq (T : Tab) (k j0 : Nat) (n5 a6 out7 in8 v9 : AV) (h : Heap) : milestonelaw2_AdjEach_l1 T k (j0 + 1) n5 a6 out7 in8 v9 h =
    oa (fldA 0 n5) fun t24_1 =>
    oa (ld1 h t24_1) fun t25_2 =>
    oa (binV .lss .scalar v9 t25_2) fun t26_3 =>
    cond2 t26_3
      (
      ob (evalFn T k f_adj_Adj_Out [a6, v9] h) fun t31_4 h_5 =>
      ob (evalFn T k f_adj_Adj_In [a6, v9] h_5) fun t34_6 h_7 =>
      oa (lenS t31_4) fun t37_8 =>
      oa (binV .add .scalar out7 t37_8) fun t38_9 =>
      oa (lenS t34_6) fun t41_10 =>
      oa (binV .add .scalar in8 t41_10) fun t42_11 =>
      milestonelaw2_AdjEach_l2 T k j0 k n5 a6 t38_9 t42_11 v9 t31_4 t34_6 (.int .i64 0) h_7
      )
      (
      milestonelaw2_AdjEach_b6 T k n5 out7 in8 h
      ) := loopEq (by kernel_rfl)
theorem milestonelaw2_AdjEach_eq (T : Tab) (k : Nat) (size0 ns1 : AV) (h : Heap) : runF T k milestonelaw2_AdjEach_mf [size0, ns1] h =
    ob (evalFn T k f_milestonelaw2_known [] h) fun t14_1 h_2 =>
    oa (unV .not t14_1) fun t15_3 =>
    cond2 t15_3
      (
      some ((.bool false), h_2)
      )
      (
      ob (evalFn T k f_milestonelaw1_Make [size0, ns1, (.int .i64 2)] h_2) fun t18_4 h_5 =>
      ob (newVar h_5 [.int .i64 0, .nils]) fun n5_6 h_7 =>
      oh (stN 2 h_7 n5_6 t18_4) fun h_8 =>
      oa (ldN 2 h_8 n5_6) fun t19_9 =>
      ob (evalFn T k f_adj_New [t19_9] h_8) fun t20_10 h_11 =>
      oa (binV .eql .ptr t20_10 .nilp) fun t22_12 =>
      cond2 t22_12
        (
        some ((.bool false), h_11)
        )
        (
        milestonelaw2_AdjEach_l1 T k k n5_6 t20_10 (.int .i64 0) (.int .i64 0) (.int .i64 0) h_11
        )
      ) := runEq (by kernel_rfl)
noncomputable def milestonelaw2_AdjReach_c1 : MCode := .seq [96] (.seq [93, 94, 95] (.region [⟨some 93, .op (.mv (.tmp 19)), none⟩,
  ⟨some 94, .op (.mv (.tmp 18)), none⟩,
  ⟨some 95, .op (.lenSl (.tmp 94)), none⟩,
  ⟨some 96, .op (.bin .lss .scalar (.tmp 93) (.tmp 95)), none⟩]) (.cond (.tmp 96) .skip (.exit 2))) (.seq [105] (.block 3 (.seq [99, 100, 101, 102, 103, 104] (.region [⟨some 99, .op (.mv (.tmp 15)), none⟩,
  ⟨some 100, .op (.mv (.tmp 18)), none⟩,
  ⟨some 101, .op (.mv (.tmp 19)), none⟩,
  ⟨some 102, .op (.idxSl 1 (.tmp 100) (.tmp 101)), none⟩,
  ⟨some 103, .op (.load none (.tmp 102)), none⟩,
  ⟨some 104, .call f_milestonelaw2_has [(.tmp 99), (.tmp 103)], none⟩,
  ⟨some 105, .op (.un .not (.tmp 104)), none⟩]) (.cond (.tmp 105) (.seq [12, 14, 15, 16, 17, 18, 19, 105] (.region [⟨some 10, .op (.mv (.const (.bool false))), none⟩]) .ret) .skip))) (.region [⟨some 97, .op (.mv (.tmp 19)), none⟩,
  ⟨some 98, .op (.bin .add .scalar (.tmp 97) (.const (.int .i64 1))), none⟩,
  ⟨some 19, .op (.mv (.tmp 98)), none⟩]))
noncomputable def milestonelaw2_AdjReach_c2 : MCode := .region [⟨some 61, .op (.mv (.tmp 17)), none⟩,
  ⟨some 62, .op (.bin .add .scalar (.tmp 61) (.const (.int .i64 1))), none⟩,
  ⟨some 17, .op (.mv (.tmp 62)), none⟩]
noncomputable def milestonelaw2_AdjReach_c3 : MCode := .seq [60] (.seq [57, 58, 59] (.region [⟨some 57, .op (.mv (.tmp 17)), none⟩,
  ⟨some 58, .op (.mv (.tmp 15)), none⟩,
  ⟨some 59, .op (.lenSl (.tmp 58)), none⟩,
  ⟨some 60, .op (.bin .lss .scalar (.tmp 57) (.tmp 59)), none⟩]) (.cond (.tmp 60) .skip (.exit 0))) (.seq [18, 19, 96] (.block 1 (.seq [85] (.seq [63, 64, 65, 66, 67, 68, 69, 70, 71, 72, 73, 74, 75, 76, 77, 78, 79, 80, 81, 82, 83, 84] (.regionD 106 [⟨0, ⟨some 106, .op (.mv (.tmp 16)), none⟩, []⟩,
  ⟨1, ⟨some 107, .op (.mv (.tmp 15)), none⟩, []⟩,
  ⟨2, ⟨some 108, .op (.mv (.tmp 17)), none⟩, []⟩,
  ⟨3, ⟨some 109, .op (.idxSl 1 (.tmp 107) (.tmp 108)), none⟩, []⟩,
  ⟨4, ⟨some 110, .op (.load none (.tmp 109)), none⟩, []⟩,
  ⟨5, ⟨some 111, .call f_milestonelaw2_has [(.tmp 106), (.tmp 110)], none⟩, []⟩,
  ⟨6, ⟨some 112, .op (.un .not (.tmp 111)), none⟩, []⟩,
  ⟨7, ⟨some 113, .op (.mv (.tmp 112)), none⟩, []⟩,
  ⟨8, ⟨some 114, .op (.mv (.tmp 17)), some (113, false)⟩, []⟩,
  ⟨9, ⟨some 115, .op (.bin .gtr .scalar (.tmp 114) (.const (.int .i64 0))), some (113, false)⟩, []⟩,
  ⟨10, ⟨some 116, .op (.mv (.tmp 115)), some (113, false)⟩, []⟩,
  ⟨11, ⟨some 117, .op (.mv (.tmp 15)), some (116, true)⟩, []⟩,
  ⟨12, ⟨some 118, .op (.mv (.tmp 17)), some (116, true)⟩, []⟩,
  ⟨13, ⟨some 119, .op (.bin .sub .scalar (.tmp 118) (.const (.int .i64 1))), some (116, true)⟩, []⟩,
  ⟨14, ⟨some 120, .op (.idxSl 1 (.tmp 117) (.tmp 119)), some (116, true)⟩, []⟩,
  ⟨15, ⟨some 121, .op (.load none (.tmp 120)), some (116, true)⟩, []⟩,
  ⟨16, ⟨some 122, .op (.mv (.tmp 15)), some (116, true)⟩, []⟩,
  ⟨17, ⟨some 123, .op (.mv (.tmp 17)), some (116, true)⟩, []⟩,
  ⟨18, ⟨some 124, .op (.idxSl 1 (.tmp 122) (.tmp 123)), some (116, true)⟩, []⟩,
  ⟨19, ⟨some 125, .op (.load none (.tmp 124)), some (116, true)⟩, []⟩,
  ⟨20, ⟨some 126, .op (.bin .geq .scalar (.tmp 121) (.tmp 125)), some (116, true)⟩, []⟩,
  ⟨21, ⟨some 127, .op (.pick (.tmp 116) (.tmp 126) (.const (.bool false))), some (113, false)⟩, []⟩,
  ⟨22, ⟨some 128, .op (.pick (.tmp 113) (.const (.bool true)) (.tmp 127)), none⟩, []⟩] [(63, 106), (64, 107), (65, 108), (66, 109), (67, 110), (68, 111), (69, 112), (70, 113), (71, 114), (72, 115), (73, 116), (74, 117), (75, 118), (76, 119), (77, 120), (78, 121), (79, 122), (80, 123), (81, 124), (82, 125), (83, 126), (84, 127), (85, 128)]) (.cond (.tmp 85) (.seq [12, 14, 15, 16, 17, 85] (.region [⟨some 10, .op (.mv (.const (.bool false))), none⟩]) .ret) .skip)) (.seq [86, 87, 88, 89, 90, 91, 92] (.region [⟨some 86, .op (.mv (.tmp 12)), none⟩,
  ⟨some 87, .op (.mv (.tmp 15)), none⟩,
  ⟨some 88, .op (.mv (.tmp 17)), none⟩,
  ⟨some 89, .op (.idxSl 1 (.tmp 87) (.tmp 88)), none⟩,
  ⟨some 90, .op (.load none (.tmp 89)), none⟩,
  ⟨some 91, .op (.mv (.tmp 14)), none⟩,
  ⟨some 92, .call f_adj_Adj_Reach [(.tmp 86), (.tmp 90), (.tmp 91)], none⟩,
  ⟨some 18, .op (.mv (.tmp 92)), none⟩]) (.seq [] (.region [⟨some 19, .op (.mv (.const (.int .i64 0))), none⟩]) (.block 2 (.loop [97, 98] milestonelaw2_AdjReach_c1)))))) (.lab milestonelaw2_AdjReach_c2))
def milestonelaw2_AdjReach_rs : Res := [(10, none)]
noncomputable def milestonelaw2_AdjReach_mf : MFn := ⟨106, milestonelaw2_AdjReach_rs, .seq [10] (.region [⟨some 10, .op (.mv (.const (.bool false))), none⟩]) (.seq [21] (.seq [20] (.region [⟨some 20, .call f_milestonelaw2_known [], none⟩,
  ⟨some 21, .op (.un .not (.tmp 20)), none⟩]) (.cond (.tmp 21) (.seq [0, 1, 2, 3, 4, 21] (.region [⟨some 10, .op (.mv (.const (.bool false))), none⟩]) .ret) .skip)) (.seq [0, 1, 22, 23, 24] (.region [⟨some 22, .op (.mv (.tmp 0)), none⟩,
  ⟨some 23, .op (.mv (.tmp 1)), none⟩,
  ⟨some 24, .call f_milestonelaw1_Make [(.tmp 22), (.tmp 23), (.const (.int .i64 2))], none⟩,
  ⟨some 11, .op (.alloc [.int .i64 0, .nils]), none⟩,
  ⟨none, .op (.store 2 (.tmp 11) (.tmp 24)), none⟩]) (.seq [25, 26] (.region [⟨some 25, .op (.load (some 2) (.tmp 11)), none⟩,
  ⟨some 26, .call f_adj_New [(.tmp 25)], none⟩,
  ⟨some 12, .op (.mv (.tmp 26)), none⟩]) (.seq [28] (.seq [27] (.region [⟨some 27, .op (.mv (.tmp 12)), none⟩,
  ⟨some 28, .op (.bin .eql .ptr (.tmp 27) (.const .nilp)), none⟩]) (.cond (.tmp 28) (.seq [2, 3, 4, 11, 12, 28] (.region [⟨some 10, .op (.mv (.const (.bool false))), none⟩]) .ret) .skip)) (.seq [2, 3, 11, 29, 30, 31, 32, 33, 34] (.region [⟨some 29, .op (.mv (.tmp 2)), none⟩,
  ⟨some 30, .op (.fieldAddr 0 (.tmp 11)), none⟩,
  ⟨some 31, .op (.load none (.tmp 30)), none⟩,
  ⟨some 32, .call f_milestonelaw2_within [(.tmp 29), (.tmp 31)], none⟩,
  ⟨some 33, .op (.mv (.tmp 3)), none⟩,
  ⟨some 34, .call f_milestonelaw2_within [(.tmp 33), (.const (.int .i64 32))], none⟩,
  ⟨some 13, .op (.mv (.tmp 32)), none⟩,
  ⟨some 14, .op (.mv (.tmp 34)), none⟩]) (.seq [35, 36, 37, 38] (.region [⟨some 35, .op (.mv (.tmp 12)), none⟩,
  ⟨some 36, .op (.mv (.tmp 13)), none⟩,
  ⟨some 37, .op (.mv (.tmp 14)), none⟩,
  ⟨some 38, .call f_adj_Adj_Reach [(.tmp 35), (.tmp 36), (.tmp 37)], none⟩,
  ⟨some 15, .op (.mv (.tmp 38)), none⟩]) (.seq [4, 39, 40, 41, 42, 43, 44, 45] (.region [⟨some 39, .op (.mv (.tmp 12)), none⟩,
  ⟨some 40, .op (.mv (.tmp 13)), none⟩,
  ⟨some 41, .op (.mv (.tmp 14)), none⟩,
  ⟨some 42, .op (.mv (.tmp 4)), none⟩,
  ⟨some 43, .call f_milestonelaw2_within [(.tmp 42), (.const (.int .i64 32))], none⟩,
  ⟨some 44, .op (.bin .or .scalar (.tmp 41) (.tmp 43)), none⟩,
  ⟨some 45, .call f_adj_Adj_Reach [(.tmp 39), (.tmp 40), (.tmp 44)], none⟩,
  ⟨some 16, .op (.mv (.tmp 45)), none⟩]) (.seq [56] (.seq [13, 46, 47, 48, 49, 50, 51, 52, 53, 54, 55] (.region [⟨some 46, .op (.mv (.tmp 15)), none⟩,
  ⟨some 47, .op (.mv (.tmp 13)), none⟩,
  ⟨some 48, .call f_milestonelaw2_has [(.tmp 46), (.tmp 47)], none⟩,
  ⟨some 49, .op (.un .not (.tmp 48)), none⟩,
  ⟨some 50, .op (.mv (.tmp 49)), none⟩,
  ⟨some 51, .op (.mv (.tmp 12)), some (50, false)⟩,
  ⟨some 52, .op (.mv (.tmp 13)), some (50, false)⟩,
  ⟨some 53, .call f_adj_Adj_Reach [(.tmp 51), (.tmp 52), (.const (.int .i64 0))], some (50, false)⟩,
  ⟨some 54, .op (.lenSl (.tmp 53)), some (50, false)⟩,
  ⟨some 55, .op (.bin .neq .scalar (.tmp 54) (.const (.int .i64 1))), some (50, false)⟩,
  ⟨some 56, .op (.pick (.tmp 50) (.const (.bool true)) (.tmp 55)), none⟩]) (.cond (.tmp 56) (.seq [12, 14, 15, 16, 56] (.region [⟨some 10, .op (.mv (.const (.bool false))), none⟩]) .ret) .skip)) (.seq [12, 14, 15, 16, 17, 60] (.seq [] (.region [⟨some 17, .op (.mv (.const (.int .i64 0))), none⟩]) (.block 0 (.loop [61, 62] milestonelaw2_AdjReach_c3))) (.seq [] (.region [⟨some 10, .op (.mv (.const (.bool true))), none⟩]) .ret))))))))))⟩
noncomputable def milestonelaw2_AdjReach_l1 (T : Tab) (k j0 : Nat) (a12 s14 r15 big16 i17 : AV) (h : Heap) : Option (AV × Heap) :=
  loopB T k milestonelaw2_AdjReach_rs j0 [61, 62] milestonelaw2_AdjReach_c3 [.blk 0, .seq [12, 14, 15, 16, 17, 60] (.seq [] (.region [⟨some 10, .op (.mv (.const (.bool true))), none⟩]) .ret)] [.undef, .undef, .undef, .undef, .undef, .undef, .undef, .undef, .undef, .undef, .undef, .undef, a12, .undef, s14, r15, big16, i17, .undef, .undef, .undef, .undef, .undef, .undef, .undef, .undef, .undef, .undef, .undef, .undef, .undef, .undef, .undef, .undef, .undef, .undef, .undef, .undef, .undef, .undef, .undef, .undef, .undef, .undef, .undef, .undef, .undef, .undef, .undef, .undef, .undef, .undef, .undef, .undef, .undef, .undef, .undef, .undef, .undef, .undef, .undef, .undef, .undef, .undef, .undef, .undef, .undef, .undef, .undef, .undef, .undef, .undef, .undef, .undef, .undef, .undef, .undef, .undef, .undef, .undef, .undef, .undef, .undef, .undef, .undef, .undef, .undef, .undef, .undef, .undef, .undef, .undef, .undef, .undef, .undef, .undef, .undef, .undef, .undef, .undef, .undef, .undef, .undef, .undef, .undef, .undef] h
noncomputable def milestonelaw2_AdjReach_l2 (T : Tab) (k j0 j1 : Nat) (a12 s14 r15 big16 i17 l18 k19 : AV) (h : Heap) : Option (AV × Heap) :=
  loopB T k milestonelaw2_AdjReach_rs j1 [97, 98] milestonelaw2_AdjReach_c1 [.blk 2, .blk 1, .seq [18, 19, 96] (.lab milestonelaw2_AdjReach_c2), .lp j0 [61, 62] milestonelaw2_AdjReach_c3, .blk 0, .seq [12, 14, 15, 16, 17, 60] (.seq [] (.region [⟨some 10, .op (.mv (.const (.bool true))), none⟩]) .ret)] [.undef, .undef, .undef, .undef, .undef, .undef, .undef, .undef, .undef, .undef, .undef, .undef, a12, .undef, s14, r15, big16, i17, l18, k19, .undef, .undef, .undef, .undef, .undef, .undef, .undef, .undef, .undef, .undef, .undef, .undef, .undef, .undef, .undef, .undef, .undef, .undef, .undef, .undef, .undef, .undef, .undef, .undef, .undef, .undef, .undef, .undef, .undef, .undef, .undef, .undef, .undef, .undef, .undef, .undef, .undef, .undef, .undef, .undef, .undef, .undef, .undef, .undef, .undef, .undef, .undef, .undef, .undef, .undef, .undef, .undef, .undef, .undef, .undef, .undef, .undef, .undef, .undef, .undef, .undef, .undef, .undef, .undef, .undef, .undef, .undef, .undef, .undef, .undef, .undef, .undef, .undef, .undef, .undef, .undef, .undef, .undef, .undef, .undef, .undef, .undef, .undef, .undef, .undef, .undef] h
noncomputable def milestonelaw2_AdjReach_b3 (T : Tab) (k j0 : Nat) (a12 s14 r15 big16 i17 : AV) (h : Heap) : Option (AV × Heap) :=
  evB T k milestonelaw2_AdjReach_rs milestonelaw2_AdjReach_c2 [.lp j0 [61, 62] milestonelaw2_AdjReach_c3, .blk 0, .seq [12, 14, 15, 16, 17, 60] (.seq [] (.region [⟨some 10, .op (.mv (.const (.bool true))), none⟩]) .ret)] [.undef, .undef, .undef, .undef, .undef, .undef, .undef, .undef, .undef, .undef, .undef, .undef, a12, .undef, s14, r15, big16, i17, .undef, .undef, .undef, .undef, .undef, .undef, .undef, .undef, .undef, .undef, .undef, .undef, .undef, .undef, .undef, .undef, .undef, .undef, .undef, .undef, .undef, .undef, .undef, .undef, .undef, .undef, .undef, .undef, .undef, .undef, .undef, .undef, .undef, .undef, .undef, .undef, .undef, .undef, .undef, .undef, .undef, .undef, .undef, .undef, .undef, .undef, .undef, .undef, .undef, .undef, .undef, .undef, .undef, .undef, .undef, .undef, .undef, .undef, .undef, .undef, .undef, .undef, .undef, .undef, .undef, .undef, .undef, .undef, .undef, .undef, .undef, .undef, .undef, .undef, .undef, .undef, .undef, .undef, .undef, .undef, .undef, .undef, .undef, .undef, .undef, .undef, .undef, .undef] h
theorem milestonelaw2_AdjReach_b3_eq (T : Tab) (k j0 : Nat) (a12 s14 r15 big16 i17 : AV) (h : Heap) : milestonelaw2_AdjReach_b3 T k j0 a12 s14 r15 big16 i17 h =
    oa (binV .add .scalar i17 (.int .i64 1)) fun t62_1 =>
    milestonelaw2_AdjReach_l1 T k j0 a12 s14 r15 big16 t62_1 h := blockEq (by kernel_rfl)
theorem milestonelaw2_AdjReach_l2_eq (T : Tab) (k j0 j1 : Nat) (a12 s14 r15 big16 i17 l18 k19 : AV) (h : Heap) : milestonelaw2_AdjReach_l2 T k j0 (j1 + 1) a12 s14 r15 big16 i17 l18 k19 h =
    oa (lenS l18) fun t95_1 =>
    oa (binV .lss .scalar k19 t95_1) fun t96_2 =>
    cond2 t96_2
      (
      oa (idxS 1 l18 k19) fun t102_3 =>
      oa (ld1 h t102_3) fun t103_4 =>
      ob (evalFn T k f_milestonelaw2_has [r15, t103_4] h) fun t104_5 h_6 =>
      oa (unV .not t104_5) fun t105_7 =>
      cond2 t105_7
        (
        some ((.bool false), h_6)
        )
        (
        oa (binV .add .scalar k19 (.int .i64 1)) fun t98_8 =>
        milestonelaw2_AdjReach_l2 T k j0 j1 a12 s14 r15 big16 i17 l18 t98_8 h_6
        )
      )
      (
      milestonelaw2_AdjReach_b3 T k j0 a12 s14 r15 big16 i17 h
      ) := loopEq (by kernel_rfl)
theorem milestonelaw2_AdjReach_l1_eq (T : Tab) (k j0 : Nat) (a12 s14 r15 big16 i17 : AV) (h : Heap) : milestonelaw2_AdjReach_l1 T k (j0 + 1) a12 s14 r15 big16 i17 h =
    oa (lenS r15) fun t59_1 =>
    oa (binV .lss .scalar i17 t59_1) fun t60_2 =>
    cond2 t60_2
      (
      oa (idxS 1 r15 i17) fun t109_3 =>
      oa (ld1 h t109_3) fun t110_4 =>
      ob (evalFn T k f_milestonelaw2_has [big16, t110_4] h) fun t111_5 h_6 =>
      oa (unV .not t111_5) fun t112_7 =>
      ob (gd t112_7 false (some (i17, h_6)) h_6) fun t114_8 h_9 =>
      ob (gd t112_7 false (pure1 h_9 (binV .gtr .scalar t114_8 (.int .i64 0))) h_9) fun t115_10 h_11 =>
      ob (gd t112_7 false (some (t115_10, h_11)) h_11) fun t116_12 h_13 =>
      ob (gd t116_12 true (some (r15, h_13)) h_13) fun t117_14 h_15 =>
      ob (gd t116_12 true (some (i17, h_15)) h_15) fun t118_16 h_17 =>
      ob (gd t116_12 true (pure1 h_17 (binV .sub .scalar t118_16 (.int .i64 1))) h_17) fun t119_18 h_19 =>
      ob (gd t116_12 true (pure1 h_19 (idxS 1 t117_14 t119_18)) h_19) fun t120_20 h_21 =>
      ob (gd t116_12 true (pure1 h_21 (ld1 h_21 t120_20)) h_21) fun t121_22 h_23 =>
      ob (gd t116_12 true (some (r15, h_23)) h_23) fun t122_24 h_25 =>
      ob (gd t116_12 true (some (i17, h_25)) h_25) fun t123_26 h_27 =>
      ob (gd t116_12 true (pure1 h_27 (idxS 1 t122_24 t123_26)) h_27) fun t124_28 h_29 =>
      ob (gd t116_12 true (pure1 h_29 (ld1 h_29 t124_28)) h_29) fun t125_30 h_31 =>
      ob (gd t116_12 true (pure1 h_31 (binV .geq .scalar t121_22 t125_30)) h_31) fun t126_32 h_33 =>
      ob (gd t112_7 false (pure1 h_33 (pickV t116_12 t126_32 (.bool false))) h_33) fun t127_34 h_35 =>
      oa (pickV t112_7 (.bool true) t127_34) fun t128_36 =>
      cond2 t128_36
        (
        some ((.bool false), h_35)
        )
        (
        oa (idxS 1 r15 i17) fun t89_37 =>
        oa (ld1 h_35 t89_37) fun t90_38 =>
        ob (evalFn T k f_adj_Adj_Reach [a12, t90_38, s14] h_35) fun t92_39 h_40 =>
        milestonelaw2_AdjReach_l2 T k j0 k a12 s14 r15 big16 i17 t92_39 (.int .i64 0) h_40
        )
      )
      (
      some ((.bool true), h)
      ) := loopEq (by kernel_rfl)
theorem milestonelaw2_AdjReach_eq (T : Tab) (k : Nat) (size0 ns1 from2 set3 more4 : AV) (h : Heap) : runF T k milestonelaw2_AdjReach_mf [size0, ns1, from2, set3, more4] h =
    ob (evalFn T k f_milestonelaw2_known [] h) fun t20_1 h_2 =>
    oa (unV .not t20_1) fun t21_3 =>
    cond2 t21_3
      (
      some ((.bool false), h_2)
      )
      (
      ob (evalFn T k f_milestonelaw1_Make [size0, ns1, (.int .i64 2)] h_2) fun t24_4 h_5 =>
      ob (newVar h_5 [.int .i64 0, .nils]) fun n11_6 h_7 =>
      oh (stN 2 h_7 n11_6 t24_4) fun h_8 =>
      oa (ldN 2 h_8 n11_6) fun t25_9 =>
      ob (evalFn T k f_adj_New [t25_9] h_8) fun t26_10 h_11 =>
      oa (binV .eql .ptr t26_10 .nilp) fun t28_12 =>
      cond2 t28_12
        (
        some ((.bool false), h_11)
        )
        (
        oa (fldA 0 n11_6) fun t30_13 =>
        oa (ld1 h_11 t30_13) fun t31_14 =>
        ob (evalFn T k f_milestonelaw2_within [from2, t31_14] h_11) fun t32_15 h_16 =>
        ob (evalFn T k f_milestonelaw2_within [set3, (.int .i64 32)] h_16) fun t34_17 h_18 =>
        ob (evalFn T k f_adj_Adj_Reach [t26_10, t32_15, t34_17] h_18) fun t38_19 h_20 =>
        ob (evalFn T k f_milestonelaw2_within [more4, (.int .i64 32)] h_20) fun t43_21 h_22 =>
        oa (binV .or .scalar t34_17 t43_21) fun t44_23 =>
        ob (evalFn T k f_adj_Adj_Reach [t26_10, t32_15, t44_23] h_22) fun t45_24 h_25 =>
        ob (evalFn T k f_milestonelaw2_has [t38_19, t32_15] h_25) fun t48_26 h_27 =>
        oa (unV .not t48_26) fun t49_28 =>
        ob (gd t49_28 false (some (t26_10, h_27)) h_27) fun t51_29 h_30 =>
        ob (gd t49_28 false (some (t32_15, h_30)) h_30) fun t52_31 h_32 =>
        ob (gd t49_28 false (evalFn T k f_adj_Adj_Reach [t51_29, t52_31, (.int .i64 0)] h_32) h_32) fun t53_33 h_34 =>
        ob (gd t49_28 false (pure1 h_34 (lenS t53_33)) h_34) fun t54_35 h_36 =>
        ob (gd t49_28 false (pure1 h_36 (binV .neq .scalar t54_35 (.int .i64 1))) h_36) fun t55_37 h_38 =>
        oa (pickV t49_28 (.bool true) t55_37) fun t56_39 =>
        cond2 t56_39
          (
          some ((.bool false), h_38)
          )
          (
          milestonelaw2_AdjReach_l1 T k k t26_10 t34_17 t38_19 t45_24 (.int .i64 0) h_38
          )
        )
      ) := runEq (by kernel_rfl)
noncomputable def milestonelaw2_AdjModes_c1 : MCode := .seq [38] (.seq [35, 36, 37] (.region [⟨some 35, .op (.mv (.tmp 10)), none⟩,
  ⟨some 36, .op (.mv (.tmp 9)), none⟩,
  ⟨some 37, .op (.lenSl (.tmp 36)), none⟩,
  ⟨some 38, .op (.bin .lss .scalar (.tmp 35) (.tmp 37)), none⟩]) (.cond (.tmp 38) .skip (.exit 2))) (.seq [56, 57, 58, 59, 60, 61, 62, 63, 64, 65, 66, 67, 68] (.block 3 (.seq [55] (.seq [41, 42, 43, 44, 45, 46, 47, 48, 49, 50, 51, 52, 53, 54] (.regionD 74 [⟨0, ⟨some 74, .op (.mv (.tmp 9)), none⟩, []⟩,
  ⟨1, ⟨some 75, .op (.mv (.tmp 10)), none⟩, []⟩,
  ⟨2, ⟨some 76, .op (.idxSl 1 (.tmp 74) (.tmp 75)), none⟩, []⟩,
  ⟨3, ⟨some 77, .op (.load none (.tmp 76)), none⟩, []⟩,
  ⟨4, ⟨some 78, .op (.bin .lss .scalar (.tmp 77) (.const (.int .i64 0))), none⟩, []⟩,
  ⟨5, ⟨some 79, .op (.mv (.tmp 78)), none⟩, []⟩,
  ⟨6, ⟨some 80, .op (.mv (.tmp 9)), some (79, false)⟩, []⟩,
  ⟨7, ⟨some 81, .op (.mv (.tmp 10)), some (79, false)⟩, []⟩,
  ⟨8, ⟨some 82, .op (.idxSl 1 (.tmp 80) (.tmp 81)), some (79, false)⟩, []⟩,
  ⟨9, ⟨some 83, .op (.load none (.tmp 82)), some (79, false)⟩, []⟩,
  ⟨10, ⟨some 84, .op (.fieldAddr 1 (.tmp 5)), some (79, false)⟩, []⟩,
  ⟨11, ⟨some 85, .op (.load none (.tmp 84)), some (79, false)⟩, []⟩,
  ⟨12, ⟨some 86, .op (.lenSl (.tmp 85)), some (79, false)⟩, []⟩,
  ⟨13, ⟨some 87, .op (.bin .geq .scalar (.tmp 83) (.tmp 86)), some (79, false)⟩, []⟩,
  ⟨14, ⟨some 88, .op (.pick (.tmp 79) (.const (.bool true)) (.tmp 87)), none⟩, []⟩] [(41, 74), (42, 75), (43, 76), (44, 77), (45, 78), (46, 79), (47, 80), (48, 81), (49, 82), (50, 83), (51, 84), (52, 85), (53, 86), (54, 87), (55, 88)]) (.cond (.tmp 55) (.seq [5, 6, 7, 8, 9, 10, 55] (.region [⟨some 4, .op (.mv (.const (.bool false))), none⟩]) .ret) .skip)) (.regionD 74 [⟨0, ⟨some 74, .op (.mv (.tmp 8)), none⟩, []⟩,
  ⟨1, ⟨some 75, .op (.fieldAddr 1 (.tmp 5)), none⟩, []⟩,
  ⟨2, ⟨some 76, .op (.load none (.tmp 75)), none⟩, []⟩,
  ⟨3, ⟨some 77, .op (.mv (.tmp 9)), none⟩, []⟩,
  ⟨4, ⟨some 78, .op (.mv (.tmp 10)), none⟩, []⟩,
  ⟨5, ⟨some 79, .op (.idxSl 1 (.tmp 77) (.tmp 78)), none⟩, []⟩,
  ⟨6, ⟨some 80, .op (.load none (.tmp 79)), none⟩, []⟩,
  ⟨7, ⟨some 81, .op (.idxSl 4 (.tmp 76) (.tmp 80)), none⟩, []⟩,
  ⟨8, ⟨some 82, .op (.fieldAddr 2 (.tmp 81)), none⟩, []⟩,
  ⟨9, ⟨some 83, .op (.load none (.tmp 82)), none⟩, []⟩,
  ⟨10, ⟨some 84, .op (.convI .u64 (.tmp 83)), none⟩, []⟩,
  ⟨11, ⟨some 85, .op (.bin .shl .scalar (.const (.int .i64 1)) (.tmp 84)), none⟩, []⟩,
  ⟨12, ⟨some 86, .op (.bin .or .scalar (.tmp 74) (.tmp 85)), none⟩, []⟩,
  ⟨13, ⟨some 87, .op (.mv (.tmp 86)), none⟩, []⟩] [(56, 74), (57, 75), (58, 76), (59, 77), (60, 78), (61, 79), (62, 80), (63, 81), (64, 82), (65, 83), (66, 84), (67, 85), (68, 86), (8, 87)]))) (.region [⟨some 39, .op (.mv (.tmp 10)), none⟩,
  ⟨some 40, .op (.bin .add .scalar (.tmp 39) (.const (.int .i64 1))), none⟩,
  ⟨some 10, .op (.mv (.tmp 40)), none⟩]))
noncomputable def milestonelaw2_AdjModes_c2 : MCode := .seq [8, 69, 70, 71, 72] (.region [⟨some 69, .op (.mv (.tmp 6)), none⟩,
  ⟨some 70, .op (.mv (.tmp 7)), none⟩,
  ⟨some 71, .call f_adj_Adj_Modes [(.tmp 69), (.tmp 70)], none⟩,
  ⟨some 72, .op (.mv (.tmp 8)), none⟩,
  ⟨some 73, .op (.bin .neq .scalar (.tmp 71) (.tmp 72)), none⟩]) (.cond (.tmp 73) (.seq [5, 6, 7, 73] (.region [⟨some 4, .op (.mv (.const (.bool false))), none⟩]) .ret) .skip)
noncomputable def milestonelaw2_AdjModes_c3 : MCode := .region [⟨some 24, .op (.mv (.tmp 7)), none⟩,
  ⟨some 25, .op (.bin .add .scalar (.tmp 24) (.const (.int .i64 1))), none⟩,
  ⟨some 7, .op (.mv (.tmp 25)), none⟩]
noncomputable def milestonelaw2_AdjModes_c4 : MCode := .seq [23] (.seq [20, 21, 22] (.region [⟨some 20, .op (.mv (.tmp 7)), none⟩,
  ⟨some 21, .op (.fieldAddr 0 (.tmp 5)), none⟩,
  ⟨some 22, .op (.load none (.tmp 21)), none⟩,
  ⟨some 23, .op (.bin .lss .scalar (.tmp 20) (.tmp 22)), none⟩]) (.cond (.tmp 23) .skip (.exit 0))) (.seq [73] (.block 1 (.seq [] (.region [⟨some 8, .op (.mv (.const (.int .i64 0))), none⟩]) (.seq [26, 27, 28, 29, 30, 31, 32, 33, 34] (.region [⟨some 26, .op (.buildSlice 1 0 [] []), none⟩,
  ⟨some 27, .op (.mv (.tmp 6)), none⟩,
  ⟨some 28, .op (.mv (.tmp 7)), none⟩,
  ⟨some 29, .call f_adj_Adj_Out [(.tmp 27), (.tmp 28)], none⟩,
  ⟨some 30, .op (.append 1 8 (.tmp 26) (.tmp 29)), none⟩,
  ⟨some 31, .op (.mv (.tmp 6)), none⟩,
  ⟨some 32, .op (.mv (.tmp 7)), none⟩,
  ⟨some 33, .call f_adj_Adj_In [(.tmp 31), (.tmp 32)], none⟩,
  ⟨some 34, .op (.append 1 8 (.tmp 30) (.tmp 33)), none⟩,
  ⟨some 9, .op (.mv (.tmp 34)), none⟩]) (.seq [9, 10, 38] (.seq [] (.region [⟨some 10, .op (.mv (.const (.int .i64 0))), none⟩]) (.block 2 (.loop [39, 40] milestonelaw2_AdjModes_c1))) (.lab milestonelaw2_AdjModes_c2))))) (.lab milestonelaw2_AdjModes_c3))
def milestonelaw2_AdjModes_rs : Res := [(4, none)]
noncomputable def milestonelaw2_AdjModes_mf : MFn := ⟨74, milestonelaw2_AdjModes_rs, .seq [4] (.region [⟨some 4, .op (.mv (.const (.bool false))), none⟩]) (.seq [12] (.seq [11] (.region [⟨some 11, .call f_milestonelaw2_known [], none⟩,
  ⟨some 12, .op (.un .not (.tmp 11)), none⟩]) (.cond (.tmp 12) (.seq [0, 1, 12] (.region [⟨some 4, .op (.mv (.const (.bool false))), none⟩]) .ret) .skip)) (.seq [0, 1, 13, 14, 15] (.region [⟨some 13, .op (.mv (.tmp 0)), none⟩,
  ⟨some 14, .op (.mv (.tmp 1)), none⟩,
  ⟨some 15, .call f_milestonelaw1_Make [(.tmp 13), (.tmp 14), (.const (.int .i64 2))], none⟩,
  ⟨some 5, .op (.alloc [.int .i64 0, .nils]), none⟩,
  ⟨none, .op (.store 2 (.tmp 5) (.tmp 15)), none⟩]) (.seq [16, 17] (.region [⟨some 16, .op (.load (some 2) (.tmp 5)), none⟩,
  ⟨some 17, .call f_adj_New [(.tmp 16)], none⟩,
  ⟨some 6, .op (.mv (.tmp 17)), none⟩]) (.seq [19] (.seq [18] (.region [⟨some 18, .op (.mv (.tmp 6)), none⟩,
  ⟨some 19, .op (.bin .eql .ptr (.tmp 18) (.const .nilp)), none⟩]) (.cond (.tmp 19) (.seq [5, 6, 19] (.region [⟨some 4, .op (.mv (.const (.bool false))), none⟩]) .ret) .skip)) (.seq [5, 6, 7, 23] (.seq [] (.region [⟨some 7, .op (.mv (.const (.int .i64 0))), none⟩]) (.block 0 (.loop [24, 25] milestonelaw2_AdjModes_c4))) (.seq [] (.region [⟨some 4, .op (.mv (.const (.bool true))), none⟩]) .ret))))))⟩
noncomputable def milestonelaw2_AdjModes_l1 (T : Tab) (k j0 : Nat) (n5 a6 v7 : AV) (h : Heap) : Option (AV × Heap) :=
  loopB T k milestonelaw2_AdjModes_rs j0 [24, 25] milestonelaw2_AdjModes_c4 [.blk 0, .seq [5, 6, 7, 23] (.seq [] (.region [⟨some 4, .op (.mv (.const (.bool true))), none⟩]) .ret)] [.undef, .undef, .undef, .undef, .undef, n5, a6, v7, .undef, .undef, .undef, .undef, .undef, .undef, .undef, .undef, .undef, .undef, .undef, .undef, .undef, .undef, .undef, .undef, .undef, .undef, .undef, .undef, .undef, .undef, .undef, .undef, .undef, .undef, .undef, .undef, .undef, .undef, .undef, .undef, .undef, .undef, .undef, .undef, .undef, .undef, .undef, .undef, .undef, .undef, .undef, .undef, .undef, .undef, .undef, .undef, .undef, .undef, .undef, .undef, .undef, .undef, .undef, .undef, .undef, .undef, .undef, .undef, .undef, .undef, .undef, .undef, .undef, .undef] h
noncomputable def milestonelaw2_AdjModes_l2 (T : Tab) (k j0 j1 : Nat) (n5 a6 v7 s8 o9 k10 : AV) (h : Heap) : Option (AV × Heap) :=
  loopB T k milestonelaw2_AdjModes_rs j1 [39, 40] milestonelaw2_AdjModes_c1 [.blk 2, .seq [9, 10, 38] (.lab milestonelaw2_AdjModes_c2), .blk 1, .seq [73] (.lab milestonelaw2_AdjModes_c3), .lp j0 [24, 25] milestonelaw2_AdjModes_c4, .blk 0, .seq [5, 6, 7, 23] (.seq [] (.region [⟨some 4, .op (.mv (.const (.bool true))), none⟩]) .ret)] [.undef, .undef, .undef, .undef, .undef, n5, a6, v7, s8, o9, k10, .undef, .undef, .undef, .undef, .undef, .undef, .undef, .undef, .undef, .undef, .undef, .undef, .undef, .undef, .undef, .undef, .undef, .undef, .undef, .undef, .undef, .undef, .undef, .undef, .undef, .undef, .undef, .undef, .undef, .undef, .undef, .undef, .undef, .undef, .undef, .undef, .undef, .undef, .undef, .undef, .undef, .undef, .undef, .undef, .undef, .undef, .undef, .undef, .undef, .undef, .undef, .undef, .undef, .undef, .undef, .undef, .undef, .undef, .undef, .undef, .undef, .undef, .undef] h
noncomputable def milestonelaw2_AdjModes_b3 (T : Tab) (k j0 : Nat) (n5 a6 v7 s8 : AV) (h : Heap) : Option (AV × Heap) :=
  evB T k milestonelaw2_AdjModes_rs milestonelaw2_AdjModes_c2 [.blk 1, .seq [73] (.lab milestonelaw2_AdjModes_c3), .lp j0 [24, 25] milestonelaw2_AdjModes_c4, .blk 0, .seq [5, 6, 7, 23] (.seq [] (.region [⟨some 4, .op (.mv (.const (.bool true))), none⟩]) .ret)] [.undef, .undef, .undef, .undef, .undef, n5, a6, v7, s8, .undef, .undef, .undef, .undef, .undef, .undef, .undef, .undef, .undef, .undef, .undef, .undef, .undef, .undef, .undef, .undef, .undef, .undef, .undef, .undef, .undef, .undef, .undef, .undef, .undef, .undef, .undef, .undef, .undef, .undef, .undef, .undef, .undef, .undef, .undef, .undef, .undef, .undef, .undef, .undef, .undef, .undef, .undef, .undef, .undef, .undef, .undef, .undef, .undef, .undef, .undef, .undef, .undef, .undef, .undef, .undef, .undef, .undef, .undef, .undef, .undef, .undef, .undef, .undef, .undef] h
noncomputable def milestonelaw2_AdjModes_b4 (T : Tab) (k j0 : Nat) (n5 a6 v7 : AV) (h : Heap) : Option (AV × Heap) :=
  evB T k milestonelaw2_AdjModes_rs milestonelaw2_AdjModes_c3 [.lp j0 [24, 25] milestonelaw2_AdjModes_c4, .blk 0, .seq [5, 6, 7, 23] (.seq [] (.region [⟨some 4, .op (.mv (.const (.bool true))), none⟩]) .ret)] [.undef, .undef, .undef, .undef, .undef, n5, a6, v7, .undef, .undef, .undef, .undef, .undef, .undef, .undef, .undef, .undef, .undef, .undef, .undef, .undef, .undef, .undef, .undef, .undef, .undef, .undef, .undef, .undef, .undef, .undef, .undef, .undef, .undef, .undef, .undef, .undef, .undef, .undef, .undef, .undef, .undef, .undef, .undef, .undef, .undef, .undef, .undef, .undef, .undef, .undef, .undef, .undef, .undef, .undef, .undef, .undef, .undef, .undef, .undef, .undef, .undef, .undef, .undef, .undef, .undef, .undef, .undef, .undef, .undef, .undef, .undef, .undef, .undef] h
theorem milestonelaw2_AdjModes_b4_eq (T : Tab) (k j0 : Nat) (n5 a6 v7 : AV) (h : Heap) : milestonelaw2_AdjModes_b4 T k j0 n5 a6 v7 h =
    oa (binV .add .scalar v7 (.int .i64 1)) fun t25_1 =>
    milestonelaw2_AdjModes_l1 T k j0 n5 a6 t25_1 h := blockEq (by kernel_rfl)
theorem milestonelaw2_AdjModes_b3_eq (T : Tab) (k j0 : Nat) (n5 a6 v7 s8 : AV) (h : Heap) : milestonelaw2_AdjModes_b3 T k j0 n5 a6 v7 s8 h =
    ob (evalFn T k f_adj_Adj_Modes [a6, v7] h) fun t71_1 h_2 =>
    oa (binV .neq .scalar t71_1 s8) fun t73_3 =>
    cond2 t73_3
      (
      some ((.bool false), h_2)
      )
      (
      milestonelaw2_AdjModes_b4 T k j0 n5 a6 v7 h_2
      ) := blockEq (by kernel_rfl)
theorem milestonelaw2_AdjModes_l2_eq (T : Tab) (k j0 j1 : Nat) (n5 a6 v7 s8 o9 k10 : AV) (h : Heap) : milestonelaw2_AdjModes_l2 T k j0 (j1 + 1) n5 a6 v7 s8 o9 k10 h =
    oa (lenS o9) fun t37_1 =>
    oa (binV .lss .scalar k10 t37_1) fun t38_2 =>
    cond2 t38_2
      (
      oa (idxS 1 o9 k10) fun t76_3 =>
      oa (ld1 h t76_3) fun t77_4 =>
      oa (binV .lss .scalar t77_4 (.int .i64 0)) fun t78_5 =>
      ob (gd t78_5 false (some (o9, h)) h) fun t80_6 h_7 =>
      ob (gd t78_5 false (some (k10, h_7)) h_7) fun t81_8 h_9 =>
      ob (gd t78_5 false (pure1 h_9 (idxS 1 t80_6 t81_8)) h_9) fun t82_10 h_11 =>
      ob (gd t78_5 false (pure1 h_11 (ld1 h_11 t82_10)) h_11) fun t83_12 h_13 =>
      ob (gd t78_5 false (pure1 h_13 (fldA 1 n5)) h_13) fun t84_14 h_15 =>
      ob (gd t78_5 false (pure1 h_15 (ld1 h_15 t84_14)) h_15) fun t85_16 h_17 =>
      ob (gd t78_5 false (pure1 h_17 (lenS t85_16)) h_17) fun t86_18 h_19 =>
      ob (gd t78_5 false (pure1 h_19 (binV .geq .scalar t83_12 t86_18)) h_19) fun t87_20 h_21 =>
      oa (pickV t78_5 (.bool true) t87_20) fun t88_22 =>
      cond2 t88_22
        (
        some ((.bool false), h_21)
        )
        (
        oa (fldA 1 n5) fun t75_23 =>
        oa (ld1 h_21 t75_23) fun t76_24 =>
        oa (idxS 1 o9 k10) fun t79_25 =>
        oa (ld1 h_21 t79_25) fun t80_26 =>
        oa (idxS 4 t76_24 t80_26) fun t81_27 =>
        oa (fldA 2 t81_27) fun t82_28 =>
        oa (ld1 h_21 t82_28) fun t83_29 =>
        oa (convV .u64 t83_29) fun t84_30 =>
        oa (binV .shl .scalar (.int .i64 1) t84_30) fun t85_31 =>
        oa (binV .or .scalar s8 t85_31) fun t86_32 =>
        oa (binV .add .scalar k10 (.int .i64 1)) fun t40_33 =>
        milestonelaw2_AdjModes_l2 T k j0 j1 n5 a6 v7 t86_32 o9 t40_33 h_21
        )
      )
      (
      milestonelaw2_AdjModes_b3 T k j0 n5 a6 v7 s8 h
      ) := loopEq (by kernel_rfl)
theorem milestonelaw2_AdjModes_l1_eq (T : Tab) (k j0 : Nat) (n5 a6 v7 : AV) (h : Heap) : milestonelaw2_AdjModes_l1 T k (j0 + 1) n5 a6 v7 h =
    oa (fldA 0 n5) fun t21_1 =>
    oa (ld1 h t21_1) fun t22_2 =>
    oa (binV .lss .scalar v7 t22_2) fun t23_3 =>
    cond2 t23_3
      (
      ob (buildSl 1 0 [] [] h) fun t26_4 h_5 =>
      ob (evalFn T k f_adj_Adj_Out [a6, v7] h_5) fun t29_6 h_7 =>
      ob (apnd 1 8 t26_4 t29_6 h_7) fun t30_8 h_9 =>
      ob (evalFn T k f_adj_Adj_In [a6, v7] h_9) fun t33_10 h_11 =>
      ob (apnd 1 8 t30_8 t33_10 h_11) fun t34_12 h_13 =>
      milestonelaw2_AdjModes_l2 T k j0 k n5 a6 v7 (.int .i64 0) t34_12 (.int .i64 0) h_13
      )
      (
      some ((.bool true), h)
      ) := loopEq (by kernel_rfl)
theorem milestonelaw2_AdjModes_eq (T : Tab) (k : Nat) (size0 ns1 : AV) (h : Heap) : runF T k milestonelaw2_AdjModes_mf [size0, ns1] h =
    ob (evalFn T k f_milestonelaw2_known [] h) fun t11_1 h_2 =>
    oa (unV .not t11_1) fun t12_3 =>
    cond2 t12_3
      (
      some ((.bool false), h_2)
      )
      (
      ob (evalFn T k f_milestonelaw1_Make [size0, ns1, (.int .i64 2)] h_2) fun t15_4 h_5 =>
      ob (newVar h_5 [.int .i64 0, .nils]) fun n5_6 h_7 =>
      oh (stN 2 h_7 n5_6 t15_4) fun h_8 =>
      oa (ldN 2 h_8 n5_6) fun t16_9 =>
      ob (evalFn T k f_adj_New [t16_9] h_8) fun t17_10 h_11 =>
      oa (binV .eql .ptr t17_10 .nilp) fun t19_12 =>
      cond2 t19_12
        (
        some ((.bool false), h_11)
        )
        (
        milestonelaw2_AdjModes_l1 T k k n5_6 t17_10 (.int .i64 0) h_11
        )
      ) := runEq (by kernel_rfl)
noncomputable def milestonelaw2_AdjOwn_c1 : MCode := .seq [38] (.seq [34, 35, 36, 37] (.region [⟨some 34, .op (.mv (.tmp 11)), none⟩,
  ⟨some 35, .op (.fieldAddr 1 (.tmp 7)), none⟩,
  ⟨some 36, .op (.load none (.tmp 35)), none⟩,
  ⟨some 37, .op (.lenSl (.tmp 36)), none⟩,
  ⟨some 38, .op (.bin .lss .scalar (.tmp 34) (.tmp 37)), none⟩]) (.cond (.tmp 38) .skip (.exit 0))) (.seq [41, 42, 43, 44, 45, 46, 47, 48, 49, 50, 51, 52] (.block 1 (.regionD 111 [⟨0, ⟨some 111, .op (.fieldAddr 1 (.tmp 7)), none⟩, []⟩,
  ⟨1, ⟨some 112, .op (.load none (.tmp 111)), none⟩, []⟩,
  ⟨2, ⟨some 113, .op (.mv (.tmp 11)), none⟩, []⟩,
  ⟨3, ⟨some 114, .op (.fieldAddr 1 (.tmp 7)), none⟩, []⟩,
  ⟨4, ⟨some 115, .op (.load none (.tmp 114)), none⟩, []⟩,
  ⟨5, ⟨some 116, .op (.mv (.tmp 11)), none⟩, []⟩,
  ⟨6, ⟨some 117, .op (.mv (.tmp 2)), none⟩, []⟩,
  ⟨7, ⟨some 118, .call f_milestonelaw2_within [(.tmp 117), (.const (.int .i64 5))], none⟩, [(112, ⟨some 112, .op (.load none (.tmp 111)), none⟩), (115, ⟨some 115, .op (.load none (.tmp 114)), none⟩)]⟩,
  ⟨8, ⟨some 119, .op (.idxSl 4 (.tmp 112) (.tmp 113)), none⟩, []⟩,
  ⟨9, ⟨some 120, .op (.fieldAddr 0 (.tmp 119)), none⟩, []⟩,
  ⟨10, ⟨some 121, .op (.store 1 (.tmp 120) (.const (.int .i64 0))), none⟩, [(115, ⟨some 115, .op (.load none (.tmp 114)), none⟩)]⟩,
  ⟨11, ⟨some 122, .op (.idxSl 4 (.tmp 115) (.tmp 116)), none⟩, []⟩,
  ⟨12, ⟨some 123, .op (.fieldAddr 2 (.tmp 122)), none⟩, []⟩,
  ⟨13, ⟨some 124, .op (.store 1 (.tmp 123) (.tmp 118)), none⟩, []⟩] [(41, 111), (42, 112), (43, 113), (44, 114), (45, 115), (46, 116), (47, 117), (48, 118), (49, 119), (50, 120), (51, 122), (52, 123)])) (.region [⟨some 39, .op (.mv (.tmp 11)), none⟩,
  ⟨some 40, .op (.bin .add .scalar (.tmp 39) (.const (.int .i64 1))), none⟩,
  ⟨some 11, .op (.mv (.tmp 40)), none⟩]))
noncomputable def milestonelaw2_AdjOwn_c2 : MCode := .seq [67] (.seq [64, 65, 66] (.region [⟨some 64, .op (.mv (.tmp 15)), none⟩,
  ⟨some 65, .op (.mv (.tmp 14)), none⟩,
  ⟨some 66, .op (.lenSl (.tmp 65)), none⟩,
  ⟨some 67, .op (.bin .lss .scalar (.tmp 64) (.tmp 66)), none⟩]) (.cond (.tmp 67) .skip (.exit 4))) (.seq [70, 71, 72, 73] (.block 5 (.region [⟨some 70, .op (.mv (.tmp 14)), none⟩,
  ⟨some 71, .op (.mv (.tmp 15)), none⟩,
  ⟨some 72, .op (.mv (.tmp 2)), none⟩,
  ⟨some 73, .op (.idxSl 1 (.tmp 70) (.tmp 71)), none⟩,
  ⟨none, .op (.store 1 (.tmp 73) (.tmp 72)), none⟩])) (.region [⟨some 68, .op (.mv (.tmp 15)), none⟩,
  ⟨some 69, .op (.bin .add .scalar (.tmp 68) (.const (.int .i64 1))), none⟩,
  ⟨some 15, .op (.mv (.tmp 69)), none⟩]))
noncomputable def milestonelaw2_AdjOwn_c3 : MCode := .seq [74, 75, 76, 77, 78, 79, 80, 81, 82, 83, 84, 85, 86, 87, 88, 89, 90, 91, 92, 93, 94, 95, 96, 97, 98, 99] (.region [⟨some 74, .op (.mv (.tmp 9)), none⟩,
  ⟨some 75, .op (.mv (.tmp 13)), none⟩,
  ⟨some 76, .call f_adj_Adj_Out [(.tmp 74), (.tmp 75)], none⟩,
  ⟨some 77, .op (.mv (.tmp 12)), none⟩,
  ⟨some 78, .op (.mv (.tmp 13)), none⟩,
  ⟨some 79, .call f_milestoneref2_Adj_Out [(.tmp 77), (.tmp 78)], none⟩,
  ⟨some 80, .call f_milestoneref1_Ints [(.tmp 76), (.tmp 79)], none⟩,
  ⟨some 81, .op (.un .not (.tmp 80)), none⟩,
  ⟨some 82, .op (.mv (.tmp 81)), none⟩,
  ⟨some 83, .op (.mv (.tmp 9)), some (82, false)⟩,
  ⟨some 84, .op (.mv (.tmp 13)), some (82, false)⟩,
  ⟨some 85, .call f_adj_Adj_In [(.tmp 83), (.tmp 84)], some (82, false)⟩,
  ⟨some 86, .op (.mv (.tmp 12)), some (82, false)⟩,
  ⟨some 87, .op (.mv (.tmp 13)), some (82, false)⟩,
  ⟨some 88, .call f_milestoneref2_Adj_In [(.tmp 86), (.tmp 87)], some (82, false)⟩,
  ⟨some 89, .call f_milestoneref1_Ints [(.tmp 85), (.tmp 88)], some (82, false)⟩,
  ⟨some 90, .op (.un .not (.tmp 89)), some (82, false)⟩,
  ⟨some 91, .op (.pick (.tmp 82) (.const (.bool true)) (.tmp 90)), none⟩,
  ⟨some 92, .op (.mv (.tmp 91)), none⟩,
  ⟨some 93, .op (.mv (.tmp 9)), some (92, false)⟩,
  ⟨some 94, .op (.mv (.tmp 13)), some (92, false)⟩,
  ⟨some 95, .call f_adj_Adj_Modes [(.tmp 93), (.tmp 94)], some (92, false)⟩,
  ⟨some 96, .op (.mv (.tmp 12)), some (92, false)⟩,
  ⟨some 97, .op (.mv (.tmp 13)), some (92, false)⟩,
  ⟨some 98, .call f_milestoneref2_Adj_Modes [(.tmp 96), (.tmp 97)], some (92, false)⟩,
  ⟨some 99, .op (.bin .neq .scalar (.tmp 95) (.tmp 98)), some (92, false)⟩,
  ⟨some 100, .op (.pick (.tmp 92) (.const (.bool true)) (.tmp 99)), none⟩]) (.cond (.tmp 100) (.seq [2, 8, 9, 10, 12, 13, 100] (.region [⟨some 6, .op (.mv (.const (.bool false))), none⟩]) .ret) .skip)
noncomputable def milestonelaw2_AdjOwn_c4 : MCode := .region [⟨some 59, .op (.mv (.tmp 13)), none⟩,
  ⟨some 60, .op (.bin .add .scalar (.tmp 59) (.const (.int .i64 1))), none⟩,
  ⟨some 13, .op (.mv (.tmp 60)), none⟩]
noncomputable def milestonelaw2_AdjOwn_c5 : MCode := .seq [58] (.seq [55, 56, 57] (.region [⟨some 55, .op (.mv (.tmp 13)), none⟩,
  ⟨some 56, .op (.fieldAddr 0 (.tmp 8)), none⟩,
  ⟨some 57, .op (.load none (.tmp 56)), none⟩,
  ⟨some 58, .op (.bin .lss .scalar (.tmp 55) (.tmp 57)), none⟩]) (.cond (.tmp 58) .skip (.exit 2))) (.seq [100] (.block 3 (.seq [61, 62, 63] (.region [⟨some 61, .op (.mv (.tmp 9)), none⟩,
  ⟨some 62, .op (.mv (.tmp 13)), none⟩,
  ⟨some 63, .call f_adj_Adj_Out [(.tmp 61), (.tmp 62)], none⟩,
  ⟨some 14, .op (.mv (.tmp 63)), none⟩]) (.seq [14, 15, 67] (.seq [] (.region [⟨some 15, .op (.mv (.const (.int .i64 0))), none⟩]) (.block 4 (.loop [68, 69] milestonelaw2_AdjOwn_c2))) (.lab milestonelaw2_AdjOwn_c3)))) (.lab milestonelaw2_AdjOwn_c4))
noncomputable def milestonelaw2_AdjOwn_c6 : MCode := .seq [10, 101, 102, 103, 104, 105, 106, 107, 108, 109, 110] (.region [⟨some 101, .op (.mv (.tmp 10)), none⟩,
  ⟨some 102, .call f_adj_Adj_Out [(.tmp 101), (.const (.int .i64 0))], none⟩,
  ⟨some 103, .op (.lenSl (.tmp 102)), none⟩,
  ⟨some 104, .op (.bin .eql .scalar (.tmp 103) (.const (.int .i64 0))), none⟩,
  ⟨some 105, .op (.mv (.tmp 104)), none⟩,
  ⟨some 106, .op (.mv (.tmp 10)), some (105, true)⟩,
  ⟨some 107, .call f_adj_Adj_Reach [(.tmp 106), (.const (.int .i64 2)), (.const (.int .i64 31))], some (105, true)⟩,
  ⟨some 108, .op (.lenSl (.tmp 107)), some (105, true)⟩,
  ⟨some 109, .op (.bin .eql .scalar (.tmp 108) (.const (.int .i64 1))), some (105, true)⟩,
  ⟨some 110, .op (.pick (.tmp 105) (.tmp 109) (.const (.bool false))), none⟩,
  ⟨some 6, .op (.mv (.tmp 110)), none⟩]) .ret
noncomputable def milestonelaw2_AdjOwn_c7 : MCode := .seq [53, 54] (.region [⟨some 53, .op (.load (some 2) (.tmp 8)), none⟩,
  ⟨some 54, .call f_milestoneref2_New [(.tmp 53)], none⟩,
  ⟨some 12, .op (.mv (.tmp 54)), none⟩]) (.seq [2, 8, 9, 12, 13, 58] (.seq [] (.region [⟨some 13, .op (.mv (.const (.int .i64 0))), none⟩]) (.block 2 (.loop [59, 60] milestonelaw2_AdjOwn_c5))) (.lab milestonelaw2_AdjOwn_c6))
def milestonelaw2_AdjOwn_rs : Res := [(6, none)]
noncomputable def milestonelaw2_AdjOwn_mf : MFn := ⟨111, milestonelaw2_AdjOwn_rs, .seq [6] (.region [⟨some 6, .op (.mv (.const (.bool false))), none⟩]) (.seq [17] (.seq [16] (.region [⟨some 16, .call f_milestonelaw2_known [], none⟩,
  ⟨some 17, .op (.un .not (.tmp 16)), none⟩]) (.cond (.tmp 17) (.seq [0, 1, 2, 17] (.region [⟨some 6, .op (.mv (.const (.bool false))), none⟩]) .ret) .skip)) (.seq [0, 1, 18, 19, 20, 21, 22, 23] (.region [⟨some 18, .op (.mv (.tmp 0)), none⟩,
  ⟨some 19, .op (.mv (.tmp 1)), none⟩,
  ⟨some 20, .call f_milestonelaw1_Make [(.tmp 18), (.tmp 19), (.const (.int .i64 2))], none⟩,
  ⟨some 21, .op (.mv (.tmp 0)), none⟩,
  ⟨some 22, .op (.mv (.tmp 1)), none⟩,
  ⟨some 23, .call f_milestonelaw1_Make [(.tmp 21), (.tmp 22), (.const (.int .i64 2))], none⟩,
  ⟨some 7, .op (.alloc [.int .i64 0, .nils]), none⟩,
  ⟨some 8, .op (.alloc [.int .i64 0, .nils]), none⟩,
  ⟨none, .op (.store 2 (.tmp 7) (.tmp 20)), none⟩,
  ⟨none, .op (.store 2 (.tmp 8) (.tmp 23)), none⟩]) (.seq [24, 25, 26, 27] (.region [⟨some 24, .op (.load (some 2) (.tmp 7)), none⟩,
  ⟨some 25, .call f_adj_New [(.tmp 24)], none⟩,
  ⟨some 26, .op (.build [.int .i64 0, .nils] [(0, 1, (.const (.int .i64 3)))]), none⟩,
  ⟨some 27, .call f_adj_New [(.tmp 26)], none⟩,
  ⟨some 9, .op (.mv (.tmp 25)), none⟩,
  ⟨some 10, .op (.mv (.tmp 27)), none⟩]) (.seq [33] (.seq [28, 29, 30, 31, 32] (.region [⟨some 28, .op (.mv (.tmp 9)), none⟩,
  ⟨some 29, .op (.bin .eql .ptr (.tmp 28) (.const .nilp)), none⟩,
  ⟨some 30, .op (.mv (.tmp 29)), none⟩,
  ⟨some 31, .op (.mv (.tmp 10)), some (30, false)⟩,
  ⟨some 32, .op (.bin .eql .ptr (.tmp 31) (.const .nilp)), some (30, false)⟩,
  ⟨some 33, .op (.pick (.tmp 30) (.const (.bool true)) (.tmp 32)), none⟩]) (.cond (.tmp 33) (.seq [2, 7, 8, 9, 10, 33] (.region [⟨some 6, .op (.mv (.const (.bool false))), none⟩]) .ret) .skip)) (.seq [7, 11, 38] (.seq [] (.region [⟨some 11, .op (.mv (.const (.int .i64 0))), none⟩]) (.block 0 (.loop [39, 40] milestonelaw2_AdjOwn_c1))) (.lab milestonelaw2_AdjOwn_c7))))))⟩
noncomputable def milestonelaw2_AdjOwn_l1 (T : Tab) (k j0 : Nat) (by2 n7 m8 a9 o10 i11 : AV) (h : Heap) : Option (AV × Heap) :=
  loopB T k milestonelaw2_AdjOwn_rs j0 [39, 40] milestonelaw2_AdjOwn_c1 [.blk 0, .seq [7, 11, 38] (.lab milestonelaw2_AdjOwn_c7)] [.undef, .undef, by2, .undef, .undef, .undef, .undef, n7, m8, a9, o10, i11, .undef, .undef, .undef, .undef, .undef, .undef, .undef, .undef, .undef, .undef, .undef, .undef, .undef, .undef, .undef, .undef, .undef, .undef, .undef, .undef, .undef, .undef, .undef, .undef, .undef, .undef, .undef, .undef, .undef, .undef, .undef, .undef, .undef, .undef, .undef, .undef, .undef, .undef, .undef, .undef, .undef, .undef, .undef, .undef, .undef, .undef, .undef, .undef, .undef, .undef, .undef, .undef, .undef, .undef, .undef, .undef, .undef, .undef, .undef, .undef, .undef, .undef, .undef, .undef, .undef, .undef, .undef, .undef, .undef, .undef, .undef, .undef, .undef, .undef, .undef, .undef, .undef, .undef, .undef, .undef, .undef, .undef, .undef, .undef, .undef, .undef, .undef, .undef, .undef, .undef, .undef, .undef, .undef, .undef, .undef, .undef, .undef, .undef, .undef] h
noncomputable def milestonelaw2_AdjOwn_b2 (T : Tab) (k : Nat) (by2 m8 a9 o10 : AV) (h : Heap) : Option (AV × Heap) :=
  evB T k milestonelaw2_AdjOwn_rs milestonelaw2_AdjOwn_c7 [] [.undef, .undef, by2, .undef, .undef, .undef, .undef, .undef, m8, a9, o10, .undef, .undef, .undef, .undef, .undef, .undef, .undef, .undef, .undef, .undef, .undef, .undef, .undef, .undef, .undef, .undef, .undef, .undef, .undef, .undef, .undef, .undef, .undef, .undef, .undef, .undef, .undef, .undef, .undef, .undef, .undef, .undef, .undef, .undef, .undef, .undef, .undef, .undef, .undef, .undef, .undef, .undef, .undef, .undef, .undef, .undef, .undef, .undef, .undef, .undef, .undef, .undef, .undef, .undef, .undef, .undef, .undef, .undef, .undef, .undef, .undef, .undef, .undef, .undef, .undef, .undef, .undef, .undef, .undef, .undef, .undef, .undef, .undef, .undef, .undef, .undef, .undef, .undef, .undef, .undef, .undef, .undef, .undef, .undef, .undef, .undef, .undef, .undef, .undef, .undef, .undef, .undef, .undef, .undef, .undef, .undef, .undef, .undef, .undef, .undef] h
noncomputable def milestonelaw2_AdjOwn_l3 (T : Tab) (k j0 : Nat) (by2 m8 a9 o10 x12 v13 : AV) (h : Heap) : Option (AV × Heap) :=
  loopB T k milestonelaw2_AdjOwn_rs j0 [59, 60] milestonelaw2_AdjOwn_c5 [.blk 2, .seq [2, 8, 9, 12, 13, 58] (.lab milestonelaw2_AdjOwn_c6)] [.undef, .undef, by2, .undef, .undef, .undef, .undef, .undef, m8, a9, o10, .undef, x12, v13, .undef, .undef, .undef, .undef, .undef, .undef, .undef, .undef, .undef, .undef, .undef, .undef, .undef, .undef, .undef, .undef, .undef, .undef, .undef, .undef, .undef, .undef, .undef, .undef, .undef, .undef, .undef, .undef, .undef, .undef, .undef, .undef, .undef, .undef, .undef, .undef, .undef, .undef, .undef, .undef, .undef, .undef, .undef, .undef, .undef, .undef, .undef, .undef, .undef, .undef, .undef, .undef, .undef, .undef, .undef, .undef, .undef, .undef, .undef, .undef, .undef, .undef, .undef, .undef, .undef, .undef, .undef, .undef, .undef, .undef, .undef, .undef, .undef, .undef, .undef, .undef, .undef, .undef, .undef, .undef, .undef, .undef, .undef, .undef, .undef, .undef, .undef, .undef, .undef, .undef, .undef, .undef, .undef, .undef, .undef, .undef, .undef] h
noncomputable def milestonelaw2_AdjOwn_l4 (T : Tab) (k j0 j1 : Nat) (by2 m8 a9 o10 x12 v13 l14 k15 : AV) (h : Heap) : Option (AV × Heap) :=
  loopB T k milestonelaw2_AdjOwn_rs j1 [68, 69] milestonelaw2_AdjOwn_c2 [.blk 4, .seq [14, 15, 67] (.lab milestonelaw2_AdjOwn_c3), .blk 3, .seq [100] (.lab milestonelaw2_AdjOwn_c4), .lp j0 [59, 60] milestonelaw2_AdjOwn_c5, .blk 2, .seq [2, 8, 9, 12, 13, 58] (.lab milestonelaw2_AdjOwn_c6)] [.undef, .undef, by2, .undef, .undef, .undef, .undef, .undef, m8, a9, o10, .undef, x12, v13, l14, k15, .undef, .undef, .undef, .undef, .undef, .undef, .undef, .undef, .undef, .undef, .undef, .undef, .undef, .undef, .undef, .undef, .undef, .undef, .undef, .undef, .undef, .undef, .undef, .undef, .undef, .undef, .undef, .undef, .undef, .undef, .undef, .undef, .undef, .undef, .undef, .undef, .undef, .undef, .undef, .undef, .undef, .undef, .undef, .undef, .undef, .undef, .undef, .undef, .undef, .undef, .undef, .undef, .undef, .undef, .undef, .undef, .undef, .undef, .undef, .undef, .undef, .undef, .undef, .undef, .undef, .undef, .undef, .undef, .undef, .undef, .undef, .undef, .undef, .undef, .undef, .undef, .undef, .undef, .undef, .undef, .undef, .undef, .undef, .undef, .undef, .undef, .undef, .undef, .undef, .undef, .undef, .undef, .undef, .undef, .undef] h
noncomputable def milestonelaw2_AdjOwn_b5 (T : Tab) (k j0 : Nat) (by2 m8 a9 o10 x12 v13 : AV) (h : Heap) : Option (AV × Heap) :=
  evB T k milestonelaw2_AdjOwn_rs milestonelaw2_AdjOwn_c3 [.blk 3, .seq [100] (.lab milestonelaw2_AdjOwn_c4), .lp j0 [59, 60] milestonelaw2_AdjOwn_c5, .blk 2, .seq [2, 8, 9, 12, 13, 58] (.lab milestonelaw2_AdjOwn_c6)] [.undef, .undef, by2, .undef, .undef, .undef, .undef, .undef, m8, a9, o10, .undef, x12, v13, .undef, .undef, .undef, .undef, .undef, .undef, .undef, .undef, .undef, .undef, .undef, .undef, .undef, .undef, .undef, .undef, .undef, .undef, .undef, .undef, .undef, .undef, .undef, .undef, .undef, .undef, .undef, .undef, .undef, .undef, .undef, .undef, .undef, .undef, .undef, .undef, .undef, .undef, .undef, .undef, .undef, .undef, .undef, .undef, .undef, .undef, .undef, .undef, .undef, .undef, .undef, .undef, .undef, .undef, .undef, .undef, .undef, .undef, .undef, .undef, .undef, .undef, .undef, .undef, .undef, .undef, .undef, .undef, .undef, .undef, .undef, .undef, .undef, .undef, .undef, .undef, .undef, .undef, .undef, .undef, .undef, .undef, .undef, .undef, .undef, .undef, .undef, .undef, .undef, .undef, .undef, .undef, .undef, .undef, .undef, .undef, .undef] h
noncomputable def milestonelaw2_AdjOwn_b6 (T : Tab) (k j0 : Nat) (by2 m8 a9 o10 x12 v13 : AV) (h : Heap) : Option (AV × Heap) :=
  evB T k milestonelaw2_AdjOwn_rs milestonelaw2_AdjOwn_c4 [.lp j0 [59, 60] milestonelaw2_AdjOwn_c5, .blk 2, .seq [2, 8, 9, 12, 13, 58] (.lab milestonelaw2_AdjOwn_c6)] [.undef, .undef, by2, .undef, .undef, .undef, .undef, .undef, m8, a9, o10, .undef, x12, v13, .undef, .undef, .undef, .undef, .undef, .undef, .undef, .undef, .undef, .undef, .undef, .undef, .undef, .undef, .undef, .undef, .undef, .undef, .undef, .undef, .undef, .undef, .undef, .undef, .undef, .undef, .undef, .undef, .undef, .undef, .undef, .undef, .undef, .undef, .undef, .undef, .undef, .undef, .undef, .undef, .undef, .undef, .undef, .undef, .undef, .undef, .undef, .undef, .undef, .undef, .undef, .undef, .undef, .undef, .undef, .undef, .undef, .undef, .undef, .undef, .undef, .undef, .undef, .undef, .undef, .undef, .undef, .undef, .undef, .undef, .undef, .undef, .undef, .undef, .undef, .undef, .undef, .undef, .undef, .undef, .undef, .undef, .undef, .undef, .undef, .undef, .undef, .undef, .undef, .undef, .undef, .undef, .undef, .undef, .undef, .undef, .undef] h
noncomputable def milestonelaw2_AdjOwn_b7 (T : Tab) (k : Nat) (o10 : AV) (h : Heap) : Option (AV × Heap) :=
  evB T k milestonelaw2_AdjOwn_rs milestonelaw2_AdjOwn_c6 [] [.undef, .undef, .undef, .undef, .undef, .undef, .undef, .undef, .undef, .undef, o10, .undef, .undef, .undef, .undef, .undef, .undef, .undef, .undef, .undef, .undef, .undef, .undef, .undef, .undef, .undef, .undef, .undef, .undef, .undef, .undef, .undef, .undef, .undef, .undef, .undef, .undef, .undef, .undef, .undef, .undef, .undef, .undef, .undef, .undef, .undef, .undef, .undef, .undef, .undef, .undef, .undef, .undef, .undef, .undef, .undef, .undef, .undef, .undef, .undef, .undef, .undef, .undef, .undef, .undef, .undef, .undef, .undef, .undef, .undef, .undef, .undef, .undef, .undef, .undef, .undef, .undef, .undef, .undef, .undef, .undef, .undef, .undef, .undef, .undef, .undef, .undef, .undef, .undef, .undef, .undef, .undef, .undef, .undef, .undef, .undef, .undef, .undef, .undef, .undef, .undef, .undef, .undef, .undef, .undef, .undef, .undef, .undef, .undef, .undef, .undef] h
theorem milestonelaw2_AdjOwn_b6_eq (T : Tab) (k j0 : Nat) (by2 m8 a9 o10 x12 v13 : AV) (h : Heap) : milestonelaw2_AdjOwn_b6 T k j0 by2 m8 a9 o10 x12 v13 h =
    oa (binV .add .scalar v13 (.int .i64 1)) fun t60_1 =>
    milestonelaw2_AdjOwn_l3 T k j0 by2 m8 a9 o10 x12 t60_1 h := blockEq (by kernel_rfl)
theorem milestonelaw2_AdjOwn_b5_eq (T : Tab) (k j0 : Nat) (by2 m8 a9 o10 x12 v13 : AV) (h : Heap) : milestonelaw2_AdjOwn_b5 T k j0 by2 m8 a9 o10 x12 v13 h =
    ob (evalFn T k f_adj_Adj_Out [a9, v13] h) fun t76_1 h_2 =>
    ob (evalFn T k f_milestoneref2_Adj_Out [x12, v13] h_2) fun t79_3 h_4 =>
    ob (evalFn T k f_milestoneref1_Ints [t76_1, t79_3] h_4) fun t80_5 h_6 =>
    oa (unV .not t80_5) fun t81_7 =>
    ob (gd t81_7 false (some (a9, h_6)) h_6) fun t83_8 h_9 =>
    ob (gd t81_7 false (some (v13, h_9)) h_9) fun t84_10 h_11 =>
    ob (gd t81_7 false (evalFn T k f_adj_Adj_In [t83_8, t84_10] h_11) h_11) fun t85_12 h_13 =>
    ob (gd t81_7 false (some (x12, h_13)) h_13) fun t86_14 h_15 =>
    ob (gd t81_7 false (some (v13, h_15)) h_15) fun t87_16 h_17 =>
    ob (gd t81_7 false (evalFn T k f_milestoneref2_Adj_In [t86_14, t87_16] h_17) h_17) fun t88_18 h_19 =>
    ob (gd t81_7 false (evalFn T k f_milestoneref1_Ints [t85_12, t88_18] h_19) h_19) fun t89_20 h_21 =>
    ob (gd t81_7 false (pure1 h_21 (unV .not t89_20)) h_21) fun t90_22 h_23 =>
    oa (pickV t81_7 (.bool true) t90_22) fun t91_24 =>
    ob (gd t91_24 false (some (a9, h_23)) h_23) fun t93_25 h_26 =>
    ob (gd t91_24 false (some (v13, h_26)) h_26) fun t94_27 h_28 =>
    ob (gd t91_24 false (evalFn T k f_adj_Adj_Modes [t93_25, t94_27] h_28) h_28) fun t95_29 h_30 =>
    ob (gd t91_24 false (some (x12, h_30)) h_30) fun t96_31 h_32 =>
    ob (gd t91_24 false (some (v13, h_32)) h_32) fun t97_33 h_34 =>
    ob (gd t91_24 false (evalFn T k f_milestoneref2_Adj_Modes [t96_31, t97_33] h_34) h_34) fun t98_35 h_36 =>
    ob (gd t91_24 false (pure1 h_36 (binV .neq .scalar t95_29 t98_35)) h_36) fun t99_37 h_38 =>
    oa (pickV t91_24 (.bool true) t99_37) fun t100_39 =>
    cond2 t100_39
      (
      some ((.bool false), h_38)
      )
      (
      milestonelaw2_AdjOwn_b6 T k j0 by2 m8 a9 o10 x12 v13 h_38
      ) := blockEq (by kernel_rfl)
theorem milestonelaw2_AdjOwn_l4_eq (T : Tab) (k j0 j1 : Nat) (by2 m8 a9 o10 x12 v13 l14 k15 : AV) (h : Heap) : milestonelaw2_AdjOwn_l4 T k j0 (j1 + 1) by2 m8 a9 o10 x12 v13 l14 k15 h =
    oa (lenS l14) fun t66_1 =>
    oa (binV .lss .scalar k15 t66_1) fun t67_2 =>
    cond2 t67_2
      (
      oa (idxS 1 l14 k15) fun t73_3 =>
      oh (stN 1 h t73_3 by2) fun h_4 =>
      oa (binV .add .scalar k15 (.int .i64 1)) fun t69_5 =>
      milestonelaw2_AdjOwn_l4 T k j0 j1 by2 m8 a9 o10 x12 v13 l14 t69_5 h_4
      )
      (
      milestonelaw2_AdjOwn_b5 T k j0 by2 m8 a9 o10 x12 v13 h
      ) := loopEq (by kernel_rfl)
theorem milestonelaw2_AdjOwn_b7_eq (T : Tab) (k : Nat) (o10 : AV) (h : Heap) : milestonelaw2_AdjOwn_b7 T k o10 h =
    ob (evalFn T k f_adj_Adj_Out [o10, (.int .i64 0)] h) fun t102_1 h_2 =>
    oa (lenS t102_1) fun t103_3 =>
    oa (binV .eql .scalar t103_3 (.int .i64 0)) fun t104_4 =>
    ob (gd t104_4 true (some (o10, h_2)) h_2) fun t106_5 h_6 =>
    ob (gd t104_4 true (evalFn T k f_adj_Adj_Reach [t106_5, (.int .i64 2), (.int .i64 31)] h_6) h_6) fun t107_7 h_8 =>
    ob (gd t104_4 true (pure1 h_8 (lenS t107_7)) h_8) fun t108_9 h_10 =>
    ob (gd t104_4 true (pure1 h_10 (binV .eql .scalar t108_9 (.int .i64 1))) h_10) fun t109_11 h_12 =>
    oa (pickV t104_4 t109_11 (.bool false)) fun t110_13 =>
    some (t110_13, h_12) := blockEq (by kernel_rfl)
theorem milestonelaw2_AdjOwn_l3_eq (T : Tab) (k j0 : Nat) (by2 m8 a9 o10 x12 v13 : AV) (h : Heap) : milestonelaw2_AdjOwn_l3 T k (j0 + 1) by2 m8 a9 o10 x12 v13 h =
    oa (fldA 0 m8) fun t56_1 =>
    oa (ld1 h t56_1) fun t57_2 =>
    oa (binV .lss .scalar v13 t57_2) fun t58_3 =>
    cond2 t58_3
      (
      ob (evalFn T k f_adj_Adj_Out [a9, v13] h) fun t63_4 h_5 =>
      milestonelaw2_AdjOwn_l4 T k j0 k by2 m8 a9 o10 x12 v13 t63_4 (.int .i64 0) h_5
      )
      (
      milestonelaw2_AdjOwn_b7 T k o10 h
      ) := loopEq (by kernel_rfl)
theorem milestonelaw2_AdjOwn_b2_eq (T : Tab) (k : Nat) (by2 m8 a9 o10 : AV) (h : Heap) : milestonelaw2_AdjOwn_b2 T k by2 m8 a9 o10 h =
    oa (ldN 2 h m8) fun t53_1 =>
    ob (evalFn T k f_milestoneref2_New [t53_1] h) fun t54_2 h_3 =>
    milestonelaw2_AdjOwn_l3 T k k by2 m8 a9 o10 t54_2 (.int .i64 0) h_3 := blockEq (by kernel_rfl)
theorem milestonelaw2_AdjOwn_l1_eq (T : Tab) (k j0 : Nat) (by2 n7 m8 a9 o10 i11 : AV) (h : Heap) : milestonelaw2_AdjOwn_l1 T k (j0 + 1) by2 n7 m8 a9 o10 i11 h =
    oa (fldA 1 n7) fun t35_1 =>
    oa (ld1 h t35_1) fun t36_2 =>
    oa (lenS t36_2) fun t37_3 =>
    oa (binV .lss .scalar i11 t37_3) fun t38_4 =>
    cond2 t38_4
      (
      oa (fldA 1 n7) fun t111_5 =>
      oa (ld1 h t111_5) fun t112_6 =>
      oa (fldA 1 n7) fun t114_7 =>
      oa (ld1 h t114_7) fun t115_8 =>
      ob (evalFn T k f_milestonelaw2_within [by2, (.int .i64 5)] h) fun t118_9 h_10 =>
      chk ((sameB (pure1 h_10 (ld1 h_10 t111_5)) t112_6 && (sameB (pure1 h_10 (ld1 h_10 t114_7)) t115_8 && true))) <|
      oa (idxS 4 t112_6 i11) fun t119_11 =>
      oa (fldA 0 t119_11) fun t120_12 =>
      oh (stN 1 h_10 t120_12 (.int .i64 0)) fun h_13 =>
      chk ((sameB (pure1 h_13 (ld1 h_13 t114_7)) t115_8 && true)) <|
      oa (idxS 4 t115_8 i11) fun t122_14 =>
      oa (fldA 2 t122_14) fun t123_15 =>
      oh (stN 1 h_13 t123_15 t118_9) fun h_16 =>
      oa (binV .add .scalar i11 (.int .i64 1)) fun t40_17 =>
      milestonelaw2_AdjOwn_l1 T k j0 by2 n7 m8 a9 o10 t40_17 h_16
      )
      (
      milestonelaw2_AdjOwn_b2 T k by2 m8 a9 o10 h
      ) := loopEq (by kernel_rfl)
theorem milestonelaw2_AdjOwn_eq (T : Tab) (k : Nat) (size0 ns1 by2 : AV) (h : Heap) : runF T k milestonelaw2_AdjOwn_mf [size0, ns1, by2] h =
    ob (evalFn T k f_milestonelaw2_known [] h) fun t16_1 h_2 =>
    oa (unV .not t16_1) fun t17_3 =>
    cond2 t17_3
      (
      some ((.bool false), h_2)
      )
      (
      ob (evalFn T k f_milestonelaw1_Make [size0, ns1, (.int .i64 2)] h_2) fun t20_4 h_5 =>
      ob (evalFn T k f_milestonelaw1_Make [size0, ns1, (.int .i64 2)] h_5) fun t23_6 h_7 =>
      ob (newVar h_7 [.int .i64 0, .nils]) fun n7_8 h_9 =>
      ob (newVar h_9 [.int .i64 0, .nils]) fun m8_10 h_11 =>
      oh (stN 2 h_11 n7_8 t20_4) fun h_12 =>
      oh (stN 2 h_12 m8_10 t23_6) fun h_13 =>
      oa (ldN 2 h_13 n7_8) fun t24_14 =>
      ob (evalFn T k f_adj_New [t24_14] h_13) fun t25_15 h_16 =>
      oa (buildV [.int .i64 0, .nils] [(0, 1, (.int .i64 3))]) fun t26_17 =>
      ob (evalFn T k f_adj_New [t26_17] h_16) fun t27_18 h_19 =>
      oa (binV .eql .ptr t25_15 .nilp) fun t29_20 =>
      ob (gd t29_20 false (some (t27_18, h_19)) h_19) fun t31_21 h_22 =>
      ob (gd t29_20 false (pure1 h_22 (binV .eql .ptr t31_21 .nilp)) h_22) fun t32_23 h_24 =>
      oa (pickV t29_20 (.bool true) t32_23) fun t33_25 =>
      cond2 t33_25
        (
        some ((.bool false), h_24)
        )
        (
        milestonelaw2_AdjOwn_l1 T k k by2 n7_8 m8_10 t25_15 t27_18 (.int .i64 0) h_24
        )
      ) := runEq (by kernel_rfl)
noncomputable def milestonelaw2_AdjTurned_c1 : MCode := .seq [28] (.seq [24, 25, 26, 27] (.region [⟨some 24, .op (.mv (.tmp 9)), none⟩,
  ⟨some 25, .op (.fieldAddr 1 (.tmp 7)), none⟩,
  ⟨some 26, .op (.load none (.tmp 25)), none⟩,
  ⟨some 27, .op (.lenSl (.tmp 26)), none⟩,
  ⟨some 28, .op (.bin .lss .scalar (.tmp 24) (.tmp 27)), none⟩]) (.cond (.tmp 28) .skip (.exit 0))) (.seq [10, 42, 43, 44, 45, 46, 47] (.block 1 (.seq [31, 32, 33, 34, 35] (.region [⟨some 31, .op (.fieldAddr 1 (.tmp 7)), none⟩,
  ⟨some 32, .op (.load none (.tmp 31)), none⟩,
  ⟨some 33, .op (.mv (.tmp 9)), none⟩,
  ⟨some 34, .op (.idxSl 4 (.tmp 32) (.tmp 33)), none⟩,
  ⟨some 35, .op (.load (some 4) (.tmp 34)), none⟩,
  ⟨some 10, .op (.alloc [.int .i64 0, .int .i64 0, .int .i64 0, .int .i64 0]), none⟩,
  ⟨none, .op (.store 4 (.tmp 10) (.tmp 35)), none⟩]) (.seq [36, 37, 38, 39, 40, 41] (.region [⟨some 36, .op (.fieldAddr 1 (.tmp 10)), none⟩,
  ⟨some 37, .op (.load none (.tmp 36)), none⟩,
  ⟨some 38, .op (.fieldAddr 0 (.tmp 10)), none⟩,
  ⟨some 39, .op (.load none (.tmp 38)), none⟩,
  ⟨some 40, .op (.fieldAddr 0 (.tmp 10)), none⟩,
  ⟨none, .op (.store 1 (.tmp 40) (.tmp 37)), none⟩,
  ⟨some 41, .op (.fieldAddr 1 (.tmp 10)), none⟩,
  ⟨none, .op (.store 1 (.tmp 41) (.tmp 39)), none⟩]) (.region [⟨some 42, .op (.fieldAddr 1 (.tmp 8)), none⟩,
  ⟨some 43, .op (.load none (.tmp 42)), none⟩,
  ⟨some 44, .op (.load (some 4) (.tmp 10)), none⟩,
  ⟨some 45, .op (.buildSlice 4 1 [.int .i64 0, .int .i64 0, .int .i64 0, .int .i64 0] [(0, 4, (.tmp 44))]), none⟩,
  ⟨some 46, .op (.append 4 32 (.tmp 43) (.tmp 45)), none⟩,
  ⟨some 47, .op (.fieldAddr 1 (.tmp 8)), none⟩,
  ⟨none, .op (.store 1 (.tmp 47) (.tmp 46)), none⟩])))) (.region [⟨some 29, .op (.mv (.tmp 9)), none⟩,
  ⟨some 30, .op (.bin .add .scalar (.tmp 29) (.const (.int .i64 1))), none⟩,
  ⟨some 9, .op (.mv (.tmp 30)), none⟩]))
noncomputable def milestonelaw2_AdjTurned_c2 : MCode := .seq [96] (.seq [93, 94, 95] (.region [⟨some 93, .op (.mv (.tmp 15)), none⟩,
  ⟨some 94, .op (.fieldAddr 0 (.tmp 7)), none⟩,
  ⟨some 95, .op (.load none (.tmp 94)), none⟩,
  ⟨some 96, .op (.bin .lss .scalar (.tmp 93) (.tmp 95)), none⟩]) (.cond (.tmp 96) .skip (.exit 4))) (.seq [111] (.block 5 (.seq [99, 100, 101, 102, 103, 104, 105, 106, 107, 108, 109, 110] (.region [⟨some 99, .op (.mv (.tmp 11)), none⟩,
  ⟨some 100, .op (.mv (.tmp 14)), none⟩,
  ⟨some 101, .op (.mv (.tmp 13)), none⟩,
  ⟨some 102, .call f_adj_Adj_Reach [(.tmp 99), (.tmp 100), (.tmp 101)], none⟩,
  ⟨some 103, .op (.mv (.tmp 15)), none⟩,
  ⟨some 104, .call f_milestonelaw2_has [(.tmp 102), (.tmp 103)], none⟩,
  ⟨some 105, .op (.mv (.tmp 12)), none⟩,
  ⟨some 106, .op (.mv (.tmp 15)), none⟩,
  ⟨some 107, .op (.mv (.tmp 13)), none⟩,
  ⟨some 108, .call f_adj_Adj_Reach [(.tmp 105), (.tmp 106), (.tmp 107)], none⟩,
  ⟨some 109, .op (.mv (.tmp 14)), none⟩,
  ⟨some 110, .call f_milestonelaw2_has [(.tmp 108), (.tmp 109)], none⟩,
  ⟨some 111, .op (.bin .neq .bool (.tmp 104) (.tmp 110)), none⟩]) (.cond (.tmp 111) (.seq [7, 11, 12, 13, 14, 15, 111] (.region [⟨some 6, .op (.mv (.const (.bool false))), none⟩]) .ret) .skip))) (.region [⟨some 97, .op (.mv (.tmp 15)), none⟩,
  ⟨some 98, .op (.bin .add .scalar (.tmp 97) (.const (.int .i64 1))), none⟩,
  ⟨some 15, .op (.mv (.tmp 98)), none⟩]))
noncomputable def milestonelaw2_AdjTurned_c3 : MCode := .region [⟨some 64, .op (.mv (.tmp 14)), none⟩,
  ⟨some 65, .op (.bin .add .scalar (.tmp 64) (.const (.int .i64 1))), none⟩,
  ⟨some 14, .op (.mv (.tmp 65)), none⟩]
noncomputable def milestonelaw2_AdjTurned_c4 : MCode := .seq [63] (.seq [60, 61, 62] (.region [⟨some 60, .op (.mv (.tmp 14)), none⟩,
  ⟨some 61, .op (.fieldAddr 0 (.tmp 7)), none⟩,
  ⟨some 62, .op (.load none (.tmp 61)), none⟩,
  ⟨some 63, .op (.bin .lss .scalar (.tmp 60) (.tmp 62)), none⟩]) (.cond (.tmp 63) .skip (.exit 2))) (.seq [15, 96] (.block 3 (.seq [92] (.seq [66, 67, 68, 69, 70, 71, 72, 73, 74, 75, 76, 77, 78, 79, 80, 81, 82, 83, 84, 85, 86, 87, 88, 89, 90, 91] (.region [⟨some 66, .op (.mv (.tmp 11)), none⟩,
  ⟨some 67, .op (.mv (.tmp 14)), none⟩,
  ⟨some 68, .call f_adj_Adj_Out [(.tmp 66), (.tmp 67)], none⟩,
  ⟨some 69, .op (.mv (.tmp 12)), none⟩,
  ⟨some 70, .op (.mv (.tmp 14)), none⟩,
  ⟨some 71, .call f_adj_Adj_In [(.tmp 69), (.tmp 70)], none⟩,
  ⟨some 72, .call f_milestoneref1_Ints [(.tmp 68), (.tmp 71)], none⟩,
  ⟨some 73, .op (.un .not (.tmp 72)), none⟩,
  ⟨some 74, .op (.mv (.tmp 73)), none⟩,
  ⟨some 75, .op (.mv (.tmp 11)), some (74, false)⟩,
  ⟨some 76, .op (.mv (.tmp 14)), some (74, false)⟩,
  ⟨some 77, .call f_adj_Adj_In [(.tmp 75), (.tmp 76)], some (74, false)⟩,
  ⟨some 78, .op (.mv (.tmp 12)), some (74, false)⟩,
  ⟨some 79, .op (.mv (.tmp 14)), some (74, false)⟩,
  ⟨some 80, .call f_adj_Adj_Out [(.tmp 78), (.tmp 79)], some (74, false)⟩,
  ⟨some 81, .call f_milestoneref1_Ints [(.tmp 77), (.tmp 80)], some (74, false)⟩,
  ⟨some 82, .op (.un .not (.tmp 81)), some (74, false)⟩,
  ⟨some 83, .op (.pick (.tmp 74) (.const (.bool true)) (.tmp 82)), none⟩,
  ⟨some 84, .op (.mv (.tmp 83)), none⟩,
  ⟨some 85, .op (.mv (.tmp 11)), some (84, false)⟩,
  ⟨some 86, .op (.mv (.tmp 14)), some (84, false)⟩,
  ⟨some 87, .call f_adj_Adj_Modes [(.tmp 85), (.tmp 86)], some (84, false)⟩,
  ⟨some 88, .op (.mv (.tmp 12)), some (84, false)⟩,
  ⟨some 89, .op (.mv (.tmp 14)), some (84, false)⟩,
  ⟨some 90, .call f_adj_Adj_Modes [(.tmp 88), (.tmp 89)], some (84, false)⟩,
  ⟨some 91, .op (.bin .neq .scalar (.tmp 87) (.tmp 90)), some (84, false)⟩,
  ⟨some 92, .op (.pick (.tmp 84) (.const (.bool true)) (.tmp 91)), none⟩]) (.cond (.tmp 92) (.seq [7, 11, 12, 13, 14, 92] (.region [⟨some 6, .op (.mv (.const (.bool false))), none⟩]) .ret) .skip)) (.seq [] (.region [⟨some 15, .op (.mv (.const (.int .i64 0))), none⟩]) (.block 4 (.loop [97, 98] milestonelaw2_AdjTurned_c2))))) (.lab milestonelaw2_AdjTurned_c3))
noncomputable def milestonelaw2_AdjTurned_c5 : MCode := .seq [8, 48, 49, 50, 51] (.regionD 112 [⟨0, ⟨some 112, .op (.load (some 2) (.tmp 7)), none⟩, []⟩,
  ⟨2, ⟨some 114, .op (.load (some 2) (.tmp 8)), none⟩, []⟩,
  ⟨1, ⟨some 113, .call f_adj_New [(.tmp 112)], none⟩, [(114, ⟨some 114, .op (.load (some 2) (.tmp 8)), none⟩)]⟩,
  ⟨3, ⟨some 115, .call f_adj_New [(.tmp 114)], none⟩, []⟩,
  ⟨4, ⟨some 116, .op (.mv (.tmp 113)), none⟩, []⟩,
  ⟨5, ⟨some 117, .op (.mv (.tmp 115)), none⟩, []⟩] [(48, 112), (49, 113), (50, 114), (51, 115), (11, 116), (12, 117)]) (.seq [57] (.seq [52, 53, 54, 55, 56] (.region [⟨some 52, .op (.mv (.tmp 11)), none⟩,
  ⟨some 53, .op (.bin .eql .ptr (.tmp 52) (.const .nilp)), none⟩,
  ⟨some 54, .op (.mv (.tmp 53)), none⟩,
  ⟨some 55, .op (.mv (.tmp 12)), some (54, false)⟩,
  ⟨some 56, .op (.bin .eql .ptr (.tmp 55) (.const .nilp)), some (54, false)⟩,
  ⟨some 57, .op (.pick (.tmp 54) (.const (.bool true)) (.tmp 56)), none⟩]) (.cond (.tmp 57) (.seq [2, 7, 11, 12, 57] (.region [⟨some 6, .op (.mv (.const (.bool false))), none⟩]) .ret) .skip)) (.seq [2, 58, 59] (.region [⟨some 58, .op (.mv (.tmp 2)), none⟩,
  ⟨some 59, .call f_milestonelaw2_within [(.tmp 58), (.const (.int .i64 32))], none⟩,
  ⟨some 13, .op (.mv (.tmp 59)), none⟩]) (.seq [7, 11, 12, 13, 14, 63] (.seq [] (.region [⟨some 14, .op (.mv (.const (.int .i64 0))), none⟩]) (.block 2 (.loop [64, 65] milestonelaw2_AdjTurned_c4))) (.seq [] (.region [⟨some 6, .op (.mv (.const (.bool true))), none⟩]) .ret))))
def milestonelaw2_AdjTurned_rs : Res := [(6, none)]
noncomputable def milestonelaw2_AdjTurned_mf : MFn := ⟨112, milestonelaw2_AdjTurned_rs, .seq [6] (.region [⟨some 6, .op (.mv (.const (.bool false))), none⟩]) (.seq [17] (.seq [16] (.region [⟨some 16, .call f_milestonelaw2_known [], none⟩,
  ⟨some 17, .op (.un .not (.tmp 16)), none⟩]) (.cond (.tmp 17) (.seq [0, 1, 2, 17] (.region [⟨some 6, .op (.mv (.const (.bool false))), none⟩]) .ret) .skip)) (.seq [0, 1, 18, 19, 20] (.region [⟨some 18, .op (.mv (.tmp 0)), none⟩,
  ⟨some 19, .op (.mv (.tmp 1)), none⟩,
  ⟨some 20, .call f_milestonelaw1_Make [(.tmp 18), (.tmp 19), (.const (.int .i64 2))], none⟩,
  ⟨some 7, .op (.alloc [.int .i64 0, .nils]), none⟩,
  ⟨none, .op (.store 2 (.tmp 7) (.tmp 20)), none⟩]) (.seq [21, 22, 23] (.region [⟨some 21, .op (.fieldAddr 0 (.tmp 7)), none⟩,
  ⟨some 22, .op (.load none (.tmp 21)), none⟩,
  ⟨some 23, .op (.build [.int .i64 0, .nils] [(0, 1, (.tmp 22))]), none⟩,
  ⟨some 8, .op (.alloc [.int .i64 0, .nils]), none⟩,
  ⟨none, .op (.store 2 (.tmp 8) (.tmp 23)), none⟩]) (.seq [9, 28] (.seq [] (.region [⟨some 9, .op (.mv (.const (.int .i64 0))), none⟩]) (.block 0 (.loop [29, 30] milestonelaw2_AdjTurned_c1))) (.lab milestonelaw2_AdjTurned_c5)))))⟩
noncomputable def milestonelaw2_AdjTurned_l1 (T : Tab) (k j0 : Nat) (set2 n7 m8 i9 : AV) (h : Heap) : Option (AV × Heap) :=
  loopB T k milestonelaw2_AdjTurned_rs j0 [29, 30] milestonelaw2_AdjTurned_c1 [.blk 0, .seq [9, 28] (.lab milestonelaw2_AdjTurned_c5)] [.undef, .undef, set2, .undef, .undef, .undef, .undef, n7, m8, i9, .undef, .undef, .undef, .undef, .undef, .undef, .undef, .undef, .undef, .undef, .undef, .undef, .undef, .undef, .undef, .undef, .undef, .undef, .undef, .undef, .undef, .undef, .undef, .undef, .undef, .undef, .undef, .undef, .undef, .undef, .undef, .undef, .undef, .undef, .undef, .undef, .undef, .undef, .undef, .undef, .undef, .undef, .undef, .undef, .undef, .undef, .undef, .undef, .undef, .undef, .undef, .undef, .undef, .undef, .undef, .undef, .undef, .undef, .undef, .undef, .undef, .undef, .undef, .undef, .undef, .undef, .undef, .undef, .undef, .undef, .undef, .undef, .undef, .undef, .undef, .undef, .undef, .undef, .undef, .undef, .undef, .undef, .undef, .undef, .undef, .undef, .undef, .undef, .undef, .undef, .undef, .undef, .undef, .undef, .undef, .undef, .undef, .undef, .undef, .undef, .undef, .undef] h
noncomputable def milestonelaw2_AdjTurned_b2 (T : Tab) (k : Nat) (set2 n7 m8 : AV) (h : Heap) : Option (AV × Heap) :=
  evB T k milestonelaw2_AdjTurned_rs milestonelaw2_AdjTurned_c5 [] [.undef, .undef, set2, .undef, .undef, .undef, .undef, n7, m8, .undef, .undef, .undef, .undef, .undef, .undef, .undef, .undef, .undef, .undef, .undef, .undef, .undef, .undef, .undef, .undef, .undef, .undef, .undef, .undef, .undef, .undef, .undef, .undef, .undef, .undef, .undef, .undef, .undef, .undef, .undef, .undef, .undef, .undef, .undef, .undef, .undef, .undef, .undef, .undef, .undef, .undef, .undef, .undef, .undef, .undef, .undef, .undef, .undef, .undef, .undef, .undef, .undef, .undef, .undef, .undef, .undef, .undef, .undef, .undef, .undef, .undef, .undef, .undef, .undef, .undef, .undef, .undef, .undef, .undef, .undef, .undef, .undef, .undef, .undef, .undef, .undef, .undef, .undef, .undef, .undef, .undef, .undef, .undef, .undef, .undef, .undef, .undef, .undef, .undef, .undef, .undef, .undef, .undef, .undef, .undef, .undef, .undef, .undef, .undef, .undef, .undef, .undef] h
noncomputable def milestonelaw2_AdjTurned_l3 (T : Tab) (k j0 : Nat) (n7 a11 b12 s13 v14 : AV) (h : Heap) : Option (AV × Heap) :=
  loopB T k milestonelaw2_AdjTurned_rs j0 [64, 65] milestonelaw2_AdjTurned_c4 [.blk 2, .seq [7, 11, 12, 13, 14, 63] (.seq [] (.region [⟨some 6, .op (.mv (.const (.bool true))), none⟩]) .ret)] [.undef, .undef, .undef, .undef, .undef, .undef, .undef, n7, .undef, .undef, .undef, a11, b12, s13, v14, .undef, .undef, .undef, .undef, .undef, .undef, .undef, .undef, .undef, .undef, .undef, .undef, .undef, .undef, .undef, .undef, .undef, .undef, .undef, .undef, .undef, .undef, .undef, .undef, .undef, .undef, .undef, .undef, .undef, .undef, .undef, .undef, .undef, .undef, .undef, .undef, .undef, .undef, .undef, .undef, .undef, .undef, .undef, .undef, .undef, .undef, .undef, .undef, .undef, .undef, .undef, .undef, .undef, .undef, .undef, .undef, .undef, .undef, .undef, .undef, .undef, .undef, .undef, .undef, .undef, .undef, .undef, .undef, .undef, .undef, .undef, .undef, .undef, .undef, .undef, .undef, .undef, .undef, .undef, .undef, .undef, .undef, .undef, .undef, .undef, .undef, .undef, .undef, .undef, .undef, .undef, .undef, .undef, .undef, .undef, .undef, .undef] h
noncomputable def milestonelaw2_AdjTurned_l4 (T : Tab) (k j0 j1 : Nat) (n7 a11 b12 s13 v14 u15 : AV) (h : Heap) : Option (AV × Heap) :=
  loopB T k milestonelaw2_AdjTurned_rs j1 [97, 98] milestonelaw2_AdjTurned_c2 [.blk 4, .blk 3, .seq [15, 96] (.lab milestonelaw2_AdjTurned_c3), .lp j0 [64, 65] milestonelaw2_AdjTurned_c4, .blk 2, .seq [7, 11, 12, 13, 14, 63] (.seq [] (.region [⟨some 6, .op (.mv (.const (.bool true))), none⟩]) .ret)] [.undef, .undef, .undef, .undef, .undef, .undef, .undef, n7, .undef, .undef, .undef, a11, b12, s13, v14, u15, .undef, .undef, .undef, .undef, .undef, .undef, .undef, .undef, .undef, .undef, .undef, .undef, .undef, .undef, .undef, .undef, .undef, .undef, .undef, .undef, .undef, .undef, .undef, .undef, .undef, .undef, .undef, .undef, .undef, .undef, .undef, .undef, .undef, .undef, .undef, .undef, .undef, .undef, .undef, .undef, .undef, .undef, .undef, .undef, .undef, .undef, .undef, .undef, .undef, .undef, .undef, .undef, .undef, .undef, .undef, .undef, .undef, .undef, .undef, .undef, .undef, .undef, .undef, .undef, .undef, .undef, .undef, .undef, .undef, .undef, .undef, .undef, .undef, .undef, .undef, .undef, .undef, .undef, .undef, .undef, .undef, .undef, .undef, .undef, .undef, .undef, .undef, .undef, .undef, .undef, .undef, .undef, .undef, .undef, .undef, .undef] h
noncomputable def milestonelaw2_AdjTurned_b5 (T : Tab) (k j0 : Nat) (n7 a11 b12 s13 v14 : AV) (h : Heap) : Option (AV × Heap) :=
  evB T k milestonelaw2_AdjTurned_rs milestonelaw2_AdjTurned_c3 [.lp j0 [64, 65] milestonelaw2_AdjTurned_c4, .blk 2, .seq [7, 11, 12, 13, 14, 63] (.seq [] (.region [⟨some 6, .op (.mv (.const (.bool true))), none⟩]) .ret)] [.undef, .undef, .undef, .undef, .undef, .undef, .undef, n7, .undef, .undef, .undef, a11, b12, s13, v14, .undef, .undef, .undef, .undef, .undef, .undef, .undef, .undef, .undef, .undef, .undef, .undef, .undef, .undef, .undef, .undef, .undef, .undef, .undef, .undef, .undef, .undef, .undef, .undef, .undef, .undef, .undef, .undef, .undef, .undef, .undef, .undef, .undef, .undef, .undef, .undef, .undef, .undef, .undef, .undef, .undef, .undef, .undef, .undef, .undef, .undef, .undef, .undef, .undef, .undef, .undef, .undef, .undef, .undef, .undef, .undef, .undef, .undef, .undef, .undef, .undef, .undef, .undef, .undef, .undef, .undef, .undef, .undef, .undef, .undef, .undef, .undef, .undef, .undef, .undef, .undef, .undef, .undef, .undef, .undef, .undef, .undef, .undef, .undef, .undef, .undef, .undef, .undef, .undef, .undef, .undef, .undef, .undef, .undef, .undef, .undef, .undef] h
theorem milestonelaw2_AdjTurned_b5_eq (T : Tab) (k j0 : Nat) (n7 a11 b12 s13 v14 : AV) (h : Heap) : milestonelaw2_AdjTurned_b5 T k j0 n7 a11 b12 s13 v14 h =
    oa (binV .add .scalar v14 (.int .i64 1)) fun t65_1 =>
    milestonelaw2_AdjTurned_l3 T k j0 n7 a11 b12 s13 t65_1 h := blockEq (by kernel_rfl)
theorem milestonelaw2_AdjTurned_l4_eq (T : Tab) (k j0 j1 : Nat) (n7 a11 b12 s13 v14 u15 : AV) (h : Heap) : milestonelaw2_AdjTurned_l4 T k j0 (j1 + 1) n7 a11 b12 s13 v14 u15 h =
    oa (fldA 0 n7) fun t94_1 =>
    oa (ld1 h t94_1) fun t95_2 =>
    oa (binV .lss .scalar u15 t95_2) fun t96_3 =>
    cond2 t96_3
      (
      ob (evalFn T k f_adj_Adj_Reach [a11, v14, s13] h) fun t102_4 h_5 =>
      ob (evalFn T k f_milestonelaw2_has [t102_4, u15] h_5) fun t104_6 h_7 =>
      ob (evalFn T k f_adj_Adj_Reach [b12, u15, s13] h_7) fun t108_8 h_9 =>
      ob (evalFn T k f_milestonelaw2_has [t108_8, v14] h_9) fun t110_10 h_11 =>
      oa (binV .neq .bool t104_6 t110_10) fun t111_12 =>
      cond2 t111_12
        (
        some ((.bool false), h_11)
        )
        (
        oa (binV .add .scalar u15 (.int .i64 1)) fun t98_13 =>
        milestonelaw2_AdjTurned_l4 T k j0 j1 n7 a11 b12 s13 v14 t98_13 h_11
        )
      )
      (
      milestonelaw2_AdjTurned_b5 T k j0 n7 a11 b12 s13 v14 h
      ) := loopEq (by kernel_rfl)
theorem milestonelaw2_AdjTurned_l3_eq (T : Tab) (k j0 : Nat) (n7 a11 b12 s13 v14 : AV) (h : Heap) : milestonelaw2_AdjTurned_l3 T k (j0 + 1) n7 a11 b12 s13 v14 h =
    oa (fldA 0 n7) fun t61_1 =>
    oa (ld1 h t61_1) fun t62_2 =>
    oa (binV .lss .scalar v14 t62_2) fun t63_3 =>
    cond2 t63_3
      (
      ob (evalFn T k f_adj_Adj_Out [a11, v14] h) fun t68_4 h_5 =>
      ob (evalFn T k f_adj_Adj_In [b12, v14] h_5) fun t71_6 h_7 =>
      ob (evalFn T k f_milestoneref1_Ints [t68_4, t71_6] h_7) fun t72_8 h_9 =>
      oa (unV .not t72_8) fun t73_10 =>
      ob (gd t73_10 false (some (a11, h_9)) h_9) fun t75_11 h_12 =>
      ob (gd t73_10 false (some (v14, h_12)) h_12) fun t76_13 h_14 =>
      ob (gd t73_10 false (evalFn T k f_adj_Adj_In [t75_11, t76_13] h_14) h_14) fun t77_15 h_16 =>
      ob (gd t73_10 false (some (b12, h_16)) h_16) fun t78_17 h_18 =>
      ob (gd t73_10 false (some (v14, h_18)) h_18) fun t79_19 h_20 =>
      ob (gd t73_10 false (evalFn T k f_adj_Adj_Out [t78_17, t79_19] h_20) h_20) fun t80_21 h_22 =>
      ob (gd t73_10 false (evalFn T k f_milestoneref1_Ints [t77_15, t80_21] h_22) h_22) fun t81_23 h_24 =>
      ob (gd t73_10 false (pure1 h_24 (unV .not t81_23)) h_24) fun t82_25 h_26 =>
      oa (pickV t73_10 (.bool true) t82_25) fun t83_27 =>
      ob (gd t83_27 false (some (a11, h_26)) h_26) fun t85_28 h_29 =>
      ob (gd t83_27 false (some (v14, h_29)) h_29) fun t86_30 h_31 =>
      ob (gd t83_27 false (evalFn T k f_adj_Adj_Modes [t85_28, t86_30] h_31) h_31) fun t87_32 h_33 =>
      ob (gd t83_27 false (some (b12, h_33)) h_33) fun t88_34 h_35 =>
      ob (gd t83_27 false (some (v14, h_35)) h_35) fun t89_36 h_37 =>
      ob (gd t83_27 false (evalFn T k f_adj_Adj_Modes [t88_34, t89_36] h_37) h_37) fun t90_38 h_39 =>
      ob (gd t83_27 false (pure1 h_39 (binV .neq .scalar t87_32 t90_38)) h_39) fun t91_40 h_41 =>
      oa (pickV t83_27 (.bool true) t91_40) fun t92_42 =>
      cond2 t92_42
        (
        some ((.bool false), h_41)
        )
        (
        milestonelaw2_AdjTurned_l4 T k j0 k n7 a11 b12 s13 v14 (.int .i64 0) h_41
        )
      )
      (
      some ((.bool true), h)
      ) := loopEq (by kernel_rfl)
theorem milestonelaw2_AdjTurned_b2_eq (T : Tab) (k : Nat) (set2 n7 m8 : AV) (h : Heap) : milestonelaw2_AdjTurned_b2 T k set2 n7 m8 h =
    oa (ldN 2 h n7) fun t112_1 =>
    oa (ldN 2 h m8) fun t114_2 =>
    ob (evalFn T k f_adj_New [t112_1] h) fun t113_3 h_4 =>
    chk ((sameB (pure1 h_4 (ldN 2 h_4 m8)) t114_2 && true)) <|
    ob (evalFn T k f_adj_New [t114_2] h_4) fun t115_5 h_6 =>
    oa (binV .eql .ptr t113_3 .nilp) fun t53_7 =>
    ob (gd t53_7 false (some (t115_5, h_6)) h_6) fun t55_8 h_9 =>
    ob (gd t53_7 false (pure1 h_9 (binV .eql .ptr t55_8 .nilp)) h_9) fun t56_10 h_11 =>
    oa (pickV t53_7 (.bool true) t56_10) fun t57_12 =>
    cond2 t57_12
      (
      some ((.bool false), h_11)
      )
      (
      ob (evalFn T k f_milestonelaw2_within [set2, (.int .i64 32)] h_11) fun t59_13 h_14 =>
      milestonelaw2_AdjTurned_l3 T k k n7 t113_3 t115_5 t59_13 (.int .i64 0) h_14
      ) := blockEq (by kernel_rfl)
theorem milestonelaw2_AdjTurned_l1_eq (T : Tab) (k j0 : Nat) (set2 n7 m8 i9 : AV) (h : Heap) : milestonelaw2_AdjTurned_l1 T k (j0 + 1) set2 n7 m8 i9 h =
    oa (fldA 1 n7) fun t25_1 =>
    oa (ld1 h t25_1) fun t26_2 =>
    oa (lenS t26_2) fun t27_3 =>
    oa (binV .lss .scalar i9 t27_3) fun t28_4 =>
    cond2 t28_4
      (
      oa (fldA 1 n7) fun t31_5 =>
      oa (ld1 h t31_5) fun t32_6 =>
      oa (idxS 4 t32_6 i9) fun t34_7 =>
      oa (ldN 4 h t34_7) fun t35_8 =>
      ob (newVar h [.int .i64 0, .int .i64 0, .int .i64 0, .int .i64 0]) fun e10_9 h_10 =>
      oh (stN 4 h_10 e10_9 t35_8) fun h_11 =>
      oa (fldA 1 e10_9) fun t36_12 =>
      oa (ld1 h_11 t36_12) fun t37_13 =>
      oa (fldA 0 e10_9) fun t38_14 =>
      oa (ld1 h_11 t38_14) fun t39_15 =>
      oa (fldA 0 e10_9) fun t40_16 =>
      oh (stN 1 h_11 t40_16 t37_13) fun h_17 =>
      oa (fldA 1 e10_9) fun t41_18 =>
      oh (stN 1 h_17 t41_18 t39_15) fun h_19 =>
      oa (fldA 1 m8) fun t42_20 =>
      oa (ld1 h_19 t42_20) fun t43_21 =>
      oa (ldN 4 h_19 e10_9) fun t44_22 =>
      ob (buildSl 4 1 [.int .i64 0, .int .i64 0, .int .i64 0, .int .i64 0] [(0, 4, t44_22)] h_19) fun t45_23 h_24 =>
      ob (apnd 4 32 t43_21 t45_23 h_24) fun t46_25 h_26 =>
      oa (fldA 1 m8) fun t47_27 =>
      oh (stN 1 h_26 t47_27 t46_25) fun h_28 =>
      oa (binV .add .scalar i9 (.int .i64 1)) fun t30_29 =>
      milestonelaw2_AdjTurned_l1 T k j0 set2 n7 m8 t30_29 h_28
      )
      (
      milestonelaw2_AdjTurned_b2 T k set2 n7 m8 h
      ) := loopEq (by kernel_rfl)
theorem milestonelaw2_AdjTurned_eq (T : Tab) (k : Nat) (size0 ns1 set2 : AV) (h : Heap) : runF T k milestonelaw2_AdjTurned_mf [size0, ns1, set2] h =
    ob (evalFn T k f_milestonelaw2_known [] h) fun t16_1 h_2 =>
    oa (unV .not t16_1) fun t17_3 =>
    cond2 t17_3
      (
      some ((.bool false), h_2)
      )
      (
      ob (evalFn T k f_milestonelaw1_Make [size0, ns1, (.int .i64 2)] h_2) fun t20_4 h_5 =>
      ob (newVar h_5 [.int .i64 0, .nils]) fun n7_6 h_7 =>
      oh (stN 2 h_7 n7_6 t20_4) fun h_8 =>
      oa (fldA 0 n7_6) fun t21_9 =>
      oa (ld1 h_8 t21_9) fun t22_10 =>
      oa (buildV [.int .i64 0, .nils] [(0, 1, t22_10)]) fun t23_11 =>
      ob (newVar h_8 [.int .i64 0, .nils]) fun m8_12 h_13 =>
      oh (stN 2 h_13 m8_12 t23_11) fun h_14 =>
      milestonelaw2_AdjTurned_l1 T k k set2 n7_6 m8_12 (.int .i64 0) h_14
      ) := runEq (by kernel_rfl)
noncomputable def milestonelaw2_AdjLine_c1 : MCode := .seq [26] (.seq [23, 24, 25] (.region [⟨some 23, .op (.mv (.tmp 9)), none⟩,
  ⟨some 24, .op (.bin .add .scalar (.tmp 23) (.const (.int .i64 1))), none⟩,
  ⟨some 25, .op (.mv (.tmp 7)), none⟩,
  ⟨some 26, .op (.bin .lss .scalar (.tmp 24) (.tmp 25)), none⟩]) (.cond (.tmp 26) .skip (.exit 0))) (.seq [29, 30, 31, 32, 33, 34, 35, 36, 37, 38, 39] (.block 1 (.region [⟨some 29, .op (.fieldAddr 1 (.tmp 8)), none⟩,
  ⟨some 30, .op (.load none (.tmp 29)), none⟩,
  ⟨some 31, .op (.mv (.tmp 9)), none⟩,
  ⟨some 32, .op (.mv (.tmp 9)), none⟩,
  ⟨some 33, .op (.bin .add .scalar (.tmp 32) (.const (.int .i64 1))), none⟩,
  ⟨some 34, .op (.mv (.tmp 9)), none⟩,
  ⟨some 35, .op (.bin .rem .scalar (.tmp 34) (.const (.int .i64 5))), none⟩,
  ⟨some 36, .op (.build [.int .i64 0, .int .i64 0, .int .i64 0, .int .i64 0] [(0, 1, (.tmp 31)), (1, 1, (.tmp 33)), (2, 1, (.tmp 35))]), none⟩,
  ⟨some 37, .op (.buildSlice 4 1 [.int .i64 0, .int .i64 0, .int .i64 0, .int .i64 0] [(0, 4, (.tmp 36))]), none⟩,
  ⟨some 38, .op (.append 4 32 (.tmp 30) (.tmp 37)), none⟩,
  ⟨some 39, .op (.fieldAddr 1 (.tmp 8)), none⟩,
  ⟨none, .op (.store 1 (.tmp 39) (.tmp 38)), none⟩])) (.region [⟨some 27, .op (.mv (.tmp 9)), none⟩,
  ⟨some 28, .op (.bin .add .scalar (.tmp 27) (.const (.int .i64 1))), none⟩,
  ⟨some 9, .op (.mv (.tmp 28)), none⟩]))
noncomputable def milestonelaw2_AdjLine_c2 : MCode := .seq [66] (.seq [54, 55, 56, 57, 58, 59, 60, 61, 62, 63, 64, 65] (.region [⟨some 54, .op (.mv (.tmp 14)), none⟩,
  ⟨some 55, .op (.bin .add .scalar (.tmp 54) (.const (.int .i64 1))), none⟩,
  ⟨some 56, .op (.mv (.tmp 7)), none⟩,
  ⟨some 57, .op (.bin .lss .scalar (.tmp 55) (.tmp 56)), none⟩,
  ⟨some 58, .op (.mv (.tmp 57)), none⟩,
  ⟨some 59, .op (.mv (.tmp 12)), some (58, true)⟩,
  ⟨some 60, .op (.mv (.tmp 14)), some (58, true)⟩,
  ⟨some 61, .op (.bin .rem .scalar (.tmp 60) (.const (.int .i64 5))), some (58, true)⟩,
  ⟨some 62, .op (.convI .u64 (.tmp 61)), some (58, true)⟩,
  ⟨some 63, .op (.bin .shr .scalar (.tmp 59) (.tmp 62)), some (58, true)⟩,
  ⟨some 64, .op (.bin .and .scalar (.tmp 63) (.const (.int .i64 1))), some (58, true)⟩,
  ⟨some 65, .op (.bin .eql .scalar (.tmp 64) (.const (.int .i64 1))), some (58, true)⟩,
  ⟨some 66, .op (.pick (.tmp 58) (.tmp 65) (.const (.bool false))), none⟩]) (.cond (.tmp 66) .skip (.exit 2))) (.block 3 (.region [⟨some 67, .op (.mv (.tmp 14)), none⟩,
  ⟨some 68, .op (.bin .add .scalar (.tmp 67) (.const (.int .i64 1))), none⟩,
  ⟨some 14, .op (.mv (.tmp 68)), none⟩]))
noncomputable def milestonelaw2_AdjLine_c3 : MCode := .seq [79] (.seq [76, 77, 78] (.region [⟨some 76, .op (.mv (.tmp 15)), none⟩,
  ⟨some 77, .op (.mv (.tmp 13)), none⟩,
  ⟨some 78, .op (.lenSl (.tmp 77)), none⟩,
  ⟨some 79, .op (.bin .lss .scalar (.tmp 76) (.tmp 78)), none⟩]) (.cond (.tmp 79) .skip (.exit 4))) (.seq [89] (.block 5 (.seq [82, 83, 84, 85, 86, 87, 88] (.region [⟨some 82, .op (.mv (.tmp 13)), none⟩,
  ⟨some 83, .op (.mv (.tmp 15)), none⟩,
  ⟨some 84, .op (.idxSl 1 (.tmp 82) (.tmp 83)), none⟩,
  ⟨some 85, .op (.load none (.tmp 84)), none⟩,
  ⟨some 86, .op (.mv (.tmp 11)), none⟩,
  ⟨some 87, .op (.mv (.tmp 15)), none⟩,
  ⟨some 88, .op (.bin .add .scalar (.tmp 86) (.tmp 87)), none⟩,
  ⟨some 89, .op (.bin .neq .scalar (.tmp 85) (.tmp 88)), none⟩]) (.cond (.tmp 89) (.seq [11, 13, 15, 89] (.region [⟨some 6, .op (.mv (.const (.bool false))), none⟩]) .ret) .skip))) (.region [⟨some 80, .op (.mv (.tmp 15)), none⟩,
  ⟨some 81, .op (.bin .add .scalar (.tmp 80) (.const (.int .i64 1))), none⟩,
  ⟨some 15, .op (.mv (.tmp 81)), none⟩]))
noncomputable def milestonelaw2_AdjLine_c4 : MCode := .seq [75] (.seq [14, 69, 70, 71, 72, 73, 74] (.region [⟨some 69, .op (.mv (.tmp 13)), none⟩,
  ⟨some 70, .op (.lenSl (.tmp 69)), none⟩,
  ⟨some 71, .op (.mv (.tmp 14)), none⟩,
  ⟨some 72, .op (.mv (.tmp 11)), none⟩,
  ⟨some 73, .op (.bin .sub .scalar (.tmp 71) (.tmp 72)), none⟩,
  ⟨some 74, .op (.bin .add .scalar (.tmp 73) (.const (.int .i64 1))), none⟩,
  ⟨some 75, .op (.bin .neq .scalar (.tmp 70) (.tmp 74)), none⟩]) (.cond (.tmp 75) (.seq [11, 13, 75] (.region [⟨some 6, .op (.mv (.const (.bool false))), none⟩]) .ret) .skip)) (.seq [11, 13, 15, 79] (.seq [] (.region [⟨some 15, .op (.mv (.const (.int .i64 0))), none⟩]) (.block 4 (.loop [80, 81] milestonelaw2_AdjLine_c3))) (.seq [] (.region [⟨some 6, .op (.mv (.const (.bool true))), none⟩]) .ret))
noncomputable def milestonelaw2_AdjLine_c5 : MCode := .seq [8, 40, 41] (.region [⟨some 40, .op (.load (some 2) (.tmp 8)), none⟩,
  ⟨some 41, .call f_adj_New [(.tmp 40)], none⟩,
  ⟨some 10, .op (.mv (.tmp 41)), none⟩]) (.seq [43] (.seq [42] (.region [⟨some 42, .op (.mv (.tmp 10)), none⟩,
  ⟨some 43, .op (.bin .eql .ptr (.tmp 42) (.const .nilp)), none⟩]) (.cond (.tmp 43) (.seq [1, 2, 7, 10, 43] (.region [⟨some 6, .op (.mv (.const (.bool false))), none⟩]) .ret) .skip)) (.seq [1, 2, 44, 45, 46, 47, 48] (.region [⟨some 44, .op (.mv (.tmp 2)), none⟩,
  ⟨some 45, .op (.mv (.tmp 7)), none⟩,
  ⟨some 46, .call f_milestonelaw2_within [(.tmp 44), (.tmp 45)], none⟩,
  ⟨some 47, .op (.mv (.tmp 1)), none⟩,
  ⟨some 48, .call f_milestonelaw2_within [(.tmp 47), (.const (.int .i64 32))], none⟩,
  ⟨some 11, .op (.mv (.tmp 46)), none⟩,
  ⟨some 12, .op (.mv (.tmp 48)), none⟩]) (.seq [10, 49, 50, 51, 52] (.region [⟨some 49, .op (.mv (.tmp 10)), none⟩,
  ⟨some 50, .op (.mv (.tmp 11)), none⟩,
  ⟨some 51, .op (.mv (.tmp 12)), none⟩,
  ⟨some 52, .call f_adj_Adj_Reach [(.tmp 49), (.tmp 50), (.tmp 51)], none⟩,
  ⟨some 13, .op (.mv (.tmp 52)), none⟩]) (.seq [53] (.region [⟨some 53, .op (.mv (.tmp 11)), none⟩,
  ⟨some 14, .op (.mv (.tmp 53)), none⟩]) (.seq [7, 12, 66] (.block 2 (.loop [67, 68] milestonelaw2_AdjLine_c2)) (.lab milestonelaw2_AdjLine_c4))))))
def milestonelaw2_AdjLine_rs : Res := [(6, none)]
noncomputable def milestonelaw2_AdjLine_mf : MFn := ⟨90, milestonelaw2_AdjLine_rs, .seq [6] (.region [⟨some 6, .op (.mv (.const (.bool false))), none⟩]) (.seq [17] (.seq [16] (.region [⟨some 16, .call f_milestonelaw2_known [], none⟩,
  ⟨some 17, .op (.un .not (.tmp 16)), none⟩]) (.cond (.tmp 17) (.seq [0, 1, 2, 17] (.region [⟨some 6, .op (.mv (.const (.bool false))), none⟩]) .ret) .skip)) (.seq [0, 18, 19, 20] (.region [⟨some 18, .op (.mv (.tmp 0)), none⟩,
  ⟨some 19, .call f_milestonelaw2_within [(.tmp 18), (.const (.int .i64 40))], none⟩,
  ⟨some 20, .op (.bin .add .scalar (.const (.int .i64 1)) (.tmp 19)), none⟩,
  ⟨some 7, .op (.mv (.tmp 20)), none⟩]) (.seq [21, 22] (.region [⟨some 21, .op (.mv (.tmp 7)), none⟩,
  ⟨some 22, .op (.build [.int .i64 0, .nils] [(0, 1, (.tmp 21))]), none⟩,
  ⟨some 8, .op (.alloc [.int .i64 0, .nils]), none⟩,
  ⟨none, .op (.store 2 (.tmp 8) (.tmp 22)), none⟩]) (.seq [9, 26] (.seq [] (.region [⟨some 9, .op (.mv (.const (.int .i64 0))), none⟩]) (.block 0 (.loop [27, 28] milestonelaw2_AdjLine_c1))) (.lab milestonelaw2_AdjLine_c5)))))⟩
noncomputable def milestonelaw2_AdjLine_l1 (T : Tab) (k j0 : Nat) (set1 from2 k7 x8 i9 : AV) (h : Heap) : Option (AV × Heap) :=
  loopB T k milestonelaw2_AdjLine_rs j0 [27, 28] milestonelaw2_AdjLine_c1 [.blk 0, .seq [9, 26] (.lab milestonelaw2_AdjLine_c5)] [.undef, set1, from2, .undef, .undef, .undef, .undef, k7, x8, i9, .undef, .undef, .undef, .undef, .undef, .undef, .undef, .undef, .undef, .undef, .undef, .undef, .undef, .undef, .undef, .undef, .undef, .undef, .undef, .undef, .undef, .undef, .undef, .undef, .undef, .undef, .undef, .undef, .undef, .undef, .undef, .undef, .undef, .undef, .undef, .undef, .undef, .undef, .undef, .undef, .undef, .undef, .undef, .undef, .undef, .undef, .undef, .undef, .undef, .undef, .undef, .undef, .undef, .undef, .undef, .undef, .undef, .undef, .undef, .undef, .undef, .undef, .undef, .undef, .undef, .undef, .undef, .undef, .undef, .undef, .undef, .undef, .undef, .undef, .undef, .undef, .undef, .undef, .undef, .undef] h
noncomputable def milestonelaw2_AdjLine_b2 (T : Tab) (k : Nat) (set1 from2 k7 x8 : AV) (h : Heap) : Option (AV × Heap) :=
  evB T k milestonelaw2_AdjLine_rs milestonelaw2_AdjLine_c5 [] [.undef, set1, from2, .undef, .undef, .undef, .undef, k7, x8, .undef, .undef, .undef, .undef, .undef, .undef, .undef, .undef, .undef, .undef, .undef, .undef, .undef, .undef, .undef, .undef, .undef, .undef, .undef, .undef, .undef, .undef, .undef, .undef, .undef, .undef, .undef, .undef, .undef, .undef, .undef, .undef, .undef, .undef, .undef, .undef, .undef, .undef, .undef, .undef, .undef, .undef, .undef, .undef, .undef, .undef, .undef, .undef, .undef, .undef, .undef, .undef, .undef, .undef, .undef, .undef, .undef, .undef, .undef, .undef, .undef, .undef, .undef, .undef, .undef, .undef, .undef, .undef, .undef, .undef, .undef, .undef, .undef, .undef, .undef, .undef, .undef, .undef, .undef, .undef, .undef] h
noncomputable def milestonelaw2_AdjLine_l3 (T : Tab) (k j0 : Nat) (k7 v11 s12 r13 u14 : AV) (h : Heap) : Option (AV × Heap) :=
  loopB T k milestonelaw2_AdjLine_rs j0 [67, 68] milestonelaw2_AdjLine_c2 [.blk 2, .seq [7, 12, 66] (.lab milestonelaw2_AdjLine_c4)] [.undef, .undef, .undef, .undef, .undef, .undef, .undef, k7, .undef, .undef, .undef, v11, s12, r13, u14, .undef, .undef, .undef, .undef, .undef, .undef, .undef, .undef, .undef, .undef, .undef, .undef, .undef, .undef, .undef, .undef, .undef, .undef, .undef, .undef, .undef, .undef, .undef, .undef, .undef, .undef, .undef, .undef, .undef, .undef, .undef, .undef, .undef, .undef, .undef, .undef, .undef, .undef, .undef, .undef, .undef, .undef, .undef, .undef, .undef, .undef, .undef, .undef, .undef, .undef, .undef, .undef, .undef, .undef, .undef, .undef, .undef, .undef, .undef, .undef, .undef, .undef, .undef, .undef, .undef, .undef, .undef, .undef, .undef, .undef, .undef, .undef, .undef, .undef, .undef] h
noncomputable def milestonelaw2_AdjLine_b4 (T : Tab) (k : Nat) (v11 r13 u14 : AV) (h : Heap) : Option (AV × Heap) :=
  evB T k milestonelaw2_AdjLine_rs milestonelaw2_AdjLine_c4 [] [.undef, .undef, .undef, .undef, .undef, .undef, .undef, .undef, .undef, .undef, .undef, v11, .undef, r13, u14, .undef, .undef, .undef, .undef, .undef, .undef, .undef, .undef, .undef, .undef, .undef, .undef, .undef, .undef, .undef, .undef, .undef, .undef, .undef, .undef, .undef, .undef, .undef, .undef, .undef, .undef, .undef, .undef, .undef, .undef, .undef, .undef, .undef, .undef, .undef, .undef, .undef, .undef, .undef, .undef, .undef, .undef, .undef, .undef, .undef, .undef, .undef, .undef, .undef, .undef, .undef, .undef, .undef, .undef, .undef, .undef, .undef, .undef, .undef, .undef, .undef, .undef, .undef, .undef, .undef, .undef, .undef, .undef, .undef, .undef, .undef, .undef, .undef, .undef, .undef] h
noncomputable def milestonelaw2_AdjLine_l5 (T : Tab) (k j0 : Nat) (v11 r13 i15 : AV) (h : Heap) : Option (AV × Heap) :=
  loopB T k milestonelaw2_AdjLine_rs j0 [80, 81] milestonelaw2_AdjLine_c3 [.blk 4, .seq [11, 13, 15, 79] (.seq [] (.region [⟨some 6, .op (.mv (.const (.bool true))), none⟩]) .ret)] [.undef, .undef, .undef, .undef, .undef, .undef, .undef, .undef, .undef, .undef, .undef, v11, .undef, r13, .undef, i15, .undef, .undef, .undef, .undef, .undef, .undef, .undef, .undef, .undef, .undef, .undef, .undef, .undef, .undef, .undef, .undef, .undef, .undef, .undef, .undef, .undef, .undef, .undef, .undef, .undef, .undef, .undef, .undef, .undef, .undef, .undef, .undef, .undef, .undef, .undef, .undef, .undef, .undef, .undef, .undef, .undef, .undef, .undef, .undef, .undef, .undef, .undef, .undef, .undef, .undef, .undef, .undef, .undef, .undef, .undef, .undef, .undef, .undef, .undef, .undef, .undef, .undef, .undef, .undef, .undef, .undef, .undef, .undef, .undef, .undef, .undef, .undef, .undef, .undef] h
theorem milestonelaw2_AdjLine_l5_eq (T : Tab) (k j0 : Nat) (v11 r13 i15 : AV) (h : Heap) : milestonelaw2_AdjLine_l5 T k (j0 + 1) v11 r13 i15 h =
    oa (lenS r13) fun t78_1 =>
    oa (binV .lss .scalar i15 t78_1) fun t79_2 =>
    cond2 t79_2
      (
      oa (idxS 1 r13 i15) fun t84_3 =>
      oa (ld1 h t84_3) fun t85_4 =>
      oa (binV .add .scalar v11 i15) fun t88_5 =>
      oa (binV .neq .scalar t85_4 t88_5) fun t89_6 =>
      cond2 t89_6
        (
        some ((.bool false), h)
        )
        (
        oa (binV .add .scalar i15 (.int .i64 1)) fun t81_7 =>
        milestonelaw2_AdjLine_l5 T k j0 v11 r13 t81_7 h
        )
      )
      (
      some ((.bool true), h)
      ) := loopEq (by kernel_rfl)
theorem milestonelaw2_AdjLine_b4_eq (T : Tab) (k : Nat) (v11 r13 u14 : AV) (h : Heap) : milestonelaw2_AdjLine_b4 T k v11 r13 u14 h =
    oa (lenS r13) fun t70_1 =>
    oa (binV .sub .scalar u14 v11) fun t73_2 =>
    oa (binV .add .scalar t73_2 (.int .i64 1)) fun t74_3 =>
    oa (binV .neq .scalar t70_1 t74_3) fun t75_4 =>
    cond2 t75_4
      (
      some ((.bool false), h)
      )
      (
      milestonelaw2_AdjLine_l5 T k k v11 r13 (.int .i64 0) h
      ) := blockEq (by kernel_rfl)
theorem milestonelaw2_AdjLine_l3_eq (T : Tab) (k j0 : Nat) (k7 v11 s12 r13 u14 : AV) (h : Heap) : milestonelaw2_AdjLine_l3 T k (j0 + 1) k7 v11 s12 r13 u14 h =
    oa (binV .add .scalar u14 (.int .i64 1)) fun t55_1 =>
    oa (binV .lss .scalar t55_1 k7) fun t57_2 =>
    ob (gd t57_2 true (some (s12, h)) h) fun t59_3 h_4 =>
    ob (gd t57_2 true (some (u14, h_4)) h_4) fun t60_5 h_6 =>
    ob (gd t57_2 true (pure1 h_6 (binV .rem .scalar t60_5 (.int .i64 5))) h_6) fun t61_7 h_8 =>
    ob (gd t57_2 true (pure1 h_8 (convV .u64 t61_7)) h_8) fun t62_9 h_10 =>
    ob (gd t57_2 true (pure1 h_10 (binV .shr .scalar t59_3 t62_9)) h_10) fun t63_11 h_12 =>
    ob (gd t57_2 true (pure1 h_12 (binV .and .scalar t63_11 (.int .i64 1))) h_12) fun t64_13 h_14 =>
    ob (gd t57_2 true (pure1 h_14 (binV .eql .scalar t64_13 (.int .i64 1))) h_14) fun t65_15 h_16 =>
    oa (pickV t57_2 t65_15 (.bool false)) fun t66_17 =>
    cond2 t66_17
      (
      oa (binV .add .scalar u14 (.int .i64 1)) fun t68_18 =>
      milestonelaw2_AdjLine_l3 T k j0 k7 v11 s12 r13 t68_18 h_16
      )
      (
      milestonelaw2_AdjLine_b4 T k v11 r13 u14 h_16
      ) := loopEq (by kernel_rfl)
theorem milestonelaw2_AdjLine_b2_eq (T : Tab) (k : Nat) (set1 from2 k7 x8 : AV) (h : Heap) : milestonelaw2_AdjLine_b2 T k set1 from2 k7 x8 h =
    oa (ldN 2 h x8) fun t40_1 =>
    ob (evalFn T k f_adj_New [t40_1] h) fun t41_2 h_3 =>
    oa (binV .eql .ptr t41_2 .nilp) fun t43_4 =>
    cond2 t43_4
      (
      some ((.bool false), h_3)
      )
      (
      ob (evalFn T k f_milestonelaw2_within [from2, k7] h_3) fun t46_5 h_6 =>
      ob (evalFn T k f_milestonelaw2_within [set1, (.int .i64 32)] h_6) fun t48_7 h_8 =>
      ob (evalFn T k f_adj_Adj_Reach [t41_2, t46_5, t48_7] h_8) fun t52_9 h_10 =>
      milestonelaw2_AdjLine_l3 T k k k7 t46_5 t48_7 t52_9 t46_5 h_10
      ) := blockEq (by kernel_rfl)
theorem milestonelaw2_AdjLine_l1_eq (T : Tab) (k j0 : Nat) (set1 from2 k7 x8 i9 : AV) (h : Heap) : milestonelaw2_AdjLine_l1 T k (j0 + 1) set1 from2 k7 x8 i9 h =
    oa (binV .add .scalar i9 (.int .i64 1)) fun t24_1 =>
    oa (binV .lss .scalar t24_1 k7) fun t26_2 =>
    cond2 t26_2
      (
      oa (fldA 1 x8) fun t29_3 =>
      oa (ld1 h t29_3) fun t30_4 =>
      oa (binV .add .scalar i9 (.int .i64 1)) fun t33_5 =>
      oa (binV .rem .scalar i9 (.int .i64 5)) fun t35_6 =>
      oa (buildV [.int .i64 0, .int .i64 0, .int .i64 0, .int .i64 0] [(0, 1, i9), (1, 1, t33_5), (2, 1, t35_6)]) fun t36_7 =>
      ob (buildSl 4 1 [.int .i64 0, .int .i64 0, .int .i64 0, .int .i64 0] [(0, 4, t36_7)] h) fun t37_8 h_9 =>
      ob (apnd 4 32 t30_4 t37_8 h_9) fun t38_10 h_11 =>
      oa (fldA 1 x8) fun t39_12 =>
      oh (stN 1 h_11 t39_12 t38_10) fun h_13 =>
      oa (binV .add .scalar i9 (.int .i64 1)) fun t28_14 =>
      milestonelaw2_AdjLine_l1 T k j0 set1 from2 k7 x8 t28_14 h_13
      )
      (
      milestonelaw2_AdjLine_b2 T k set1 from2 k7 x8 h
      ) := loopEq (by kernel_rfl)
theorem milestonelaw2_AdjLine_eq (T : Tab) (k : Nat) (n0 set1 from2 : AV) (h : Heap) : runF T k milestonelaw2_AdjLine_mf [n0, set1, from2] h =
    ob (evalFn T k f_milestonelaw2_known [] h) fun t16_1 h_2 =>
    oa (unV .not t16_1) fun t17_3 =>
    cond2 t17_3
      (
      some ((.bool false), h_2)
      )
      (
      ob (evalFn T k f_milestonelaw2_within [n0, (.int .i64 40)] h_2) fun t19_4 h_5 =>
      oa (binV .add .scalar (.int .i64 1) t19_4) fun t20_6 =>
      oa (buildV [.int .i64 0, .nils] [(0, 1, t20_6)]) fun t22_7 =>
      ob (newVar h_5 [.int .i64 0, .nils]) fun x8_8 h_9 =>
      oh (stN 2 h_9 x8_8 t22_7) fun h_10 =>
      milestonelaw2_AdjLine_l1 T k k set1 from2 t20_6 x8_8 (.int .i64 0) h_10
      ) := runEq (by kernel_rfl)
noncomputable def milestonelaw2_AdjMore_c1 : MCode := .seq [17, 18, 97, 98, 99, 100, 101, 102, 103, 104, 105, 106, 107, 108, 109, 110, 111, 112, 113, 114, 115, 116, 117, 118, 119] (.region [⟨some 97, .op (.mv (.tmp 14)), none⟩,
  ⟨some 98, .op (.mv (.tmp 16)), none⟩,
  ⟨some 99, .call f_adj_Adj_Out [(.tmp 97), (.tmp 98)], none⟩,
  ⟨some 100, .op (.mv (.tmp 17)), none⟩,
  ⟨some 101, .call f_milestoneref1_Ints [(.tmp 99), (.tmp 100)], none⟩,
  ⟨some 102, .op (.un .not (.tmp 101)), none⟩,
  ⟨some 103, .op (.mv (.tmp 102)), none⟩,
  ⟨some 104, .op (.mv (.tmp 14)), some (103, false)⟩,
  ⟨some 105, .op (.mv (.tmp 16)), some (103, false)⟩,
  ⟨some 106, .call f_adj_Adj_In [(.tmp 104), (.tmp 105)], some (103, false)⟩,
  ⟨some 107, .op (.mv (.tmp 18)), some (103, false)⟩,
  ⟨some 108, .call f_milestoneref1_Ints [(.tmp 106), (.tmp 107)], some (103, false)⟩,
  ⟨some 109, .op (.un .not (.tmp 108)), some (103, false)⟩,
  ⟨some 110, .op (.pick (.tmp 103) (.const (.bool true)) (.tmp 109)), none⟩,
  ⟨some 111, .op (.mv (.tmp 110)), none⟩,
  ⟨some 112, .op (.mv (.tmp 13)), some (111, false)⟩,
  ⟨some 113, .op (.mv (.tmp 16)), some (111, false)⟩,
  ⟨some 114, .call f_adj_Adj_Modes [(.tmp 112), (.tmp 113)], some (111, false)⟩,
  ⟨some 115, .op (.mv (.tmp 14)), some (111, false)⟩,
  ⟨some 116, .op (.mv (.tmp 16)), some (111, false)⟩,
  ⟨some 117, .call f_adj_Adj_Modes [(.tmp 115), (.tmp 116)], some (111, false)⟩,
  ⟨some 118, .op (.bin .andNot .scalar (.tmp 114) (.tmp 117)), some (111, false)⟩,
  ⟨some 119, .op (.bin .neq .scalar (.tmp 118) (.const (.int .i64 0))), some (111, false)⟩,
  ⟨some 120, .op (.pick (.tmp 111) (.const (.bool true)) (.tmp 119)), none⟩]) (.cond (.tmp 120) (.seq [11, 12, 13, 14, 15, 16, 120] (.region [⟨some 10, .op (.mv (.const (.bool false))), none⟩]) .ret) .skip)
noncomputable def milestonelaw2_AdjMore_c2 : MCode := .seq [92, 93, 94, 95, 96] (.seq [85, 86, 87, 88, 89, 90, 91] (.region [⟨some 85, .op (.mv (.tmp 16)), none⟩,
  ⟨some 86, .op (.fieldAddr 1 (.tmp 12)), none⟩,
  ⟨some 87, .op (.load none (.tmp 86)), none⟩,
  ⟨some 88, .op (.mv (.tmp 15)), none⟩,
  ⟨some 89, .op (.idxSl 4 (.tmp 87) (.tmp 88)), none⟩,
  ⟨some 90, .op (.fieldAddr 1 (.tmp 89)), none⟩,
  ⟨some 91, .op (.load none (.tmp 90)), none⟩,
  ⟨some 92, .op (.bin .eql .scalar (.tmp 85) (.tmp 91)), none⟩]) (.cond (.tmp 92) (.region [⟨some 93, .op (.mv (.tmp 18)), none⟩,
  ⟨some 94, .op (.mv (.tmp 15)), none⟩,
  ⟨some 95, .op (.buildSlice 1 1 [.int .i64 0] [(0, 1, (.tmp 94))]), none⟩,
  ⟨some 96, .op (.append 1 8 (.tmp 93) (.tmp 95)), none⟩,
  ⟨some 18, .op (.mv (.tmp 96)), none⟩]) .skip)) (.lab milestonelaw2_AdjMore_c1)
noncomputable def milestonelaw2_AdjMore_c3 : MCode := .seq [60] (.seq [57, 58, 59] (.region [⟨some 57, .op (.mv (.tmp 16)), none⟩,
  ⟨some 58, .op (.fieldAddr 0 (.tmp 11)), none⟩,
  ⟨some 59, .op (.load none (.tmp 58)), none⟩,
  ⟨some 60, .op (.bin .lss .scalar (.tmp 57) (.tmp 59)), none⟩]) (.cond (.tmp 60) .skip (.exit 0))) (.seq [120] (.block 1 (.seq [63, 64, 65, 66, 67, 68, 69, 70, 71, 72] (.region [⟨some 63, .op (.buildSlice 1 0 [] []), none⟩,
  ⟨some 64, .op (.mv (.tmp 13)), none⟩,
  ⟨some 65, .op (.mv (.tmp 16)), none⟩,
  ⟨some 66, .call f_adj_Adj_Out [(.tmp 64), (.tmp 65)], none⟩,
  ⟨some 67, .op (.append 1 8 (.tmp 63) (.tmp 66)), none⟩,
  ⟨some 68, .op (.buildSlice 1 0 [] []), none⟩,
  ⟨some 69, .op (.mv (.tmp 13)), none⟩,
  ⟨some 70, .op (.mv (.tmp 16)), none⟩,
  ⟨some 71, .call f_adj_Adj_In [(.tmp 69), (.tmp 70)], none⟩,
  ⟨some 72, .op (.append 1 8 (.tmp 68) (.tmp 71)), none⟩,
  ⟨some 17, .op (.mv (.tmp 67)), none⟩,
  ⟨some 18, .op (.mv (.tmp 72)), none⟩]) (.seq [80, 81, 82, 83, 84] (.seq [73, 74, 75, 76, 77, 78, 79] (.region [⟨some 73, .op (.mv (.tmp 16)), none⟩,
  ⟨some 74, .op (.fieldAddr 1 (.tmp 12)), none⟩,
  ⟨some 75, .op (.load none (.tmp 74)), none⟩,
  ⟨some 76, .op (.mv (.tmp 15)), none⟩,
  ⟨some 77, .op (.idxSl 4 (.tmp 75) (.tmp 76)), none⟩,
  ⟨some 78, .op (.fieldAddr 0 (.tmp 77)), none⟩,
  ⟨some 79, .op (.load none (.tmp 78)), none⟩,
  ⟨some 80, .op (.bin .eql .scalar (.tmp 73) (.tmp 79)), none⟩]) (.cond (.tmp 80) (.region [⟨some 81, .op (.mv (.tmp 17)), none⟩,
  ⟨some 82, .op (.mv (.tmp 15)), none⟩,
  ⟨some 83, .op (.buildSlice 1 1 [.int .i64 0] [(0, 1, (.tmp 82))]), none⟩,
  ⟨some 84, .op (.append 1 8 (.tmp 81) (.tmp 83)), none⟩,
  ⟨some 17, .op (.mv (.tmp 84)), none⟩]) .skip)) (.lab milestonelaw2_AdjMore_c2)))) (.region [⟨some 61, .op (.mv (.tmp 16)), none⟩,
  ⟨some 62, .op (.bin .add .scalar (.tmp 61) (.const (.int .i64 1))), none⟩,
  ⟨some 16, .op (.mv (.tmp 62)), none⟩]))
def milestonelaw2_AdjMore_rs : Res := [(10, none)]
noncomputable def milestonelaw2_AdjMore_mf : MFn := ⟨121, milestonelaw2_AdjMore_rs, .seq [10] (.region [⟨some 10, .op (.mv (.const (.bool false))), none⟩]) (.seq [20] (.seq [19] (.region [⟨some 19, .call f_milestonelaw2_known [], none⟩,
  ⟨some 20, .op (.un .not (.tmp 19)), none⟩]) (.cond (.tmp 20) (.seq [0, 1, 2, 3, 4, 20] (.region [⟨some 10, .op (.mv (.const (.bool false))), none⟩]) .ret) .skip)) (.seq [0, 1, 21, 22, 23] (.region [⟨some 21, .op (.mv (.tmp 0)), none⟩,
  ⟨some 22, .op (.mv (.tmp 1)), none⟩,
  ⟨some 23, .call f_milestonelaw1_Make [(.tmp 21), (.tmp 22), (.const (.int .i64 2))], none⟩,
  ⟨some 11, .op (.alloc [.int .i64 0, .nils]), none⟩,
  ⟨none, .op (.store 2 (.tmp 11) (.tmp 23)), none⟩]) (.seq [2, 3, 4, 24, 25, 26, 27, 28, 29, 30, 31, 32, 33, 34, 35, 36, 37, 38, 39, 40, 41, 42, 43] (.regionD 121 [⟨0, ⟨some 121, .op (.fieldAddr 0 (.tmp 11)), none⟩, []⟩,
  ⟨1, ⟨some 122, .op (.load none (.tmp 121)), none⟩, []⟩,
  ⟨2, ⟨some 123, .op (.buildSlice 4 0 [] []), none⟩, []⟩,
  ⟨3, ⟨some 124, .op (.fieldAddr 1 (.tmp 11)), none⟩, []⟩,
  ⟨4, ⟨some 125, .op (.load none (.tmp 124)), none⟩, []⟩,
  ⟨6, ⟨some 127, .op (.mv (.tmp 2)), none⟩, []⟩,
  ⟨7, ⟨some 128, .op (.fieldAddr 0 (.tmp 11)), none⟩, []⟩,
  ⟨8, ⟨some 129, .op (.load none (.tmp 128)), none⟩, []⟩,
  ⟨10, ⟨some 131, .op (.mv (.tmp 3)), none⟩, []⟩,
  ⟨11, ⟨some 132, .op (.fieldAddr 0 (.tmp 11)), none⟩, []⟩,
  ⟨12, ⟨some 133, .op (.load none (.tmp 132)), none⟩, []⟩,
  ⟨14, ⟨some 135, .op (.mv (.tmp 4)), none⟩, []⟩,
  ⟨20, ⟨some 141, .op (.alloc [.int .i64 0, .nils]), none⟩, []⟩,
  ⟨5, ⟨some 126, .op (.append 4 32 (.tmp 123) (.tmp 125)), none⟩, [(122, ⟨some 122, .op (.load none (.tmp 121)), none⟩), (129, ⟨some 129, .op (.load none (.tmp 128)), none⟩), (133, ⟨some 133, .op (.load none (.tmp 132)), none⟩)]⟩,
  ⟨9, ⟨some 130, .call f_milestonelaw2_within [(.tmp 127), (.tmp 129)], none⟩, [(122, ⟨some 122, .op (.load none (.tmp 121)), none⟩), (133, ⟨some 133, .op (.load none (.tmp 132)), none⟩)]⟩,
  ⟨13, ⟨some 134, .call f_milestonelaw2_within [(.tmp 131), (.tmp 133)], none⟩, [(122, ⟨some 122, .op (.load none (.tmp 121)), none⟩)]⟩,
  ⟨15, ⟨some 136, .call f_milestonelaw2_within [(.tmp 135), (.const (.int .i64 5))], none⟩, [(122, ⟨some 122, .op (.load none (.tmp 121)), none⟩)]⟩,
  ⟨16, ⟨some 137, .op (.build [.int .i64 0, .int .i64 0, .int .i64 0, .int .i64 0] [(0, 1, (.tmp 130)), (1, 1, (.tmp 134)), (2, 1, (.tmp 136))]), none⟩, []⟩,
  ⟨17, ⟨some 138, .op (.buildSlice 4 1 [.int .i64 0, .int .i64 0, .int .i64 0, .int .i64 0] [(0, 4, (.tmp 137))]), none⟩, []⟩,
  ⟨18, ⟨some 139, .op (.append 4 32 (.tmp 126) (.tmp 138)), none⟩, [(122, ⟨some 122, .op (.load none (.tmp 121)), none⟩)]⟩,
  ⟨19, ⟨some 140, .op (.build [.int .i64 0, .nils] [(0, 1, (.tmp 122)), (1, 1, (.tmp 139))]), none⟩, []⟩,
  ⟨21, ⟨some 142, .op (.store 2 (.tmp 141) (.tmp 140)), none⟩, []⟩] [(24, 121), (25, 122), (26, 123), (27, 124), (28, 125), (29, 126), (30, 127), (31, 128), (32, 129), (33, 130), (34, 131), (35, 132), (36, 133), (37, 134), (38, 135), (39, 136), (40, 137), (41, 138), (42, 139), (43, 140), (12, 141)]) (.seq [44, 45, 46, 47] (.regionD 121 [⟨0, ⟨some 121, .op (.load (some 2) (.tmp 11)), none⟩, []⟩,
  ⟨2, ⟨some 123, .op (.load (some 2) (.tmp 12)), none⟩, []⟩,
  ⟨1, ⟨some 122, .call f_adj_New [(.tmp 121)], none⟩, [(123, ⟨some 123, .op (.load (some 2) (.tmp 12)), none⟩)]⟩,
  ⟨3, ⟨some 124, .call f_adj_New [(.tmp 123)], none⟩, []⟩,
  ⟨4, ⟨some 125, .op (.mv (.tmp 122)), none⟩, []⟩,
  ⟨5, ⟨some 126, .op (.mv (.tmp 124)), none⟩, []⟩] [(44, 121), (45, 122), (46, 123), (47, 124), (13, 125), (14, 126)]) (.seq [53] (.seq [48, 49, 50, 51, 52] (.region [⟨some 48, .op (.mv (.tmp 13)), none⟩,
  ⟨some 49, .op (.bin .eql .ptr (.tmp 48) (.const .nilp)), none⟩,
  ⟨some 50, .op (.mv (.tmp 49)), none⟩,
  ⟨some 51, .op (.mv (.tmp 14)), some (50, false)⟩,
  ⟨some 52, .op (.bin .eql .ptr (.tmp 51) (.const .nilp)), some (50, false)⟩,
  ⟨some 53, .op (.pick (.tmp 50) (.const (.bool true)) (.tmp 52)), none⟩]) (.cond (.tmp 53) (.seq [11, 12, 13, 14, 53] (.region [⟨some 10, .op (.mv (.const (.bool false))), none⟩]) .ret) .skip)) (.seq [54, 55, 56] (.region [⟨some 54, .op (.fieldAddr 1 (.tmp 11)), none⟩,
  ⟨some 55, .op (.load none (.tmp 54)), none⟩,
  ⟨some 56, .op (.lenSl (.tmp 55)), none⟩,
  ⟨some 15, .op (.mv (.tmp 56)), none⟩]) (.seq [11, 12, 13, 14, 15, 16, 60] (.seq [] (.region [⟨some 16, .op (.mv (.const (.int .i64 0))), none⟩]) (.block 0 (.loop [61, 62] milestonelaw2_AdjMore_c3))) (.seq [] (.region [⟨some 10, .op (.mv (.const (.bool true))), none⟩]) .ret))))))))⟩
noncomputable def milestonelaw2_AdjMore_l1 (T : Tab) (k j0 : Nat) (n11 m12 a13 b14 k15 v16 : AV) (h : Heap) : Option (AV × Heap) :=
  loopB T k milestonelaw2_AdjMore_rs j0 [61, 62] milestonelaw2_AdjMore_c3 [.blk 0, .seq [11, 12, 13, 14, 15, 16, 60] (.seq [] (.region [⟨some 10, .op (.mv (.const (.bool true))), none⟩]) .ret)] [.undef, .undef, .undef, .undef, .undef, .undef, .undef, .undef, .undef, .undef, .undef, n11, m12, a13, b14, k15, v16, .undef, .undef, .undef, .undef, .undef, .undef, .undef, .undef, .undef, .undef, .undef, .undef, .undef, .undef, .undef, .undef, .undef, .undef, .undef, .undef, .undef, .undef, .undef, .undef, .undef, .undef, .undef, .undef, .undef, .undef, .undef, .undef, .undef, .undef, .undef, .undef, .undef, .undef, .undef, .undef, .undef, .undef, .undef, .undef, .undef, .undef, .undef, .undef, .undef, .undef, .undef, .undef, .undef, .undef, .undef, .undef, .undef, .undef, .undef, .undef, .undef, .undef, .undef, .undef, .undef, .undef, .undef, .undef, .undef, .undef, .undef, .undef, .undef, .undef, .undef, .undef, .undef, .undef, .undef, .undef, .undef, .undef, .undef, .undef, .undef, .undef, .undef, .undef, .undef, .undef, .undef, .undef, .undef, .undef, .undef, .undef, .undef, .undef, .undef, .undef, .undef, .undef, .undef, .undef] h
noncomputable def milestonelaw2_AdjMore_b2 (T : Tab) (k j0 : Nat) (n11 m12 a13 b14 k15 v16 o17 i18 : AV) (h : Heap) : Option (AV × Heap) :=
  evB T k milestonelaw2_AdjMore_rs milestonelaw2_AdjMore_c2 [.blk 1, .seq [120] (.region [⟨some 61, .op (.mv (.tmp 16)), none⟩,
  ⟨some 62, .op (.bin .add .scalar (.tmp 61) (.const (.int .i64 1))), none⟩,
  ⟨some 16, .op (.mv (.tmp 62)), none⟩]), .lp j0 [61, 62] milestonelaw2_AdjMore_c3, .blk 0, .seq [11, 12, 13, 14, 15, 16, 60] (.seq [] (.region [⟨some 10, .op (.mv (.const (.bool true))), none⟩]) .ret)] [.undef, .undef, .undef, .undef, .undef, .undef, .undef, .undef, .undef, .undef, .undef, n11, m12, a13, b14, k15, v16, o17, i18, .undef, .undef, .undef, .undef, .undef, .undef, .undef, .undef, .undef, .undef, .undef, .undef, .undef, .undef, .undef, .undef, .undef, .undef, .undef, .undef, .undef, .undef, .undef, .undef, .undef, .undef, .undef, .undef, .undef, .undef, .undef, .undef, .undef, .undef, .undef, .undef, .undef, .undef, .undef, .undef, .undef, .undef, .undef, .undef, .undef, .undef, .undef, .undef, .undef, .undef, .undef, .undef, .undef, .undef, .undef, .undef, .undef, .undef, .undef, .undef, .undef, .undef, .undef, .undef, .undef, .undef, .undef, .undef, .undef, .undef, .undef, .undef, .undef, .undef, .undef, .undef, .undef, .undef, .undef, .undef, .undef, .undef, .undef, .undef, .undef, .undef, .undef, .undef, .undef, .undef, .undef, .undef, .undef, .undef, .undef, .undef, .undef, .undef, .undef, .undef, .undef, .undef] h
noncomputable def milestonelaw2_AdjMore_b3 (T : Tab) (k j0 : Nat) (n11 m12 a13 b14 k15 v16 o17 i18 : AV) (h : Heap) : Option (AV × Heap) :=
  evB T k milestonelaw2_AdjMore_rs milestonelaw2_AdjMore_c1 [.blk 1, .seq [120] (.region [⟨some 61, .op (.mv (.tmp 16)), none⟩,
  ⟨some 62, .op (.bin .add .scalar (.tmp 61) (.const (.int .i64 1))), none⟩,
  ⟨some 16, .op (.mv (.tmp 62)), none⟩]), .lp j0 [61, 62] milestonelaw2_AdjMore_c3, .blk 0, .seq [11, 12, 13, 14, 15, 16, 60] (.seq [] (.region [⟨some 10, .op (.mv (.const (.bool true))), none⟩]) .ret)] [.undef, .undef, .undef, .undef, .undef, .undef, .undef, .undef, .undef, .undef, .undef, n11, m12, a13, b14, k15, v16, o17, i18, .undef, .undef, .undef, .undef, .undef, .undef, .undef, .undef, .undef, .undef, .undef, .undef, .undef, .undef, .undef, .undef, .undef, .undef, .undef, .undef, .undef, .undef, .undef, .undef, .undef, .undef, .undef, .undef, .undef, .undef, .undef, .undef, .undef, .undef, .undef, .undef, .undef, .undef, .undef, .undef, .undef, .undef, .undef, .undef, .undef, .undef, .undef, .undef, .undef, .undef, .undef, .undef, .undef, .undef, .undef, .undef, .undef, .undef, .undef, .undef, .undef, .undef, .undef, .undef, .undef, .undef, .undef, .undef, .undef, .undef, .undef, .undef, .undef, .undef, .undef, .undef, .undef, .undef, .undef, .undef, .undef, .undef, .undef, .undef, .undef, .undef, .undef, .undef, .undef, .undef, .undef, .undef, .undef, .undef, .undef, .undef, .undef, .undef, .undef, .undef, .undef, .undef] h
theorem milestonelaw2_AdjMore_b3_eq (T : Tab) (k j0 : Nat) (n11 m12 a13 b14 k15 v16 o17 i18 : AV) (h : Heap) : milestonelaw2_AdjMore_b3 T k j0 n11 m12 a13 b14 k15 v16 o17 i18 h =
    ob (evalFn T k f_adj_Adj_Out [b14, v16] h) fun t99_1 h_2 =>
    ob (evalFn T k f_milestoneref1_Ints [t99_1, o17] h_2) fun t101_3 h_4 =>
    oa (unV .not t101_3) fun t102_5 =>
    ob (gd t102_5 false (some (b14, h_4)) h_4) fun t104_6 h_7 =>
    ob (gd t102_5 false (some (v16, h_7)) h_7) fun t105_8 h_9 =>
    ob (gd t102_5 false (evalFn T k f_adj_Adj_In [t104_6, t105_8] h_9) h_9) fun t106_10 h_11 =>
    ob (gd t102_5 false (some (i18, h_11)) h_11) fun t107_12 h_13 =>
    ob (gd t102_5 false (evalFn T k f_milestoneref1_Ints [t106_10, t107_12] h_13) h_13) fun t108_14 h_15 =>
    ob (gd t102_5 false (pure1 h_15 (unV .not t108_14)) h_15) fun t109_16 h_17 =>
    oa (pickV t102_5 (.bool true) t109_16) fun t110_18 =>
    ob (gd t110_18 false (some (a13, h_17)) h_17) fun t112_19 h_20 =>
    ob (gd t110_18 false (some (v16, h_20)) h_20) fun t113_21 h_22 =>
    ob (gd t110_18 false (evalFn T k f_adj_Adj_Modes [t112_19, t113_21] h_22) h_22) fun t114_23 h_24 =>
    ob (gd t110_18 false (some (b14, h_24)) h_24) fun t115_25 h_26 =>
    ob (gd t110_18 false (some (v16, h_26)) h_26) fun t116_27 h_28 =>
    ob (gd t110_18 false (evalFn T k f_adj_Adj_Modes [t115_25, t116_27] h_28) h_28) fun t117_29 h_30 =>
    ob (gd t110_18 false (pure1 h_30 (binV .andNot .scalar t114_23 t117_29)) h_30) fun t118_31 h_32 =>
    ob (gd t110_18 false (pure1 h_32 (binV .neq .scalar t118_31 (.int .i64 0))) h_32) fun t119_33 h_34 =>
    oa (pickV t110_18 (.bool true) t119_33) fun t120_35 =>
    cond2 t120_35
      (
      some ((.bool false), h_34)
      )
      (
      oa (binV .add .scalar v16 (.int .i64 1)) fun t62_36 =>
      milestonelaw2_AdjMore_l1 T k j0 n11 m12 a13 b14 k15 t62_36 h_34
      ) := blockEq (by kernel_rfl)
theorem milestonelaw2_AdjMore_b2_eq (T : Tab) (k j0 : Nat) (n11 m12 a13 b14 k15 v16 o17 i18 : AV) (h : Heap) : milestonelaw2_AdjMore_b2 T k j0 n11 m12 a13 b14 k15 v16 o17 i18 h =
    oa (fldA 1 m12) fun t86_1 =>
    oa (ld1 h t86_1) fun t87_2 =>
    oa (idxS 4 t87_2 k15) fun t89_3 =>
    oa (fldA 1 t89_3) fun t90_4 =>
    oa (ld1 h t90_4) fun t91_5 =>
    oa (binV .eql .scalar v16 t91_5) fun t92_6 =>
    cond2 t92_6
      (
      ob (buildSl 1 1 [.int .i64 0] [(0, 1, k15)] h) fun t95_7 h_8 =>
      ob (apnd 1 8 i18 t95_7 h_8) fun t96_9 h_10 =>
      milestonelaw2_AdjMore_b3 T k j0 n11 m12 a13 b14 k15 v16 o17 t96_9 h_10
      )
      (
      milestonelaw2_AdjMore_b3 T k j0 n11 m12 a13 b14 k15 v16 o17 i18 h
      ) := blockEq (by kernel_rfl)
theorem milestonelaw2_AdjMore_l1_eq (T : Tab) (k j0 : Nat) (n11 m12 a13 b14 k15 v16 : AV) (h : Heap) : milestonelaw2_AdjMore_l1 T k (j0 + 1) n11 m12 a13 b14 k15 v16 h =
    oa (fldA 0 n11) fun t58_1 =>
    oa (ld1 h t58_1) fun t59_2 =>
    oa (binV .lss .scalar v16 t59_2) fun t60_3 =>
    cond2 t60_3
      (
      ob (buildSl 1 0 [] [] h) fun t63_4 h_5 =>
      ob (evalFn T k f_adj_Adj_Out [a13, v16] h_5) fun t66_6 h_7 =>
      ob (apnd 1 8 t63_4 t66_6 h_7) fun t67_8 h_9 =>
      ob (buildSl 1 0 [] [] h_9) fun t68_10 h_11 =>
      ob (evalFn T k f_adj_Adj_In [a13, v16] h_11) fun t71_12 h_13 =>
      ob (apnd 1 8 t68_10 t71_12 h_13) fun t72_14 h_15 =>
      oa (fldA 1 m12) fun t74_16 =>
      oa (ld1 h_15 t74_16) fun t75_17 =>
      oa (idxS 4 t75_17 k15) fun t77_18 =>
      oa (fldA 0 t77_18) fun t78_19 =>
      oa (ld1 h_15 t78_19) fun t79_20 =>
      oa (binV .eql .scalar v16 t79_20) fun t80_21 =>
      cond2 t80_21
        (
        ob (buildSl 1 1 [.int .i64 0] [(0, 1, k15)] h_15) fun t83_22 h_23 =>
        ob (apnd 1 8 t67_8 t83_22 h_23) fun t84_24 h_25 =>
        milestonelaw2_AdjMore_b2 T k j0 n11 m12 a13 b14 k15 v16 t84_24 t72_14 h_25
        )
        (
        milestonelaw2_AdjMore_b2 T k j0 n11 m12 a13 b14 k15 v16 t67_8 t72_14 h_15
        )
      )
      (
      some ((.bool true), h)
      ) := loopEq (by kernel_rfl)
theorem milestonelaw2_AdjMore_eq (T : Tab) (k : Nat) (size0 ns1 from2 to3 mode4 : AV) (h : Heap) : runF T k milestonelaw2_AdjMore_mf [size0, ns1, from2, to3, mode4] h =
    ob (evalFn T k f_milestonelaw2_known [] h) fun t19_1 h_2 =>
    oa (unV .not t19_1) fun t20_3 =>
    cond2 t20_3
      (
      some ((.bool false), h_2)
      )
      (
      ob (evalFn T k f_milestonelaw1_Make [size0, ns1, (.int .i64 2)] h_2) fun t23_4 h_5 =>
      ob (newVar h_5 [.int .i64 0, .nils]) fun n11_6 h_7 =>
      oh (stN 2 h_7 n11_6 t23_4) fun h_8 =>
      oa (fldA 0 n11_6) fun t121_9 =>
      oa (ld1 h_8 t121_9) fun t122_10 =>
      ob (buildSl 4 0 [] [] h_8) fun t123_11 h_12 =>
      oa (fldA 1 n11_6) fun t124_13 =>
      oa (ld1 h_12 t124_13) fun t125_14 =>
      oa (fldA 0 n11_6) fun t128_15 =>
      oa (ld1 h_12 t128_15) fun t129_16 =>
      oa (fldA 0 n11_6) fun t132_17 =>
      oa (ld1 h_12 t132_17) fun t133_18 =>
      ob (newVar h_12 [.int .i64 0, .nils]) fun t141_19 h_20 =>
      ob (apnd 4 32 t123_11 t125_14 h_20) fun t126_21 h_22 =>
      chk ((sameB (pure1 h_22 (ld1 h_22 t121_9)) t122_10 && (sameB (pure1 h_22 (ld1 h_22 t128_15)) t129_16 && (sameB (pure1 h_22 (ld1 h_22 t132_17)) t133_18 && true)))) <|
      ob (evalFn T k f_milestonelaw2_within [from2, t129_16] h_22) fun t130_23 h_24 =>
      chk ((sameB (pure1 h_24 (ld1 h_24 t121_9)) t122_10 && (sameB (pure1 h_24 (ld1 h_24 t132_17)) t133_18 && true))) <|
      ob (evalFn T k f_milestonelaw2_within [to3, t133_18] h_24) fun t134_25 h_26 =>
      chk ((sameB (pure1 h_26 (ld1 h_26 t121_9)) t122_10 && true)) <|
      ob (evalFn T k f_milestonelaw2_within [mode4, (.int .i64 5)] h_26) fun t136_27 h_28 =>
      chk ((sameB (pure1 h_28 (ld1 h_28 t121_9)) t122_10 && true)) <|
      oa (buildV [.int .i64 0, .int .i64 0, .int .i64 0, .int .i64 0] [(0, 1, t130_23), (1, 1, t134_25), (2, 1, t136_27)]) fun t137_29 =>
      ob (buildSl 4 1 [.int .i64 0, .int .i64 0, .int .i64 0, .int .i64 0] [(0, 4, t137_29)] h_28) fun t138_30 h_31 =>
      ob (apnd 4 32 t126_21 t138_30 h_31) fun t139_32 h_33 =>
      chk ((sameB (pure1 h_33 (ld1 h_33 t121_9)) t122_10 && true)) <|
      oa (buildV [.int .i64 0, .nils] [(0, 1, t122_10), (1, 1, t139_32)]) fun t140_34 =>
      oh (stN 2 h_33 t141_19 t140_34) fun h_35 =>
      oa (ldN 2 h_35 n11_6) fun t121_36 =>
      oa (ldN 2 h_35 t141_19) fun t123_37 =>
      ob (evalFn T k f_adj_New [t121_36] h_35) fun t122_38 h_39 =>
      chk ((sameB (pure1 h_39 (ldN 2 h_39 t141_19)) t123_37 && true)) <|
      ob (evalFn T k f_adj_New [t123_37] h_39) fun t124_40 h_41 =>
      oa (binV .eql .ptr t122_38 .nilp) fun t49_42 =>
      ob (gd t49_42 false (some (t124_40, h_41)) h_41) fun t51_43 h_44 =>
      ob (gd t49_42 false (pure1 h_44 (binV .eql .ptr t51_43 .nilp)) h_44) fun t52_45 h_46 =>
      oa (pickV t49_42 (.bool true) t52_45) fun t53_47 =>
      cond2 t53_47
        (
        some ((.bool false), h_46)
        )
        (
        oa (fldA 1 n11_6) fun t54_48 =>
        oa (ld1 h_46 t54_48) fun t55_49 =>
        oa (lenS t55_49) fun t56_50 =>
        milestonelaw2_AdjMore_l1 T k k n11_6 t141_19 t122_38 t124_40 t56_50 (.int .i64 0) h_46
        )
      ) := runEq (by kernel_rfl)
def milestonelaw2_known_rs : Res := [(0, none)]
noncomputable def milestonelaw2_known_mf : MFn := ⟨37, milestonelaw2_known_rs, .seq [0] (.region [⟨some 0, .op (.mv (.const (.bool false))), none⟩]) (.seq [2, 3, 4, 5] (.region [⟨some 2, .op (.build [.int .i64 0, .int .i64 0, .int .i64 0, .int .i64 0] [(0, 1, (.const (.int .i64 0))), (1, 1, (.const (.int .i64 1))), (2, 1, (.const (.int .i64 2)))]), none⟩,
  ⟨some 3, .op (.buildSlice 4 1 [.int .i64 0, .int .i64 0, .int .i64 0, .int .i64 0] [(0, 4, (.tmp 2))]), none⟩,
  ⟨some 4, .op (.build [.int .i64 0, .nils] [(0, 1, (.const (.int .i64 2))), (1, 1, (.tmp 3))]), none⟩,
  ⟨some 5, .call f_adj_New [(.tmp 4)], none⟩,
  ⟨some 1, .op (.mv (.tmp 5)), none⟩]) (.seq [1, 6, 7, 8, 9, 10, 11, 12, 13, 14, 15, 16, 17, 18, 19, 20, 21, 22, 23, 24, 25, 26, 27, 28, 29, 30, 31, 32, 33, 34, 35, 36] (.region [⟨some 6, .op (.mv (.tmp 1)), none⟩,
  ⟨some 7, .op (.bin .neq .ptr (.tmp 6) (.const .nilp)), none⟩,
  ⟨some 8, .op (.mv (.tmp 7)), none⟩,
  ⟨some 9, .op (.mv (.tmp 1)), some (8, true)⟩,
  ⟨some 10, .call f_adj_Adj_Out [(.tmp 9), (.const (.int .i64 1))], some (8, true)⟩,
  ⟨some 11, .op (.lenSl (.tmp 10)), some (8, true)⟩,
  ⟨some 12, .op (.bin .eql .scalar (.tmp 11) (.const (.int .i64 0))), some (8, true)⟩,
  ⟨some 13, .op (.pick (.tmp 8) (.tmp 12) (.const (.bool false))), none⟩,
  ⟨some 14, .op (.mv (.tmp 13)), none⟩,
  ⟨some 15, .op (.mv (.tmp 1)), some (14, true)⟩,
  ⟨some 16, .call f_adj_Adj_Out [(.tmp 15), (.const (.int .i64 0))], some (14, true)⟩,
  ⟨some 17, .op (.lenSl (.tmp 16)), some (14, true)⟩,
  ⟨some 18, .op (.bin .eql .scalar (.tmp 17) (.const (.int .i64 1))), some (14, true)⟩,
  ⟨some 19, .op (.pick (.tmp 14) (.tmp 18) (.const (.bool false))), none⟩,
  ⟨some 20, .op (.mv (.tmp 19)), none⟩,
  ⟨some 21, .op (.mv (.tmp 1)), some (20, true)⟩,
  ⟨some 22, .call f_adj_Adj_In [(.tmp 21), (.const (.int .i64 1))], some (20, true)⟩,
  ⟨some 23, .op (.lenSl (.tmp 22)), some (20, true)⟩,
  ⟨some 24, .op (.bin .eql .scalar (.tmp 23) (.const (.int .i64 1))), some (20, true)⟩,
  ⟨some 25, .op (.pick (.tmp 20) (.tmp 24) (.const (.bool false))), none⟩,
  ⟨some 26, .op (.mv (.tmp 25)), none⟩,
  ⟨some 27, .op (.mv (.tmp 1)), some (26, true)⟩,
  ⟨some 28, .call f_adj_Adj_Modes [(.tmp 27), (.const (.int .i64 0))], some (26, true)⟩,
  ⟨some 29, .op (.bin .eql .scalar (.tmp 28) (.const (.int .i64 4))), some (26, true)⟩,
  ⟨some 30, .op (.pick (.tmp 26) (.tmp 29) (.const (.bool false))), none⟩,
  ⟨some 31, .op (.mv (.tmp 30)), none⟩,
  ⟨some 32, .op (.mv (.tmp 1)), some (31, true)⟩,
  ⟨some 33, .call f_adj_Adj_Reach [(.tmp 32), (.const (.int .i64 0)), (.const (.int .i64 4))], some (31, true)⟩,
  ⟨some 34, .op (.lenSl (.tmp 33)), some (31, true)⟩,
  ⟨some 35, .op (.bin .eql .scalar (.tmp 34) (.const (.int .i64 2))), some (31, true)⟩,
  ⟨some 36, .op (.pick (.tmp 31) (.tmp 35) (.const (.bool false))), none⟩,
  ⟨some 0, .op (.mv (.tmp 36)), none⟩]) .ret))⟩
theorem milestonelaw2_known_eq (T : Tab) (k : Nat) (h : Heap) : runF T k milestonelaw2_known_mf [] h =
    oa (buildV [.int .i64 0, .int .i64 0, .int .i64 0, .int .i64 0] [(0, 1, (.int .i64 0)), (1, 1, (.int .i64 1)), (2, 1, (.int .i64 2))]) fun t2_1 =>
    ob (buildSl 4 1 [.int .i64 0, .int .i64 0, .int .i64 0, .int .i64 0] [(0, 4, t2_1)] h) fun t3_2 h_3 =>
    oa (buildV [.int .i64 0, .nils] [(0, 1, (.int .i64 2)), (1, 1, t3_2)]) fun t4_4 =>
    ob (evalFn T k f_adj_New [t4_4] h_3) fun t5_5 h_6 =>
    oa (binV .neq .ptr t5_5 .nilp) fun t7_7 =>
    ob (gd t7_7 true (some (t5_5, h_6)) h_6) fun t9_8 h_9 =>
    ob (gd t7_7 true (evalFn T k f_adj_Adj_Out [t9_8, (.int .i64 1)] h_9) h_9) fun t10_10 h_11 =>
    ob (gd t7_7 true (pure1 h_11 (lenS t10_10)) h_11) fun t11_12 h_13 =>
    ob (gd t7_7 true (pure1 h_13 (binV .eql .scalar t11_12 (.int .i64 0))) h_13) fun t12_14 h_15 =>
    oa (pickV t7_7 t12_14 (.bool false)) fun t13_16 =>
    ob (gd t13_16 true (some (t5_5, h_15)) h_15) fun t15_17 h_18 =>
    ob (gd t13_16 true (evalFn T k f_adj_Adj_Out [t15_17, (.int .i64 0)] h_18) h_18) fun t16_19 h_20 =>
    ob (gd t13_16 true (pure1 h_20 (lenS t16_19)) h_20) fun t17_21 h_22 =>
    ob (gd t13_16 true (pure1 h_22 (binV .eql .scalar t17_21 (.int .i64 1))) h_22) fun t18_23 h_24 =>
    oa (pickV t13_16 t18_23 (.bool false)) fun t19_25 =>
    ob (gd t19_25 true (some (t5_5, h_24)) h_24) fun t21_26 h_27 =>
    ob (gd t19_25 true (evalFn T k f_adj_Adj_In [t21_26, (.int .i64 1)] h_27) h_27) fun t22_28 h_29 =>
    ob (gd t19_25 true (pure1 h_29 (lenS t22_28)) h_29) fun t23_30 h_31 =>
    ob (gd t19_25 true (pure1 h_31 (binV .eql .scalar t23_30 (.int .i64 1))) h_31) fun t24_32 h_33 =>
    oa (pickV t19_25 t24_32 (.bool false)) fun t25_34 =>
    ob (gd t25_34 true (some (t5_5, h_33)) h_33) fun t27_35 h_36 =>
    ob (gd t25_34 true (evalFn T k f_adj_Adj_Modes [t27_35, (.int .i64 0)] h_36) h_36) fun t28_37 h_38 =>
    ob (gd t25_34 true (pure1 h_38 (binV .eql .scalar t28_37 (.int .i64 4))) h_38) fun t29_39 h_40 =>
    oa (pickV t25_34 t29_39 (.bool false)) fun t30_41 =>
    ob (gd t30_41 true (some (t5_5, h_40)) h_40) fun t32_42 h_43 =>
    ob (gd t30_41 true (evalFn T k f_adj_Adj_Reach [t32_42, (.int .i64 0), (.int .i64 4)] h_43) h_43) fun t33_44 h_45 =>
    ob (gd t30_41 true (pure1 h_45 (lenS t33_44)) h_45) fun t34_46 h_47 =>
    ob (gd t30_41 true (pure1 h_47 (binV .eql .scalar t34_46 (.int .i64 2))) h_47) fun t35_48 h_49 =>
    oa (pickV t30_41 t35_48 (.bool false)) fun t36_50 =>
    some (t36_50, h_49) := runEq (by kernel_rfl)
noncomputable def milestonelaw1_Make_c1 : MCode := .region [⟨some 73, .op (.fieldAddr 1 (.tmp 7)), none⟩,
  ⟨some 74, .op (.load none (.tmp 73)), none⟩,
  ⟨some 75, .op (.load (some 4) (.tmp 10)), none⟩,
  ⟨some 76, .op (.buildSlice 4 1 [.int .i64 0, .int .i64 0, .int .i64 0, .int .i64 0] [(0, 4, (.tmp 75))]), none⟩,
  ⟨some 77, .op (.append 4 32 (.tmp 74) (.tmp 76)), none⟩,
  ⟨some 78, .op (.fieldAddr 1 (.tmp 7)), none⟩,
  ⟨none, .op (.store 1 (.tmp 78) (.tmp 77)), none⟩]
noncomputable def milestonelaw1_Make_c2 : MCode := .seq [9, 67, 68, 69, 70, 71, 72] (.seq [65, 66] (.region [⟨some 65, .op (.mv (.tmp 9)), none⟩,
  ⟨some 66, .call f_milestonelaw1_within [(.tmp 65), (.const (.int .i64 31))], none⟩,
  ⟨some 67, .op (.bin .eql .scalar (.tmp 66) (.const (.int .i64 0))), none⟩]) (.cond (.tmp 67) (.region [⟨some 68, .op (.mv (.tmp 9)), none⟩,
  ⟨some 69, .op (.bin .quo .scalar (.tmp 68) (.const (.int .i64 31))), none⟩,
  ⟨some 70, .call f_milestonelaw1_within [(.tmp 69), (.const (.int .i64 3))], none⟩,
  ⟨some 71, .op (.bin .sub .scalar (.const (.int .i64 2147483647)) (.tmp 70)), none⟩,
  ⟨some 72, .op (.fieldAddr 3 (.tmp 10)), none⟩,
  ⟨none, .op (.store 1 (.tmp 72) (.tmp 71)), none⟩]) .skip)) (.lab milestonelaw1_Make_c1)
noncomputable def milestonelaw1_Make_c3 : MCode := .seq [22] (.seq [15, 16, 17, 18, 19, 20, 21] (.region [⟨some 15, .op (.mv (.tmp 8)), none⟩,
  ⟨some 16, .op (.mv (.tmp 1)), none⟩,
  ⟨some 17, .op (.lenSl (.tmp 16)), none⟩,
  ⟨some 18, .op (.bin .lss .scalar (.tmp 15) (.tmp 17)), none⟩,
  ⟨some 19, .op (.mv (.tmp 18)), none⟩,
  ⟨some 20, .op (.mv (.tmp 8)), some (19, true)⟩,
  ⟨some 21, .op (.bin .lss .scalar (.tmp 20) (.const (.int .i64 40))), some (19, true)⟩,
  ⟨some 22, .op (.pick (.tmp 19) (.tmp 21) (.const (.bool false))), none⟩]) (.cond (.tmp 22) .skip (.exit 0))) (.seq [10, 73, 74, 75, 76, 77, 78] (.block 1 (.seq [25, 26, 27, 28] (.region [⟨some 25, .op (.mv (.tmp 1)), none⟩,
  ⟨some 26, .op (.mv (.tmp 8)), none⟩,
  ⟨some 27, .op (.idxSl 1 (.tmp 25) (.tmp 26)), none⟩,
  ⟨some 28, .op (.load none (.tmp 27)), none⟩,
  ⟨some 9, .op (.mv (.tmp 28)), none⟩]) (.seq [29, 30, 31, 32, 33, 34, 35, 36, 37, 38, 39, 40, 41, 42, 43, 44] (.regionD 80 [⟨0, ⟨some 80, .op (.mv (.tmp 9)), none⟩, []⟩,
  ⟨1, ⟨some 81, .op (.fieldAddr 0 (.tmp 7)), none⟩, []⟩,
  ⟨2, ⟨some 82, .op (.load none (.tmp 81)), none⟩, []⟩,
  ⟨4, ⟨some 84, .op (.mv (.tmp 9)), none⟩, []⟩,
  ⟨5, ⟨some 85, .op (.bin .quo .scalar (.tmp 84) (.const (.int .i64 13))), none⟩, []⟩,
  ⟨6, ⟨some 86, .op (.fieldAddr 0 (.tmp 7)), none⟩, []⟩,
  ⟨7, ⟨some 87, .op (.load none (.tmp 86)), none⟩, []⟩,
  ⟨9, ⟨some 89, .op (.mv (.tmp 9)), none⟩, []⟩,
  ⟨10, ⟨some 90, .op (.bin .quo .scalar (.tmp 89) (.const (.int .i64 170))), none⟩, []⟩,
  ⟨12, ⟨some 92, .op (.mv (.tmp 9)), none⟩, []⟩,
  ⟨13, ⟨some 93, .op (.bin .quo .scalar (.tmp 92) (.const (.int .i64 900))), none⟩, []⟩,
  ⟨16, ⟨some 96, .op (.alloc [.int .i64 0, .int .i64 0, .int .i64 0, .int .i64 0]), none⟩, []⟩,
  ⟨3, ⟨some 83, .call f_milestonelaw1_within [(.tmp 80), (.tmp 82)], none⟩, [(87, ⟨some 87, .op (.load none (.tmp 86)), none⟩)]⟩,
  ⟨8, ⟨some 88, .call f_milestonelaw1_within [(.tmp 85), (.tmp 87)], none⟩, []⟩,
  ⟨11, ⟨some 91, .call f_milestonelaw1_within [(.tmp 90), (.const (.int .i64 5))], none⟩, []⟩,
  ⟨14, ⟨some 94, .call f_milestonelaw1_within [(.tmp 93), (.const (.int .i64 9))], none⟩, []⟩,
  ⟨15, ⟨some 95, .op (.build [.int .i64 0, .int .i64 0, .int .i64 0, .int .i64 0] [(0, 1, (.tmp 83)), (1, 1, (.tmp 88)), (2, 1, (.tmp 91)), (3, 1, (.tmp 94))]), none⟩, []⟩,
  ⟨17, ⟨some 97, .op (.store 4 (.tmp 96) (.tmp 95)), none⟩, []⟩] [(29, 80), (30, 81), (31, 82), (32, 83), (33, 84), (34, 85), (35, 86), (36, 87), (37, 88), (38, 89), (39, 90), (40, 91), (41, 92), (42, 93), (43, 94), (44, 95), (10, 96)]) (.seq [47, 48, 49, 50, 51, 52, 53, 54, 57, 58, 59, 60, 61, 62, 63, 64] (.seq [45, 46] (.region [⟨some 45, .op (.mv (.tmp 2)), none⟩,
  ⟨some 46, .call f_milestonelaw1_within [(.tmp 45), (.const (.int .i64 3))], none⟩,
  ⟨some 47, .op (.bin .eql .scalar (.tmp 46) (.const (.int .i64 0))), none⟩]) (.cond (.tmp 47) (.region [⟨some 48, .op (.fieldAddr 0 (.tmp 10)), none⟩,
  ⟨some 49, .op (.load none (.tmp 48)), none⟩,
  ⟨some 50, .op (.fieldAddr 1 (.tmp 10)), none⟩,
  ⟨some 51, .op (.load none (.tmp 50)), none⟩,
  ⟨some 52, .op (.bin .add .scalar (.tmp 49) (.tmp 51)), none⟩,
  ⟨some 53, .call f_milestonelaw1_within [(.tmp 52), (.const (.int .i64 2))], none⟩,
  ⟨some 54, .op (.fieldAddr 2 (.tmp 10)), none⟩,
  ⟨none, .op (.store 1 (.tmp 54) (.tmp 53)), none⟩]) (.seq [47, 55, 56] (.region [⟨some 55, .op (.mv (.tmp 2)), none⟩,
  ⟨some 56, .call f_milestonelaw1_within [(.tmp 55), (.const (.int .i64 3))], none⟩,
  ⟨some 57, .op (.bin .eql .scalar (.tmp 56) (.const (.int .i64 1))), none⟩]) (.cond (.tmp 57) (.region [⟨some 58, .op (.fieldAddr 2 (.tmp 10)), none⟩,
  ⟨some 59, .op (.load none (.tmp 58)), none⟩,
  ⟨some 60, .op (.fieldAddr 0 (.tmp 10)), none⟩,
  ⟨some 61, .op (.load none (.tmp 60)), none⟩,
  ⟨some 62, .op (.bin .mul .scalar (.tmp 59) (.tmp 61)), none⟩,
  ⟨some 63, .call f_milestonelaw1_within [(.tmp 62), (.const (.int .i64 3))], none⟩,
  ⟨some 64, .op (.fieldAddr 2 (.tmp 10)), none⟩,
  ⟨none, .op (.store 1 (.tmp 64) (.tmp 63)), none⟩]) .skip)))) (.lab milestonelaw1_Make_c2))))) (.region [⟨some 23, .op (.mv (.tmp 8)), none⟩,
  ⟨some 24, .op (.bin .add .scalar (.tmp 23) (.const (.int .i64 1))), none⟩,
  ⟨some 8, .op (.mv (.tmp 24)), none⟩]))
def milestonelaw1_Make_rs : Res := [(6, some (some 2))]
noncomputable def milestonelaw1_Make_mf : MFn := ⟨80, milestonelaw1_Make_rs, .seq [] (.region [⟨some 6, .op (.alloc [.int .i64 0, .nils]), none⟩]) (.seq [0, 11, 12, 13, 14] (.region [⟨some 11, .op (.mv (.tmp 0)), none⟩,
  ⟨some 12, .call f_milestonelaw1_within [(.tmp 11), (.const (.int .i64 12))], none⟩,
  ⟨some 13, .op (.bin .add .scalar (.const (.int .i64 1)) (.tmp 12)), none⟩,
  ⟨some 14, .op (.build [.int .i64 0, .nils] [(0, 1, (.tmp 13))]), none⟩,
  ⟨some 7, .op (.alloc [.int .i64 0, .nils]), none⟩,
  ⟨none, .op (.store 2 (.tmp 7) (.tmp 14)), none⟩]) (.seq [1, 2, 8, 22] (.seq [] (.region [⟨some 8, .op (.mv (.const (.int .i64 0))), none⟩]) (.block 0 (.loop [23, 24] milestonelaw1_Make_c3))) (.seq [7, 79] (.region [⟨some 79, .op (.load (some 2) (.tmp 7)), none⟩,
  ⟨none, .op (.store 2 (.tmp 6) (.tmp 79)), none⟩]) .ret)))⟩
noncomputable def milestonelaw1_Make_l1 (T : Tab) (k j0 : Nat) (ns1 modes2 t6 n7 i8 : AV) (h : Heap) : Option (AV × Heap) :=
  loopB T k milestonelaw1_Make_rs j0 [23, 24] milestonelaw1_Make_c3 [.blk 0, .seq [1, 2, 8, 22] (.seq [7, 79] (.region [⟨some 79, .op (.load (some 2) (.tmp 7)), none⟩,
  ⟨none, .op (.store 2 (.tmp 6) (.tmp 79)), none⟩]) .ret)] [.undef, ns1, modes2, .undef, .undef, .undef, t6, n7, i8, .undef, .undef, .undef, .undef, .undef, .undef, .undef, .undef, .undef, .undef, .undef, .undef, .undef, .undef, .undef, .undef, .undef, .undef, .undef, .undef, .undef, .undef, .undef, .undef, .undef, .undef, .undef, .undef, .undef, .undef, .undef, .undef, .undef, .undef, .undef, .undef, .undef, .undef, .undef, .undef, .undef, .undef, .undef, .undef, .undef, .undef, .undef, .undef, .undef, .undef, .undef, .undef, .undef, .undef, .undef, .undef, .undef, .undef, .undef, .undef, .undef, .undef, .undef, .undef, .undef, .undef, .undef, .undef, .undef, .undef, .undef] h
noncomputable def milestonelaw1_Make_b2 (T : Tab) (k j0 : Nat) (ns1 modes2 t6 n7 i8 k9 e10 : AV) (h : Heap) : Option (AV × Heap) :=
  evB T k milestonelaw1_Make_rs milestonelaw1_Make_c2 [.blk 1, .seq [10, 73, 74, 75, 76, 77, 78] (.region [⟨some 23, .op (.mv (.tmp 8)), none⟩,
  ⟨some 24, .op (.bin .add .scalar (.tmp 23) (.const (.int .i64 1))), none⟩,
  ⟨some 8, .op (.mv (.tmp 24)), none⟩]), .lp j0 [23, 24] milestonelaw1_Make_c3, .blk 0, .seq [1, 2, 8, 22] (.seq [7, 79] (.region [⟨some 79, .op (.load (some 2) (.tmp 7)), none⟩,
  ⟨none, .op (.store 2 (.tmp 6) (.tmp 79)), none⟩]) .ret)] [.undef, ns1, modes2, .undef, .undef, .undef, t6, n7, i8, k9, e10, .undef, .undef, .undef, .undef, .undef, .undef, .undef, .undef, .undef, .undef, .undef, .undef, .undef, .undef, .undef, .undef, .undef, .undef, .undef, .undef, .undef, .undef, .undef, .undef, .undef, .undef, .undef, .undef, .undef, .undef, .undef, .undef, .undef, .undef, .undef, .undef, .undef, .undef, .undef, .undef, .undef, .undef, .undef, .undef, .undef, .undef, .undef, .undef, .undef, .undef, .undef, .undef, .undef, .undef, .undef, .undef, .undef, .undef, .undef, .undef, .undef, .undef, .undef, .undef, .undef, .undef, .undef, .undef, .undef] h
noncomputable def milestonelaw1_Make_b3 (T : Tab) (k j0 : Nat) (ns1 modes2 t6 n7 i8 e10 : AV) (h : Heap) : Option (AV × Heap) :=
  evB T k milestonelaw1_Make_rs milestonelaw1_Make_c1 [.blk 1, .seq [10, 73, 74, 75, 76, 77, 78] (.region [⟨some 23, .op (.mv (.tmp 8)), none⟩,
  ⟨some 24, .op (.bin .add .scalar (.tmp 23) (.const (.int .i64 1))), none⟩,
  ⟨some 8, .op (.mv (.tmp 24)), none⟩]), .lp j0 [23, 24] milestonelaw1_Make_c3, .blk 0, .seq [1, 2, 8, 22] (.seq [7, 79] (.region [⟨some 79, .op (.load (some 2) (.tmp 7)), none⟩,
  ⟨none, .op (.store 2 (.tmp 6) (.tmp 79)), none⟩]) .ret)] [.undef, ns1, modes2, .undef, .undef, .undef, t6, n7, i8, .undef, e10, .undef, .undef, .undef, .undef, .undef, .undef, .undef, .undef, .undef, .undef, .undef, .undef, .undef, .undef, .undef, .undef, .undef, .undef, .undef, .undef, .undef, .undef, .undef, .undef, .undef, .undef, .undef, .undef, .undef, .undef, .undef, .undef, .undef, .undef, .undef, .undef, .undef, .undef, .undef, .undef, .undef, .undef, .undef, .undef, .undef, .undef, .undef, .undef, .undef, .undef, .undef, .undef, .undef, .undef, .undef, .undef, .undef, .undef, .undef, .undef, .undef, .undef, .undef, .undef, .undef, .undef, .undef, .undef, .undef] h
theorem milestonelaw1_Make_b3_eq (T : Tab) (k j0 : Nat) (ns1 modes2 t6 n7 i8 e10 : AV) (h : Heap) : milestonelaw1_Make_b3 T k j0 ns1 modes2 t6 n7 i8 e10 h =
    oa (fldA 1 n7) fun t73_1 =>
    oa (ld1 h t73_1) fun t74_2 =>
    oa (ldN 4 h e10) fun t75_3 =>
    ob (buildSl 4 1 [.int .i64 0, .int .i64 0, .int .i64 0, .int .i64 0] [(0, 4, t75_3)] h) fun t76_4 h_5 =>
    ob (apnd 4 32 t74_2 t76_4 h_5) fun t77_6 h_7 =>
    oa (fldA 1 n7) fun t78_8 =>
    oh (stN 1 h_7 t78_8 t77_6) fun h_9 =>
    oa (binV .add .scalar i8 (.int .i64 1)) fun t24_10 =>
    milestonelaw1_Make_l1 T k j0 ns1 modes2 t6 n7 t24_10 h_9 := blockEq (by kernel_rfl)
theorem milestonelaw1_Make_b2_eq (T : Tab) (k j0 : Nat) (ns1 modes2 t6 n7 i8 k9 e10 : AV) (h : Heap) : milestonelaw1_Make_b2 T k j0 ns1 modes2 t6 n7 i8 k9 e10 h =
    ob (evalFn T k f_milestonelaw1_within [k9, (.int .i64 31)] h) fun t66_1 h_2 =>
    oa (binV .eql .scalar t66_1 (.int .i64 0)) fun t67_3 =>
    cond2 t67_3
      (
      oa (binV .quo .scalar k9 (.int .i64 31)) fun t69_4 =>
      ob (evalFn T k f_milestonelaw1_within [t69_4, (.int .i64 3)] h_2) fun t70_5 h_6 =>
      oa (binV .sub .scalar (.int .i64 2147483647) t70_5) fun t71_7 =>
      oa (fldA 3 e10) fun t72_8 =>
      oh (stN 1 h_6 t72_8 t71_7) fun h_9 =>
      milestonelaw1_Make_b3 T k j0 ns1 modes2 t6 n7 i8 e10 h_9
      )
      (
      milestonelaw1_Make_b3 T k j0 ns1 modes2 t6 n7 i8 e10 h_2
      ) := blockEq (by kernel_rfl)
theorem milestonelaw1_Make_l1_eq (T : Tab) (k j0 : Nat) (ns1 modes2 t6 n7 i8 : AV) (h : Heap) : milestonelaw1_Make_l1 T k (j0 + 1) ns1 modes2 t6 n7 i8 h =
    oa (lenS ns1) fun t17_1 =>
    oa (binV .lss .scalar i8 t17_1) fun t18_2 =>
    ob (gd t18_2 true (some (i8, h)) h) fun t20_3 h_4 =>
    ob (gd t18_2 true (pure1 h_4 (binV .lss .scalar t20_3 (.int .i64 40))) h_4) fun t21_5 h_6 =>
    oa (pickV t18_2 t21_5 (.bool false)) fun t22_7 =>
    cond2 t22_7
      (
      oa (idxS 1 ns1 i8) fun t27_8 =>
      oa (ld1 h_6 t27_8) fun t28_9 =>
      oa (fldA 0 n7) fun t81_10 =>
      oa (ld1 h_6 t81_10) fun t82_11 =>
      oa (binV .quo .scalar t28_9 (.int .i64 13)) fun t85_12 =>
      oa (fldA 0 n7) fun t86_13 =>
      oa (ld1 h_6 t86_13) fun t87_14 =>
      oa (binV .quo .scalar t28_9 (.int .i64 170)) fun t90_15 =>
      oa (binV .quo .scalar t28_9 (.int .i64 900)) fun t93_16 =>
      ob (newVar h_6 [.int .i64 0, .int .i64 0, .int .i64 0, .int .i64 0]) fun t96_17 h_18 =>
      ob (evalFn T k f_milestonelaw1_within [t28_9, t82_11] h_18) fun t83_19 h_20 =>
      chk ((sameB (pure1 h_20 (ld1 h_20 t86_13)) t87_14 && true)) <|
      ob (evalFn T k f_milestonelaw1_within [t85_12, t87_14] h_20) fun t88_21 h_22 =>
      ob (evalFn T k f_milestonelaw1_within [t90_15, (.int .i64 5)] h_22) fun t91_23 h_24 =>
      ob (evalFn T k f_milestonelaw1_within [t93_16, (.int .i64 9)] h_24) fun t94_25 h_26 =>
      oa (buildV [.int .i64 0, .int .i64 0, .int .i64 0, .int .i64 0] [(0, 1, t83_19), (1, 1, t88_21), (2, 1, t91_23), (3, 1, t94_25)]) fun t95_27 =>
      oh (stN 4 h_26 t96_17 t95_27) fun h_28 =>
      ob (evalFn T k f_milestonelaw1_within [modes2, (.int .i64 3)] h_28) fun t46_29 h_30 =>
      oa (binV .eql .scalar t46_29 (.int .i64 0)) fun t47_31 =>
      cond2 t47_31
        (
        oa (fldA 0 t96_17) fun t48_32 =>
        oa (ld1 h_30 t48_32) fun t49_33 =>
        oa (fldA 1 t96_17) fun t50_34 =>
        oa (ld1 h_30 t50_34) fun t51_35 =>
        oa (binV .add .scalar t49_33 t51_35) fun t52_36 =>
        ob (evalFn T k f_milestonelaw1_within [t52_36, (.int .i64 2)] h_30) fun t53_37 h_38 =>
        oa (fldA 2 t96_17) fun t54_39 =>
        oh (stN 1 h_38 t54_39 t53_37) fun h_40 =>
        milestonelaw1_Make_b2 T k j0 ns1 modes2 t6 n7 i8 t28_9 t96_17 h_40
        )
        (
        ob (evalFn T k f_milestonelaw1_within [modes2, (.int .i64 3)] h_30) fun t56_41 h_42 =>
        oa (binV .eql .scalar t56_41 (.int .i64 1)) fun t57_43 =>
        cond2 t57_43
          (
          oa (fldA 2 t96_17) fun t58_44 =>
          oa (ld1 h_42 t58_44) fun t59_45 =>
          oa (fldA 0 t96_17) fun t60_46 =>
          oa (ld1 h_42 t60_46) fun t61_47 =>
          oa (binV .mul .scalar t59_45 t61_47) fun t62_48 =>
          ob (evalFn T k f_milestonelaw1_within [t62_48, (.int .i64 3)] h_42) fun t63_49 h_50 =>
          oa (fldA 2 t96_17) fun t64_51 =>
          oh (stN 1 h_50 t64_51 t63_49) fun h_52 =>
          milestonelaw1_Make_b2 T k j0 ns1 modes2 t6 n7 i8 t28_9 t96_17 h_52
          )
          (
          milestonelaw1_Make_b2 T k j0 ns1 modes2 t6 n7 i8 t28_9 t96_17 h_42
          )
        )
      )
      (
      oa (ldN 2 h_6 n7) fun t79_53 =>
      oh (stN 2 h_6 t6 t79_53) fun h_54 =>
      oa (ldN 2 h_54 t6) fun t6_55 =>
      some (t6_55, h_54)
      ) := loopEq (by kernel_rfl)
theorem milestonelaw1_Make_eq (T : Tab) (k : Nat) (size0 ns1 modes2 : AV) (h : Heap) : runF T k milestonelaw1_Make_mf [size0, ns1, modes2] h =
    ob (newVar h [.int .i64 0, .nils]) fun t6_1 h_2 =>
    ob (evalFn T k f_milestonelaw1_within [size0, (.int .i64 12)] h_2) fun t12_3 h_4 =>
    oa (binV .add .scalar (.int .i64 1) t12_3) fun t13_5 =>
    oa (buildV [.int .i64 0, .nils] [(0, 1, t13_5)]) fun t14_6 =>
    ob (newVar h_4 [.int .i64 0, .nils]) fun n7_7 h_8 =>
    oh (stN 2 h_8 n7_7 t14_6) fun h_9 =>
    milestonelaw1_Make_l1 T k k ns1 modes2 t6_1 n7_7 (.int .i64 0) h_9 := runEq (by kernel_rfl)
noncomputable def adj_New_c1 : MCode := .seq [] (.region [⟨some 29, .op (.bin .lss .scalar (.tmp 28) (.tmp 27)), none⟩]) (.seq [29] (.cond (.tmp 29) .skip (.exit 0)) (.seq [4, 5, 42, 54, 55, 56, 57, 58, 59, 60, 61, 62, 63, 64] (.block 1 (.seq [30, 31, 32] (.region [⟨some 30, .op (.mv (.tmp 28)), none⟩,
  ⟨some 31, .op (.idxSl 4 (.tmp 26) (.tmp 28)), none⟩,
  ⟨some 32, .op (.load (some 4) (.tmp 31)), none⟩,
  ⟨some 5, .op (.alloc [.int .i64 0, .int .i64 0, .int .i64 0, .int .i64 0]), none⟩,
  ⟨some 4, .op (.mv (.tmp 30)), none⟩,
  ⟨none, .op (.store 4 (.tmp 5) (.tmp 32)), none⟩]) (.seq [33, 34, 35, 36, 37, 38, 39, 40, 41] (.region [⟨some 33, .op (.mv (.tmp 3)), none⟩,
  ⟨some 34, .op (.fieldAddr 0 (.tmp 5)), none⟩,
  ⟨some 35, .op (.load none (.tmp 34)), none⟩,
  ⟨some 36, .call f_adj_Adj_is [(.tmp 33), (.tmp 35)], none⟩,
  ⟨some 37, .op (.mv (.tmp 36)), none⟩,
  ⟨some 38, .op (.mv (.tmp 3)), some (37, true)⟩,
  ⟨some 39, .op (.fieldAddr 1 (.tmp 5)), some (37, true)⟩,
  ⟨some 40, .op (.load none (.tmp 39)), some (37, true)⟩,
  ⟨some 41, .call f_adj_Adj_is [(.tmp 38), (.tmp 40)], some (37, true)⟩,
  ⟨some 42, .op (.pick (.tmp 37) (.tmp 41) (.const (.bool false))), none⟩]) (.cond (.tmp 42) (.seq [42, 43, 44, 45, 46, 47, 48, 49, 50, 51, 52, 53] (.regionD 67 [⟨0, ⟨some 67, .op (.mv (.tmp 3)), none⟩, []⟩,
  ⟨1, ⟨some 68, .op (.nilCheck (.tmp 67)), none⟩, []⟩,
  ⟨2, ⟨some 69, .op (.fieldAddr 2 (.tmp 68)), none⟩, []⟩,
  ⟨3, ⟨some 70, .op (.load none (.tmp 69)), none⟩, []⟩,
  ⟨4, ⟨some 71, .op (.fieldAddr 0 (.tmp 5)), none⟩, []⟩,
  ⟨5, ⟨some 72, .op (.load none (.tmp 71)), none⟩, []⟩,
  ⟨6, ⟨some 73, .op (.idxSl 2 (.tmp 70) (.tmp 72)), none⟩, []⟩,
  ⟨7, ⟨some 74, .op (.mv (.tmp 4)), none⟩, []⟩,
  ⟨8, ⟨some 75, .op (.fieldAddr 1 (.tmp 5)), none⟩, []⟩,
  ⟨9, ⟨some 76, .op (.load none (.tmp 75)), none⟩, []⟩,
  ⟨10, ⟨some 77, .call f_adj_ends_add [(.tmp 73), (.tmp 74), (.tmp 76)], none⟩, []⟩] [(43, 67), (44, 68), (45, 69), (46, 70), (47, 71), (48, 72), (49, 73), (50, 74), (51, 75), (52, 76), (53, 77)]) (.regionD 67 [⟨0, ⟨some 67, .op (.mv (.tmp 3)), none⟩, []⟩,
  ⟨1, ⟨some 68, .op (.nilCheck (.tmp 67)), none⟩, []⟩,
  ⟨2, ⟨some 69, .op (.fieldAddr 3 (.tmp 68)), none⟩, []⟩,
  ⟨3, ⟨some 70, .op (.load none (.tmp 69)), none⟩, []⟩,
  ⟨4, ⟨some 71, .op (.fieldAddr 1 (.tmp 5)), none⟩, []⟩,
  ⟨5, ⟨some 72, .op (.load none (.tmp 71)), none⟩, []⟩,
  ⟨6, ⟨some 73, .op (.idxSl 2 (.tmp 70) (.tmp 72)), none⟩, []⟩,
  ⟨7, ⟨some 74, .op (.mv (.tmp 4)), none⟩, []⟩,
  ⟨8, ⟨some 75, .op (.fieldAddr 0 (.tmp 5)), none⟩, []⟩,
  ⟨9, ⟨some 76, .op (.load none (.tmp 75)), none⟩, []⟩,
  ⟨10, ⟨some 77, .call f_adj_ends_add [(.tmp 73), (.tmp 74), (.tmp 76)], none⟩, []⟩] [(54, 67), (55, 68), (56, 69), (57, 70), (58, 71), (59, 72), (60, 73), (61, 74), (62, 75), (63, 76), (64, 77)])) .skip)))) (.region [⟨some 65, .op (.bin .add .scalar (.tmp 28) (.const (.int .i64 1))), none⟩,
  ⟨some 28, .op (.mv (.tmp 65)), none⟩])))
def adj_New_rs : Res := [(2, none)]
noncomputable def adj_New_mf : MFn := ⟨67, adj_New_rs, .seq [0, 2] (.region [⟨some 1, .op (.box (.tmp 0)), none⟩,
  ⟨some 2, .op (.mv (.const .nilp)), none⟩]) (.seq [6, 7, 8, 9, 10, 11, 12, 13, 14, 15] (.regionD 67 [⟨0, ⟨some 67, .op (.fieldAddr 0 (.tmp 1)), none⟩, []⟩,
  ⟨1, ⟨some 68, .op (.load none (.tmp 67)), none⟩, []⟩,
  ⟨2, ⟨some 69, .op (.mm true (.tmp 68) (.const (.int .i64 0))), none⟩, []⟩,
  ⟨3, ⟨some 70, .op (.mkSlice [.nils, .nils] 2 48 (.tmp 69) (.tmp 69)), none⟩, []⟩,
  ⟨4, ⟨some 71, .op (.fieldAddr 0 (.tmp 1)), none⟩, []⟩,
  ⟨5, ⟨some 72, .op (.load none (.tmp 71)), none⟩, []⟩,
  ⟨6, ⟨some 73, .op (.mm true (.tmp 72) (.const (.int .i64 0))), none⟩, []⟩,
  ⟨7, ⟨some 74, .op (.mkSlice [.nils, .nils] 2 48 (.tmp 73) (.tmp 73)), none⟩, []⟩,
  ⟨8, ⟨some 75, .op (.build [.int .i64 0, .nils, .nils, .nils] [(2, 1, (.tmp 70)), (3, 1, (.tmp 74))]), none⟩, []⟩,
  ⟨9, ⟨some 76, .op (.box (.tmp 75)), none⟩, []⟩,
  ⟨10, ⟨some 77, .op (.mv (.tmp 76)), none⟩, []⟩] [(6, 67), (7, 68), (8, 69), (9, 70), (10, 71), (11, 72), (12, 73), (13, 74), (14, 75), (15, 76), (3, 77)]) (.seq [16, 17, 18, 19, 20, 21, 22, 23, 24] (.regionD 67 [⟨0, ⟨some 67, .op (.mv (.tmp 3)), none⟩, []⟩,
  ⟨1, ⟨some 68, .op (.fieldAddr 0 (.tmp 1)), none⟩, []⟩,
  ⟨2, ⟨some 69, .op (.load none (.tmp 68)), none⟩, []⟩,
  ⟨3, ⟨some 70, .op (.fieldAddr 1 (.tmp 1)), none⟩, []⟩,
  ⟨4, ⟨some 71, .op (.load none (.tmp 70)), none⟩, []⟩,
  ⟨5, ⟨some 72, .call f_slices_Clone_api_Edge [(.tmp 71)], none⟩, [(69, ⟨some 69, .op (.load none (.tmp 68)), none⟩)]⟩,
  ⟨6, ⟨some 73, .op (.build [.int .i64 0, .nils] [(0, 1, (.tmp 69)), (1, 1, (.tmp 72))]), none⟩, []⟩,
  ⟨7, ⟨some 74, .op (.nilCheck (.tmp 67)), none⟩, []⟩,
  ⟨8, ⟨some 75, .op (.fieldAddr 0 (.tmp 74)), none⟩, []⟩,
  ⟨9, ⟨some 76, .op (.store 2 (.tmp 75) (.tmp 73)), none⟩, []⟩] [(16, 67), (17, 68), (18, 69), (19, 70), (20, 71), (21, 72), (22, 73), (23, 74), (24, 75)]) (.seq [26, 27, 28, 29] (.seq [1, 25] (.region [⟨some 25, .op (.fieldAddr 1 (.tmp 1)), none⟩,
  ⟨some 26, .op (.load none (.tmp 25)), none⟩,
  ⟨some 27, .op (.lenSl (.tmp 26)), none⟩,
  ⟨some 28, .op (.mv (.const (.int .i64 0))), none⟩]) (.block 0 (.loop [65] adj_New_c1))) (.seq [3, 66] (.region [⟨some 66, .op (.mv (.tmp 3)), none⟩,
  ⟨some 2, .op (.mv (.tmp 66)), none⟩]) .ret))))⟩
noncomputable def adj_New_l1 (T : Tab) (k j0 : Nat) (a3 t26 t27 t28 : AV) (h : Heap) : Option (AV × Heap) :=
  loopB T k adj_New_rs j0 [65] adj_New_c1 [.blk 0, .seq [26, 27, 28, 29] (.seq [3, 66] (.region [⟨some 66, .op (.mv (.tmp 3)), none⟩,
  ⟨some 2, .op (.mv (.tmp 66)), none⟩]) .ret)] [.undef, .undef, .undef, a3, .undef, .undef, .undef, .undef, .undef, .undef, .undef, .undef, .undef, .undef, .undef, .undef, .undef, .undef, .undef, .undef, .undef, .undef, .undef, .undef, .undef, .undef, t26, t27, t28, .undef, .undef, .undef, .undef, .undef, .undef, .undef, .undef, .undef, .undef, .undef, .undef, .undef, .undef, .undef, .undef, .undef, .undef, .undef, .undef, .undef, .undef, .undef, .undef, .undef, .undef, .undef, .undef, .undef, .undef, .undef, .undef, .undef, .undef, .undef, .undef, .undef, .undef] h
theorem adj_New_l1_eq (T : Tab) (k j0 : Nat) (a3 t26 t27 t28 : AV) (h : Heap) : adj_New_l1 T k (j0 + 1) a3 t26 t27 t28 h =
    oa (binV .lss .scalar t28 t27) fun t29_1 =>
    cond2 t29_1
      (
      oa (idxS 4 t26 t28) fun t31_2 =>
      oa (ldN 4 h t31_2) fun t32_3 =>
      ob (newVar h [.int .i64 0, .int .i64 0, .int .i64 0, .int .i64 0]) fun e5_4 h_5 =>
      oh (stN 4 h_5 e5_4 t32_3) fun h_6 =>
      oa (fldA 0 e5_4) fun t34_7 =>
      oa (ld1 h_6 t34_7) fun t35_8 =>
      ob (evalFn T k f_adj_Adj_is [a3, t35_8] h_6) fun t36_9 h_10 =>
      ob (gd t36_9 true (some (a3, h_10)) h_10) fun t38_11 h_12 =>
      ob (gd t36_9 true (pure1 h_12 (fldA 1 e5_4)) h_12) fun t39_13 h_14 =>
      ob (gd t36_9 true (pure1 h_14 (ld1 h_14 t39_13)) h_14) fun t40_15 h_16 =>
      ob (gd t36_9 true (evalFn T k f_adj_Adj_is [t38_11, t40_15] h_16) h_16) fun t41_17 h_18 =>
      oa (pickV t36_9 t41_17 (.bool false)) fun t42_19 =>
      cond2 t42_19
        (
        oa (nilCk a3) fun t68_20 =>
        oa (fldA 2 t68_20) fun t69_21 =>
        oa (ld1 h_18 t69_21) fun t70_22 =>
        oa (fldA 0 e5_4) fun t71_23 =>
        oa (ld1 h_18 t71_23) fun t72_24 =>
        oa (idxS 2 t70_22 t72_24) fun t73_25 =>
        oa (fldA 1 e5_4) fun t75_26 =>
        oa (ld1 h_18 t75_26) fun t76_27 =>
        ob (evalFn T k f_adj_ends_add [t73_25, t28, t76_27] h_18) fun t77_28 h_29 =>
        oa (nilCk a3) fun t68_30 =>
        oa (fldA 3 t68_30) fun t69_31 =>
        oa (ld1 h_29 t69_31) fun t70_32 =>
        oa (fldA 1 e5_4) fun t71_33 =>
        oa (ld1 h_29 t71_33) fun t72_34 =>
        oa (idxS 2 t70_32 t72_34) fun t73_35 =>
        oa (fldA 0 e5_4) fun t75_36 =>
        oa (ld1 h_29 t75_36) fun t76_37 =>
        ob (evalFn T k f_adj_ends_add [t73_35, t28, t76_37] h_29) fun t77_38 h_39 =>
        oa (binV .add .scalar t28 (.int .i64 1)) fun t65_40 =>
        adj_New_l1 T k j0 a3 t26 t27 t65_40 h_39
        )
        (
        oa (binV .add .scalar t28 (.int .i64 1)) fun t65_41 =>
        adj_New_l1 T k j0 a3 t26 t27 t65_41 h_18
        )
      )
      (
      some (a3, h)
      ) := loopEq (by kernel_rfl)
theorem adj_New_eq (T : Tab) (k : Nat) (n0 : AV) (h : Heap) : runF T k adj_New_mf [n0] h =
    ob (newVar h (AV.cells n0)) fun n1_1 h_2 =>
    oa (fldA 0 n1_1) fun t67_3 =>
    oa (ld1 h_2 t67_3) fun t68_4 =>
    oa (mmV true t68_4 (.int .i64 0)) fun t69_5 =>
    ob (mkSl [.nils, .nils] 2 48 t69_5 t69_5 h_2) fun t70_6 h_7 =>
    oa (fldA 0 n1_1) fun t71_8 =>
    oa (ld1 h_7 t71_8) fun t72_9 =>
    oa (mmV true t72_9 (.int .i64 0)) fun t73_10 =>
    ob (mkSl [.nils, .nils] 2 48 t73_10 t73_10 h_7) fun t74_11 h_12 =>
    oa (buildV [.int .i64 0, .nils, .nils, .nils] [(2, 1, t70_6), (3, 1, t74_11)]) fun t75_13 =>
    ob (newVar h_12 (AV.cells t75_13)) fun t76_14 h_15 =>
    oa (fldA 0 n1_1) fun t68_16 =>
    oa (ld1 h_15 t68_16) fun t69_17 =>
    oa (fldA 1 n1_1) fun t70_18 =>
    oa (ld1 h_15 t70_18) fun t71_19 =>
    ob (evalFn T k f_slices_Clone_api_Edge [t71_19] h_15) fun t72_20 h_21 =>
    chk ((sameB (pure1 h_21 (ld1 h_21 t68_16)) t69_17 && true)) <|
    oa (buildV [.int .i64 0, .nils] [(0, 1, t69_17), (1, 1, t72_20)]) fun t73_22 =>
    oa (nilCk t76_14) fun t74_23 =>
    oa (fldA 0 t74_23) fun t75_24 =>
    oh (stN 2 h_21 t75_24 t73_22) fun h_25 =>
    oa (fldA 1 n1_1) fun t25_26 =>
    oa (ld1 h_25 t25_26) fun t26_27 =>
    oa (lenS t26_27) fun t27_28 =>
    adj_New_l1 T k k t76_14 t26_27 t27_28 (.int .i64 0) h_25 := runEq (by kernel_rfl)
def adj_Adj_Out_rs : Res := [(4, none)]
noncomputable def adj_Adj_Out_mf : MFn := ⟨15, adj_Adj_Out_rs, .seq [4] (.region [⟨some 4, .op (.mv (.const .nils)), none⟩]) (.seq [] (.region [⟨some 5, .op (.mv (.const (.fn f_adj_ends_list [] []))), none⟩]) (.seq [0, 1, 5, 6, 7, 8, 9, 10, 11, 12, 13, 14] (.region [⟨some 6, .op (.mv (.tmp 5)), none⟩,
  ⟨some 7, .op (.mv (.tmp 0)), none⟩,
  ⟨some 8, .op (.mv (.tmp 0)), none⟩,
  ⟨some 9, .op (.nilCheck (.tmp 8)), none⟩,
  ⟨some 10, .op (.fieldAddr 2 (.tmp 9)), none⟩,
  ⟨some 11, .op (.load none (.tmp 10)), none⟩,
  ⟨some 12, .op (.mv (.tmp 1)), none⟩,
  ⟨some 13, .call f_adj_Adj_side [(.tmp 7), (.tmp 11), (.tmp 12)], none⟩,
  ⟨some 14, .callV (.tmp 6) [(.tmp 13)], none⟩,
  ⟨some 4, .op (.mv (.tmp 14)), none⟩]) .ret))⟩
theorem adj_Adj_Out_eq (T : Tab) (k : Nat) (a0 v1 : AV) (h : Heap) : runF T k adj_Adj_Out_mf [a0, v1] h =
    oa (nilCk a0) fun t9_1 =>
    oa (fldA 2 t9_1) fun t10_2 =>
    oa (ld1 h t10_2) fun t11_3 =>
    ob (evalFn T k f_adj_Adj_side [a0, t11_3, v1] h) fun t13_4 h_5 =>
    ob (callVal (evalFn T k) (.fn f_adj_ends_list [] []) [t13_4] h_5) fun t14_6 h_7 =>
    some (t14_6, h_7) := runEq (by kernel_rfl)
def adj_Adj_In_rs : Res := [(4, none)]
noncomputable def adj_Adj_In_mf : MFn := ⟨15, adj_Adj_In_rs, .seq [4] (.region [⟨some 4, .op (.mv (.const .nils)), none⟩]) (.seq [] (.region [⟨some 5, .op (.mv (.const (.fn f_adj_ends_list [] []))), none⟩]) (.seq [0, 1, 5, 6, 7, 8, 9, 10, 11, 12, 13, 14] (.region [⟨some 6, .op (.mv (.tmp 5)), none⟩,
  ⟨some 7, .op (.mv (.tmp 0)), none⟩,
  ⟨some 8, .op (.mv (.tmp 0)), none⟩,
  ⟨some 9, .op (.nilCheck (.tmp 8)), none⟩,
  ⟨some 10, .op (.fieldAddr 3 (.tmp 9)), none⟩,
  ⟨some 11, .op (.load none (.tmp 10)), none⟩,
  ⟨some 12, .op (.mv (.tmp 1)), none⟩,
  ⟨some 13, .call f_adj_Adj_side [(.tmp 7), (.tmp 11), (.tmp 12)], none⟩,
  ⟨some 14, .callV (.tmp 6) [(.tmp 13)], none⟩,
  ⟨some 4, .op (.mv (.tmp 14)), none⟩]) .ret))⟩
theorem adj_Adj_In_eq (T : Tab) (k : Nat) (a0 v1 : AV) (h : Heap) : runF T k adj_Adj_In_mf [a0, v1] h =
    oa (nilCk a0) fun t9_1 =>
    oa (fldA 3 t9_1) fun t10_2 =>
    oa (ld1 h t10_2) fun t11_3 =>
    ob (evalFn T k f_adj_Adj_side [a0, t11_3, v1] h) fun t13_4 h_5 =>
    ob (callVal (evalFn T k) (.fn f_adj_ends_list [] []) [t13_4] h_5) fun t14_6 h_7 =>
    some (t14_6, h_7) := runEq (by kernel_rfl)
def milestonelaw2_within_rs : Res := [(4, none)]
noncomputable def milestonelaw2_within_mf : MFn := ⟨15, milestonelaw2_within_rs, .seq [4] (.region [⟨some 4, .op (.mv (.const (.int .i64 0))), none⟩]) (.seq [0, 6, 7, 8] (.region [⟨some 6, .op (.mv (.tmp 0)), none⟩,
  ⟨some 7, .op (.mv (.tmp 1)), none⟩,
  ⟨some 8, .op (.bin .rem .scalar (.tmp 6) (.tmp 7)), none⟩,
  ⟨some 5, .op (.mv (.tmp 8)), none⟩]) (.seq [1, 10, 11, 12, 13] (.seq [9] (.region [⟨some 9, .op (.mv (.tmp 5)), none⟩,
  ⟨some 10, .op (.bin .lss .scalar (.tmp 9) (.const (.int .i64 0))), none⟩]) (.cond (.tmp 10) (.region [⟨some 11, .op (.mv (.tmp 5)), none⟩,
  ⟨some 12, .op (.mv (.tmp 1)), none⟩,
  ⟨some 13, .op (.bin .add .scalar (.tmp 11) (.tmp 12)), none⟩,
  ⟨some 5, .op (.mv (.tmp 13)), none⟩]) .skip)) (.seq [5, 14] (.region [⟨some 14, .op (.mv (.tmp 5)), none⟩,
  ⟨some 4, .op (.mv (.tmp 14)), none⟩]) .ret)))⟩
theorem milestonelaw2_within_eq (T : Tab) (k : Nat) (at0 n1 : AV) (h : Heap) : runF T k milestonelaw2_within_mf [at0, n1] h =
    oa (binV .rem .scalar at0 n1) fun t8_1 =>
    oa (binV .lss .scalar t8_1 (.int .i64 0)) fun t10_2 =>
    cond2 t10_2
      (
      oa (binV .add .scalar t8_1 n1) fun t13_3 =>
      some (t13_3, h)
      )
      (
      some (t8_1, h)
      ) := runEq (by kernel_rfl)
noncomputable def adj_Adj_Reach_c1 : MCode := .seq [] (.region [⟨some 54, .op (.bin .lss .scalar (.tmp 53) (.tmp 52)), none⟩]) (.seq [54] (.cond (.tmp 54) .skip (.exit 2)) (.seq [11, 87, 91, 92, 93, 94] (.block 3 (.seq [55, 56, 57] (.region [⟨some 55, .op (.mv (.tmp 53)), none⟩,
  ⟨some 56, .op (.idxSl 1 (.tmp 51) (.tmp 53)), none⟩,
  ⟨some 57, .op (.load none (.tmp 56)), none⟩,
  ⟨some 10, .op (.mv (.tmp 55)), none⟩,
  ⟨some 11, .op (.mv (.tmp 57)), none⟩]) (.seq [10, 58, 59, 60, 61, 62, 63, 64, 65, 66, 67, 68, 69, 70, 71, 72, 73, 74, 75, 76, 77, 78, 79, 80, 81, 82, 83, 84, 85, 86] (.regionD 111 [⟨0, ⟨some 111, .op (.mv (.tmp 2)), none⟩, []⟩,
  ⟨1, ⟨some 112, .op (.mv (.tmp 0)), none⟩, []⟩,
  ⟨2, ⟨some 113, .op (.nilCheck (.tmp 112)), none⟩, []⟩,
  ⟨3, ⟨some 114, .op (.fieldAddr 0 (.tmp 113)), none⟩, []⟩,
  ⟨4, ⟨some 115, .op (.fieldAddr 1 (.tmp 114)), none⟩, []⟩,
  ⟨5, ⟨some 116, .op (.load none (.tmp 115)), none⟩, []⟩,
  ⟨6, ⟨some 117, .op (.mv (.tmp 0)), none⟩, []⟩,
  ⟨7, ⟨some 118, .op (.nilCheck (.tmp 117)), none⟩, []⟩,
  ⟨8, ⟨some 119, .op (.fieldAddr 2 (.tmp 118)), none⟩, []⟩,
  ⟨9, ⟨some 120, .op (.load none (.tmp 119)), none⟩, []⟩,
  ⟨10, ⟨some 121, .op (.mv (.tmp 9)), none⟩, []⟩,
  ⟨11, ⟨some 122, .op (.idxSl 2 (.tmp 120) (.tmp 121)), none⟩, []⟩,
  ⟨12, ⟨some 123, .op (.fieldAddr 0 (.tmp 122)), none⟩, []⟩,
  ⟨13, ⟨some 124, .op (.load none (.tmp 123)), none⟩, []⟩,
  ⟨14, ⟨some 125, .op (.mv (.tmp 10)), none⟩, []⟩,
  ⟨15, ⟨some 126, .op (.idxSl 1 (.tmp 124) (.tmp 125)), none⟩, []⟩,
  ⟨16, ⟨some 127, .op (.load none (.tmp 126)), none⟩, []⟩,
  ⟨17, ⟨some 128, .op (.idxSl 4 (.tmp 116) (.tmp 127)), none⟩, []⟩,
  ⟨18, ⟨some 129, .op (.fieldAddr 2 (.tmp 128)), none⟩, []⟩,
  ⟨19, ⟨some 130, .op (.load none (.tmp 129)), none⟩, []⟩,
  ⟨20, ⟨some 131, .op (.bin .shr .scalar (.tmp 111) (.tmp 130)), none⟩, []⟩,
  ⟨21, ⟨some 132, .op (.bin .and .scalar (.tmp 131) (.const (.int .i64 1))), none⟩, []⟩,
  ⟨22, ⟨some 133, .op (.bin .eql .scalar (.tmp 132) (.const (.int .i64 1))), none⟩, []⟩,
  ⟨23, ⟨some 134, .op (.mv (.tmp 133)), none⟩, []⟩,
  ⟨24, ⟨some 135, .op (.mv (.tmp 7)), some (134, true)⟩, []⟩,
  ⟨25, ⟨some 136, .op (.mv (.tmp 11)), some (134, true)⟩, []⟩,
  ⟨26, ⟨some 137, .op (.idxSl 1 (.tmp 135) (.tmp 136)), some (134, true)⟩, []⟩,
  ⟨27, ⟨some 138, .op (.load none (.tmp 137)), some (134, true)⟩, []⟩,
  ⟨28, ⟨some 139, .op (.un .not (.tmp 138)), some (134, true)⟩, []⟩,
  ⟨29, ⟨some 140, .op (.pick (.tmp 134) (.tmp 139) (.const (.bool false))), none⟩, []⟩] [(58, 111), (59, 112), (60, 113), (61, 114), (62, 115), (63, 116), (64, 117), (65, 118), (66, 119), (67, 120), (68, 121), (69, 122), (70, 123), (71, 124), (72, 125), (73, 126), (74, 127), (75, 128), (76, 129), (77, 130), (78, 131), (79, 132), (80, 133), (81, 134), (82, 135), (83, 136), (84, 137), (85, 138), (86, 139), (87, 140)]) (.cond (.tmp 87) (.seq [87, 88, 89, 90] (.region [⟨some 88, .op (.mv (.tmp 7)), none⟩,
  ⟨some 89, .op (.mv (.tmp 11)), none⟩,
  ⟨some 90, .op (.idxSl 1 (.tmp 88) (.tmp 89)), none⟩,
  ⟨none, .op (.store 1 (.tmp 90) (.const (.bool true))), none⟩]) (.region [⟨some 91, .op (.mv (.tmp 8)), none⟩,
  ⟨some 92, .op (.mv (.tmp 11)), none⟩,
  ⟨some 93, .op (.buildSlice 1 1 [.int .i64 0] [(0, 1, (.tmp 92))]), none⟩,
  ⟨some 94, .op (.append 1 8 (.tmp 91) (.tmp 93)), none⟩,
  ⟨some 8, .op (.mv (.tmp 94)), none⟩])) .skip)))) (.region [⟨some 95, .op (.bin .add .scalar (.tmp 53) (.const (.int .i64 1))), none⟩,
  ⟨some 53, .op (.mv (.tmp 95)), none⟩])))
noncomputable def adj_Adj_Reach_c2 : MCode := .seq [32] (.seq [30, 31] (.region [⟨some 30, .op (.mv (.tmp 8)), none⟩,
  ⟨some 31, .op (.lenSl (.tmp 30)), none⟩,
  ⟨some 32, .op (.bin .gtr .scalar (.tmp 31) (.const (.int .i64 0))), none⟩]) (.cond (.tmp 32) .skip (.exit 0))) (.block 1 (.seq [33, 34, 35, 36, 37, 38] (.region [⟨some 33, .op (.mv (.tmp 8)), none⟩,
  ⟨some 34, .op (.mv (.tmp 8)), none⟩,
  ⟨some 35, .op (.lenSl (.tmp 34)), none⟩,
  ⟨some 36, .op (.bin .sub .scalar (.tmp 35) (.const (.int .i64 1))), none⟩,
  ⟨some 37, .op (.idxSl 1 (.tmp 33) (.tmp 36)), none⟩,
  ⟨some 38, .op (.load none (.tmp 37)), none⟩,
  ⟨some 9, .op (.mv (.tmp 38)), none⟩]) (.seq [39, 40, 41, 42, 43] (.region [⟨some 39, .op (.mv (.tmp 8)), none⟩,
  ⟨some 40, .op (.mv (.tmp 8)), none⟩,
  ⟨some 41, .op (.lenSl (.tmp 40)), none⟩,
  ⟨some 42, .op (.bin .sub .scalar (.tmp 41) (.const (.int .i64 1))), none⟩,
  ⟨some 43, .op (.sliceSl 1 (.tmp 39) none (some (.tmp 42)) none), none⟩,
  ⟨some 8, .op (.mv (.tmp 43)), none⟩]) (.seq [44, 45, 46, 47, 48, 49, 50] (.region [⟨some 44, .op (.mv (.tmp 0)), none⟩,
  ⟨some 45, .op (.nilCheck (.tmp 44)), none⟩,
  ⟨some 46, .op (.fieldAddr 2 (.tmp 45)), none⟩,
  ⟨some 47, .op (.load none (.tmp 46)), none⟩,
  ⟨some 48, .op (.mv (.tmp 9)), none⟩,
  ⟨some 49, .op (.idxSl 2 (.tmp 47) (.tmp 48)), none⟩,
  ⟨some 50, .op (.fieldAddr 1 (.tmp 49)), none⟩,
  ⟨some 51, .op (.load none (.tmp 50)), none⟩,
  ⟨some 52, .op (.lenSl (.tmp 51)), none⟩,
  ⟨some 53, .op (.mv (.const (.int .i64 0))), none⟩]) (.block 2 (.loop [95] adj_Adj_Reach_c1))))))
noncomputable def adj_Adj_Reach_c3 : MCode := .seq [] (.region [⟨some 99, .op (.bin .lss .scalar (.tmp 98) (.tmp 97)), none⟩]) (.seq [99] (.cond (.tmp 99) .skip (.exit 4)) (.seq [13, 103, 104, 105, 106, 107] (.block 5 (.seq [100, 101, 102] (.region [⟨some 100, .op (.mv (.tmp 98)), none⟩,
  ⟨some 101, .op (.idxSl 1 (.tmp 96) (.tmp 98)), none⟩,
  ⟨some 102, .op (.load none (.tmp 101)), none⟩,
  ⟨some 13, .op (.mv (.tmp 100)), none⟩,
  ⟨some 14, .op (.mv (.tmp 102)), none⟩]) (.seq [14] (.region [⟨some 103, .op (.mv (.tmp 14)), none⟩]) (.cond (.tmp 103) (.region [⟨some 104, .op (.mv (.tmp 12)), none⟩,
  ⟨some 105, .op (.mv (.tmp 13)), none⟩,
  ⟨some 106, .op (.buildSlice 1 1 [.int .i64 0] [(0, 1, (.tmp 105))]), none⟩,
  ⟨some 107, .op (.append 1 8 (.tmp 104) (.tmp 106)), none⟩,
  ⟨some 12, .op (.mv (.tmp 107)), none⟩]) .skip)))) (.region [⟨some 108, .op (.bin .add .scalar (.tmp 98) (.const (.int .i64 1))), none⟩,
  ⟨some 98, .op (.mv (.tmp 108)), none⟩])))
noncomputable def adj_Adj_Reach_c4 : MCode := .seq [12, 109, 110] (.region [⟨some 109, .op (.mv (.tmp 12)), none⟩,
  ⟨some 110, .call f_slices_Clone_int [(.tmp 109)], none⟩,
  ⟨some 6, .op (.mv (.tmp 110)), none⟩]) .ret
noncomputable def adj_Adj_Reach_c5 : MCode := .seq [] (.region [⟨some 12, .op (.mv (.const .nils)), none⟩]) (.seq [96, 97, 98, 99] (.seq [7] (.region [⟨some 96, .op (.mv (.tmp 7)), none⟩,
  ⟨some 97, .op (.lenSl (.tmp 96)), none⟩,
  ⟨some 98, .op (.mv (.const (.int .i64 0))), none⟩]) (.block 4 (.loop [108] adj_Adj_Reach_c3))) (.lab adj_Adj_Reach_c4))
def adj_Adj_Reach_rs : Res := [(6, none)]
noncomputable def adj_Adj_Reach_mf : MFn := ⟨111, adj_Adj_Reach_rs, .seq [6] (.region [⟨some 6, .op (.mv (.const .nils)), none⟩]) (.seq [18] (.seq [15, 16, 17] (.region [⟨some 15, .op (.mv (.tmp 0)), none⟩,
  ⟨some 16, .op (.mv (.tmp 1)), none⟩,
  ⟨some 17, .call f_adj_Adj_is [(.tmp 15), (.tmp 16)], none⟩,
  ⟨some 18, .op (.un .not (.tmp 17)), none⟩]) (.cond (.tmp 18) (.seq [0, 1, 2, 18] (.region [⟨some 6, .op (.mv (.const .nils)), none⟩]) .ret) .skip)) (.seq [19, 20, 21, 22, 23, 24] (.region [⟨some 19, .op (.mv (.tmp 0)), none⟩,
  ⟨some 20, .op (.nilCheck (.tmp 19)), none⟩,
  ⟨some 21, .op (.fieldAddr 2 (.tmp 20)), none⟩,
  ⟨some 22, .op (.load none (.tmp 21)), none⟩,
  ⟨some 23, .op (.lenSl (.tmp 22)), none⟩,
  ⟨some 24, .op (.mkSlice [.bool false] 1 1 (.tmp 23) (.tmp 23)), none⟩,
  ⟨some 7, .op (.mv (.tmp 24)), none⟩]) (.seq [25, 26, 27] (.region [⟨some 25, .op (.mv (.tmp 7)), none⟩,
  ⟨some 26, .op (.mv (.tmp 1)), none⟩,
  ⟨some 27, .op (.idxSl 1 (.tmp 25) (.tmp 26)), none⟩,
  ⟨none, .op (.store 1 (.tmp 27) (.const (.bool true))), none⟩]) (.seq [1, 28, 29] (.region [⟨some 28, .op (.mv (.tmp 1)), none⟩,
  ⟨some 29, .op (.buildSlice 1 1 [.int .i64 0] [(0, 1, (.tmp 28))]), none⟩,
  ⟨some 8, .op (.mv (.tmp 29)), none⟩]) (.seq [0, 2, 8, 32] (.block 0 (.loop [9, 51, 52, 53, 54] adj_Adj_Reach_c2)) (.lab adj_Adj_Reach_c5))))))⟩
noncomputable def adj_Adj_Reach_l1 (T : Tab) (k j0 : Nat) (a0 modes2 seen7 next8 : AV) (h : Heap) : Option (AV × Heap) :=
  loopB T k adj_Adj_Reach_rs j0 [9, 51, 52, 53, 54] adj_Adj_Reach_c2 [.blk 0, .seq [0, 2, 8, 32] (.lab adj_Adj_Reach_c5)] [a0, .undef, modes2, .undef, .undef, .undef, .undef, seen7, next8, .undef, .undef, .undef, .undef, .undef, .undef, .undef, .undef, .undef, .undef, .undef, .undef, .undef, .undef, .undef, .undef, .undef, .undef, .undef, .undef, .undef, .undef, .undef, .undef, .undef, .undef, .undef, .undef, .undef, .undef, .undef, .undef, .undef, .undef, .undef, .undef, .undef, .undef, .undef, .undef, .undef, .undef, .undef, .undef, .undef, .undef, .undef, .undef, .undef, .undef, .undef, .undef, .undef, .undef, .undef, .undef, .undef, .undef, .undef, .undef, .undef, .undef, .undef, .undef, .undef, .undef, .undef, .undef, .undef, .undef, .undef, .undef, .undef, .undef, .undef, .undef, .undef, .undef, .undef, .undef, .undef, .undef, .undef, .undef, .undef, .undef, .undef, .undef, .undef, .undef, .undef, .undef, .undef, .undef, .undef, .undef, .undef, .undef, .undef, .undef, .undef, .undef] h
noncomputable def adj_Adj_Reach_l2 (T : Tab) (k j0 j1 : Nat) (a0 modes2 seen7 next8 u9 t51 t52 t53 : AV) (h : Heap) : Option (AV × Heap) :=
  loopB T k adj_Adj_Reach_rs j1 [95] adj_Adj_Reach_c1 [.blk 2, .blk 1, .lp j0 [9, 51, 52, 53, 54] adj_Adj_Reach_c2, .blk 0, .seq [0, 2, 8, 32] (.lab adj_Adj_Reach_c5)] [a0, .undef, modes2, .undef, .undef, .undef, .undef, seen7, next8, u9, .undef, .undef, .undef, .undef, .undef, .undef, .undef, .undef, .undef, .undef, .undef, .undef, .undef, .undef, .undef, .undef, .undef, .undef, .undef, .undef, .undef, .undef, .undef, .undef, .undef, .undef, .undef, .undef, .undef, .undef, .undef, .undef, .undef, .undef, .undef, .undef, .undef, .undef, .undef, .undef, .undef, t51, t52, t53, .undef, .undef, .undef, .undef, .undef, .undef, .undef, .undef, .undef, .undef, .undef, .undef, .undef, .undef, .undef, .undef, .undef, .undef, .undef, .undef, .undef, .undef, .undef, .undef, .undef, .undef, .undef, .undef, .undef, .undef, .undef, .undef, .undef, .undef, .undef, .undef, .undef, .undef, .undef, .undef, .undef, .undef, .undef, .undef, .undef, .undef, .undef, .undef, .undef, .undef, .undef, .undef, .undef, .undef, .undef, .undef, .undef] h
noncomputable def adj_Adj_Reach_b3 (T : Tab) (k : Nat) (seen7 : AV) (h : Heap) : Option (AV × Heap) :=
  evB T k adj_Adj_Reach_rs adj_Adj_Reach_c5 [] [.undef, .undef, .undef, .undef, .undef, .undef, .undef, seen7, .undef, .undef, .undef, .undef, .undef, .undef, .undef, .undef, .undef, .undef, .undef, .undef, .undef, .undef, .undef, .undef, .undef, .undef, .undef, .undef, .undef, .undef, .undef, .undef, .undef, .undef, .undef, .undef, .undef, .undef, .undef, .undef, .undef, .undef, .undef, .undef, .undef, .undef, .undef, .undef, .undef, .undef, .undef, .undef, .undef, .undef, .undef, .undef, .undef, .undef, .undef, .undef, .undef, .undef, .undef, .undef, .undef, .undef, .undef, .undef, .undef, .undef, .undef, .undef, .undef, .undef, .undef, .undef, .undef, .undef, .undef, .undef, .undef, .undef, .undef, .undef, .undef, .undef, .undef, .undef, .undef, .undef, .undef, .undef, .undef, .undef, .undef, .undef, .undef, .undef, .undef, .undef, .undef, .undef, .undef, .undef, .undef, .undef, .undef, .undef, .undef, .undef, .undef] h
noncomputable def adj_Adj_Reach_l4 (T : Tab) (k j0 : Nat) (out12 t96 t97 t98 : AV) (h : Heap) : Option (AV × Heap) :=
  loopB T k adj_Adj_Reach_rs j0 [108] adj_Adj_Reach_c3 [.blk 4, .seq [96, 97, 98, 99] (.lab adj_Adj_Reach_c4)] [.undef, .undef, .undef, .undef, .undef, .undef, .undef, .undef, .undef, .undef, .undef, .undef, out12, .undef, .undef, .undef, .undef, .undef, .undef, .undef, .undef, .undef, .undef, .undef, .undef, .undef, .undef, .undef, .undef, .undef, .undef, .undef, .undef, .undef, .undef, .undef, .undef, .undef, .undef, .undef, .undef, .undef, .undef, .undef, .undef, .undef, .undef, .undef, .undef, .undef, .undef, .undef, .undef, .undef, .undef, .undef, .undef, .undef, .undef, .undef, .undef, .undef, .undef, .undef, .undef, .undef, .undef, .undef, .undef, .undef, .undef, .undef, .undef, .undef, .undef, .undef, .undef, .undef, .undef, .undef, .undef, .undef, .undef, .undef, .undef, .undef, .undef, .undef, .undef, .undef, .undef, .undef, .undef, .undef, .undef, .undef, t96, t97, t98, .undef, .undef, .undef, .undef, .undef, .undef, .undef, .undef, .undef, .undef, .undef, .undef] h
noncomputable def adj_Adj_Reach_b5 (T : Tab) (k : Nat) (out12 : AV) (h : Heap) : Option (AV × Heap) :=
  evB T k adj_Adj_Reach_rs adj_Adj_Reach_c4 [] [.undef, .undef, .undef, .undef, .undef, .undef, .undef, .undef, .undef, .undef, .undef, .undef, out12, .undef, .undef, .undef, .undef, .undef, .undef, .undef, .undef, .undef, .undef, .undef, .undef, .undef, .undef, .undef, .undef, .undef, .undef, .undef, .undef, .undef, .undef, .undef, .undef, .undef, .undef, .undef, .undef, .undef, .undef, .undef, .undef, .undef, .undef, .undef, .undef, .undef, .undef, .undef, .undef, .undef, .undef, .undef, .undef, .undef, .undef, .undef, .undef, .undef, .undef, .undef, .undef, .undef, .undef, .undef, .undef, .undef, .undef, .undef, .undef, .undef, .undef, .undef, .undef, .undef, .undef, .undef, .undef, .undef, .undef, .undef, .undef, .undef, .undef, .undef, .undef, .undef, .undef, .undef, .undef, .undef, .undef, .undef, .undef, .undef, .undef, .undef, .undef, .undef, .undef, .undef, .undef, .undef, .undef, .undef, .undef, .undef, .undef] h
theorem adj_Adj_Reach_l2_eq (T : Tab) (k j0 j1 : Nat) (a0 modes2 seen7 next8 u9 t51 t52 t53 : AV) (h : Heap) : adj_Adj_Reach_l2 T k j0 (j1 + 1) a0 modes2 seen7 next8 u9 t51 t52 t53 h =
    oa (binV .lss .scalar t53 t52) fun t54_1 =>
    cond2 t54_1
      (
      oa (idxS 1 t51 t53) fun t56_2 =>
      oa (ld1 h t56_2) fun t57_3 =>
      oa (nilCk a0) fun t113_4 =>
      oa (fldA 0 t113_4) fun t114_5 =>
      oa (fldA 1 t114_5) fun t115_6 =>
      oa (ld1 h t115_6) fun t116_7 =>
      oa (nilCk a0) fun t118_8 =>
      oa (fldA 2 t118_8) fun t119_9 =>
      oa (ld1 h t119_9) fun t120_10 =>
      oa (idxS 2 t120_10 u9) fun t122_11 =>
      oa (fldA 0 t122_11) fun t123_12 =>
      oa (ld1 h t123_12) fun t124_13 =>
      oa (idxS 1 t124_13 t53) fun t126_14 =>
      oa (ld1 h t126_14) fun t127_15 =>
      oa (idxS 4 t116_7 t127_15) fun t128_16 =>
      oa (fldA 2 t128_16) fun t129_17 =>
      oa (ld1 h t129_17) fun t130_18 =>
      oa (binV .shr .scalar modes2 t130_18) fun t131_19 =>
      oa (binV .and .scalar t131_19 (.int .i64 1)) fun t132_20 =>
      oa (binV .eql .scalar t132_20 (.int .i64 1)) fun t133_21 =>
      ob (gd t133_21 true (some (seen7, h)) h) fun t135_22 h_23 =>
      ob (gd t133_21 true (some (t57_3, h_23)) h_23) fun t136_24 h_25 =>
      ob (gd t133_21 true (pure1 h_25 (idxS 1 t135_22 t136_24)) h_25) fun t137_26 h_27 =>
      ob (gd t133_21 true (pure1 h_27 (ld1 h_27 t137_26)) h_27) fun t138_28 h_29 =>
      ob (gd t133_21 true (pure1 h_29 (unV .not t138_28)) h_29) fun t139_30 h_31 =>
      oa (pickV t133_21 t139_30 (.bool false)) fun t140_32 =>
      cond2 t140_32
        (
        oa (idxS 1 seen7 t57_3) fun t90_33 =>
        oh (stN 1 h_31 t90_33 (.bool true)) fun h_34 =>
        ob (buildSl 1 1 [.int .i64 0] [(0, 1, t57_3)] h_34) fun t93_35 h_36 =>
        ob (apnd 1 8 next8 t93_35 h_36) fun t94_37 h_38 =>
        oa (binV .add .scalar t53 (.int .i64 1)) fun t95_39 =>
        adj_Adj_Reach_l2 T k j0 j1 a0 modes2 seen7 t94_37 u9 t51 t52 t95_39 h_38
        )
        (
        oa (binV .add .scalar t53 (.int .i64 1)) fun t95_40 =>
        adj_Adj_Reach_l2 T k j0 j1 a0 modes2 seen7 next8 u9 t51 t52 t95_40 h_31
        )
      )
      (
      adj_Adj_Reach_l1 T k j0 a0 modes2 seen7 next8 h
      ) := loopEq (by kernel_rfl)
theorem adj_Adj_Reach_b5_eq (T : Tab) (k : Nat) (out12 : AV) (h : Heap) : adj_Adj_Reach_b5 T k out12 h =
    ob (evalFn T k f_slices_Clone_int [out12] h) fun t110_1 h_2 =>
    some (t110_1, h_2) := blockEq (by kernel_rfl)
theorem adj_Adj_Reach_l4_eq (T : Tab) (k j0 : Nat) (out12 t96 t97 t98 : AV) (h : Heap) : adj_Adj_Reach_l4 T k (j0 + 1) out12 t96 t97 t98 h =
    oa (binV .lss .scalar t98 t97) fun t99_1 =>
    cond2 t99_1
      (
      oa (idxS 1 t96 t98) fun t101_2 =>
      oa (ld1 h t101_2) fun t102_3 =>
      cond2 t102_3
        (
        ob (buildSl 1 1 [.int .i64 0] [(0, 1, t98)] h) fun t106_4 h_5 =>
        ob (apnd 1 8 out12 t106_4 h_5) fun t107_6 h_7 =>
        oa (binV .add .scalar t98 (.int .i64 1)) fun t108_8 =>
        adj_Adj_Reach_l4 T k j0 t107_6 t96 t97 t108_8 h_7
        )
        (
        oa (binV .add .scalar t98 (.int .i64 1)) fun t108_9 =>
        adj_Adj_Reach_l4 T k j0 out12 t96 t97 t108_9 h
        )
      )
      (
      adj_Adj_Reach_b5 T k out12 h
      ) := loopEq (by kernel_rfl)
theorem adj_Adj_Reach_b3_eq (T : Tab) (k : Nat) (seen7 : AV) (h : Heap) : adj_Adj_Reach_b3 T k seen7 h =
    oa (lenS seen7) fun t97_1 =>
    adj_Adj_Reach_l4 T k k .nils seen7 t97_1 (.int .i64 0) h := blockEq (by kernel_rfl)
theorem adj_Adj_Reach_l1_eq (T : Tab) (k j0 : Nat) (a0 modes2 seen7 next8 : AV) (h : Heap) : adj_Adj_Reach_l1 T k (j0 + 1) a0 modes2 seen7 next8 h =
    oa (lenS next8) fun t31_1 =>
    oa (binV .gtr .scalar t31_1 (.int .i64 0)) fun t32_2 =>
    cond2 t32_2
      (
      oa (lenS next8) fun t35_3 =>
      oa (binV .sub .scalar t35_3 (.int .i64 1)) fun t36_4 =>
      oa (idxS 1 next8 t36_4) fun t37_5 =>
      oa (ld1 h t37_5) fun t38_6 =>
      oa (lenS next8) fun t41_7 =>
      oa (binV .sub .scalar t41_7 (.int .i64 1)) fun t42_8 =>
      oa (slSl 1 next8 none (some t42_8) none) fun t43_9 =>
      oa (nilCk a0) fun t45_10 =>
      oa (fldA 2 t45_10) fun t46_11 =>
      oa (ld1 h t46_11) fun t47_12 =>
      oa (idxS 2 t47_12 t38_6) fun t49_13 =>
      oa (fldA 1 t49_13) fun t50_14 =>
      oa (ld1 h t50_14) fun t51_15 =>
      oa (lenS t51_15) fun t52_16 =>
      adj_Adj_Reach_l2 T k j0 k a0 modes2 seen7 t43_9 t38_6 t51_15 t52_16 (.int .i64 0) h
      )
      (
      adj_Adj_Reach_b3 T k seen7 h
      ) := loopEq (by kernel_rfl)
theorem adj_Adj_Reach_eq (T : Tab) (k : Nat) (a0 v1 modes2 : AV) (h : Heap) : runF T k adj_Adj_Reach_mf [a0, v1, modes2] h =
    ob (evalFn T k f_adj_Adj_is [a0, v1] h) fun t17_1 h_2 =>
    oa (unV .not t17_1) fun t18_3 =>
    cond2 t18_3
      (
      some (.nils, h_2)
      )
      (
      oa (nilCk a0) fun t20_4 =>
      oa (fldA 2 t20_4) fun t21_5 =>
      oa (ld1 h_2 t21_5) fun t22_6 =>
      oa (lenS t22_6) fun t23_7 =>
      ob (mkSl [.bool false] 1 1 t23_7 t23_7 h_2) fun t24_8 h_9 =>
      oa (idxS 1 t24_8 v1) fun t27_10 =>
      oh (stN 1 h_9 t27_10 (.bool true)) fun h_11 =>
      ob (buildSl 1 1 [.int .i64 0] [(0, 1, v1)] h_11) fun t29_12 h_13 =>
      adj_Adj_Reach_l1 T k k a0 modes2 t24_8 t29_12 h_13
      ) := runEq (by kernel_rfl)
noncomputable def milestonelaw2_has_c1 : MCode := .seq [9] (.seq [6, 7, 8] (.region [⟨some 6, .op (.mv (.tmp 5)), none⟩,
  ⟨some 7, .op (.mv (.tmp 0)), none⟩,
  ⟨some 8, .op (.lenSl (.tmp 7)), none⟩,
  ⟨some 9, .op (.bin .lss .scalar (.tmp 6) (.tmp 8)), none⟩]) (.cond (.tmp 9) .skip (.exit 0))) (.seq [17] (.block 1 (.seq [12, 13, 14, 15, 16] (.region [⟨some 12, .op (.mv (.tmp 0)), none⟩,
  ⟨some 13, .op (.mv (.tmp 5)), none⟩,
  ⟨some 14, .op (.idxSl 1 (.tmp 12) (.tmp 13)), none⟩,
  ⟨some 15, .op (.load none (.tmp 14)), none⟩,
  ⟨some 16, .op (.mv (.tmp 1)), none⟩,
  ⟨some 17, .op (.bin .eql .scalar (.tmp 15) (.tmp 16)), none⟩]) (.cond (.tmp 17) (.seq [0, 1, 5, 17] (.region [⟨some 4, .op (.mv (.const (.bool true))), none⟩]) .ret) .skip))) (.region [⟨some 10, .op (.mv (.tmp 5)), none⟩,
  ⟨some 11, .op (.bin .add .scalar (.tmp 10) (.const (.int .i64 1))), none⟩,
  ⟨some 5, .op (.mv (.tmp 11)), none⟩]))
def milestonelaw2_has_rs : Res := [(4, none)]
noncomputable def milestonelaw2_has_mf : MFn := ⟨18, milestonelaw2_has_rs, .seq [4] (.region [⟨some 4, .op (.mv (.const (.bool false))), none⟩]) (.seq [0, 1, 5, 9] (.seq [] (.region [⟨some 5, .op (.mv (.const (.int .i64 0))), none⟩]) (.block 0 (.loop [10, 11] milestonelaw2_has_c1))) (.seq [] (.region [⟨some 4, .op (.mv (.const (.bool false))), none⟩]) .ret))⟩
noncomputable def milestonelaw2_has_l1 (T : Tab) (k j0 : Nat) (l0 n1 i5 : AV) (h : Heap) : Option (AV × Heap) :=
  loopB T k milestonelaw2_has_rs j0 [10, 11] milestonelaw2_has_c1 [.blk 0, .seq [0, 1, 5, 9] (.seq [] (.region [⟨some 4, .op (.mv (.const (.bool false))), none⟩]) .ret)] [l0, n1, .undef, .undef, .undef, i5, .undef, .undef, .undef, .undef, .undef, .undef, .undef, .undef, .undef, .undef, .undef, .undef] h
theorem milestonelaw2_has_l1_eq (T : Tab) (k j0 : Nat) (l0 n1 i5 : AV) (h : Heap) : milestonelaw2_has_l1 T k (j0 + 1) l0 n1 i5 h =
    oa (lenS l0) fun t8_1 =>
    oa (binV .lss .scalar i5 t8_1) fun t9_2 =>
    cond2 t9_2
      (
      oa (idxS 1 l0 i5) fun t14_3 =>
      oa (ld1 h t14_3) fun t15_4 =>
      oa (binV .eql .scalar t15_4 n1) fun t17_5 =>
      cond2 t17_5
        (
        some ((.bool true), h)
        )
        (
        oa (binV .add .scalar i5 (.int .i64 1)) fun t11_6 =>
        milestonelaw2_has_l1 T k j0 l0 n1 t11_6 h
        )
      )
      (
      some ((.bool false), h)
      ) := loopEq (by kernel_rfl)
theorem milestonelaw2_has_eq (T : Tab) (k : Nat) (l0 n1 : AV) (h : Heap) : runF T k milestonelaw2_has_mf [l0, n1] h =
    milestonelaw2_has_l1 T k k l0 n1 (.int .i64 0) h := runEq (by kernel_rfl)
noncomputable def adj_Adj_Modes_c1 : MCode := .seq [] (.region [⟨some 29, .op (.bin .lss .scalar (.tmp 28) (.tmp 27)), none⟩]) (.seq [29] (.cond (.tmp 29) .skip (.exit 2)) (.seq [9, 32, 33, 34, 35, 36, 37, 38, 39, 40, 41, 42, 43] (.block 3 (.seq [30, 31] (.region [⟨some 30, .op (.idxSl 1 (.tmp 26) (.tmp 28)), none⟩,
  ⟨some 31, .op (.load none (.tmp 30)), none⟩,
  ⟨some 9, .op (.mv (.tmp 31)), none⟩]) (.region [⟨some 32, .op (.mv (.tmp 5)), none⟩,
  ⟨some 33, .op (.mv (.tmp 0)), none⟩,
  ⟨some 34, .op (.nilCheck (.tmp 33)), none⟩,
  ⟨some 35, .op (.fieldAddr 0 (.tmp 34)), none⟩,
  ⟨some 36, .op (.fieldAddr 1 (.tmp 35)), none⟩,
  ⟨some 37, .op (.load none (.tmp 36)), none⟩,
  ⟨some 38, .op (.mv (.tmp 9)), none⟩,
  ⟨some 39, .op (.idxSl 4 (.tmp 37) (.tmp 38)), none⟩,
  ⟨some 40, .op (.fieldAddr 2 (.tmp 39)), none⟩,
  ⟨some 41, .op (.load none (.tmp 40)), none⟩,
  ⟨some 42, .op (.bin .shl .scalar (.const (.int .i64 1)) (.tmp 41)), none⟩,
  ⟨some 43, .op (.bin .or .scalar (.tmp 32) (.tmp 42)), none⟩,
  ⟨some 5, .op (.mv (.tmp 43)), none⟩]))) (.region [⟨some 44, .op (.bin .add .scalar (.tmp 28) (.const (.int .i64 1))), none⟩,
  ⟨some 28, .op (.mv (.tmp 44)), none⟩])))
noncomputable def adj_Adj_Modes_c2 : MCode := .seq [] (.region [⟨some 20, .op (.bin .lss .scalar (.tmp 19) (.const (.int .i64 2))), none⟩]) (.seq [20] (.cond (.tmp 20) .skip (.exit 0)) (.seq [26, 27, 28, 29] (.block 1 (.seq [21] (.region [⟨some 21, .op (.ixArr 2 1 none (.tmp 18) (.tmp 19)), none⟩,
  ⟨some 7, .op (.mv (.tmp 21)), none⟩]) (.seq [7, 22, 23, 24, 25] (.region [⟨some 22, .op (.mv (.tmp 0)), none⟩,
  ⟨some 23, .op (.mv (.tmp 7)), none⟩,
  ⟨some 24, .op (.mv (.tmp 1)), none⟩,
  ⟨some 25, .call f_adj_Adj_side [(.tmp 22), (.tmp 23), (.tmp 24)], none⟩,
  ⟨some 26, .op (.field 0 none (.tmp 25)), none⟩,
  ⟨some 27, .op (.lenSl (.tmp 26)), none⟩,
  ⟨some 28, .op (.mv (.const (.int .i64 0))), none⟩]) (.block 2 (.loop [44] adj_Adj_Modes_c1))))) (.region [⟨some 45, .op (.bin .add .scalar (.tmp 19) (.const (.int .i64 1))), none⟩,
  ⟨some 19, .op (.mv (.tmp 45)), none⟩])))
def adj_Adj_Modes_rs : Res := [(4, none)]
noncomputable def adj_Adj_Modes_mf : MFn := ⟨47, adj_Adj_Modes_rs, .seq [4] (.region [⟨some 4, .op (.mv (.const (.int .i64 0))), none⟩]) (.seq [] (.region [⟨some 5, .op (.mv (.const (.int .i64 0))), none⟩]) (.seq [0, 1, 18, 19, 20] (.seq [10, 11, 12, 13, 14, 15, 16, 17] (.regionD 47 [⟨0, ⟨some 47, .op (.mv (.tmp 0)), none⟩, []⟩,
  ⟨1, ⟨some 48, .op (.nilCheck (.tmp 47)), none⟩, []⟩,
  ⟨2, ⟨some 49, .op (.fieldAddr 2 (.tmp 48)), none⟩, []⟩,
  ⟨3, ⟨some 50, .op (.load none (.tmp 49)), none⟩, []⟩,
  ⟨4, ⟨some 51, .op (.mv (.tmp 0)), none⟩, []⟩,
  ⟨5, ⟨some 52, .op (.nilCheck (.tmp 51)), none⟩, []⟩,
  ⟨6, ⟨some 53, .op (.fieldAddr 3 (.tmp 52)), none⟩, []⟩,
  ⟨7, ⟨some 54, .op (.load none (.tmp 53)), none⟩, []⟩,
  ⟨8, ⟨some 55, .op (.build [.nils, .nils] [(0, 1, (.tmp 50)), (1, 1, (.tmp 54))]), none⟩, []⟩,
  ⟨9, ⟨some 56, .op (.mv (.const (.int .i64 0))), none⟩, []⟩] [(10, 47), (11, 48), (12, 49), (13, 50), (14, 51), (15, 52), (16, 53), (17, 54), (18, 55), (19, 56)]) (.block 0 (.loop [45] adj_Adj_Modes_c2))) (.seq [5, 46] (.region [⟨some 46, .op (.mv (.tmp 5)), none⟩,
  ⟨some 4, .op (.mv (.tmp 46)), none⟩]) .ret)))⟩
noncomputable def adj_Adj_Modes_l1 (T : Tab) (k j0 : Nat) (a0 v1 set5 t18 t19 : AV) (h : Heap) : Option (AV × Heap) :=
  loopB T k adj_Adj_Modes_rs j0 [45] adj_Adj_Modes_c2 [.blk 0, .seq [0, 1, 18, 19, 20] (.seq [5, 46] (.region [⟨some 46, .op (.mv (.tmp 5)), none⟩,
  ⟨some 4, .op (.mv (.tmp 46)), none⟩]) .ret)] [a0, v1, .undef, .undef, .undef, set5, .undef, .undef, .undef, .undef, .undef, .undef, .undef, .undef, .undef, .undef, .undef, .undef, t18, t19, .undef, .undef, .undef, .undef, .undef, .undef, .undef, .undef, .undef, .undef, .undef, .undef, .undef, .undef, .undef, .undef, .undef, .undef, .undef, .undef, .undef, .undef, .undef, .undef, .undef, .undef, .undef] h
noncomputable def adj_Adj_Modes_l2 (T : Tab) (k j0 j1 : Nat) (a0 v1 set5 t18 t19 t26 t27 t28 : AV) (h : Heap) : Option (AV × Heap) :=
  loopB T k adj_Adj_Modes_rs j1 [44] adj_Adj_Modes_c1 [.blk 2, .blk 1, .seq [26, 27, 28, 29] (.region [⟨some 45, .op (.bin .add .scalar (.tmp 19) (.const (.int .i64 1))), none⟩,
  ⟨some 19, .op (.mv (.tmp 45)), none⟩]), .lp j0 [45] adj_Adj_Modes_c2, .blk 0, .seq [0, 1, 18, 19, 20] (.seq [5, 46] (.region [⟨some 46, .op (.mv (.tmp 5)), none⟩,
  ⟨some 4, .op (.mv (.tmp 46)), none⟩]) .ret)] [a0, v1, .undef, .undef, .undef, set5, .undef, .undef, .undef, .undef, .undef, .undef, .undef, .undef, .undef, .undef, .undef, .undef, t18, t19, .undef, .undef, .undef, .undef, .undef, .undef, t26, t27, t28, .undef, .undef, .undef, .undef, .undef, .undef, .undef, .undef, .undef, .undef, .undef, .undef, .undef, .undef, .undef, .undef, .undef, .undef] h
theorem adj_Adj_Modes_l2_eq (T : Tab) (k j0 j1 : Nat) (a0 v1 set5 t18 t19 t26 t27 t28 : AV) (h : Heap) : adj_Adj_Modes_l2 T k j0 (j1 + 1) a0 v1 set5 t18 t19 t26 t27 t28 h =
    oa (binV .lss .scalar t28 t27) fun t29_1 =>
    cond2 t29_1
      (
      oa (idxS 1 t26 t28) fun t30_2 =>
      oa (ld1 h t30_2) fun t31_3 =>
      oa (nilCk a0) fun t34_4 =>
      oa (fldA 0 t34_4) fun t35_5 =>
      oa (fldA 1 t35_5) fun t36_6 =>
      oa (ld1 h t36_6) fun t37_7 =>
      oa (idxS 4 t37_7 t31_3) fun t39_8 =>
      oa (fldA 2 t39_8) fun t40_9 =>
      oa (ld1 h t40_9) fun t41_10 =>
      oa (binV .shl .scalar (.int .i64 1) t41_10) fun t42_11 =>
      oa (binV .or .scalar set5 t42_11) fun t43_12 =>
      oa (binV .add .scalar t28 (.int .i64 1)) fun t44_13 =>
      adj_Adj_Modes_l2 T k j0 j1 a0 v1 t43_12 t18 t19 t26 t27 t44_13 h
      )
      (
      oa (binV .add .scalar t19 (.int .i64 1)) fun t45_14 =>
      adj_Adj_Modes_l1 T k j0 a0 v1 set5 t18 t45_14 h
      ) := loopEq (by kernel_rfl)
theorem adj_Adj_Modes_l1_eq (T : Tab) (k j0 : Nat) (a0 v1 set5 t18 t19 : AV) (h : Heap) : adj_Adj_Modes_l1 T k (j0 + 1) a0 v1 set5 t18 t19 h =
    oa (binV .lss .scalar t19 (.int .i64 2)) fun t20_1 =>
    cond2 t20_1
      (
      oa (ixA 2 1 none t18 t19) fun t21_2 =>
      ob (evalFn T k f_adj_Adj_side [a0, t21_2, v1] h) fun t25_3 h_4 =>
      oa (fldV 0 none t25_3) fun t26_5 =>
      oa (lenS t26_5) fun t27_6 =>
      adj_Adj_Modes_l2 T k j0 k a0 v1 set5 t18 t19 t26_5 t27_6 (.int .i64 0) h_4
      )
      (
      some (set5, h)
      ) := loopEq (by kernel_rfl)
theorem adj_Adj_Modes_eq (T : Tab) (k : Nat) (a0 v1 : AV) (h : Heap) : runF T k adj_Adj_Modes_mf [a0, v1] h =
    oa (nilCk a0) fun t48_1 =>
    oa (fldA 2 t48_1) fun t49_2 =>
    oa (ld1 h t49_2) fun t50_3 =>
    oa (nilCk a0) fun t52_4 =>
    oa (fldA 3 t52_4) fun t53_5 =>
    oa (ld1 h t53_5) fun t54_6 =>
    oa (buildV [.nils, .nils] [(0, 1, t50_3), (1, 1, t54_6)]) fun t55_7 =>
    adj_Adj_Modes_l1 T k k a0 v1 (.int .i64 0) t55_7 (.int .i64 0) h := runEq (by kernel_rfl)
def milestoneref2_New_rs : Res := [(2, none)]
noncomputable def milestoneref2_New_mf : MFn := ⟨6, milestoneref2_New_rs, .seq [0, 2] (.region [⟨some 1, .op (.box (.tmp 0)), none⟩,
  ⟨some 2, .op (.mv (.const .nilp)), none⟩]) (.seq [1, 3, 4, 5] (.region [⟨some 3, .op (.load (some 2) (.tmp 1)), none⟩,
  ⟨some 4, .op (.build [.int .i64 0, .nils] [(0, 2, (.tmp 3))]), none⟩,
  ⟨some 5, .op (.box (.tmp 4)), none⟩,
  ⟨some 2, .op (.mv (.tmp 5)), none⟩]) .ret)⟩
theorem milestoneref2_New_eq (T : Tab) (k : Nat) (n0 : AV) (h : Heap) : runF T k milestoneref2_New_mf [n0] h =
    ob (newVar h (AV.cells n0)) fun n1_1 h_2 =>
    oa (ldN 2 h_2 n1_1) fun t3_3 =>
    oa (buildV [.int .i64 0, .nils] [(0, 2, t3_3)]) fun t4_4 =>
    ob (newVar h_2 (AV.cells t4_4)) fun t5_5 h_6 =>
    some (t5_5, h_6) := runEq (by kernel_rfl)
noncomputable def milestoneref1_Ints_c1 : MCode := .seq [14] (.seq [11, 12, 13] (.region [⟨some 11, .op (.mv (.tmp 5)), none⟩,
  ⟨some 12, .op (.mv (.tmp 0)), none⟩,
  ⟨some 13, .op (.lenSl (.tmp 12)), none⟩,
  ⟨some 14, .op (.bin .lss .scalar (.tmp 11) (.tmp 13)), none⟩]) (.cond (.tmp 14) .skip (.exit 0))) (.seq [25] (.block 1 (.seq [17, 18, 19, 20, 21, 22, 23, 24] (.regionD 26 [⟨0, ⟨some 26, .op (.mv (.tmp 0)), none⟩, []⟩,
  ⟨1, ⟨some 27, .op (.mv (.tmp 5)), none⟩, []⟩,
  ⟨2, ⟨some 28, .op (.idxSl 1 (.tmp 26) (.tmp 27)), none⟩, []⟩,
  ⟨3, ⟨some 29, .op (.load none (.tmp 28)), none⟩, []⟩,
  ⟨4, ⟨some 30, .op (.mv (.tmp 1)), none⟩, []⟩,
  ⟨5, ⟨some 31, .op (.mv (.tmp 5)), none⟩, []⟩,
  ⟨6, ⟨some 32, .op (.idxSl 1 (.tmp 30) (.tmp 31)), none⟩, []⟩,
  ⟨7, ⟨some 33, .op (.load none (.tmp 32)), none⟩, []⟩,
  ⟨8, ⟨some 34, .op (.bin .neq .scalar (.tmp 29) (.tmp 33)), none⟩, []⟩] [(17, 26), (18, 27), (19, 28), (20, 29), (21, 30), (22, 31), (23, 32), (24, 33), (25, 34)]) (.cond (.tmp 25) (.seq [0, 1, 5, 25] (.region [⟨some 4, .op (.mv (.const (.bool false))), none⟩]) .ret) .skip))) (.region [⟨some 15, .op (.mv (.tmp 5)), none⟩,
  ⟨some 16, .op (.bin .add .scalar (.tmp 15) (.const (.int .i64 1))), none⟩,
  ⟨some 5, .op (.mv (.tmp 16)), none⟩]))
def milestoneref1_Ints_rs : Res := [(4, none)]
noncomputable def milestoneref1_Ints_mf : MFn := ⟨26, milestoneref1_Ints_rs, .seq [4] (.region [⟨some 4, .op (.mv (.const (.bool false))), none⟩]) (.seq [10] (.seq [6, 7, 8, 9] (.region [⟨some 6, .op (.mv (.tmp 0)), none⟩,
  ⟨some 7, .op (.lenSl (.tmp 6)), none⟩,
  ⟨some 8, .op (.mv (.tmp 1)), none⟩,
  ⟨some 9, .op (.lenSl (.tmp 8)), none⟩,
  ⟨some 10, .op (.bin .neq .scalar (.tmp 7) (.tmp 9)), none⟩]) (.cond (.tmp 10) (.seq [0, 1, 10] (.region [⟨some 4, .op (.mv (.const (.bool false))), none⟩]) .ret) .skip)) (.seq [0, 1, 5, 14] (.seq [] (.region [⟨some 5, .op (.mv (.const (.int .i64 0))), none⟩]) (.block 0 (.loop [15, 16] milestoneref1_Ints_c1))) (.seq [] (.region [⟨some 4, .op (.mv (.const (.bool true))), none⟩]) .ret)))⟩
noncomputable def milestoneref1_Ints_l1 (T : Tab) (k j0 : Nat) (a0 b1 i5 : AV) (h : Heap) : Option (AV × Heap) :=
  loopB T k milestoneref1_Ints_rs j0 [15, 16] milestoneref1_Ints_c1 [.blk 0, .seq [0, 1, 5, 14] (.seq [] (.region [⟨some 4, .op (.mv (.const (.bool true))), none⟩]) .ret)] [a0, b1, .undef, .undef, .undef, i5, .undef, .undef, .undef, .undef, .undef, .undef, .undef, .undef, .undef, .undef, .undef, .undef, .undef, .undef, .undef, .undef, .undef, .undef, .undef, .undef] h
theorem milestoneref1_Ints_l1_eq (T : Tab) (k j0 : Nat) (a0 b1 i5 : AV) (h : Heap) : milestoneref1_Ints_l1 T k (j0 + 1) a0 b1 i5 h =
    oa (lenS a0) fun t13_1 =>
    oa (binV .lss .scalar i5 t13_1) fun t14_2 =>
    cond2 t14_2
      (
      oa (idxS 1 a0 i5) fun t28_3 =>
      oa (ld1 h t28_3) fun t29_4 =>
      oa (idxS 1 b1 i5) fun t32_5 =>
      oa (ld1 h t32_5) fun t33_6 =>
      oa (binV .neq .scalar t29_4 t33_6) fun t34_7 =>
      cond2 t34_7
        (
        some ((.bool false), h)
        )
        (
        oa (binV .add .scalar i5 (.int .i64 1)) fun t16_8 =>
        milestoneref1_Ints_l1 T k j0 a0 b1 t16_8 h
        )
      )
      (
      some ((.bool true), h)
      ) := loopEq (by kernel_rfl)
theorem milestoneref1_Ints_eq (T : Tab) (k : Nat) (a0 b1 : AV) (h : Heap) : runF T k milestoneref1_Ints_mf [a0, b1] h =
    oa (lenS a0) fun t7_1 =>
    oa (lenS b1) fun t9_2 =>
    oa (binV .neq .scalar t7_1 t9_2) fun t10_3 =>
    cond2 t10_3
      (
      some ((.bool false), h)
      )
      (
      milestoneref1_Ints_l1 T k k a0 b1 (.int .i64 0) h
      ) := runEq (by kernel_rfl)
noncomputable def milestoneref2_Adj_Out_c1 : MCode := .seq [14] (.seq [7, 8, 9, 10, 11, 12, 13] (.region [⟨some 7, .op (.mv (.tmp 6)), none⟩,
  ⟨some 8, .op (.mv (.tmp 0)), none⟩,
  ⟨some 9, .op (.nilCheck (.tmp 8)), none⟩,
  ⟨some 10, .op (.fieldAddr 0 (.tmp 9)), none⟩,
  ⟨some 11, .op (.fieldAddr 1 (.tmp 10)), none⟩,
  ⟨some 12, .op (.load none (.tmp 11)), none⟩,
  ⟨some 13, .op (.lenSl (.tmp 12)), none⟩,
  ⟨some 14, .op (.bin .lss .scalar (.tmp 7) (.tmp 13)), none⟩]) (.cond (.tmp 14) .skip (.exit 0))) (.seq [27, 28, 29, 30, 31] (.block 1 (.seq [17, 18, 19, 20, 21, 22, 23, 24, 25, 26] (.region [⟨some 17, .op (.mv (.tmp 0)), none⟩,
  ⟨some 18, .op (.nilCheck (.tmp 17)), none⟩,
  ⟨some 19, .op (.fieldAddr 0 (.tmp 18)), none⟩,
  ⟨some 20, .op (.fieldAddr 1 (.tmp 19)), none⟩,
  ⟨some 21, .op (.load none (.tmp 20)), none⟩,
  ⟨some 22, .op (.mv (.tmp 6)), none⟩,
  ⟨some 23, .op (.idxSl 4 (.tmp 21) (.tmp 22)), none⟩,
  ⟨some 24, .op (.fieldAddr 0 (.tmp 23)), none⟩,
  ⟨some 25, .op (.load none (.tmp 24)), none⟩,
  ⟨some 26, .op (.mv (.tmp 1)), none⟩,
  ⟨some 27, .op (.bin .eql .scalar (.tmp 25) (.tmp 26)), none⟩]) (.cond (.tmp 27) (.region [⟨some 28, .op (.mv (.tmp 5)), none⟩,
  ⟨some 29, .op (.mv (.tmp 6)), none⟩,
  ⟨some 30, .op (.buildSlice 1 1 [.int .i64 0] [(0, 1, (.tmp 29))]), none⟩,
  ⟨some 31, .op (.append 1 8 (.tmp 28) (.tmp 30)), none⟩,
  ⟨some 5, .op (.mv (.tmp 31)), none⟩]) .skip))) (.region [⟨some 15, .op (.mv (.tmp 6)), none⟩,
  ⟨some 16, .op (.bin .add .scalar (.tmp 15) (.const (.int .i64 1))), none⟩,
  ⟨some 6, .op (.mv (.tmp 16)), none⟩]))
def milestoneref2_Adj_Out_rs : Res := [(4, none)]
noncomputable def milestoneref2_Adj_Out_mf : MFn := ⟨33, milestoneref2_Adj_Out_rs, .seq [4] (.region [⟨some 4, .op (.mv (.const .nils)), none⟩]) (.seq [] (.region [⟨some 5, .op (.mv (.const .nils)), none⟩]) (.seq [0, 1, 6, 14] (.seq [] (.region [⟨some 6, .op (.mv (.const (.int .i64 0))), none⟩]) (.block 0 (.loop [15, 16] milestoneref2_Adj_Out_c1))) (.seq [5, 32] (.region [⟨some 32, .op (.mv (.tmp 5)), none⟩,
  ⟨some 4, .op (.mv (.tmp 32)), none⟩]) .ret)))⟩
noncomputable def milestoneref2_Adj_Out_l1 (T : Tab) (k j0 : Nat) (a0 v1 out5 i6 : AV) (h : Heap) : Option (AV × Heap) :=
  loopB T k milestoneref2_Adj_Out_rs j0 [15, 16] milestoneref2_Adj_Out_c1 [.blk 0, .seq [0, 1, 6, 14] (.seq [5, 32] (.region [⟨some 32, .op (.mv (.tmp 5)), none⟩,
  ⟨some 4, .op (.mv (.tmp 32)), none⟩]) .ret)] [a0, v1, .undef, .undef, .undef, out5, i6, .undef, .undef, .undef, .undef, .undef, .undef, .undef, .undef, .undef, .undef, .undef, .undef, .undef, .undef, .undef, .undef, .undef, .undef, .undef, .undef, .undef, .undef, .undef, .undef, .undef, .undef] h
theorem milestoneref2_Adj_Out_l1_eq (T : Tab) (k j0 : Nat) (a0 v1 out5 i6 : AV) (h : Heap) : milestoneref2_Adj_Out_l1 T k (j0 + 1) a0 v1 out5 i6 h =
    oa (nilCk a0) fun t9_1 =>
    oa (fldA 0 t9_1) fun t10_2 =>
    oa (fldA 1 t10_2) fun t11_3 =>
    oa (ld1 h t11_3) fun t12_4 =>
    oa (lenS t12_4) fun t13_5 =>
    oa (binV .lss .scalar i6 t13_5) fun t14_6 =>
    cond2 t14_6
      (
      oa (nilCk a0) fun t18_7 =>
      oa (fldA 0 t18_7) fun t19_8 =>
      oa (fldA 1 t19_8) fun t20_9 =>
      oa (ld1 h t20_9) fun t21_10 =>
      oa (idxS 4 t21_10 i6) fun t23_11 =>
      oa (fldA 0 t23_11) fun t24_12 =>
      oa (ld1 h t24_12) fun t25_13 =>
      oa (binV .eql .scalar t25_13 v1) fun t27_14 =>
      cond2 t27_14
        (
        ob (buildSl 1 1 [.int .i64 0] [(0, 1, i6)] h) fun t30_15 h_16 =>
        ob (apnd 1 8 out5 t30_15 h_16) fun t31_17 h_18 =>
        oa (binV .add .scalar i6 (.int .i64 1)) fun t16_19 =>
        milestoneref2_Adj_Out_l1 T k j0 a0 v1 t31_17 t16_19 h_18
        )
        (
        oa (binV .add .scalar i6 (.int .i64 1)) fun t16_20 =>
        milestoneref2_Adj_Out_l1 T k j0 a0 v1 out5 t16_20 h
        )
      )
      (
      some (out5, h)
      ) := loopEq (by kernel_rfl)
theorem milestoneref2_Adj_Out_eq (T : Tab) (k : Nat) (a0 v1 : AV) (h : Heap) : runF T k milestoneref2_Adj_Out_mf [a0, v1] h =
    milestoneref2_Adj_Out_l1 T k k a0 v1 .nils (.int .i64 0) h := runEq (by kernel_rfl)
noncomputable def milestoneref2_Adj_In_c1 : MCode := .seq [14] (.seq [7, 8, 9, 10, 11, 12, 13] (.region [⟨some 7, .op (.mv (.tmp 6)), none⟩,
  ⟨some 8, .op (.mv (.tmp 0)), none⟩,
  ⟨some 9, .op (.nilCheck (.tmp 8)), none⟩,
  ⟨some 10, .op (.fieldAddr 0 (.tmp 9)), none⟩,
  ⟨some 11, .op (.fieldAddr 1 (.tmp 10)), none⟩,
  ⟨some 12, .op (.load none (.tmp 11)), none⟩,
  ⟨some 13, .op (.lenSl (.tmp 12)), none⟩,
  ⟨some 14, .op (.bin .lss .scalar (.tmp 7) (.tmp 13)), none⟩]) (.cond (.tmp 14) .skip (.exit 0))) (.seq [27, 28, 29, 30, 31] (.block 1 (.seq [17, 18, 19, 20, 21, 22, 23, 24, 25, 26] (.region [⟨some 17, .op (.mv (.tmp 0)), none⟩,
  ⟨some 18, .op (.nilCheck (.tmp 17)), none⟩,
  ⟨some 19, .op (.fieldAddr 0 (.tmp 18)), none⟩,
  ⟨some 20, .op (.fieldAddr 1 (.tmp 19)), none⟩,
  ⟨some 21, .op (.load none (.tmp 20)), none⟩,
  ⟨some 22, .op (.mv (.tmp 6)), none⟩,
  ⟨some 23, .op (.idxSl 4 (.tmp 21) (.tmp 22)), none⟩,
  ⟨some 24, .op (.fieldAddr 1 (.tmp 23)), none⟩,
  ⟨some 25, .op (.load none (.tmp 24)), none⟩,
  ⟨some 26, .op (.mv (.tmp 1)), none⟩,
  ⟨some 27, .op (.bin .eql .scalar (.tmp 25) (.tmp 26)), none⟩]) (.cond (.tmp 27) (.region [⟨some 28, .op (.mv (.tmp 5)), none⟩,
  ⟨some 29, .op (.mv (.tmp 6)), none⟩,
  ⟨some 30, .op (.buildSlice 1 1 [.int .i64 0] [(0, 1, (.tmp 29))]), none⟩,
  ⟨some 31, .op (.append 1 8 (.tmp 28) (.tmp 30)), none⟩,
  ⟨some 5, .op (.mv (.tmp 31)), none⟩]) .skip))) (.region [⟨some 15, .op (.mv (.tmp 6)), none⟩,
  ⟨some 16, .op (.bin .add .scalar (.tmp 15) (.const (.int .i64 1))), none⟩,
  ⟨some 6, .op (.mv (.tmp 16)), none⟩]))
def milestoneref2_Adj_In_rs : Res := [(4, none)]
noncomputable def milestoneref2_Adj_In_mf : MFn := ⟨33, milestoneref2_Adj_In_rs, .seq [4] (.region [⟨some 4, .op (.mv (.const .nils)), none⟩]) (.seq [] (.region [⟨some 5, .op (.mv (.const .nils)), none⟩]) (.seq [0, 1, 6, 14] (.seq [] (.region [⟨some 6, .op (.mv (.const (.int .i64 0))), none⟩]) (.block 0 (.loop [15, 16] milestoneref2_Adj_In_c1))) (.seq [5, 32] (.region [⟨some 32, .op (.mv (.tmp 5)), none⟩,
  ⟨some 4, .op (.mv (.tmp 32)), none⟩]) .ret)))⟩
noncomputable def milestoneref2_Adj_In_l1 (T : Tab) (k j0 : Nat) (a0 v1 out5 i6 : AV) (h : Heap) : Option (AV × Heap) :=
  loopB T k milestoneref2_Adj_In_rs j0 [15, 16] milestoneref2_Adj_In_c1 [.blk 0, .seq [0, 1, 6, 14] (.seq [5, 32] (.region [⟨some 32, .op (.mv (.tmp 5)), none⟩,
  ⟨some 4, .op (.mv (.tmp 32)), none⟩]) .ret)] [a0, v1, .undef, .undef, .undef, out5, i6, .undef, .undef, .undef, .undef, .undef, .undef, .undef, .undef, .undef, .undef, .undef, .undef, .undef, .undef, .undef, .undef, .undef, .undef, .undef, .undef, .undef, .undef, .undef, .undef, .undef, .undef] h
theorem milestoneref2_Adj_In_l1_eq (T : Tab) (k j0 : Nat) (a0 v1 out5 i6 : AV) (h : Heap) : milestoneref2_Adj_In_l1 T k (j0 + 1) a0 v1 out5 i6 h =
    oa (nilCk a0) fun t9_1 =>
    oa (fldA 0 t9_1) fun t10_2 =>
    oa (fldA 1 t10_2) fun t11_3 =>
    oa (ld1 h t11_3) fun t12_4 =>
    oa (lenS t12_4) fun t13_5 =>
    oa (binV .lss .scalar i6 t13_5) fun t14_6 =>
    cond2 t14_6
      (
      oa (nilCk a0) fun t18_7 =>
      oa (fldA 0 t18_7) fun t19_8 =>
      oa (fldA 1 t19_8) fun t20_9 =>
      oa (ld1 h t20_9) fun t21_10 =>
      oa (idxS 4 t21_10 i6) fun t23_11 =>
      oa (fldA 1 t23_11) fun t24_12 =>
      oa (ld1 h t24_12) fun t25_13 =>
      oa (binV .eql .scalar t25_13 v1) fun t27_14 =>
      cond2 t27_14
        (
        ob (buildSl 1 1 [.int .i64 0] [(0, 1, i6)] h) fun t30_15 h_16 =>
        ob (apnd 1 8 out5 t30_15 h_16) fun t31_17 h_18 =>
        oa (binV .add .scalar i6 (.int .i64 1)) fun t16_19 =>
        milestoneref2_Adj_In_l1 T k j0 a0 v1 t31_17 t16_19 h_18
        )
        (
        oa (binV .add .scalar i6 (.int .i64 1)) fun t16_20 =>
        milestoneref2_Adj_In_l1 T k j0 a0 v1 out5 t16_20 h
        )
      )
      (
      some (out5, h)
      ) := loopEq (by kernel_rfl)
theorem milestoneref2_Adj_In_eq (T : Tab) (k : Nat) (a0 v1 : AV) (h : Heap) : runF T k milestoneref2_Adj_In_mf [a0, v1] h =
    milestoneref2_Adj_In_l1 T k k a0 v1 .nils (.int .i64 0) h := runEq (by kernel_rfl)
noncomputable def milestoneref2_Adj_Modes_c1 : MCode := .seq [14] (.seq [7, 8, 9, 10, 11, 12, 13] (.region [⟨some 7, .op (.mv (.tmp 6)), none⟩,
  ⟨some 8, .op (.mv (.tmp 0)), none⟩,
  ⟨some 9, .op (.nilCheck (.tmp 8)), none⟩,
  ⟨some 10, .op (.fieldAddr 0 (.tmp 9)), none⟩,
  ⟨some 11, .op (.fieldAddr 1 (.tmp 10)), none⟩,
  ⟨some 12, .op (.load none (.tmp 11)), none⟩,
  ⟨some 13, .op (.lenSl (.tmp 12)), none⟩,
  ⟨some 14, .op (.bin .lss .scalar (.tmp 7) (.tmp 13)), none⟩]) (.cond (.tmp 14) .skip (.exit 0))) (.seq [40, 41, 42, 43, 44, 45, 46, 47, 48, 49, 50, 51, 52, 53] (.block 1 (.seq [17, 18, 19, 20, 21, 22, 23, 24, 25, 26, 27, 28, 29, 30, 31, 32, 33, 34, 35, 36, 37, 38, 39] (.region [⟨some 17, .op (.mv (.tmp 0)), none⟩,
  ⟨some 18, .op (.nilCheck (.tmp 17)), none⟩,
  ⟨some 19, .op (.fieldAddr 0 (.tmp 18)), none⟩,
  ⟨some 20, .op (.fieldAddr 1 (.tmp 19)), none⟩,
  ⟨some 21, .op (.load none (.tmp 20)), none⟩,
  ⟨some 22, .op (.mv (.tmp 6)), none⟩,
  ⟨some 23, .op (.idxSl 4 (.tmp 21) (.tmp 22)), none⟩,
  ⟨some 24, .op (.fieldAddr 0 (.tmp 23)), none⟩,
  ⟨some 25, .op (.load none (.tmp 24)), none⟩,
  ⟨some 26, .op (.mv (.tmp 1)), none⟩,
  ⟨some 27, .op (.bin .eql .scalar (.tmp 25) (.tmp 26)), none⟩,
  ⟨some 28, .op (.mv (.tmp 27)), none⟩,
  ⟨some 29, .op (.mv (.tmp 0)), some (28, false)⟩,
  ⟨some 30, .op (.nilCheck (.tmp 29)), some (28, false)⟩,
  ⟨some 31, .op (.fieldAddr 0 (.tmp 30)), some (28, false)⟩,
  ⟨some 32, .op (.fieldAddr 1 (.tmp 31)), some (28, false)⟩,
  ⟨some 33, .op (.load none (.tmp 32)), some (28, false)⟩,
  ⟨some 34, .op (.mv (.tmp 6)), some (28, false)⟩,
  ⟨some 35, .op (.idxSl 4 (.tmp 33) (.tmp 34)), some (28, false)⟩,
  ⟨some 36, .op (.fieldAddr 1 (.tmp 35)), some (28, false)⟩,
  ⟨some 37, .op (.load none (.tmp 36)), some (28, false)⟩,
  ⟨some 38, .op (.mv (.tmp 1)), some (28, false)⟩,
  ⟨some 39, .op (.bin .eql .scalar (.tmp 37) (.tmp 38)), some (28, false)⟩,
  ⟨some 40, .op (.pick (.tmp 28) (.const (.bool true)) (.tmp 39)), none⟩]) (.cond (.tmp 40) (.region [⟨some 41, .op (.mv (.tmp 5)), none⟩,
  ⟨some 42, .op (.mv (.tmp 0)), none⟩,
  ⟨some 43, .op (.nilCheck (.tmp 42)), none⟩,
  ⟨some 44, .op (.fieldAddr 0 (.tmp 43)), none⟩,
  ⟨some 45, .op (.fieldAddr 1 (.tmp 44)), none⟩,
  ⟨some 46, .op (.load none (.tmp 45)), none⟩,
  ⟨some 47, .op (.mv (.tmp 6)), none⟩,
  ⟨some 48, .op (.idxSl 4 (.tmp 46) (.tmp 47)), none⟩,
  ⟨some 49, .op (.fieldAddr 2 (.tmp 48)), none⟩,
  ⟨some 50, .op (.load none (.tmp 49)), none⟩,
  ⟨some 51, .op (.convI .u64 (.tmp 50)), none⟩,
  ⟨some 52, .op (.bin .shl .scalar (.const (.int .i64 1)) (.tmp 51)), none⟩,
  ⟨some 53, .op (.bin .or .scalar (.tmp 41) (.tmp 52)), none⟩,
  ⟨some 5, .op (.mv (.tmp 53)), none⟩]) .skip))) (.region [⟨some 15, .op (.mv (.tmp 6)), none⟩,
  ⟨some 16, .op (.bin .add .scalar (.tmp 15) (.const (.int .i64 1))), none⟩,
  ⟨some 6, .op (.mv (.tmp 16)), none⟩]))
def milestoneref2_Adj_Modes_rs : Res := [(4, none)]
noncomputable def milestoneref2_Adj_Modes_mf : MFn := ⟨55, milestoneref2_Adj_Modes_rs, .seq [4] (.region [⟨some 4, .op (.mv (.const (.int .i64 0))), none⟩]) (.seq [] (.region [⟨some 5, .op (.mv (.const (.int .i64 0))), none⟩]) (.seq [0, 1, 6, 14] (.seq [] (.region [⟨some 6, .op (.mv (.const (.int .i64 0))), none⟩]) (.block 0 (.loop [15, 16] milestoneref2_Adj_Modes_c1))) (.seq [5, 54] (.region [⟨some 54, .op (.mv (.tmp 5)), none⟩,
  ⟨some 4, .op (.mv (.tmp 54)), none⟩]) .ret)))⟩
noncomputable def milestoneref2_Adj_Modes_l1 (T : Tab) (k j0 : Nat) (a0 v1 s5 i6 : AV) (h : Heap) : Option (AV × Heap) :=
  loopB T k milestoneref2_Adj_Modes_rs j0 [15, 16] milestoneref2_Adj_Modes_c1 [.blk 0, .seq [0, 1, 6, 14] (.seq [5, 54] (.region [⟨some 54, .op (.mv (.tmp 5)), none⟩,
  ⟨some 4, .op (.mv (.tmp 54)), none⟩]) .ret)] [a0, v1, .undef, .undef, .undef, s5, i6, .undef, .undef, .undef, .undef, .undef, .undef, .undef, .undef, .undef, .undef, .undef, .undef, .undef, .undef, .undef, .undef, .undef, .undef, .undef, .undef, .undef, .undef, .undef, .undef, .undef, .undef, .undef, .undef, .undef, .undef, .undef, .undef, .undef, .undef, .undef, .undef, .undef, .undef, .undef, .undef, .undef, .undef, .undef, .undef, .undef, .undef, .undef, .undef] h
theorem milestoneref2_Adj_Modes_l1_eq (T : Tab) (k j0 : Nat) (a0 v1 s5 i6 : AV) (h : Heap) : milestoneref2_Adj_Modes_l1 T k (j0 + 1) a0 v1 s5 i6 h =
    oa (nilCk a0) fun t9_1 =>
    oa (fldA 0 t9_1) fun t10_2 =>
    oa (fldA 1 t10_2) fun t11_3 =>
    oa (ld1 h t11_3) fun t12_4 =>
    oa (lenS t12_4) fun t13_5 =>
    oa (binV .lss .scalar i6 t13_5) fun t14_6 =>
    cond2 t14_6
      (
      oa (nilCk a0) fun t18_7 =>
      oa (fldA 0 t18_7) fun t19_8 =>
      oa (fldA 1 t19_8) fun t20_9 =>
      oa (ld1 h t20_9) fun t21_10 =>
      oa (idxS 4 t21_10 i6) fun t23_11 =>
      oa (fldA 0 t23_11) fun t24_12 =>
      oa (ld1 h t24_12) fun t25_13 =>
      oa (binV .eql .scalar t25_13 v1) fun t27_14 =>
      ob (gd t27_14 false (some (a0, h)) h) fun t29_15 h_16 =>
      ob (gd t27_14 false (pure1 h_16 (nilCk t29_15)) h_16) fun t30_17 h_18 =>
      ob (gd t27_14 false (pure1 h_18 (fldA 0 t30_17)) h_18) fun t31_19 h_20 =>
      ob (gd t27_14 false (pure1 h_20 (fldA 1 t31_19)) h_20) fun t32_21 h_22 =>
      ob (gd t27_14 false (pure1 h_22 (ld1 h_22 t32_21)) h_22) fun t33_23 h_24 =>
      ob (gd t27_14 false (some (i6, h_24)) h_24) fun t34_25 h_26 =>
      ob (gd t27_14 false (pure1 h_26 (idxS 4 t33_23 t34_25)) h_26) fun t35_27 h_28 =>
      ob (gd t27_14 false (pure1 h_28 (fldA 1 t35_27)) h_28) fun t36_29 h_30 =>
      ob (gd t27_14 false (pure1 h_30 (ld1 h_30 t36_29)) h_30) fun t37_31 h_32 =>
      ob (gd t27_14 false (some (v1, h_32)) h_32) fun t38_33 h_34 =>
      ob (gd t27_14 false (pure1 h_34 (binV .eql .scalar t37_31 t38_33)) h_34) fun t39_35 h_36 =>
      oa (pickV t27_14 (.bool true) t39_35) fun t40_37 =>
      cond2 t40_37
        (
        oa (nilCk a0) fun t43_38 =>
        oa (fldA 0 t43_38) fun t44_39 =>
        oa (fldA 1 t44_39) fun t45_40 =>
        oa (ld1 h_36 t45_40) fun t46_41 =>
        oa (idxS 4 t46_41 i6) fun t48_42 =>
        oa (fldA 2 t48_42) fun t49_43 =>
        oa (ld1 h_36 t49_43) fun t50_44 =>
        oa (convV .u64 t50_44) fun t51_45 =>
        oa (binV .shl .scalar (.int .i64 1) t51_45) fun t52_46 =>
        oa (binV .or .scalar s5 t52_46) fun t53_47 =>
        oa (binV .add .scalar i6 (.int .i64 1)) fun t16_48 =>
        milestoneref2_Adj_Modes_l1 T k j0 a0 v1 t53_47 t16_48 h_36
        )
        (
        oa (binV .add .scalar i6 (.int .i64 1)) fun t16_49 =>
        milestoneref2_Adj_Modes_l1 T k j0 a0 v1 s5 t16_49 h_36
        )
      )
      (
      some (s5, h)
      ) := loopEq (by kernel_rfl)
theorem milestoneref2_Adj_Modes_eq (T : Tab) (k : Nat) (a0 v1 : AV) (h : Heap) : runF T k milestoneref2_Adj_Modes_mf [a0, v1] h =
    milestoneref2_Adj_Modes_l1 T k k a0 v1 (.int .i64 0) (.int .i64 0) h := runEq (by kernel_rfl)
def milestonelaw1_within_rs : Res := [(4, none)]
noncomputable def milestonelaw1_within_mf : MFn := ⟨15, milestonelaw1_within_rs, .seq [4] (.region [⟨some 4, .op (.mv (.const (.int .i64 0))), none⟩]) (.seq [0, 6, 7, 8] (.region [⟨some 6, .op (.mv (.tmp 0)), none⟩,
  ⟨some 7, .op (.mv (.tmp 1)), none⟩,
  ⟨some 8, .op (.bin .rem .scalar (.tmp 6) (.tmp 7)), none⟩,
  ⟨some 5, .op (.mv (.tmp 8)), none⟩]) (.seq [1, 10, 11, 12, 13] (.seq [9] (.region [⟨some 9, .op (.mv (.tmp 5)), none⟩,
  ⟨some 10, .op (.bin .lss .scalar (.tmp 9) (.const (.int .i64 0))), none⟩]) (.cond (.tmp 10) (.region [⟨some 11, .op (.mv (.tmp 5)), none⟩,
  ⟨some 12, .op (.mv (.tmp 1)), none⟩,
  ⟨some 13, .op (.bin .add .scalar (.tmp 11) (.tmp 12)), none⟩,
  ⟨some 5, .op (.mv (.tmp 13)), none⟩]) .skip)) (.seq [5, 14] (.region [⟨some 14, .op (.mv (.tmp 5)), none⟩,
  ⟨some 4, .op (.mv (.tmp 14)), none⟩]) .ret)))⟩
theorem milestonelaw1_within_eq (T : Tab) (k : Nat) (at0 n1 : AV) (h : Heap) : runF T k milestonelaw1_within_mf [at0, n1] h =
    oa (binV .rem .scalar at0 n1) fun t8_1 =>
    oa (binV .lss .scalar t8_1 (.int .i64 0)) fun t10_2 =>
    cond2 t10_2
      (
      oa (binV .add .scalar t8_1 n1) fun t13_3 =>
      some (t13_3, h)
      )
      (
      some (t8_1, h)
      ) := runEq (by kernel_rfl)
def slices_Clone_api_Edge_rs : Res := [(2, none)]
noncomputable def slices_Clone_api_Edge_mf : MFn := ⟨8, slices_Clone_api_Edge_rs, .seq [2] (.region [⟨some 2, .op (.mv (.const .nils)), none⟩]) (.seq [4] (.seq [3] (.region [⟨some 3, .op (.mv (.tmp 0)), none⟩,
  ⟨some 4, .op (.bin .eql .slice (.tmp 3) (.const .nils)), none⟩]) (.cond (.tmp 4) (.seq [0, 4] (.region [⟨some 2, .op (.mv (.const .nils)), none⟩]) .ret) .skip)) (.seq [0, 5, 6, 7] (.region [⟨some 5, .op (.buildSlice 4 0 [] []), none⟩,
  ⟨some 6, .op (.mv (.tmp 0)), none⟩,
  ⟨some 7, .op (.append 4 32 (.tmp 5) (.tmp 6)), none⟩,
  ⟨some 2, .op (.mv (.tmp 7)), none⟩]) .ret))⟩
theorem slices_Clone_api_Edge_eq (T : Tab) (k : Nat) (s0 : AV) (h : Heap) : runF T k slices_Clone_api_Edge_mf [s0] h =
    oa (binV .eql .slice s0 .nils) fun t4_1 =>
    cond2 t4_1
      (
      some (.nils, h)
      )
      (
      ob (buildSl 4 0 [] [] h) fun t5_2 h_3 =>
      ob (apnd 4 32 t5_2 s0 h_3) fun t7_4 h_5 =>
      some (t7_4, h_5)
      ) := runEq (by kernel_rfl)
def adj_Adj_is_rs : Res := [(4, none)]
noncomputable def adj_Adj_is_mf : MFn := ⟨16, adj_Adj_is_rs, .seq [4] (.region [⟨some 4, .op (.mv (.const (.bool false))), none⟩]) (.seq [0, 1, 5, 6, 7, 8, 9, 10, 11, 12, 13, 14, 15] (.region [⟨some 5, .op (.mv (.tmp 1)), none⟩,
  ⟨some 6, .op (.bin .geq .scalar (.tmp 5) (.const (.int .i64 0))), none⟩,
  ⟨some 7, .op (.mv (.tmp 6)), none⟩,
  ⟨some 8, .op (.mv (.tmp 1)), some (7, true)⟩,
  ⟨some 9, .op (.mv (.tmp 0)), some (7, true)⟩,
  ⟨some 10, .op (.nilCheck (.tmp 9)), some (7, true)⟩,
  ⟨some 11, .op (.fieldAddr 2 (.tmp 10)), some (7, true)⟩,
  ⟨some 12, .op (.load none (.tmp 11)), some (7, true)⟩,
  ⟨some 13, .op (.lenSl (.tmp 12)), some (7, true)⟩,
  ⟨some 14, .op (.bin .lss .scalar (.tmp 8) (.tmp 13)), some (7, true)⟩,
  ⟨some 15, .op (.pick (.tmp 7) (.tmp 14) (.const (.bool false))), none⟩,
  ⟨some 4, .op (.mv (.tmp 15)), none⟩]) .ret)⟩
theorem adj_Adj_is_eq (T : Tab) (k : Nat) (a0 v1 : AV) (h : Heap) : runF T k adj_Adj_is_mf [a0, v1] h =
    oa (binV .geq .scalar v1 (.int .i64 0)) fun t6_1 =>
    ob (gd t6_1 true (some (v1, h)) h) fun t8_2 h_3 =>
    ob (gd t6_1 true (some (a0, h_3)) h_3) fun t9_4 h_5 =>
    ob (gd t6_1 true (pure1 h_5 (nilCk t9_4)) h_5) fun t10_6 h_7 =>
    ob (gd t6_1 true (pure1 h_7 (fldA 2 t10_6)) h_7) fun t11_8 h_9 =>
    ob (gd t6_1 true (pure1 h_9 (ld1 h_9 t11_8)) h_9) fun t12_10 h_11 =>
    ob (gd t6_1 true (pure1 h_11 (lenS t12_10)) h_11) fun t13_12 h_13 =>
    ob (gd t6_1 true (pure1 h_13 (binV .lss .scalar t8_2 t13_12)) h_13) fun t14_14 h_15 =>
    oa (pickV t6_1 t14_14 (.bool false)) fun t15_16 =>
    some (t15_16, h_15) := runEq (by kernel_rfl)
def adj_ends_add_rs : Res := []
noncomputable def adj_ends_add_mf : MFn := ⟨26, adj_ends_add_rs, .regionD 26 [⟨0, ⟨some 26, .op (.mv (.tmp 0)), none⟩, []⟩,
  ⟨1, ⟨some 27, .op (.mv (.tmp 0)), none⟩, []⟩,
  ⟨2, ⟨some 28, .op (.mv (.tmp 0)), none⟩, []⟩,
  ⟨3, ⟨some 29, .op (.nilCheck (.tmp 28)), none⟩, []⟩,
  ⟨4, ⟨some 30, .op (.fieldAddr 0 (.tmp 29)), none⟩, []⟩,
  ⟨5, ⟨some 31, .op (.load none (.tmp 30)), none⟩, []⟩,
  ⟨6, ⟨some 32, .op (.mv (.tmp 1)), none⟩, []⟩,
  ⟨7, ⟨some 33, .op (.buildSlice 1 1 [.int .i64 0] [(0, 1, (.tmp 32))]), none⟩, []⟩,
  ⟨9, ⟨some 35, .op (.mv (.tmp 0)), none⟩, []⟩,
  ⟨10, ⟨some 36, .op (.nilCheck (.tmp 35)), none⟩, []⟩,
  ⟨11, ⟨some 37, .op (.fieldAddr 1 (.tmp 36)), none⟩, []⟩,
  ⟨12, ⟨some 38, .op (.load none (.tmp 37)), none⟩, []⟩,
  ⟨13, ⟨some 39, .op (.mv (.tmp 2)), none⟩, []⟩,
  ⟨14, ⟨some 40, .op (.buildSlice 1 1 [.int .i64 0] [(0, 1, (.tmp 39))]), none⟩, []⟩,
  ⟨8, ⟨some 34, .op (.append 1 8 (.tmp 31) (.tmp 33)), none⟩, [(38, ⟨some 38, .op (.load none (.tmp 37)), none⟩)]⟩,
  ⟨15, ⟨some 41, .op (.append 1 8 (.tmp 38) (.tmp 40)), none⟩, []⟩,
  ⟨16, ⟨some 42, .op (.nilCheck (.tmp 26)), none⟩, []⟩,
  ⟨17, ⟨some 43, .op (.fieldAddr 0 (.tmp 42)), none⟩, []⟩,
  ⟨18, ⟨some 44, .op (.store 1 (.tmp 43) (.tmp 34)), none⟩, []⟩,
  ⟨19, ⟨some 45, .op (.nilCheck (.tmp 27)), none⟩, []⟩,
  ⟨20, ⟨some 46, .op (.fieldAddr 1 (.tmp 45)), none⟩, []⟩,
  ⟨21, ⟨some 47, .op (.store 1 (.tmp 46) (.tmp 41)), none⟩, []⟩] [(6, 26), (7, 27), (8, 28), (9, 29), (10, 30), (11, 31), (12, 32), (13, 33), (14, 34), (15, 35), (16, 36), (17, 37), (18, 38), (19, 39), (20, 40), (21, 41), (22, 42), (23, 43), (24, 45), (25, 46)]⟩
theorem adj_ends_add_eq (T : Tab) (k : Nat) (e0 edge1 other2 : AV) (h : Heap) : runF T k adj_ends_add_mf [e0, edge1, other2] h =
    oa (nilCk e0) fun t29_1 =>
    oa (fldA 0 t29_1) fun t30_2 =>
    oa (ld1 h t30_2) fun t31_3 =>
    ob (buildSl 1 1 [.int .i64 0] [(0, 1, edge1)] h) fun t33_4 h_5 =>
    oa (nilCk e0) fun t36_6 =>
    oa (fldA 1 t36_6) fun t37_7 =>
    oa (ld1 h_5 t37_7) fun t38_8 =>
    ob (buildSl 1 1 [.int .i64 0] [(0, 1, other2)] h_5) fun t40_9 h_10 =>
    ob (apnd 1 8 t31_3 t33_4 h_10) fun t34_11 h_12 =>
    chk ((sameB (pure1 h_12 (ld1 h_12 t37_7)) t38_8 && true)) <|
    ob (apnd 1 8 t38_8 t40_9 h_12) fun t41_13 h_14 =>
    oa (nilCk e0) fun t42_15 =>
    oa (fldA 0 t42_15) fun t43_16 =>
    oh (stN 1 h_14 t43_16 t34_11) fun h_17 =>
    oa (nilCk e0) fun t45_18 =>
    oa (fldA 1 t45_18) fun t46_19 =>
    oh (stN 1 h_17 t46_19 t41_13) fun h_20 =>
    some (.tup [], h_20) := runEq (by kernel_rfl)
def adj_ends_list_rs : Res := [(2, none)]
noncomputable def adj_ends_list_mf : MFn := ⟨13, adj_ends_list_rs, .seq [0, 2] (.region [⟨some 1, .op (.box (.tmp 0)), none⟩,
  ⟨some 2, .op (.mv (.const .nils)), none⟩]) (.seq [4, 5, 6] (.region [⟨some 4, .op (.fieldAddr 0 (.tmp 1)), none⟩,
  ⟨some 5, .op (.load none (.tmp 4)), none⟩,
  ⟨some 6, .op (.lenSl (.tmp 5)), none⟩,
  ⟨some 3, .op (.mv (.tmp 6)), none⟩]) (.seq [1, 3, 7, 8, 9, 10, 11, 12] (.region [⟨some 7, .op (.fieldAddr 0 (.tmp 1)), none⟩,
  ⟨some 8, .op (.load none (.tmp 7)), none⟩,
  ⟨some 9, .op (.mv (.tmp 3)), none⟩,
  ⟨some 10, .op (.mv (.tmp 3)), none⟩,
  ⟨some 11, .op (.sliceSl 1 (.tmp 8) none (some (.tmp 9)) (some (.tmp 10))), none⟩,
  ⟨some 12, .call f_slices_Clone_int [(.tmp 11)], none⟩,
  ⟨some 2, .op (.mv (.tmp 12)), none⟩]) .ret))⟩
theorem adj_ends_list_eq (T : Tab) (k : Nat) (e0 : AV) (h : Heap) : runF T k adj_ends_list_mf [e0] h =
    ob (newVar h (AV.cells e0)) fun e1_1 h_2 =>
    oa (fldA 0 e1_1) fun t4_3 =>
    oa (ld1 h_2 t4_3) fun t5_4 =>
    oa (lenS t5_4) fun t6_5 =>
    oa (fldA 0 e1_1) fun t7_6 =>
    oa (ld1 h_2 t7_6) fun t8_7 =>
    oa (slSl 1 t8_7 none (some t6_5) (some t6_5)) fun t11_8 =>
    ob (evalFn T k f_slices_Clone_int [t11_8] h_2) fun t12_9 h_10 =>
    some (t12_9, h_10) := runEq (by kernel_rfl)
def adj_Adj_side_rs : Res := [(6, some (some 2))]
noncomputable def adj_Adj_side_mf : MFn := ⟨16, adj_Adj_side_rs, .seq [] (.region [⟨some 6, .op (.alloc [.nils, .nils]), none⟩]) (.seq [10] (.seq [0, 7, 8, 9] (.region [⟨some 7, .op (.mv (.tmp 0)), none⟩,
  ⟨some 8, .op (.mv (.tmp 2)), none⟩,
  ⟨some 9, .call f_adj_Adj_is [(.tmp 7), (.tmp 8)], none⟩,
  ⟨some 10, .op (.un .not (.tmp 9)), none⟩]) (.cond (.tmp 10) (.seq [1, 2, 10, 11] (.region [⟨some 11, .op (.build [.nils, .nils] []), none⟩,
  ⟨none, .op (.store 2 (.tmp 6) (.tmp 11)), none⟩]) .ret) .skip)) (.seq [1, 2, 12, 13, 14, 15] (.region [⟨some 12, .op (.mv (.tmp 1)), none⟩,
  ⟨some 13, .op (.mv (.tmp 2)), none⟩,
  ⟨some 14, .op (.idxSl 2 (.tmp 12) (.tmp 13)), none⟩,
  ⟨some 15, .op (.load (some 2) (.tmp 14)), none⟩,
  ⟨none, .op (.store 2 (.tmp 6) (.tmp 15)), none⟩]) .ret))⟩
theorem adj_Adj_side_eq (T : Tab) (k : Nat) (a0 l1 v2 : AV) (h : Heap) : runF T k adj_Adj_side_mf [a0, l1, v2] h =
    ob (newVar h [.nils, .nils]) fun t6_1 h_2 =>
    ob (evalFn T k f_adj_Adj_is [a0, v2] h_2) fun t9_3 h_4 =>
    oa (unV .not t9_3) fun t10_5 =>
    cond2 t10_5
      (
      oa (buildV [.nils, .nils] []) fun t11_6 =>
      oh (stN 2 h_4 t6_1 t11_6) fun h_7 =>
      oa (ldN 2 h_7 t6_1) fun t6_8 =>
      some (t6_8, h_7)
      )
      (
      oa (idxS 2 l1 v2) fun t14_9 =>
      oa (ldN 2 h_4 t14_9) fun t15_10 =>
      oh (stN 2 h_4 t6_1 t15_10) fun h_11 =>
      oa (ldN 2 h_11 t6_1) fun t6_12 =>
      some (t6_12, h_11)
      ) := runEq (by kernel_rfl)
def slices_Clone_int_rs : Res := [(2, none)]
noncomputable def slices_Clone_int_mf : MFn := ⟨8, slices_Clone_int_rs, .seq [2] (.region [⟨some 2, .op (.mv (.const .nils)), none⟩]) (.seq [4] (.seq [3] (.region [⟨some 3, .op (.mv (.tmp 0)), none⟩,
  ⟨some 4, .op (.bin .eql .slice (.tmp 3) (.const .nils)), none⟩]) (.cond (.tmp 4) (.seq [0, 4] (.region [⟨some 2, .op (.mv (.const .nils)), none⟩]) .ret) .skip)) (.seq [0, 5, 6, 7] (.region [⟨some 5, .op (.buildSlice 1 0 [] []), none⟩,
  ⟨some 6, .op (.mv (.tmp 0)), none⟩,
  ⟨some 7, .op (.append 1 8 (.tmp 5) (.tmp 6)), none⟩,
  ⟨some 2, .op (.mv (.tmp 7)), none⟩]) .ret))⟩
theorem slices_Clone_int_eq (T : Tab) (k : Nat) (s0 : AV) (h : Heap) : runF T k slices_Clone_int_mf [s0] h =
    oa (binV .eql .slice s0 .nils) fun t4_1 =>
    cond2 t4_1
      (
      some (.nils, h)
      )
      (
      ob (buildSl 1 0 [] [] h) fun t5_2 h_3 =>
      ob (apnd 1 8 t5_2 s0 h_3) fun t7_4 h_5 =>
      some (t7_4, h_5)
      ) := runEq (by kernel_rfl)
end Go.Gm.A2
