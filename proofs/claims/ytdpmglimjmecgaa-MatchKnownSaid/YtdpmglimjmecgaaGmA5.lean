/- A part of the proof (GmA5): an abstract machine, what it does, and what the functions of the program come to on it. -/
import Derived.KernelRfl
import Derived.Test.YtdpmglimjmecgaaGmA5a
import Derived.Test.YtdpmglimjmecgaaGmP3
set_option linter.unusedVariables false
namespace Go.Gm.A5
open Go Go.Gm
noncomputable def match_matcher_ends_mf : MFn := ⟨210, match_matcher_ends_rs, .seq [6] (.region [⟨some 6, .op (.mv (.const .nils)), none⟩]) (.seq [7, 29] (.seq [18, 19, 20, 21, 22, 23, 24, 25, 26, 27, 28] (.region [⟨some 19, .op (.mv (.tmp 0)), none⟩,
  ⟨some 20, .op (.nilCheck (.tmp 19)), none⟩,
  ⟨some 21, .op (.fieldAddr 2 (.tmp 20)), none⟩,
  ⟨some 22, .op (.load none (.tmp 21)), none⟩,
  ⟨some 23, .op (.mv (.tmp 1)), none⟩,
  ⟨some 24, .op (.mv (.tmp 2)), none⟩,
  ⟨some 25, .op (.build [.int .i64 0, .int .i64 0] [(0, 1, (.tmp 23)), (1, 1, (.tmp 24))]), none⟩,
  ⟨some 26, .op (.lookup (.row [.i .i64, .i .i64]) .nils true (.tmp 22) (.tmp 25)), none⟩,
  ⟨some 18, .op (.mv (.tmp 26)), none⟩,
  ⟨some 27, .op (.extract 0 (.tmp 18)), none⟩,
  ⟨some 28, .op (.extract 1 (.tmp 18)), none⟩,
  ⟨some 7, .op (.mv (.tmp 27)), none⟩,
  ⟨some 8, .op (.mv (.tmp 28)), none⟩]) (.seq [8] (.region [⟨some 29, .op (.mv (.tmp 8)), none⟩]) (.cond (.tmp 29) (.seq [0, 1, 2, 7, 29, 30] (.region [⟨some 30, .op (.mv (.tmp 7)), none⟩,
  ⟨some 6, .op (.mv (.tmp 30)), none⟩]) .ret) .skip))) (.seq [31, 32, 33, 34, 35, 36, 37] (.region [⟨some 31, .op (.mv (.tmp 0)), none⟩,
  ⟨some 32, .op (.nilCheck (.tmp 31)), none⟩,
  ⟨some 33, .op (.fieldAddr 0 (.tmp 32)), none⟩,
  ⟨some 34, .op (.load none (.tmp 33)), none⟩,
  ⟨some 35, .op (.mv (.tmp 1)), none⟩,
  ⟨some 36, .op (.idxSl 6 (.tmp 34) (.tmp 35)), none⟩,
  ⟨some 37, .op (.load (some 6) (.tmp 36)), none⟩,
  ⟨some 9, .op (.alloc [.int .i64 0, .int .i64 0, .int .i64 0, .int .i64 0, .nils, .nils]), none⟩,
  ⟨none, .op (.store 6 (.tmp 9) (.tmp 37)), none⟩]) (.seq [38, 39] (.region [⟨some 38, .op (.mv (.tmp 0)), none⟩,
  ⟨some 39, .op (.mkFn f_match_matcher_step [(.tmp 38)] []), none⟩,
  ⟨some 10, .op (.mv (.tmp 39)), none⟩]) (.seq [40, 41, 42, 43] (.region [⟨some 40, .op (.mv (.tmp 0)), none⟩,
  ⟨some 41, .call f_match_matcher_none [(.tmp 40)], none⟩,
  ⟨some 42, .op (.mv (.tmp 0)), none⟩,
  ⟨some 43, .call f_match_matcher_none [(.tmp 42)], none⟩,
  ⟨some 11, .op (.mv (.tmp 41)), none⟩,
  ⟨some 12, .op (.mv (.tmp 43)), none⟩]) (.seq [44, 45, 46] (.region [⟨some 44, .op (.mv (.tmp 12)), none⟩,
  ⟨some 45, .op (.mv (.tmp 2)), none⟩,
  ⟨some 46, .op (.idxSl 1 (.tmp 44) (.tmp 45)), none⟩,
  ⟨none, .op (.store 1 (.tmp 46) (.const (.bool true))), none⟩]) (.seq [9, 10, 12, 49, 93, 94, 95, 96, 97, 98, 100, 115, 119, 120, 121, 122, 133, 135, 136, 137, 138, 139, 140, 141, 142, 144, 145, 146, 147, 148, 149, 150, 151, 152, 153, 154, 155, 156, 157, 159, 160, 161, 162, 163, 164, 165, 166, 167, 168, 169, 170, 175, 176, 177] (.seq [47, 48] (.region [⟨some 47, .op (.fieldAddr 0 (.tmp 9)), none⟩,
  ⟨some 48, .op (.fieldAddr 0 (.tmp 47)), none⟩,
  ⟨some 49, .op (.load none (.tmp 48)), none⟩]) (.block 0 (.seq [51] (.region [⟨some 51, .op (.bin .eql .scalar (.tmp 49) (.const (.int .i64 1))), none⟩,
  ⟨some 50, .op (.mv (.tmp 51)), none⟩]) (.cond (.tmp 50) (.seq [9, 10, 12, 49, 50, 52, 53, 54, 55, 56, 57, 58, 59, 60, 61, 62, 63, 64, 65, 66, 67, 68, 69, 70, 71, 72, 73, 74, 75, 76, 77, 78, 79, 80, 81, 82, 83, 84, 85, 86, 87, 88, 89, 90, 91, 92] (.regionD 210 [⟨0, ⟨some 210, .op (.mv (.tmp 2)), none⟩, []⟩,
  ⟨1, ⟨some 211, .op (.mv (.tmp 0)), none⟩, []⟩,
  ⟨2, ⟨some 212, .op (.nilCheck (.tmp 211)), none⟩, []⟩,
  ⟨3, ⟨some 213, .op (.fieldAddr 1 (.tmp 212)), none⟩, []⟩,
  ⟨4, ⟨some 214, .op (.load none (.tmp 213)), none⟩, []⟩,
  ⟨5, ⟨some 215, .op (.lenSl (.tmp 214)), none⟩, []⟩,
  ⟨6, ⟨some 216, .op (.bin .lss .scalar (.tmp 210) (.tmp 215)), none⟩, []⟩,
  ⟨7, ⟨some 217, .op (.mv (.tmp 216)), none⟩, []⟩,
  ⟨8, ⟨some 218, .op (.mv (.tmp 0)), some (217, true)⟩, []⟩,
  ⟨9, ⟨some 219, .op (.nilCheck (.tmp 218)), some (217, true)⟩, []⟩,
  ⟨10, ⟨some 220, .op (.fieldAddr 1 (.tmp 219)), some (217, true)⟩, []⟩,
  ⟨11, ⟨some 221, .op (.load none (.tmp 220)), some (217, true)⟩, []⟩,
  ⟨12, ⟨some 222, .op (.mv (.tmp 2)), some (217, true)⟩, []⟩,
  ⟨13, ⟨some 223, .op (.idxSl 1 (.tmp 221) (.tmp 222)), some (217, true)⟩, []⟩,
  ⟨14, ⟨some 224, .op (.load none (.tmp 223)), some (217, true)⟩, []⟩,
  ⟨15, ⟨some 225, .op (.bin .geq .scalar (.tmp 224) (.const (.int .i64 0))), some (217, true)⟩, []⟩,
  ⟨16, ⟨some 226, .op (.pick (.tmp 217) (.tmp 225) (.const (.bool false))), none⟩, []⟩,
  ⟨17, ⟨some 227, .op (.mv (.tmp 226)), none⟩, []⟩,
  ⟨18, ⟨some 228, .op (.mv (.tmp 0)), some (227, true)⟩, []⟩,
  ⟨19, ⟨some 229, .op (.nilCheck (.tmp 228)), some (227, true)⟩, []⟩,
  ⟨20, ⟨some 230, .op (.fieldAddr 1 (.tmp 229)), some (227, true)⟩, []⟩,
  ⟨21, ⟨some 231, .op (.load none (.tmp 230)), some (227, true)⟩, []⟩,
  ⟨22, ⟨some 232, .op (.mv (.tmp 2)), some (227, true)⟩, []⟩,
  ⟨23, ⟨some 233, .op (.idxSl 1 (.tmp 231) (.tmp 232)), some (227, true)⟩, []⟩,
  ⟨24, ⟨some 234, .op (.load none (.tmp 233)), some (227, true)⟩, []⟩,
  ⟨25, ⟨some 235, .op (.bin .lss .scalar (.tmp 234) (.const (.int .i64 5))), some (227, true)⟩, []⟩,
  ⟨26, ⟨some 236, .op (.pick (.tmp 227) (.tmp 235) (.const (.bool false))), none⟩, []⟩,
  ⟨27, ⟨some 237, .op (.mv (.tmp 236)), none⟩, []⟩,
  ⟨28, ⟨some 238, .op (.fieldAddr 0 (.tmp 9)), some (237, true)⟩, []⟩,
  ⟨29, ⟨some 239, .op (.fieldAddr 1 (.tmp 238)), some (237, true)⟩, []⟩,
  ⟨30, ⟨some 240, .op (.load none (.tmp 239)), some (237, true)⟩, []⟩,
  ⟨31, ⟨some 241, .op (.mv (.tmp 0)), some (237, true)⟩, []⟩,
  ⟨32, ⟨some 242, .op (.nilCheck (.tmp 241)), some (237, true)⟩, []⟩,
  ⟨33, ⟨some 243, .op (.fieldAddr 1 (.tmp 242)), some (237, true)⟩, []⟩,
  ⟨34, ⟨some 244, .op (.load none (.tmp 243)), some (237, true)⟩, []⟩,
  ⟨35, ⟨some 245, .op (.mv (.tmp 2)), some (237, true)⟩, []⟩,
  ⟨36, ⟨some 246, .op (.idxSl 1 (.tmp 244) (.tmp 245)), some (237, true)⟩, []⟩,
  ⟨37, ⟨some 247, .op (.load none (.tmp 246)), some (237, true)⟩, []⟩,
  ⟨38, ⟨some 248, .op (.bin .shr .scalar (.tmp 240) (.tmp 247)), some (237, true)⟩, []⟩,
  ⟨39, ⟨some 249, .op (.bin .and .scalar (.tmp 248) (.const (.int .i64 1))), some (237, true)⟩, []⟩,
  ⟨40, ⟨some 250, .op (.bin .eql .scalar (.tmp 249) (.const (.int .i64 1))), some (237, true)⟩, []⟩,
  ⟨41, ⟨some 251, .op (.pick (.tmp 237) (.tmp 250) (.const (.bool false))), none⟩, []⟩] [(52, 210), (53, 211), (54, 212), (55, 213), (56, 214), (57, 215), (58, 216), (59, 217), (60, 218), (61, 219), (62, 220), (63, 221), (64, 222), (65, 223), (66, 224), (67, 225), (68, 226), (69, 227), (70, 228), (71, 229), (72, 230), (73, 231), (74, 232), (75, 233), (76, 234), (77, 235), (78, 236), (79, 237), (80, 238), (81, 239), (82, 240), (83, 241), (84, 242), (85, 243), (86, 244), (87, 245), (88, 246), (89, 247), (90, 248), (91, 249), (92, 250), (93, 251)]) (.cond (.tmp 93) (.region [⟨some 94, .op (.mv (.tmp 11)), none⟩,
  ⟨some 95, .op (.mv (.tmp 2)), none⟩,
  ⟨some 96, .op (.bin .add .scalar (.tmp 95) (.const (.int .i64 1))), none⟩,
  ⟨some 97, .op (.idxSl 1 (.tmp 94) (.tmp 96)), none⟩,
  ⟨none, .op (.store 1 (.tmp 97) (.const (.bool true))), none⟩]) .skip)) (.seq [50, 99] (.region [⟨some 99, .op (.bin .eql .scalar (.tmp 49) (.const (.int .i64 3))), none⟩,
  ⟨some 98, .op (.mv (.tmp 99)), none⟩]) (.cond (.tmp 98) (.region [⟨some 100, .op (.mv (.tmp 12)), none⟩,
  ⟨some 11, .op (.mv (.tmp 100)), none⟩]) (.seq [98, 102] (.region [⟨some 102, .op (.bin .eql .scalar (.tmp 49) (.const (.int .i64 4))), none⟩,
  ⟨some 101, .op (.mv (.tmp 102)), none⟩]) (.cond (.tmp 101) (.seq [10, 104, 105, 106, 107] (.seq [9, 11, 49, 101, 103] (.region [⟨some 103, .op (.fieldAddr 5 (.tmp 9)), none⟩,
  ⟨some 104, .op (.load none (.tmp 103)), none⟩,
  ⟨some 105, .op (.lenSl (.tmp 104)), none⟩,
  ⟨some 106, .op (.mv (.const (.int .i64 0))), none⟩]) (.block 1 (.loop [114] match_matcher_ends_c1))) (.region [⟨some 115, .op (.mv (.tmp 12)), none⟩,
  ⟨some 11, .op (.mv (.tmp 115)), none⟩])) (.seq [101, 117] (.region [⟨some 117, .op (.bin .eql .scalar (.tmp 49) (.const (.int .i64 5))), none⟩,
  ⟨some 116, .op (.mv (.tmp 117)), none⟩]) (.cond (.tmp 116) (.seq [9, 49, 116, 118] (.region [⟨some 118, .op (.fieldAddr 5 (.tmp 9)), none⟩,
  ⟨some 119, .op (.load none (.tmp 118)), none⟩,
  ⟨some 120, .op (.lenSl (.tmp 119)), none⟩,
  ⟨some 121, .op (.mv (.const (.int .i64 0))), none⟩]) (.block 3 (.loop [132] match_matcher_ends_c2))) (.seq [116, 134] (.region [⟨some 134, .op (.bin .eql .scalar (.tmp 49) (.const (.int .i64 6))), none⟩,
  ⟨some 133, .op (.mv (.tmp 134)), none⟩]) (.cond (.tmp 133) (.region [⟨some 135, .op (.mv (.tmp 0)), none⟩,
  ⟨some 136, .op (.fieldAddr 5 (.tmp 9)), none⟩,
  ⟨some 137, .op (.load none (.tmp 136)), none⟩,
  ⟨some 138, .op (.idxSl 1 (.tmp 137) (.const (.int .i64 0))), none⟩,
  ⟨some 139, .op (.load none (.tmp 138)), none⟩,
  ⟨some 140, .op (.mv (.tmp 12)), none⟩,
  ⟨some 141, .call f_match_matcher_again [(.tmp 135), (.tmp 139), (.tmp 140)], none⟩,
  ⟨some 11, .op (.mv (.tmp 141)), none⟩]) (.seq [133, 143] (.region [⟨some 143, .op (.bin .eql .scalar (.tmp 49) (.const (.int .i64 7))), none⟩,
  ⟨some 142, .op (.mv (.tmp 143)), none⟩]) (.cond (.tmp 142) (.regionD 210 [⟨0, ⟨some 210, .op (.mv (.tmp 0)), none⟩, []⟩,
  ⟨1, ⟨some 211, .op (.fieldAddr 5 (.tmp 9)), none⟩, []⟩,
  ⟨2, ⟨some 212, .op (.load none (.tmp 211)), none⟩, []⟩,
  ⟨3, ⟨some 213, .op (.idxSl 1 (.tmp 212) (.const (.int .i64 0))), none⟩, []⟩,
  ⟨4, ⟨some 214, .op (.load none (.tmp 213)), none⟩, []⟩,
  ⟨5, ⟨some 215, .op (.mv (.tmp 10)), none⟩, []⟩,
  ⟨6, ⟨some 216, .op (.fieldAddr 5 (.tmp 9)), none⟩, []⟩,
  ⟨7, ⟨some 217, .op (.load none (.tmp 216)), none⟩, []⟩,
  ⟨8, ⟨some 218, .op (.idxSl 1 (.tmp 217) (.const (.int .i64 0))), none⟩, []⟩,
  ⟨9, ⟨some 219, .op (.load none (.tmp 218)), none⟩, []⟩,
  ⟨10, ⟨some 220, .op (.mv (.tmp 12)), none⟩, []⟩,
  ⟨11, ⟨some 221, .callV (.tmp 215) [(.tmp 219), (.tmp 220)], none⟩, [(212, ⟨some 212, .op (.load none (.tmp 211)), none⟩), (214, ⟨some 214, .op (.load none (.tmp 213)), none⟩)]⟩,
  ⟨12, ⟨some 222, .call f_match_matcher_again [(.tmp 210), (.tmp 214), (.tmp 221)], none⟩, []⟩,
  ⟨13, ⟨some 223, .op (.mv (.tmp 222)), none⟩, []⟩] [(144, 210), (145, 211), (146, 212), (147, 213), (148, 214), (149, 215), (150, 216), (151, 217), (152, 218), (153, 219), (154, 220), (155, 221), (156, 222), (11, 223)]) (.seq [142, 158] (.region [⟨some 158, .op (.bin .eql .scalar (.tmp 49) (.const (.int .i64 8))), none⟩,
  ⟨some 157, .op (.mv (.tmp 158)), none⟩]) (.cond (.tmp 157) (.region [⟨some 159, .op (.mv (.tmp 11)), none⟩,
  ⟨some 160, .op (.mv (.tmp 12)), none⟩,
  ⟨some 161, .op (.mv (.tmp 10)), none⟩,
  ⟨some 162, .op (.fieldAddr 5 (.tmp 9)), none⟩,
  ⟨some 163, .op (.load none (.tmp 162)), none⟩,
  ⟨some 164, .op (.idxSl 1 (.tmp 163) (.const (.int .i64 0))), none⟩,
  ⟨some 165, .op (.load none (.tmp 164)), none⟩,
  ⟨some 166, .op (.mv (.tmp 12)), none⟩,
  ⟨some 167, .callV (.tmp 161) [(.tmp 165), (.tmp 166)], none⟩,
  ⟨some 168, .op (.buildSlice 1 2 [.nils, .nils] [(0, 1, (.tmp 160)), (1, 1, (.tmp 167))]), none⟩,
  ⟨some 169, .call f_match_together [(.tmp 159), (.tmp 168)], none⟩]) (.seq [49, 157, 171] (.region [⟨some 171, .op (.bin .eql .scalar (.tmp 49) (.const (.int .i64 9))), none⟩,
  ⟨some 170, .op (.mv (.tmp 171)), none⟩]) (.cond (.tmp 170) (.seq [170, 172, 173, 174] (.region [⟨some 172, .op (.fieldAddr 0 (.tmp 9)), none⟩,
  ⟨some 173, .op (.fieldAddr 3 (.tmp 172)), none⟩,
  ⟨some 174, .op (.load none (.tmp 173)), none⟩,
  ⟨some 175, .op (.bin .add .scalar (.tmp 174) (.const (.int .i64 1))), none⟩,
  ⟨some 176, .op (.mv (.const (.int .i64 0))), none⟩]) (.block 5 (.loop [200] match_matcher_ends_c4))) .skip)))))))))))))))))) (.lab match_matcher_ends_c5)))))))⟩
noncomputable def match_matcher_ends_b1 (T : Tab) (k : Nat) (m0 k1 from2 out11 : AV) (h : Heap) : Option (AV × Heap) :=
  evB T k match_matcher_ends_rs match_matcher_ends_c5 [] [m0, k1, from2, .undef, .undef, .undef, .undef, .undef, .undef, .undef, .undef, out11, .undef, .undef, .undef, .undef, .undef, .undef, .undef, .undef, .undef, .undef, .undef, .undef, .undef, .undef, .undef, .undef, .undef, .undef, .undef, .undef, .undef, .undef, .undef, .undef, .undef, .undef, .undef, .undef, .undef, .undef, .undef, .undef, .undef, .undef, .undef, .undef, .undef, .undef, .undef, .undef, .undef, .undef, .undef, .undef, .undef, .undef, .undef, .undef, .undef, .undef, .undef, .undef, .undef, .undef, .undef, .undef, .undef, .undef, .undef, .undef, .undef, .undef, .undef, .undef, .undef, .undef, .undef, .undef, .undef, .undef, .undef, .undef, .undef, .undef, .undef, .undef, .undef, .undef, .undef, .undef, .undef, .undef, .undef, .undef, .undef, .undef, .undef, .undef, .undef, .undef, .undef, .undef, .undef, .undef, .undef, .undef, .undef, .undef, .undef, .undef, .undef, .undef, .undef, .undef, .undef, .undef, .undef, .undef, .undef, .undef, .undef, .undef, .undef, .undef, .undef, .undef, .undef, .undef, .undef, .undef, .undef, .undef, .undef, .undef, .undef, .undef, .undef, .undef, .undef, .undef, .undef, .undef, .undef, .undef, .undef, .undef, .undef, .undef, .undef, .undef, .undef, .undef, .undef, .undef, .undef, .undef, .undef, .undef, .undef, .undef, .undef, .undef, .undef, .undef, .undef, .undef, .undef, .undef, .undef, .undef, .undef, .undef, .undef, .undef, .undef, .undef, .undef, .undef, .undef, .undef, .undef, .undef, .undef, .undef, .undef, .undef, .undef, .undef, .undef, .undef, .undef, .undef, .undef, .undef, .undef, .undef, .undef, .undef, .undef, .undef, .undef, .undef, .undef, .undef, .undef, .undef, .undef, .undef] h
noncomputable def match_matcher_ends_l2 (T : Tab) (k j0 : Nat) (m0 k1 from2 step10 here12 t104 t105 t106 : AV) (h : Heap) : Option (AV × Heap) :=
  loopB T k match_matcher_ends_rs j0 [114] match_matcher_ends_c1 [.blk 1, .seq [10, 104, 105, 106, 107] (.region [⟨some 115, .op (.mv (.tmp 12)), none⟩,
  ⟨some 11, .op (.mv (.tmp 115)), none⟩]), .blk 0, .seq [9, 10, 12, 49, 93, 94, 95, 96, 97, 98, 100, 115, 119, 120, 121, 122, 133, 135, 136, 137, 138, 139, 140, 141, 142, 144, 145, 146, 147, 148, 149, 150, 151, 152, 153, 154, 155, 156, 157, 159, 160, 161, 162, 163, 164, 165, 166, 167, 168, 169, 170, 175, 176, 177] (.lab match_matcher_ends_c5)] [m0, k1, from2, .undef, .undef, .undef, .undef, .undef, .undef, .undef, step10, .undef, here12, .undef, .undef, .undef, .undef, .undef, .undef, .undef, .undef, .undef, .undef, .undef, .undef, .undef, .undef, .undef, .undef, .undef, .undef, .undef, .undef, .undef, .undef, .undef, .undef, .undef, .undef, .undef, .undef, .undef, .undef, .undef, .undef, .undef, .undef, .undef, .undef, .undef, .undef, .undef, .undef, .undef, .undef, .undef, .undef, .undef, .undef, .undef, .undef, .undef, .undef, .undef, .undef, .undef, .undef, .undef, .undef, .undef, .undef, .undef, .undef, .undef, .undef, .undef, .undef, .undef, .undef, .undef, .undef, .undef, .undef, .undef, .undef, .undef, .undef, .undef, .undef, .undef, .undef, .undef, .undef, .undef, .undef, .undef, .undef, .undef, .undef, .undef, .undef, .undef, .undef, .undef, t104, t105, t106, .undef, .undef, .undef, .undef, .undef, .undef, .undef, .undef, .undef, .undef, .undef, .undef, .undef, .undef, .undef, .undef, .undef, .undef, .undef, .undef, .undef, .undef, .undef, .undef, .undef, .undef, .undef, .undef, .undef, .undef, .undef, .undef, .undef, .undef, .undef, .undef, .undef, .undef, .undef, .undef, .undef, .undef, .undef, .undef, .undef, .undef, .undef, .undef, .undef, .undef, .undef, .undef, .undef, .undef, .undef, .undef, .undef, .undef, .undef, .undef, .undef, .undef, .undef, .undef, .undef, .undef, .undef, .undef, .undef, .undef, .undef, .undef, .undef, .undef, .undef, .undef, .undef, .undef, .undef, .undef, .undef, .undef, .undef, .undef, .undef, .undef, .undef, .undef, .undef, .undef, .undef, .undef, .undef, .undef, .undef, .undef, .undef, .undef, .undef, .undef, .undef, .undef, .undef] h
noncomputable def match_matcher_ends_l3 (T : Tab) (k j0 : Nat) (m0 k1 from2 step10 out11 here12 t119 t120 t121 : AV) (h : Heap) : Option (AV × Heap) :=
  loopB T k match_matcher_ends_rs j0 [132] match_matcher_ends_c2 [.blk 3, .blk 0, .seq [9, 10, 12, 49, 93, 94, 95, 96, 97, 98, 100, 115, 119, 120, 121, 122, 133, 135, 136, 137, 138, 139, 140, 141, 142, 144, 145, 146, 147, 148, 149, 150, 151, 152, 153, 154, 155, 156, 157, 159, 160, 161, 162, 163, 164, 165, 166, 167, 168, 169, 170, 175, 176, 177] (.lab match_matcher_ends_c5)] [m0, k1, from2, .undef, .undef, .undef, .undef, .undef, .undef, .undef, step10, out11, here12, .undef, .undef, .undef, .undef, .undef, .undef, .undef, .undef, .undef, .undef, .undef, .undef, .undef, .undef, .undef, .undef, .undef, .undef, .undef, .undef, .undef, .undef, .undef, .undef, .undef, .undef, .undef, .undef, .undef, .undef, .undef, .undef, .undef, .undef, .undef, .undef, .undef, .undef, .undef, .undef, .undef, .undef, .undef, .undef, .undef, .undef, .undef, .undef, .undef, .undef, .undef, .undef, .undef, .undef, .undef, .undef, .undef, .undef, .undef, .undef, .undef, .undef, .undef, .undef, .undef, .undef, .undef, .undef, .undef, .undef, .undef, .undef, .undef, .undef, .undef, .undef, .undef, .undef, .undef, .undef, .undef, .undef, .undef, .undef, .undef, .undef, .undef, .undef, .undef, .undef, .undef, .undef, .undef, .undef, .undef, .undef, .undef, .undef, .undef, .undef, .undef, .undef, .undef, .undef, .undef, .undef, t119, t120, t121, .undef, .undef, .undef, .undef, .undef, .undef, .undef, .undef, .undef, .undef, .undef, .undef, .undef, .undef, .undef, .undef, .undef, .undef, .undef, .undef, .undef, .undef, .undef, .undef, .undef, .undef, .undef, .undef, .undef, .undef, .undef, .undef, .undef, .undef, .undef, .undef, .undef, .undef, .undef, .undef, .undef, .undef, .undef, .undef, .undef, .undef, .undef, .undef, .undef, .undef, .undef, .undef, .undef, .undef, .undef, .undef, .undef, .undef, .undef, .undef, .undef, .undef, .undef, .undef, .undef, .undef, .undef, .undef, .undef, .undef, .undef, .undef, .undef, .undef, .undef, .undef, .undef, .undef, .undef, .undef, .undef, .undef, .undef, .undef, .undef, .undef, .undef, .undef] h
noncomputable def match_matcher_ends_l4 (T : Tab) (k j0 : Nat) (m0 k1 from2 x9 step10 out11 here12 t175 t176 : AV) (h : Heap) : Option (AV × Heap) :=
  loopB T k match_matcher_ends_rs j0 [200] match_matcher_ends_c4 [.blk 5, .blk 0, .seq [9, 10, 12, 49, 93, 94, 95, 96, 97, 98, 100, 115, 119, 120, 121, 122, 133, 135, 136, 137, 138, 139, 140, 141, 142, 144, 145, 146, 147, 148, 149, 150, 151, 152, 153, 154, 155, 156, 157, 159, 160, 161, 162, 163, 164, 165, 166, 167, 168, 169, 170, 175, 176, 177] (.lab match_matcher_ends_c5)] [m0, k1, from2, .undef, .undef, .undef, .undef, .undef, .undef, x9, step10, out11, here12, .undef, .undef, .undef, .undef, .undef, .undef, .undef, .undef, .undef, .undef, .undef, .undef, .undef, .undef, .undef, .undef, .undef, .undef, .undef, .undef, .undef, .undef, .undef, .undef, .undef, .undef, .undef, .undef, .undef, .undef, .undef, .undef, .undef, .undef, .undef, .undef, .undef, .undef, .undef, .undef, .undef, .undef, .undef, .undef, .undef, .undef, .undef, .undef, .undef, .undef, .undef, .undef, .undef, .undef, .undef, .undef, .undef, .undef, .undef, .undef, .undef, .undef, .undef, .undef, .undef, .undef, .undef, .undef, .undef, .undef, .undef, .undef, .undef, .undef, .undef, .undef, .undef, .undef, .undef, .undef, .undef, .undef, .undef, .undef, .undef, .undef, .undef, .undef, .undef, .undef, .undef, .undef, .undef, .undef, .undef, .undef, .undef, .undef, .undef, .undef, .undef, .undef, .undef, .undef, .undef, .undef, .undef, .undef, .undef, .undef, .undef, .undef, .undef, .undef, .undef, .undef, .undef, .undef, .undef, .undef, .undef, .undef, .undef, .undef, .undef, .undef, .undef, .undef, .undef, .undef, .undef, .undef, .undef, .undef, .undef, .undef, .undef, .undef, .undef, .undef, .undef, .undef, .undef, .undef, .undef, .undef, .undef, .undef, .undef, .undef, .undef, .undef, .undef, .undef, .undef, .undef, .undef, .undef, .undef, .undef, .undef, .undef, t175, t176, .undef, .undef, .undef, .undef, .undef, .undef, .undef, .undef, .undef, .undef, .undef, .undef, .undef, .undef, .undef, .undef, .undef, .undef, .undef, .undef, .undef, .undef, .undef, .undef, .undef, .undef, .undef, .undef, .undef, .undef, .undef, .undef, .undef] h
noncomputable def match_matcher_ends_b5 (T : Tab) (k j0 : Nat) (m0 k1 from2 x9 step10 out11 here12 i17 t175 t176 : AV) (h : Heap) : Option (AV × Heap) :=
  evB T k match_matcher_ends_rs match_matcher_ends_c3 [.blk 6, .seq [192, 193, 194, 195, 196, 197, 198, 199] (.region [⟨some 200, .op (.bin .add .scalar (.tmp 176) (.const (.int .i64 1))), none⟩,
  ⟨some 176, .op (.mv (.tmp 200)), none⟩]), .lp j0 [200] match_matcher_ends_c4, .blk 5, .blk 0, .seq [9, 10, 12, 49, 93, 94, 95, 96, 97, 98, 100, 115, 119, 120, 121, 122, 133, 135, 136, 137, 138, 139, 140, 141, 142, 144, 145, 146, 147, 148, 149, 150, 151, 152, 153, 154, 155, 156, 157, 159, 160, 161, 162, 163, 164, 165, 166, 167, 168, 169, 170, 175, 176, 177] (.lab match_matcher_ends_c5)] [m0, k1, from2, .undef, .undef, .undef, .undef, .undef, .undef, x9, step10, out11, here12, .undef, .undef, .undef, .undef, i17, .undef, .undef, .undef, .undef, .undef, .undef, .undef, .undef, .undef, .undef, .undef, .undef, .undef, .undef, .undef, .undef, .undef, .undef, .undef, .undef, .undef, .undef, .undef, .undef, .undef, .undef, .undef, .undef, .undef, .undef, .undef, .undef, .undef, .undef, .undef, .undef, .undef, .undef, .undef, .undef, .undef, .undef, .undef, .undef, .undef, .undef, .undef, .undef, .undef, .undef, .undef, .undef, .undef, .undef, .undef, .undef, .undef, .undef, .undef, .undef, .undef, .undef, .undef, .undef, .undef, .undef, .undef, .undef, .undef, .undef, .undef, .undef, .undef, .undef, .undef, .undef, .undef, .undef, .undef, .undef, .undef, .undef, .undef, .undef, .undef, .undef, .undef, .undef, .undef, .undef, .undef, .undef, .undef, .undef, .undef, .undef, .undef, .undef, .undef, .undef, .undef, .undef, .undef, .undef, .undef, .undef, .undef, .undef, .undef, .undef, .undef, .undef, .undef, .undef, .undef, .undef, .undef, .undef, .undef, .undef, .undef, .undef, .undef, .undef, .undef, .undef, .undef, .undef, .undef, .undef, .undef, .undef, .undef, .undef, .undef, .undef, .undef, .undef, .undef, .undef, .undef, .undef, .undef, .undef, .undef, .undef, .undef, .undef, .undef, .undef, .undef, .undef, .undef, .undef, .undef, .undef, .undef, t175, t176, .undef, .undef, .undef, .undef, .undef, .undef, .undef, .undef, .undef, .undef, .undef, .undef, .undef, .undef, .undef, .undef, .undef, .undef, .undef, .undef, .undef, .undef, .undef, .undef, .undef, .undef, .undef, .undef, .undef, .undef, .undef, .undef, .undef] h
theorem match_matcher_ends_b1_eq (T : Tab) (k : Nat) (m0 k1 from2 out11 : AV) (h : Heap) : match_matcher_ends_b1 T k m0 k1 from2 out11 h =
    oa (nilCk m0) fun t202_1 =>
    oa (fldA 2 t202_1) fun t203_2 =>
    oa (ld1 h t203_2) fun t204_3 =>
    oa (buildV [.int .i64 0, .int .i64 0] [(0, 1, k1), (1, 1, from2)]) fun t207_4 =>
    oh (updM (.row [.i .i64, .i .i64]) h t204_3 t207_4 out11) fun h_5 =>
    some (out11, h_5) := blockEq (by kernel_rfl)
theorem match_matcher_ends_l2_eq (T : Tab) (k j0 : Nat) (m0 k1 from2 step10 here12 t104 t105 t106 : AV) (h : Heap) : match_matcher_ends_l2 T k (j0 + 1) m0 k1 from2 step10 here12 t104 t105 t106 h =
    oa (binV .lss .scalar t106 t105) fun t107_1 =>
    cond2 t107_1
      (
      oa (idxS 1 t104 t106) fun t108_2 =>
      oa (ld1 h t108_2) fun t109_3 =>
      ob (callVal (evalFn T k) step10 [t109_3, here12] h) fun t113_4 h_5 =>
      oa (binV .add .scalar t106 (.int .i64 1)) fun t114_6 =>
      match_matcher_ends_l2 T k j0 m0 k1 from2 step10 t113_4 t104 t105 t114_6 h_5
      )
      (
      match_matcher_ends_b1 T k m0 k1 from2 here12 h
      ) := loopEq (by kernel_rfl)
theorem match_matcher_ends_l3_eq (T : Tab) (k j0 : Nat) (m0 k1 from2 step10 out11 here12 t119 t120 t121 : AV) (h : Heap) : match_matcher_ends_l3 T k (j0 + 1) m0 k1 from2 step10 out11 here12 t119 t120 t121 h =
    oa (binV .lss .scalar t121 t120) fun t122_1 =>
    cond2 t122_1
      (
      oa (idxS 1 t119 t121) fun t123_2 =>
      oa (ld1 h t123_2) fun t124_3 =>
      ob (callVal (evalFn T k) step10 [t124_3, here12] h) fun t129_4 h_5 =>
      ob (buildSl 1 1 [.nils] [(0, 1, t129_4)] h_5) fun t130_6 h_7 =>
      ob (evalFn T k f_match_together [out11, t130_6] h_7) fun t131_8 h_9 =>
      oa (binV .add .scalar t121 (.int .i64 1)) fun t132_10 =>
      match_matcher_ends_l3 T k j0 m0 k1 from2 step10 out11 here12 t119 t120 t132_10 h_9
      )
      (
      match_matcher_ends_b1 T k m0 k1 from2 out11 h
      ) := loopEq (by kernel_rfl)
theorem match_matcher_ends_b5_eq (T : Tab) (k j0 : Nat) (m0 k1 from2 x9 step10 out11 here12 i17 t175 t176 : AV) (h : Heap) : match_matcher_ends_b5 T k j0 m0 k1 from2 x9 step10 out11 here12 i17 t175 t176 h =
    oa (fldA 0 x9) fun t189_1 =>
    oa (fldA 3 t189_1) fun t190_2 =>
    oa (ld1 h t190_2) fun t191_3 =>
    oa (binV .lss .scalar i17 t191_3) fun t192_4 =>
    cond2 t192_4
      (
      oa (fldA 5 x9) fun t194_5 =>
      oa (ld1 h t194_5) fun t195_6 =>
      oa (idxS 1 t195_6 (.int .i64 0)) fun t196_7 =>
      oa (ld1 h t196_7) fun t197_8 =>
      ob (callVal (evalFn T k) step10 [t197_8, here12] h) fun t199_9 h_10 =>
      oa (binV .add .scalar t176 (.int .i64 1)) fun t200_11 =>
      match_matcher_ends_l4 T k j0 m0 k1 from2 x9 step10 out11 t199_9 t175 t200_11 h_10
      )
      (
      oa (binV .add .scalar t176 (.int .i64 1)) fun t200_12 =>
      match_matcher_ends_l4 T k j0 m0 k1 from2 x9 step10 out11 here12 t175 t200_12 h
      ) := blockEq (by kernel_rfl)
theorem match_matcher_ends_l4_eq (T : Tab) (k j0 : Nat) (m0 k1 from2 x9 step10 out11 here12 t175 t176 : AV) (h : Heap) : match_matcher_ends_l4 T k (j0 + 1) m0 k1 from2 x9 step10 out11 here12 t175 t176 h =
    oa (binV .lss .scalar t176 t175) fun t177_1 =>
    cond2 t177_1
      (
      oa (fldA 0 x9) fun t180_2 =>
      oa (fldA 2 t180_2) fun t181_3 =>
      oa (ld1 h t181_3) fun t182_4 =>
      oa (binV .geq .scalar t176 t182_4) fun t183_5 =>
      cond2 t183_5
        (
        ob (buildSl 1 1 [.nils] [(0, 1, here12)] h) fun t186_6 h_7 =>
        ob (evalFn T k f_match_together [out11, t186_6] h_7) fun t187_8 h_9 =>
        match_matcher_ends_b5 T k j0 m0 k1 from2 x9 step10 out11 here12 t176 t175 t176 h_9
        )
        (
        match_matcher_ends_b5 T k j0 m0 k1 from2 x9 step10 out11 here12 t176 t175 t176 h
        )
      )
      (
      match_matcher_ends_b1 T k m0 k1 from2 out11 h
      ) := loopEq (by kernel_rfl)
theorem match_matcher_ends_eq (T : Tab) (k : Nat) (m0 k1 from2 : AV) (h : Heap) : runF T k match_matcher_ends_mf [m0, k1, from2] h =
    oa (nilCk m0) fun t20_1 =>
    oa (fldA 2 t20_1) fun t21_2 =>
    oa (ld1 h t21_2) fun t22_3 =>
    oa (buildV [.int .i64 0, .int .i64 0] [(0, 1, k1), (1, 1, from2)]) fun t25_4 =>
    oa (lookM (.row [.i .i64, .i .i64]) .nils true h t22_3 t25_4) fun t26_5 =>
    oa (extr 0 t26_5) fun t27_6 =>
    oa (extr 1 t26_5) fun t28_7 =>
    cond2 t28_7
      (
      some (t27_6, h)
      )
      (
      oa (nilCk m0) fun t32_8 =>
      oa (fldA 0 t32_8) fun t33_9 =>
      oa (ld1 h t33_9) fun t34_10 =>
      oa (idxS 6 t34_10 k1) fun t36_11 =>
      oa (ldN 6 h t36_11) fun t37_12 =>
      ob (newVar h [.int .i64 0, .int .i64 0, .int .i64 0, .int .i64 0, .nils, .nils]) fun x9_13 h_14 =>
      oh (stN 6 h_14 x9_13 t37_12) fun h_15 =>
      ob (evalFn T k f_match_matcher_none [m0] h_15) fun t41_16 h_17 =>
      ob (evalFn T k f_match_matcher_none [m0] h_17) fun t43_18 h_19 =>
      oa (idxS 1 t43_18 from2) fun t46_20 =>
      oh (stN 1 h_19 t46_20 (.bool true)) fun h_21 =>
      oa (fldA 0 x9_13) fun t47_22 =>
      oa (fldA 0 t47_22) fun t48_23 =>
      oa (ld1 h_21 t48_23) fun t49_24 =>
      oa (binV .eql .scalar t49_24 (.int .i64 1)) fun t51_25 =>
      cond2 t51_25
        (
        oa (nilCk m0) fun t212_26 =>
        oa (fldA 1 t212_26) fun t213_27 =>
        oa (ld1 h_21 t213_27) fun t214_28 =>
        oa (lenS t214_28) fun t215_29 =>
        oa (binV .lss .scalar from2 t215_29) fun t216_30 =>
        ob (gd t216_30 true (some (m0, h_21)) h_21) fun t218_31 h_32 =>
        ob (gd t216_30 true (pure1 h_32 (nilCk t218_31)) h_32) fun t219_33 h_34 =>
        ob (gd t216_30 true (pure1 h_34 (fldA 1 t219_33)) h_34) fun t220_35 h_36 =>
        ob (gd t216_30 true (pure1 h_36 (ld1 h_36 t220_35)) h_36) fun t221_37 h_38 =>
        ob (gd t216_30 true (some (from2, h_38)) h_38) fun t222_39 h_40 =>
        ob (gd t216_30 true (pure1 h_40 (idxS 1 t221_37 t222_39)) h_40) fun t223_41 h_42 =>
        ob (gd t216_30 true (pure1 h_42 (ld1 h_42 t223_41)) h_42) fun t224_43 h_44 =>
        ob (gd t216_30 true (pure1 h_44 (binV .geq .scalar t224_43 (.int .i64 0))) h_44) fun t225_45 h_46 =>
        oa (pickV t216_30 t225_45 (.bool false)) fun t226_47 =>
        ob (gd t226_47 true (some (m0, h_46)) h_46) fun t228_48 h_49 =>
        ob (gd t226_47 true (pure1 h_49 (nilCk t228_48)) h_49) fun t229_50 h_51 =>
        ob (gd t226_47 true (pure1 h_51 (fldA 1 t229_50)) h_51) fun t230_52 h_53 =>
        ob (gd t226_47 true (pure1 h_53 (ld1 h_53 t230_52)) h_53) fun t231_54 h_55 =>
        ob (gd t226_47 true (some (from2, h_55)) h_55) fun t232_56 h_57 =>
        ob (gd t226_47 true (pure1 h_57 (idxS 1 t231_54 t232_56)) h_57) fun t233_58 h_59 =>
        ob (gd t226_47 true (pure1 h_59 (ld1 h_59 t233_58)) h_59) fun t234_60 h_61 =>
        ob (gd t226_47 true (pure1 h_61 (binV .lss .scalar t234_60 (.int .i64 5))) h_61) fun t235_62 h_63 =>
        oa (pickV t226_47 t235_62 (.bool false)) fun t236_64 =>
        ob (gd t236_64 true (pure1 h_63 (fldA 0 x9_13)) h_63) fun t238_65 h_66 =>
        ob (gd t236_64 true (pure1 h_66 (fldA 1 t238_65)) h_66) fun t239_67 h_68 =>
        ob (gd t236_64 true (pure1 h_68 (ld1 h_68 t239_67)) h_68) fun t240_69 h_70 =>
        ob (gd t236_64 true (some (m0, h_70)) h_70) fun t241_71 h_72 =>
        ob (gd t236_64 true (pure1 h_72 (nilCk t241_71)) h_72) fun t242_73 h_74 =>
        ob (gd t236_64 true (pure1 h_74 (fldA 1 t242_73)) h_74) fun t243_75 h_76 =>
        ob (gd t236_64 true (pure1 h_76 (ld1 h_76 t243_75)) h_76) fun t244_77 h_78 =>
        ob (gd t236_64 true (some (from2, h_78)) h_78) fun t245_79 h_80 =>
        ob (gd t236_64 true (pure1 h_80 (idxS 1 t244_77 t245_79)) h_80) fun t246_81 h_82 =>
        ob (gd t236_64 true (pure1 h_82 (ld1 h_82 t246_81)) h_82) fun t247_83 h_84 =>
        ob (gd t236_64 true (pure1 h_84 (binV .shr .scalar t240_69 t247_83)) h_84) fun t248_85 h_86 =>
        ob (gd t236_64 true (pure1 h_86 (binV .and .scalar t248_85 (.int .i64 1))) h_86) fun t249_87 h_88 =>
        ob (gd t236_64 true (pure1 h_88 (binV .eql .scalar t249_87 (.int .i64 1))) h_88) fun t250_89 h_90 =>
        oa (pickV t236_64 t250_89 (.bool false)) fun t251_91 =>
        cond2 t251_91
          (
          oa (binV .add .scalar from2 (.int .i64 1)) fun t96_92 =>
          oa (idxS 1 t41_16 t96_92) fun t97_93 =>
          oh (stN 1 h_90 t97_93 (.bool true)) fun h_94 =>
          match_matcher_ends_b1 T k m0 k1 from2 t41_16 h_94
          )
          (
          match_matcher_ends_b1 T k m0 k1 from2 t41_16 h_90
          )
        )
        (
        oa (binV .eql .scalar t49_24 (.int .i64 3)) fun t99_95 =>
        cond2 t99_95
          (
          match_matcher_ends_b1 T k m0 k1 from2 t43_18 h_21
          )
          (
          oa (binV .eql .scalar t49_24 (.int .i64 4)) fun t102_96 =>
          cond2 t102_96
            (
            oa (fldA 5 x9_13) fun t103_97 =>
            oa (ld1 h_21 t103_97) fun t104_98 =>
            oa (lenS t104_98) fun t105_99 =>
            match_matcher_ends_l2 T k k m0 k1 from2 (.fn f_match_matcher_step [m0] []) t43_18 t104_98 t105_99 (.int .i64 0) h_21
            )
            (
            oa (binV .eql .scalar t49_24 (.int .i64 5)) fun t117_100 =>
            cond2 t117_100
              (
              oa (fldA 5 x9_13) fun t118_101 =>
              oa (ld1 h_21 t118_101) fun t119_102 =>
              oa (lenS t119_102) fun t120_103 =>
              match_matcher_ends_l3 T k k m0 k1 from2 (.fn f_match_matcher_step [m0] []) t41_16 t43_18 t119_102 t120_103 (.int .i64 0) h_21
              )
              (
              oa (binV .eql .scalar t49_24 (.int .i64 6)) fun t134_104 =>
              cond2 t134_104
                (
                oa (fldA 5 x9_13) fun t136_105 =>
                oa (ld1 h_21 t136_105) fun t137_106 =>
                oa (idxS 1 t137_106 (.int .i64 0)) fun t138_107 =>
                oa (ld1 h_21 t138_107) fun t139_108 =>
                ob (evalFn T k f_match_matcher_again [m0, t139_108, t43_18] h_21) fun t141_109 h_110 =>
                match_matcher_ends_b1 T k m0 k1 from2 t141_109 h_110
                )
                (
                oa (binV .eql .scalar t49_24 (.int .i64 7)) fun t143_111 =>
                cond2 t143_111
                  (
                  oa (fldA 5 x9_13) fun t211_112 =>
                  oa (ld1 h_21 t211_112) fun t212_113 =>
                  oa (idxS 1 t212_113 (.int .i64 0)) fun t213_114 =>
                  oa (ld1 h_21 t213_114) fun t214_115 =>
                  oa (fldA 5 x9_13) fun t216_116 =>
                  oa (ld1 h_21 t216_116) fun t217_117 =>
                  oa (idxS 1 t217_117 (.int .i64 0)) fun t218_118 =>
                  oa (ld1 h_21 t218_118) fun t219_119 =>
                  ob (callVal (evalFn T k) (.fn f_match_matcher_step [m0] []) [t219_119, t43_18] h_21) fun t221_120 h_121 =>
                  chk ((sameB (pure1 h_121 (ld1 h_121 t211_112)) t212_113 && (sameB (pure1 h_121 (ld1 h_121 t213_114)) t214_115 && true))) <|
                  ob (evalFn T k f_match_matcher_again [m0, t214_115, t221_120] h_121) fun t222_122 h_123 =>
                  match_matcher_ends_b1 T k m0 k1 from2 t222_122 h_123
                  )
                  (
                  oa (binV .eql .scalar t49_24 (.int .i64 8)) fun t158_124 =>
                  cond2 t158_124
                    (
                    oa (fldA 5 x9_13) fun t162_125 =>
                    oa (ld1 h_21 t162_125) fun t163_126 =>
                    oa (idxS 1 t163_126 (.int .i64 0)) fun t164_127 =>
                    oa (ld1 h_21 t164_127) fun t165_128 =>
                    ob (callVal (evalFn T k) (.fn f_match_matcher_step [m0] []) [t165_128, t43_18] h_21) fun t167_129 h_130 =>
                    ob (buildSl 1 2 [.nils, .nils] [(0, 1, t43_18), (1, 1, t167_129)] h_130) fun t168_131 h_132 =>
                    ob (evalFn T k f_match_together [t41_16, t168_131] h_132) fun t169_133 h_134 =>
                    match_matcher_ends_b1 T k m0 k1 from2 t41_16 h_134
                    )
                    (
                    oa (binV .eql .scalar t49_24 (.int .i64 9)) fun t171_135 =>
                    cond2 t171_135
                      (
                      oa (fldA 0 x9_13) fun t172_136 =>
                      oa (fldA 3 t172_136) fun t173_137 =>
                      oa (ld1 h_21 t173_137) fun t174_138 =>
                      oa (binV .add .scalar t174_138 (.int .i64 1)) fun t175_139 =>
                      match_matcher_ends_l4 T k k m0 k1 from2 x9_13 (.fn f_match_matcher_step [m0] []) t41_16 t43_18 t175_139 (.int .i64 0) h_21
                      )
                      (
                      match_matcher_ends_b1 T k m0 k1 from2 t41_16 h_21
                      )
                    )
                  )
                )
              )
            )
          )
        )
      ) := runEq (by kernel_rfl)
noncomputable def match_matcher_flat_c1 : MCode := .seq [] (.region [⟨some 29, .op (.bin .lss .scalar (.tmp 28) (.tmp 27)), none⟩]) (.seq [29] (.cond (.tmp 29) .skip (.exit 0)) (.seq [8, 32, 33, 34, 35, 36, 37] (.block 1 (.seq [30, 31] (.region [⟨some 30, .op (.idxSl 5 (.tmp 26) (.tmp 28)), none⟩,
  ⟨some 31, .op (.load (some 5) (.tmp 30)), none⟩,
  ⟨some 8, .op (.alloc [.int .i64 0, .int .i64 0, .int .i64 0, .int .i64 0, .nils]), none⟩,
  ⟨none, .op (.store 5 (.tmp 8) (.tmp 31)), none⟩]) (.region [⟨some 32, .op (.mv (.tmp 6)), none⟩,
  ⟨some 33, .op (.mv (.tmp 0)), none⟩,
  ⟨some 34, .op (.load (some 5) (.tmp 8)), none⟩,
  ⟨some 35, .call f_match_matcher_flat [(.tmp 33), (.tmp 34)], none⟩,
  ⟨some 36, .op (.buildSlice 1 1 [.int .i64 0] [(0, 1, (.tmp 35))]), none⟩,
  ⟨some 37, .op (.append 1 8 (.tmp 32) (.tmp 36)), none⟩,
  ⟨some 6, .op (.mv (.tmp 37)), none⟩]))) (.region [⟨some 38, .op (.bin .add .scalar (.tmp 28) (.const (.int .i64 1))), none⟩,
  ⟨some 28, .op (.mv (.tmp 38)), none⟩])))
noncomputable def match_matcher_flat_c2 : MCode := .seq [0, 6, 39, 40, 41, 42, 43, 44, 45, 46] (.region [⟨some 39, .op (.mv (.tmp 0)), none⟩,
  ⟨some 40, .op (.nilCheck (.tmp 39)), none⟩,
  ⟨some 41, .op (.fieldAddr 0 (.tmp 40)), none⟩,
  ⟨some 42, .op (.load none (.tmp 41)), none⟩,
  ⟨some 43, .op (.mv (.tmp 5)), none⟩,
  ⟨some 44, .op (.mv (.tmp 6)), none⟩,
  ⟨some 45, .op (.idxSl 6 (.tmp 42) (.tmp 43)), none⟩,
  ⟨some 46, .op (.fieldAddr 5 (.tmp 45)), none⟩,
  ⟨none, .op (.store 1 (.tmp 46) (.tmp 44)), none⟩]) (.seq [5, 47] (.region [⟨some 47, .op (.mv (.tmp 5)), none⟩,
  ⟨some 4, .op (.mv (.tmp 47)), none⟩]) .ret)
def match_matcher_flat_rs : Res := [(4, none)]
noncomputable def match_matcher_flat_mf : MFn := ⟨48, match_matcher_flat_rs, .seq [1, 4] (.region [⟨some 3, .op (.box (.tmp 1)), none⟩,
  ⟨some 4, .op (.mv (.const (.int .i64 0))), none⟩]) (.seq [9, 10, 11, 12, 13] (.region [⟨some 9, .op (.mv (.tmp 0)), none⟩,
  ⟨some 10, .op (.nilCheck (.tmp 9)), none⟩,
  ⟨some 11, .op (.fieldAddr 0 (.tmp 10)), none⟩,
  ⟨some 12, .op (.load none (.tmp 11)), none⟩,
  ⟨some 13, .op (.lenSl (.tmp 12)), none⟩,
  ⟨some 5, .op (.mv (.tmp 13)), none⟩]) (.seq [14, 15, 16, 17, 18, 19, 20, 21, 22, 23, 24] (.regionD 48 [⟨0, ⟨some 48, .op (.mv (.tmp 0)), none⟩, []⟩,
  ⟨1, ⟨some 49, .op (.mv (.tmp 0)), none⟩, []⟩,
  ⟨2, ⟨some 50, .op (.nilCheck (.tmp 49)), none⟩, []⟩,
  ⟨3, ⟨some 51, .op (.fieldAddr 0 (.tmp 50)), none⟩, []⟩,
  ⟨4, ⟨some 52, .op (.load none (.tmp 51)), none⟩, []⟩,
  ⟨5, ⟨some 53, .op (.load (some 5) (.tmp 3)), none⟩, []⟩,
  ⟨6, ⟨some 54, .op (.build [.int .i64 0, .int .i64 0, .int .i64 0, .int .i64 0, .nils, .nils] [(0, 5, (.tmp 53))]), none⟩, []⟩,
  ⟨7, ⟨some 55, .op (.buildSlice 6 1 [.int .i64 0, .int .i64 0, .int .i64 0, .int .i64 0, .nils, .nils] [(0, 6, (.tmp 54))]), none⟩, []⟩,
  ⟨8, ⟨some 56, .op (.append 6 80 (.tmp 52) (.tmp 55)), none⟩, []⟩,
  ⟨9, ⟨some 57, .op (.nilCheck (.tmp 48)), none⟩, []⟩,
  ⟨10, ⟨some 58, .op (.fieldAddr 0 (.tmp 57)), none⟩, []⟩,
  ⟨11, ⟨some 59, .op (.store 1 (.tmp 58) (.tmp 56)), none⟩, []⟩] [(14, 48), (15, 49), (16, 50), (17, 51), (18, 52), (19, 53), (20, 54), (21, 55), (22, 56), (23, 57), (24, 58)]) (.seq [] (.region [⟨some 6, .op (.mv (.const .nils)), none⟩]) (.seq [26, 27, 28, 29] (.seq [3, 25] (.region [⟨some 25, .op (.fieldAddr 4 (.tmp 3)), none⟩,
  ⟨some 26, .op (.load none (.tmp 25)), none⟩,
  ⟨some 27, .op (.lenSl (.tmp 26)), none⟩,
  ⟨some 28, .op (.mv (.const (.int .i64 0))), none⟩]) (.block 0 (.loop [38] match_matcher_flat_c1))) (.lab match_matcher_flat_c2)))))⟩
noncomputable def match_matcher_flat_l1 (T : Tab) (k j0 : Nat) (m0 at5 l6 t26 t27 t28 : AV) (h : Heap) : Option (AV × Heap) :=
  loopB T k match_matcher_flat_rs j0 [38] match_matcher_flat_c1 [.blk 0, .seq [26, 27, 28, 29] (.lab match_matcher_flat_c2)] [m0, .undef, .undef, .undef, .undef, at5, l6, .undef, .undef, .undef, .undef, .undef, .undef, .undef, .undef, .undef, .undef, .undef, .undef, .undef, .undef, .undef, .undef, .undef, .undef, .undef, t26, t27, t28, .undef, .undef, .undef, .undef, .undef, .undef, .undef, .undef, .undef, .undef, .undef, .undef, .undef, .undef, .undef, .undef, .undef, .undef, .undef] h
noncomputable def match_matcher_flat_b2 (T : Tab) (k : Nat) (m0 at5 l6 : AV) (h : Heap) : Option (AV × Heap) :=
  evB T k match_matcher_flat_rs match_matcher_flat_c2 [] [m0, .undef, .undef, .undef, .undef, at5, l6, .undef, .undef, .undef, .undef, .undef, .undef, .undef, .undef, .undef, .undef, .undef, .undef, .undef, .undef, .undef, .undef, .undef, .undef, .undef, .undef, .undef, .undef, .undef, .undef, .undef, .undef, .undef, .undef, .undef, .undef, .undef, .undef, .undef, .undef, .undef, .undef, .undef, .undef, .undef, .undef, .undef] h
theorem match_matcher_flat_b2_eq (T : Tab) (k : Nat) (m0 at5 l6 : AV) (h : Heap) : match_matcher_flat_b2 T k m0 at5 l6 h =
    oa (nilCk m0) fun t40_1 =>
    oa (fldA 0 t40_1) fun t41_2 =>
    oa (ld1 h t41_2) fun t42_3 =>
    oa (idxS 6 t42_3 at5) fun t45_4 =>
    oa (fldA 5 t45_4) fun t46_5 =>
    oh (stN 1 h t46_5 l6) fun h_6 =>
    some (at5, h_6) := blockEq (by kernel_rfl)
theorem match_matcher_flat_l1_eq (T : Tab) (k j0 : Nat) (m0 at5 l6 t26 t27 t28 : AV) (h : Heap) : match_matcher_flat_l1 T k (j0 + 1) m0 at5 l6 t26 t27 t28 h =
    oa (binV .lss .scalar t28 t27) fun t29_1 =>
    cond2 t29_1
      (
      oa (idxS 5 t26 t28) fun t30_2 =>
      oa (ldN 5 h t30_2) fun t31_3 =>
      ob (newVar h [.int .i64 0, .int .i64 0, .int .i64 0, .int .i64 0, .nils]) fun x8_4 h_5 =>
      oh (stN 5 h_5 x8_4 t31_3) fun h_6 =>
      oa (ldN 5 h_6 x8_4) fun t34_7 =>
      ob (evalFn T k f_match_matcher_flat [m0, t34_7] h_6) fun t35_8 h_9 =>
      ob (buildSl 1 1 [.int .i64 0] [(0, 1, t35_8)] h_9) fun t36_10 h_11 =>
      ob (apnd 1 8 l6 t36_10 h_11) fun t37_12 h_13 =>
      oa (binV .add .scalar t28 (.int .i64 1)) fun t38_14 =>
      match_matcher_flat_l1 T k j0 m0 at5 t37_12 t26 t27 t38_14 h_13
      )
      (
      match_matcher_flat_b2 T k m0 at5 l6 h
      ) := loopEq (by kernel_rfl)
theorem match_matcher_flat_eq (T : Tab) (k : Nat) (m0 n1 : AV) (h : Heap) : runF T k match_matcher_flat_mf [m0, n1] h =
    ob (newVar h (AV.cells n1)) fun n3_1 h_2 =>
    oa (nilCk m0) fun t10_3 =>
    oa (fldA 0 t10_3) fun t11_4 =>
    oa (ld1 h_2 t11_4) fun t12_5 =>
    oa (lenS t12_5) fun t13_6 =>
    oa (nilCk m0) fun t50_7 =>
    oa (fldA 0 t50_7) fun t51_8 =>
    oa (ld1 h_2 t51_8) fun t52_9 =>
    oa (ldN 5 h_2 n3_1) fun t53_10 =>
    oa (buildV [.int .i64 0, .int .i64 0, .int .i64 0, .int .i64 0, .nils, .nils] [(0, 5, t53_10)]) fun t54_11 =>
    ob (buildSl 6 1 [.int .i64 0, .int .i64 0, .int .i64 0, .int .i64 0, .nils, .nils] [(0, 6, t54_11)] h_2) fun t55_12 h_13 =>
    ob (apnd 6 80 t52_9 t55_12 h_13) fun t56_14 h_15 =>
    oa (nilCk m0) fun t57_16 =>
    oa (fldA 0 t57_16) fun t58_17 =>
    oh (stN 1 h_15 t58_17 t56_14) fun h_18 =>
    oa (fldA 4 n3_1) fun t25_19 =>
    oa (ld1 h_18 t25_19) fun t26_20 =>
    oa (lenS t26_20) fun t27_21 =>
    match_matcher_flat_l1 T k k m0 t13_6 .nils t26_20 t27_21 (.int .i64 0) h_18 := runEq (by kernel_rfl)
noncomputable def milestoneref5_ends_c1 : MCode := .seq [21] (.seq [18, 19, 20] (.region [⟨some 18, .op (.mv (.tmp 8)), none⟩,
  ⟨some 19, .op (.mv (.tmp 1)), none⟩,
  ⟨some 20, .op (.lenSl (.tmp 19)), none⟩,
  ⟨some 21, .op (.bin .lss .scalar (.tmp 18) (.tmp 20)), none⟩]) (.cond (.tmp 21) .skip (.exit 1))) (.seq [24, 25, 26, 27, 28, 29, 30, 31, 32, 33, 34, 35, 36, 37, 38, 39, 40, 41, 42, 43, 44, 45, 46, 47, 48, 49, 50, 51, 52, 53, 54, 55, 56, 57] (.block 2 (.regionD 145 [⟨0, ⟨some 145, .op (.mv (.tmp 7)), none⟩, []⟩,
  ⟨1, ⟨some 146, .op (.mv (.tmp 8)), none⟩, []⟩,
  ⟨2, ⟨some 147, .op (.bin .add .scalar (.tmp 146) (.const (.int .i64 1))), none⟩, []⟩,
  ⟨3, ⟨some 148, .op (.mv (.tmp 2)), none⟩, []⟩,
  ⟨4, ⟨some 149, .op (.mv (.tmp 8)), none⟩, []⟩,
  ⟨5, ⟨some 150, .op (.idxSl 1 (.tmp 148) (.tmp 149)), none⟩, []⟩,
  ⟨6, ⟨some 151, .op (.load none (.tmp 150)), none⟩, []⟩,
  ⟨7, ⟨some 152, .op (.mv (.tmp 151)), none⟩, []⟩,
  ⟨8, ⟨some 153, .op (.mv (.tmp 1)), some (152, true)⟩, []⟩,
  ⟨9, ⟨some 154, .op (.mv (.tmp 8)), some (152, true)⟩, []⟩,
  ⟨10, ⟨some 155, .op (.idxSl 1 (.tmp 153) (.tmp 154)), some (152, true)⟩, []⟩,
  ⟨11, ⟨some 156, .op (.load none (.tmp 155)), some (152, true)⟩, []⟩,
  ⟨12, ⟨some 157, .op (.bin .geq .scalar (.tmp 156) (.const (.int .i64 0))), some (152, true)⟩, []⟩,
  ⟨13, ⟨some 158, .op (.pick (.tmp 152) (.tmp 157) (.const (.bool false))), none⟩, []⟩,
  ⟨14, ⟨some 159, .op (.mv (.tmp 158)), none⟩, []⟩,
  ⟨15, ⟨some 160, .op (.mv (.tmp 1)), some (159, true)⟩, []⟩,
  ⟨16, ⟨some 161, .op (.mv (.tmp 8)), some (159, true)⟩, []⟩,
  ⟨17, ⟨some 162, .op (.idxSl 1 (.tmp 160) (.tmp 161)), some (159, true)⟩, []⟩,
  ⟨18, ⟨some 163, .op (.load none (.tmp 162)), some (159, true)⟩, []⟩,
  ⟨19, ⟨some 164, .op (.bin .lss .scalar (.tmp 163) (.const (.int .i64 5))), some (159, true)⟩, []⟩,
  ⟨20, ⟨some 165, .op (.pick (.tmp 159) (.tmp 164) (.const (.bool false))), none⟩, []⟩,
  ⟨21, ⟨some 166, .op (.mv (.tmp 165)), none⟩, []⟩,
  ⟨22, ⟨some 167, .op (.fieldAddr 1 (.tmp 3)), some (166, true)⟩, []⟩,
  ⟨23, ⟨some 168, .op (.load none (.tmp 167)), some (166, true)⟩, []⟩,
  ⟨24, ⟨some 169, .op (.mv (.tmp 1)), some (166, true)⟩, []⟩,
  ⟨25, ⟨some 170, .op (.mv (.tmp 8)), some (166, true)⟩, []⟩,
  ⟨26, ⟨some 171, .op (.idxSl 1 (.tmp 169) (.tmp 170)), some (166, true)⟩, []⟩,
  ⟨27, ⟨some 172, .op (.load none (.tmp 171)), some (166, true)⟩, []⟩,
  ⟨28, ⟨some 173, .op (.convI .u64 (.tmp 172)), some (166, true)⟩, []⟩,
  ⟨29, ⟨some 174, .op (.bin .shr .scalar (.tmp 168) (.tmp 173)), some (166, true)⟩, []⟩,
  ⟨30, ⟨some 175, .op (.bin .and .scalar (.tmp 174) (.const (.int .i64 1))), some (166, true)⟩, []⟩,
  ⟨31, ⟨some 176, .op (.bin .eql .scalar (.tmp 175) (.const (.int .i64 1))), some (166, true)⟩, []⟩,
  ⟨32, ⟨some 177, .op (.pick (.tmp 166) (.tmp 176) (.const (.bool false))), none⟩, []⟩,
  ⟨33, ⟨some 178, .op (.idxSl 1 (.tmp 145) (.tmp 147)), none⟩, []⟩,
  ⟨34, ⟨some 179, .op (.store 1 (.tmp 178) (.tmp 177)), none⟩, []⟩] [(24, 145), (25, 146), (26, 147), (27, 148), (28, 149), (29, 150), (30, 151), (31, 152), (32, 153), (33, 154), (34, 155), (35, 156), (36, 157), (37, 158), (38, 159), (39, 160), (40, 161), (41, 162), (42, 163), (43, 164), (44, 165), (45, 166), (46, 167), (47, 168), (48, 169), (49, 170), (50, 171), (51, 172), (52, 173), (53, 174), (54, 175), (55, 176), (56, 177), (57, 178)])) (.region [⟨some 22, .op (.mv (.tmp 8)), none⟩,
  ⟨some 23, .op (.bin .add .scalar (.tmp 22) (.const (.int .i64 1))), none⟩,
  ⟨some 8, .op (.mv (.tmp 23)), none⟩]))
noncomputable def milestoneref5_ends_c2 : MCode := .seq [68] (.seq [64, 65, 66, 67] (.region [⟨some 64, .op (.mv (.tmp 9)), none⟩,
  ⟨some 65, .op (.fieldAddr 4 (.tmp 3)), none⟩,
  ⟨some 66, .op (.load none (.tmp 65)), none⟩,
  ⟨some 67, .op (.lenSl (.tmp 66)), none⟩,
  ⟨some 68, .op (.bin .lss .scalar (.tmp 64) (.tmp 67)), none⟩]) (.cond (.tmp 68) .skip (.exit 3))) (.seq [71, 72, 73, 74, 75, 76, 77, 78] (.block 4 (.region [⟨some 71, .op (.fieldAddr 4 (.tmp 3)), none⟩,
  ⟨some 72, .op (.load none (.tmp 71)), none⟩,
  ⟨some 73, .op (.mv (.tmp 9)), none⟩,
  ⟨some 74, .op (.idxSl 5 (.tmp 72) (.tmp 73)), none⟩,
  ⟨some 75, .op (.load (some 5) (.tmp 74)), none⟩,
  ⟨some 76, .op (.mv (.tmp 1)), none⟩,
  ⟨some 77, .op (.mv (.tmp 7)), none⟩,
  ⟨some 78, .call f_milestoneref5_ends [(.tmp 75), (.tmp 76), (.tmp 77)], none⟩,
  ⟨some 7, .op (.mv (.tmp 78)), none⟩])) (.region [⟨some 69, .op (.mv (.tmp 9)), none⟩,
  ⟨some 70, .op (.bin .add .scalar (.tmp 69) (.const (.int .i64 1))), none⟩,
  ⟨some 9, .op (.mv (.tmp 70)), none⟩]))
noncomputable def milestoneref5_ends_c3 : MCode := .seq [85] (.seq [81, 82, 83, 84] (.region [⟨some 81, .op (.mv (.tmp 10)), none⟩,
  ⟨some 82, .op (.fieldAddr 4 (.tmp 3)), none⟩,
  ⟨some 83, .op (.load none (.tmp 82)), none⟩,
  ⟨some 84, .op (.lenSl (.tmp 83)), none⟩,
  ⟨some 85, .op (.bin .lss .scalar (.tmp 81) (.tmp 84)), none⟩]) (.cond (.tmp 85) .skip (.exit 5))) (.seq [88, 89, 90, 91, 92, 93, 94, 95, 96, 97, 98, 99, 100] (.block 6 (.region [⟨some 89, .op (.mv (.tmp 7)), none⟩,
  ⟨some 90, .op (.fieldAddr 4 (.tmp 3)), none⟩,
  ⟨some 91, .op (.load none (.tmp 90)), none⟩,
  ⟨some 92, .op (.mv (.tmp 10)), none⟩,
  ⟨some 93, .op (.idxSl 5 (.tmp 91) (.tmp 92)), none⟩,
  ⟨some 94, .op (.load (some 5) (.tmp 93)), none⟩,
  ⟨some 95, .op (.mv (.tmp 1)), none⟩,
  ⟨some 96, .op (.mv (.tmp 2)), none⟩,
  ⟨some 97, .call f_milestoneref5_ends [(.tmp 94), (.tmp 95), (.tmp 96)], none⟩,
  ⟨some 98, .call f_milestoneref5_both [(.tmp 89), (.tmp 97)], none⟩,
  ⟨some 88, .op (.mv (.tmp 98)), none⟩,
  ⟨some 99, .op (.extract 0 (.tmp 88)), none⟩,
  ⟨some 100, .op (.extract 1 (.tmp 88)), none⟩,
  ⟨some 7, .op (.mv (.tmp 99)), none⟩])) (.region [⟨some 86, .op (.mv (.tmp 10)), none⟩,
  ⟨some 87, .op (.bin .add .scalar (.tmp 86) (.const (.int .i64 1))), none⟩,
  ⟨some 10, .op (.mv (.tmp 87)), none⟩]))
def milestoneref5_ends_rs : Res := [(6, none)]
noncomputable def milestoneref5_ends_mf : MFn := ⟨145, milestoneref5_ends_rs, .seq [0, 6] (.region [⟨some 3, .op (.box (.tmp 0)), none⟩,
  ⟨some 6, .op (.mv (.const .nils)), none⟩]) (.seq [11, 12, 13] (.region [⟨some 11, .op (.mv (.tmp 2)), none⟩,
  ⟨some 12, .op (.lenSl (.tmp 11)), none⟩,
  ⟨some 13, .op (.mkSlice [.bool false] 1 1 (.tmp 12) (.tmp 12)), none⟩,
  ⟨some 7, .op (.mv (.tmp 13)), none⟩]) (.seq [1, 2, 3, 8, 9, 10, 15, 21, 68, 85, 101, 103, 104, 105, 106, 107, 108, 109, 110, 111, 112, 113, 114, 115, 117, 118, 119, 120, 121, 122, 123, 124, 126, 127, 128, 129, 130, 131, 132, 133, 134, 135, 136, 137, 138, 140, 141, 142, 143] (.seq [14] (.region [⟨some 14, .op (.fieldAddr 0 (.tmp 3)), none⟩,
  ⟨some 15, .op (.load none (.tmp 14)), none⟩]) (.block 0 (.seq [17] (.region [⟨some 17, .op (.bin .eql .scalar (.tmp 15) (.const (.int .i64 1))), none⟩,
  ⟨some 16, .op (.mv (.tmp 17)), none⟩]) (.cond (.tmp 16) (.seq [15, 16] (.region [⟨some 8, .op (.mv (.const (.int .i64 0))), none⟩]) (.block 1 (.loop [22, 23] milestoneref5_ends_c1))) (.seq [16, 59] (.region [⟨some 59, .op (.bin .eql .scalar (.tmp 15) (.const (.int .i64 3))), none⟩,
  ⟨some 58, .op (.mv (.tmp 59)), none⟩]) (.cond (.tmp 58) (.seq [1, 2, 3, 7, 15, 58, 60] (.region [⟨some 60, .op (.mv (.tmp 2)), none⟩,
  ⟨some 6, .op (.mv (.tmp 60)), none⟩]) .ret) (.seq [58, 62] (.region [⟨some 62, .op (.bin .eql .scalar (.tmp 15) (.const (.int .i64 4))), none⟩,
  ⟨some 61, .op (.mv (.tmp 62)), none⟩]) (.cond (.tmp 61) (.seq [2, 15, 61, 63] (.region [⟨some 63, .op (.mv (.tmp 2)), none⟩,
  ⟨some 7, .op (.mv (.tmp 63)), none⟩]) (.seq [] (.region [⟨some 9, .op (.mv (.const (.int .i64 0))), none⟩]) (.block 3 (.loop [69, 70] milestoneref5_ends_c2)))) (.seq [61, 80] (.region [⟨some 80, .op (.bin .eql .scalar (.tmp 15) (.const (.int .i64 5))), none⟩,
  ⟨some 79, .op (.mv (.tmp 80)), none⟩]) (.cond (.tmp 79) (.seq [15, 79] (.region [⟨some 10, .op (.mv (.const (.int .i64 0))), none⟩]) (.block 5 (.loop [86, 87] milestoneref5_ends_c3))) (.seq [79, 102] (.region [⟨some 102, .op (.bin .eql .scalar (.tmp 15) (.const (.int .i64 6))), none⟩,
  ⟨some 101, .op (.mv (.tmp 102)), none⟩]) (.cond (.tmp 101) (.region [⟨some 104, .op (.mv (.tmp 2)), none⟩,
  ⟨some 105, .op (.fieldAddr 4 (.tmp 3)), none⟩,
  ⟨some 106, .op (.load none (.tmp 105)), none⟩,
  ⟨some 107, .op (.idxSl 5 (.tmp 106) (.const (.int .i64 0))), none⟩,
  ⟨some 108, .op (.load (some 5) (.tmp 107)), none⟩,
  ⟨some 109, .op (.mv (.tmp 1)), none⟩,
  ⟨some 110, .op (.mv (.tmp 2)), none⟩,
  ⟨some 111, .call f_milestoneref5_often [(.tmp 108), (.tmp 109), (.tmp 110), (.const (.int .i64 0))], none⟩,
  ⟨some 112, .call f_milestoneref5_both [(.tmp 104), (.tmp 111)], none⟩,
  ⟨some 103, .op (.mv (.tmp 112)), none⟩,
  ⟨some 113, .op (.extract 0 (.tmp 103)), none⟩,
  ⟨some 114, .op (.extract 1 (.tmp 103)), none⟩,
  ⟨some 7, .op (.mv (.tmp 113)), none⟩]) (.seq [101, 116] (.region [⟨some 116, .op (.bin .eql .scalar (.tmp 15) (.const (.int .i64 7))), none⟩,
  ⟨some 115, .op (.mv (.tmp 116)), none⟩]) (.cond (.tmp 115) (.region [⟨some 117, .op (.fieldAddr 4 (.tmp 3)), none⟩,
  ⟨some 118, .op (.load none (.tmp 117)), none⟩,
  ⟨some 119, .op (.idxSl 5 (.tmp 118) (.const (.int .i64 0))), none⟩,
  ⟨some 120, .op (.load (some 5) (.tmp 119)), none⟩,
  ⟨some 121, .op (.mv (.tmp 1)), none⟩,
  ⟨some 122, .op (.mv (.tmp 2)), none⟩,
  ⟨some 123, .call f_milestoneref5_often [(.tmp 120), (.tmp 121), (.tmp 122), (.const (.int .i64 0))], none⟩,
  ⟨some 7, .op (.mv (.tmp 123)), none⟩]) (.seq [115, 125] (.region [⟨some 125, .op (.bin .eql .scalar (.tmp 15) (.const (.int .i64 8))), none⟩,
  ⟨some 124, .op (.mv (.tmp 125)), none⟩]) (.cond (.tmp 124) (.region [⟨some 127, .op (.mv (.tmp 2)), none⟩,
  ⟨some 128, .op (.fieldAddr 4 (.tmp 3)), none⟩,
  ⟨some 129, .op (.load none (.tmp 128)), none⟩,
  ⟨some 130, .op (.idxSl 5 (.tmp 129) (.const (.int .i64 0))), none⟩,
  ⟨some 131, .op (.load (some 5) (.tmp 130)), none⟩,
  ⟨some 132, .op (.mv (.tmp 1)), none⟩,
  ⟨some 133, .op (.mv (.tmp 2)), none⟩,
  ⟨some 134, .call f_milestoneref5_ends [(.tmp 131), (.tmp 132), (.tmp 133)], none⟩,
  ⟨some 135, .call f_milestoneref5_both [(.tmp 127), (.tmp 134)], none⟩,
  ⟨some 126, .op (.mv (.tmp 135)), none⟩,
  ⟨some 136, .op (.extract 0 (.tmp 126)), none⟩,
  ⟨some 137, .op (.extract 1 (.tmp 126)), none⟩,
  ⟨some 7, .op (.mv (.tmp 136)), none⟩]) (.seq [15, 124, 139] (.region [⟨some 139, .op (.bin .eql .scalar (.tmp 15) (.const (.int .i64 9))), none⟩,
  ⟨some 138, .op (.mv (.tmp 139)), none⟩]) (.cond (.tmp 138) (.region [⟨some 140, .op (.load (some 5) (.tmp 3)), none⟩,
  ⟨some 141, .op (.mv (.tmp 1)), none⟩,
  ⟨some 142, .op (.mv (.tmp 2)), none⟩,
  ⟨some 143, .call f_milestoneref5_repeat [(.tmp 140), (.tmp 141), (.tmp 142)], none⟩,
  ⟨some 7, .op (.mv (.tmp 143)), none⟩]) .skip)))))))))))))))))) (.seq [7, 144] (.region [⟨some 144, .op (.mv (.tmp 7)), none⟩,
  ⟨some 6, .op (.mv (.tmp 144)), none⟩]) .ret)))⟩
noncomputable def milestoneref5_ends_l1 (T : Tab) (k j0 : Nat) (word1 from2 n3 out7 i8 : AV) (h : Heap) : Option (AV × Heap) :=
  loopB T k milestoneref5_ends_rs j0 [22, 23] milestoneref5_ends_c1 [.blk 1, .blk 0, .seq [1, 2, 3, 8, 9, 10, 15, 21, 68, 85, 101, 103, 104, 105, 106, 107, 108, 109, 110, 111, 112, 113, 114, 115, 117, 118, 119, 120, 121, 122, 123, 124, 126, 127, 128, 129, 130, 131, 132, 133, 134, 135, 136, 137, 138, 140, 141, 142, 143] (.seq [7, 144] (.region [⟨some 144, .op (.mv (.tmp 7)), none⟩,
  ⟨some 6, .op (.mv (.tmp 144)), none⟩]) .ret)] [.undef, word1, from2, n3, .undef, .undef, .undef, out7, i8, .undef, .undef, .undef, .undef, .undef, .undef, .undef, .undef, .undef, .undef, .undef, .undef, .undef, .undef, .undef, .undef, .undef, .undef, .undef, .undef, .undef, .undef, .undef, .undef, .undef, .undef, .undef, .undef, .undef, .undef, .undef, .undef, .undef, .undef, .undef, .undef, .undef, .undef, .undef, .undef, .undef, .undef, .undef, .undef, .undef, .undef, .undef, .undef, .undef, .undef, .undef, .undef, .undef, .undef, .undef, .undef, .undef, .undef, .undef, .undef, .undef, .undef, .undef, .undef, .undef, .undef, .undef, .undef, .undef, .undef, .undef, .undef, .undef, .undef, .undef, .undef, .undef, .undef, .undef, .undef, .undef, .undef, .undef, .undef, .undef, .undef, .undef, .undef, .undef, .undef, .undef, .undef, .undef, .undef, .undef, .undef, .undef, .undef, .undef, .undef, .undef, .undef, .undef, .undef, .undef, .undef, .undef, .undef, .undef, .undef, .undef, .undef, .undef, .undef, .undef, .undef, .undef, .undef, .undef, .undef, .undef, .undef, .undef, .undef, .undef, .undef, .undef, .undef, .undef, .undef, .undef, .undef, .undef, .undef, .undef, .undef] h
noncomputable def milestoneref5_ends_l2 (T : Tab) (k j0 : Nat) (word1 n3 out7 i9 : AV) (h : Heap) : Option (AV × Heap) :=
  loopB T k milestoneref5_ends_rs j0 [69, 70] milestoneref5_ends_c2 [.blk 3, .blk 0, .seq [1, 2, 3, 8, 9, 10, 15, 21, 68, 85, 101, 103, 104, 105, 106, 107, 108, 109, 110, 111, 112, 113, 114, 115, 117, 118, 119, 120, 121, 122, 123, 124, 126, 127, 128, 129, 130, 131, 132, 133, 134, 135, 136, 137, 138, 140, 141, 142, 143] (.seq [7, 144] (.region [⟨some 144, .op (.mv (.tmp 7)), none⟩,
  ⟨some 6, .op (.mv (.tmp 144)), none⟩]) .ret)] [.undef, word1, .undef, n3, .undef, .undef, .undef, out7, .undef, i9, .undef, .undef, .undef, .undef, .undef, .undef, .undef, .undef, .undef, .undef, .undef, .undef, .undef, .undef, .undef, .undef, .undef, .undef, .undef, .undef, .undef, .undef, .undef, .undef, .undef, .undef, .undef, .undef, .undef, .undef, .undef, .undef, .undef, .undef, .undef, .undef, .undef, .undef, .undef, .undef, .undef, .undef, .undef, .undef, .undef, .undef, .undef, .undef, .undef, .undef, .undef, .undef, .undef, .undef, .undef, .undef, .undef, .undef, .undef, .undef, .undef, .undef, .undef, .undef, .undef, .undef, .undef, .undef, .undef, .undef, .undef, .undef, .undef, .undef, .undef, .undef, .undef, .undef, .undef, .undef, .undef, .undef, .undef, .undef, .undef, .undef, .undef, .undef, .undef, .undef, .undef, .undef, .undef, .undef, .undef, .undef, .undef, .undef, .undef, .undef, .undef, .undef, .undef, .undef, .undef, .undef, .undef, .undef, .undef, .undef, .undef, .undef, .undef, .undef, .undef, .undef, .undef, .undef, .undef, .undef, .undef, .undef, .undef, .undef, .undef, .undef, .undef, .undef, .undef, .undef, .undef, .undef, .undef, .undef, .undef] h
noncomputable def milestoneref5_ends_l3 (T : Tab) (k j0 : Nat) (word1 from2 n3 out7 i10 : AV) (h : Heap) : Option (AV × Heap) :=
  loopB T k milestoneref5_ends_rs j0 [86, 87] milestoneref5_ends_c3 [.blk 5, .blk 0, .seq [1, 2, 3, 8, 9, 10, 15, 21, 68, 85, 101, 103, 104, 105, 106, 107, 108, 109, 110, 111, 112, 113, 114, 115, 117, 118, 119, 120, 121, 122, 123, 124, 126, 127, 128, 129, 130, 131, 132, 133, 134, 135, 136, 137, 138, 140, 141, 142, 143] (.seq [7, 144] (.region [⟨some 144, .op (.mv (.tmp 7)), none⟩,
  ⟨some 6, .op (.mv (.tmp 144)), none⟩]) .ret)] [.undef, word1, from2, n3, .undef, .undef, .undef, out7, .undef, .undef, i10, .undef, .undef, .undef, .undef, .undef, .undef, .undef, .undef, .undef, .undef, .undef, .undef, .undef, .undef, .undef, .undef, .undef, .undef, .undef, .undef, .undef, .undef, .undef, .undef, .undef, .undef, .undef, .undef, .undef, .undef, .undef, .undef, .undef, .undef, .undef, .undef, .undef, .undef, .undef, .undef, .undef, .undef, .undef, .undef, .undef, .undef, .undef, .undef, .undef, .undef, .undef, .undef, .undef, .undef, .undef, .undef, .undef, .undef, .undef, .undef, .undef, .undef, .undef, .undef, .undef, .undef, .undef, .undef, .undef, .undef, .undef, .undef, .undef, .undef, .undef, .undef, .undef, .undef, .undef, .undef, .undef, .undef, .undef, .undef, .undef, .undef, .undef, .undef, .undef, .undef, .undef, .undef, .undef, .undef, .undef, .undef, .undef, .undef, .undef, .undef, .undef, .undef, .undef, .undef, .undef, .undef, .undef, .undef, .undef, .undef, .undef, .undef, .undef, .undef, .undef, .undef, .undef, .undef, .undef, .undef, .undef, .undef, .undef, .undef, .undef, .undef, .undef, .undef, .undef, .undef, .undef, .undef, .undef, .undef] h
theorem milestoneref5_ends_l1_eq (T : Tab) (k j0 : Nat) (word1 from2 n3 out7 i8 : AV) (h : Heap) : milestoneref5_ends_l1 T k (j0 + 1) word1 from2 n3 out7 i8 h =
    oa (lenS word1) fun t20_1 =>
    oa (binV .lss .scalar i8 t20_1) fun t21_2 =>
    cond2 t21_2
      (
      oa (binV .add .scalar i8 (.int .i64 1)) fun t147_3 =>
      oa (idxS 1 from2 i8) fun t150_4 =>
      oa (ld1 h t150_4) fun t151_5 =>
      ob (gd t151_5 true (some (word1, h)) h) fun t153_6 h_7 =>
      ob (gd t151_5 true (some (i8, h_7)) h_7) fun t154_8 h_9 =>
      ob (gd t151_5 true (pure1 h_9 (idxS 1 t153_6 t154_8)) h_9) fun t155_10 h_11 =>
      ob (gd t151_5 true (pure1 h_11 (ld1 h_11 t155_10)) h_11) fun t156_12 h_13 =>
      ob (gd t151_5 true (pure1 h_13 (binV .geq .scalar t156_12 (.int .i64 0))) h_13) fun t157_14 h_15 =>
      oa (pickV t151_5 t157_14 (.bool false)) fun t158_16 =>
      ob (gd t158_16 true (some (word1, h_15)) h_15) fun t160_17 h_18 =>
      ob (gd t158_16 true (some (i8, h_18)) h_18) fun t161_19 h_20 =>
      ob (gd t158_16 true (pure1 h_20 (idxS 1 t160_17 t161_19)) h_20) fun t162_21 h_22 =>
      ob (gd t158_16 true (pure1 h_22 (ld1 h_22 t162_21)) h_22) fun t163_23 h_24 =>
      ob (gd t158_16 true (pure1 h_24 (binV .lss .scalar t163_23 (.int .i64 5))) h_24) fun t164_25 h_26 =>
      oa (pickV t158_16 t164_25 (.bool false)) fun t165_27 =>
      ob (gd t165_27 true (pure1 h_26 (fldA 1 n3)) h_26) fun t167_28 h_29 =>
      ob (gd t165_27 true (pure1 h_29 (ld1 h_29 t167_28)) h_29) fun t168_30 h_31 =>
      ob (gd t165_27 true (some (word1, h_31)) h_31) fun t169_32 h_33 =>
      ob (gd t165_27 true (some (i8, h_33)) h_33) fun t170_34 h_35 =>
      ob (gd t165_27 true (pure1 h_35 (idxS 1 t169_32 t170_34)) h_35) fun t171_36 h_37 =>
      ob (gd t165_27 true (pure1 h_37 (ld1 h_37 t171_36)) h_37) fun t172_38 h_39 =>
      ob (gd t165_27 true (pure1 h_39 (convV .u64 t172_38)) h_39) fun t173_40 h_41 =>
      ob (gd t165_27 true (pure1 h_41 (binV .shr .scalar t168_30 t173_40)) h_41) fun t174_42 h_43 =>
      ob (gd t165_27 true (pure1 h_43 (binV .and .scalar t174_42 (.int .i64 1))) h_43) fun t175_44 h_45 =>
      ob (gd t165_27 true (pure1 h_45 (binV .eql .scalar t175_44 (.int .i64 1))) h_45) fun t176_46 h_47 =>
      oa (pickV t165_27 t176_46 (.bool false)) fun t177_48 =>
      oa (idxS 1 out7 t147_3) fun t178_49 =>
      oh (stN 1 h_47 t178_49 t177_48) fun h_50 =>
      oa (binV .add .scalar i8 (.int .i64 1)) fun t23_51 =>
      milestoneref5_ends_l1 T k j0 word1 from2 n3 out7 t23_51 h_50
      )
      (
      some (out7, h)
      ) := loopEq (by kernel_rfl)
theorem milestoneref5_ends_l2_eq (T : Tab) (k j0 : Nat) (word1 n3 out7 i9 : AV) (h : Heap) : milestoneref5_ends_l2 T k (j0 + 1) word1 n3 out7 i9 h =
    oa (fldA 4 n3) fun t65_1 =>
    oa (ld1 h t65_1) fun t66_2 =>
    oa (lenS t66_2) fun t67_3 =>
    oa (binV .lss .scalar i9 t67_3) fun t68_4 =>
    cond2 t68_4
      (
      oa (fldA 4 n3) fun t71_5 =>
      oa (ld1 h t71_5) fun t72_6 =>
      oa (idxS 5 t72_6 i9) fun t74_7 =>
      oa (ldN 5 h t74_7) fun t75_8 =>
      ob (evalFn T k f_milestoneref5_ends [t75_8, word1, out7] h) fun t78_9 h_10 =>
      oa (binV .add .scalar i9 (.int .i64 1)) fun t70_11 =>
      milestoneref5_ends_l2 T k j0 word1 n3 t78_9 t70_11 h_10
      )
      (
      some (out7, h)
      ) := loopEq (by kernel_rfl)
theorem milestoneref5_ends_l3_eq (T : Tab) (k j0 : Nat) (word1 from2 n3 out7 i10 : AV) (h : Heap) : milestoneref5_ends_l3 T k (j0 + 1) word1 from2 n3 out7 i10 h =
    oa (fldA 4 n3) fun t82_1 =>
    oa (ld1 h t82_1) fun t83_2 =>
    oa (lenS t83_2) fun t84_3 =>
    oa (binV .lss .scalar i10 t84_3) fun t85_4 =>
    cond2 t85_4
      (
      oa (fldA 4 n3) fun t90_5 =>
      oa (ld1 h t90_5) fun t91_6 =>
      oa (idxS 5 t91_6 i10) fun t93_7 =>
      oa (ldN 5 h t93_7) fun t94_8 =>
      ob (evalFn T k f_milestoneref5_ends [t94_8, word1, from2] h) fun t97_9 h_10 =>
      ob (evalFn T k f_milestoneref5_both [out7, t97_9] h_10) fun t98_11 h_12 =>
      oa (extr 0 t98_11) fun t99_13 =>
      oa (extr 1 t98_11) fun t100_14 =>
      oa (binV .add .scalar i10 (.int .i64 1)) fun t87_15 =>
      milestoneref5_ends_l3 T k j0 word1 from2 n3 t99_13 t87_15 h_12
      )
      (
      some (out7, h)
      ) := loopEq (by kernel_rfl)
theorem milestoneref5_ends_eq (T : Tab) (k : Nat) (n0 word1 from2 : AV) (h : Heap) : runF T k milestoneref5_ends_mf [n0, word1, from2] h =
    ob (newVar h (AV.cells n0)) fun n3_1 h_2 =>
    oa (lenS from2) fun t12_3 =>
    ob (mkSl [.bool false] 1 1 t12_3 t12_3 h_2) fun t13_4 h_5 =>
    oa (fldA 0 n3_1) fun t14_6 =>
    oa (ld1 h_5 t14_6) fun t15_7 =>
    oa (binV .eql .scalar t15_7 (.int .i64 1)) fun t17_8 =>
    cond2 t17_8
      (
      milestoneref5_ends_l1 T k k word1 from2 n3_1 t13_4 (.int .i64 0) h_5
      )
      (
      oa (binV .eql .scalar t15_7 (.int .i64 3)) fun t59_9 =>
      cond2 t59_9
        (
        some (from2, h_5)
        )
        (
        oa (binV .eql .scalar t15_7 (.int .i64 4)) fun t62_10 =>
        cond2 t62_10
          (
          milestoneref5_ends_l2 T k k word1 n3_1 from2 (.int .i64 0) h_5
          )
          (
          oa (binV .eql .scalar t15_7 (.int .i64 5)) fun t80_11 =>
          cond2 t80_11
            (
            milestoneref5_ends_l3 T k k word1 from2 n3_1 t13_4 (.int .i64 0) h_5
            )
            (
            oa (binV .eql .scalar t15_7 (.int .i64 6)) fun t102_12 =>
            cond2 t102_12
              (
              oa (fldA 4 n3_1) fun t105_13 =>
              oa (ld1 h_5 t105_13) fun t106_14 =>
              oa (idxS 5 t106_14 (.int .i64 0)) fun t107_15 =>
              oa (ldN 5 h_5 t107_15) fun t108_16 =>
              ob (evalFn T k f_milestoneref5_often [t108_16, word1, from2, (.int .i64 0)] h_5) fun t111_17 h_18 =>
              ob (evalFn T k f_milestoneref5_both [from2, t111_17] h_18) fun t112_19 h_20 =>
              oa (extr 0 t112_19) fun t113_21 =>
              oa (extr 1 t112_19) fun t114_22 =>
              some (t113_21, h_20)
              )
              (
              oa (binV .eql .scalar t15_7 (.int .i64 7)) fun t116_23 =>
              cond2 t116_23
                (
                oa (fldA 4 n3_1) fun t117_24 =>
                oa (ld1 h_5 t117_24) fun t118_25 =>
                oa (idxS 5 t118_25 (.int .i64 0)) fun t119_26 =>
                oa (ldN 5 h_5 t119_26) fun t120_27 =>
                ob (evalFn T k f_milestoneref5_often [t120_27, word1, from2, (.int .i64 0)] h_5) fun t123_28 h_29 =>
                some (t123_28, h_29)
                )
                (
                oa (binV .eql .scalar t15_7 (.int .i64 8)) fun t125_30 =>
                cond2 t125_30
                  (
                  oa (fldA 4 n3_1) fun t128_31 =>
                  oa (ld1 h_5 t128_31) fun t129_32 =>
                  oa (idxS 5 t129_32 (.int .i64 0)) fun t130_33 =>
                  oa (ldN 5 h_5 t130_33) fun t131_34 =>
                  ob (evalFn T k f_milestoneref5_ends [t131_34, word1, from2] h_5) fun t134_35 h_36 =>
                  ob (evalFn T k f_milestoneref5_both [from2, t134_35] h_36) fun t135_37 h_38 =>
                  oa (extr 0 t135_37) fun t136_39 =>
                  oa (extr 1 t135_37) fun t137_40 =>
                  some (t136_39, h_38)
                  )
                  (
                  oa (binV .eql .scalar t15_7 (.int .i64 9)) fun t139_41 =>
                  cond2 t139_41
                    (
                    oa (ldN 5 h_5 n3_1) fun t140_42 =>
                    ob (evalFn T k f_milestoneref5_repeat [t140_42, word1, from2] h_5) fun t143_43 h_44 =>
                    some (t143_43, h_44)
                    )
                    (
                    some (t13_4, h_5)
                    )
                  )
                )
              )
            )
          )
        )
      ) := runEq (by kernel_rfl)
def milestoneref5_one_rs : Res := [(4, none)]
noncomputable def milestoneref5_one_mf : MFn := ⟨12, milestoneref5_one_rs, .seq [4] (.region [⟨some 4, .op (.mv (.const .nils)), none⟩]) (.seq [0, 6, 7] (.region [⟨some 6, .op (.mv (.tmp 0)), none⟩,
  ⟨some 7, .op (.mkSlice [.bool false] 1 1 (.tmp 6) (.tmp 6)), none⟩,
  ⟨some 5, .op (.mv (.tmp 7)), none⟩]) (.seq [1, 8, 9, 10] (.region [⟨some 8, .op (.mv (.tmp 5)), none⟩,
  ⟨some 9, .op (.mv (.tmp 1)), none⟩,
  ⟨some 10, .op (.idxSl 1 (.tmp 8) (.tmp 9)), none⟩,
  ⟨none, .op (.store 1 (.tmp 10) (.const (.bool true))), none⟩]) (.seq [5, 11] (.region [⟨some 11, .op (.mv (.tmp 5)), none⟩,
  ⟨some 4, .op (.mv (.tmp 11)), none⟩]) .ret)))⟩
theorem milestoneref5_one_eq (T : Tab) (k : Nat) (size0 at1 : AV) (h : Heap) : runF T k milestoneref5_one_mf [size0, at1] h =
    ob (mkSl [.bool false] 1 1 size0 size0 h) fun t7_1 h_2 =>
    oa (idxS 1 t7_1 at1) fun t10_3 =>
    oh (stN 1 h_2 t10_3 (.bool true)) fun h_4 =>
    some (t7_1, h_4) := runEq (by kernel_rfl)
def slices_Clone_int_rs : Res := [(2, none)]
noncomputable def slices_Clone_int_mf : MFn := ⟨8, slices_Clone_int_rs, .seq [2] (.region [⟨some 2, .op (.mv (.const .nils)), none⟩]) (.seq [4] (.seq [3] (.region [⟨some 3, .op (.mv (.tmp 0)), none⟩,
  ⟨some 4, .op (.bin .eql .slice (.tmp 3) (.const .nils)), none⟩]) (.cond (.tmp 4) (.seq [0, 4] (.region [⟨some 2, .op (.mv (.const .nils)), none⟩]) .ret) .skip)) (.seq [0, 5, 6, 7] (.region [⟨some 5, .op (.buildSlice 1 0 [] []), none⟩,
  ⟨some 6, .op (.mv (.tmp 0)), none⟩,
  ⟨some 7, .op (.append 1 8 (.tmp 5) (.tmp 6)), none⟩,
  ⟨some 2, .op (.mv (.tmp 7)), none⟩]) .ret))⟩
theorem slices_Clone_int_eq (T : Tab) (k : Nat) (s0 : AV) (h : Heap) : runF T k slices_Clone_int_mf [s0] h =
    oa (binV .eql .slice s0 .nils) fun t4_1 =>
    cond2 t4_1
      (
      some (.nils, h)
      )
      (
      ob (buildSl 1 0 [] [] h) fun t5_2 h_3 =>
      ob (apnd 1 8 t5_2 s0 h_3) fun t7_4 h_5 =>
      some (t7_4, h_5)
      ) := runEq (by kernel_rfl)
def slices_Clone_int_int_rs : Res := [(2, none)]
noncomputable def slices_Clone_int_int_mf : MFn := ⟨8, slices_Clone_int_int_rs, .seq [2] (.region [⟨some 2, .op (.mv (.const .nils)), none⟩]) (.seq [4] (.seq [3] (.region [⟨some 3, .op (.mv (.tmp 0)), none⟩,
  ⟨some 4, .op (.bin .eql .slice (.tmp 3) (.const .nils)), none⟩]) (.cond (.tmp 4) (.seq [0, 4] (.region [⟨some 2, .op (.mv (.const .nils)), none⟩]) .ret) .skip)) (.seq [0, 5, 6, 7] (.region [⟨some 5, .op (.buildSlice 1 0 [] []), none⟩,
  ⟨some 6, .op (.mv (.tmp 0)), none⟩,
  ⟨some 7, .op (.append 1 24 (.tmp 5) (.tmp 6)), none⟩,
  ⟨some 2, .op (.mv (.tmp 7)), none⟩]) .ret))⟩
theorem slices_Clone_int_int_eq (T : Tab) (k : Nat) (s0 : AV) (h : Heap) : runF T k slices_Clone_int_int_mf [s0] h =
    oa (binV .eql .slice s0 .nils) fun t4_1 =>
    cond2 t4_1
      (
      some (.nils, h)
      )
      (
      ob (buildSl 1 0 [] [] h) fun t5_2 h_3 =>
      ob (apnd 1 24 t5_2 s0 h_3) fun t7_4 h_5 =>
      some (t7_4, h_5)
      ) := runEq (by kernel_rfl)
noncomputable def milestoneref5_Next_c1 : MCode := .seq [14] (.seq [13] (.region [⟨some 13, .op (.mv (.tmp 7)), none⟩,
  ⟨some 14, .op (.bin .gtr .scalar (.tmp 13) (.const (.int .i64 0))), none⟩]) (.cond (.tmp 14) .skip (.exit 0))) (.seq [31, 32, 33, 34] (.block 1 (.seq [17, 18, 19, 20, 21, 22, 23] (.region [⟨some 17, .op (.mv (.tmp 6)), none⟩,
  ⟨some 18, .op (.mv (.tmp 7)), none⟩,
  ⟨some 19, .op (.bin .sub .scalar (.tmp 18) (.const (.int .i64 1))), none⟩,
  ⟨some 20, .op (.idxSl 1 (.tmp 17) (.tmp 19)), none⟩,
  ⟨some 21, .op (.load none (.tmp 20)), none⟩,
  ⟨some 22, .op (.bin .add .scalar (.tmp 21) (.const (.int .i64 1))), none⟩,
  ⟨some 23, .op (.idxSl 1 (.tmp 17) (.tmp 19)), none⟩,
  ⟨none, .op (.store 1 (.tmp 23) (.tmp 22)), none⟩]) (.seq [29] (.seq [24, 25, 26, 27, 28] (.region [⟨some 24, .op (.mv (.tmp 6)), none⟩,
  ⟨some 25, .op (.mv (.tmp 7)), none⟩,
  ⟨some 26, .op (.bin .sub .scalar (.tmp 25) (.const (.int .i64 1))), none⟩,
  ⟨some 27, .op (.idxSl 1 (.tmp 24) (.tmp 26)), none⟩,
  ⟨some 28, .op (.load none (.tmp 27)), none⟩,
  ⟨some 29, .op (.bin .lss .scalar (.tmp 28) (.const (.int .i64 5))), none⟩]) (.cond (.tmp 29) (.seq [0, 1, 6, 7, 29, 30] (.region [⟨some 30, .op (.mv (.tmp 6)), none⟩,
  ⟨some 4, .op (.mv (.tmp 30)), none⟩,
  ⟨some 5, .op (.mv (.const (.bool true))), none⟩]) .ret) .skip)) (.region [⟨some 31, .op (.mv (.tmp 6)), none⟩,
  ⟨some 32, .op (.mv (.tmp 7)), none⟩,
  ⟨some 33, .op (.bin .sub .scalar (.tmp 32) (.const (.int .i64 1))), none⟩,
  ⟨some 34, .op (.idxSl 1 (.tmp 31) (.tmp 33)), none⟩,
  ⟨none, .op (.store 1 (.tmp 34) (.const (.int .i64 0))), none⟩])))) (.region [⟨some 15, .op (.mv (.tmp 7)), none⟩,
  ⟨some 16, .op (.bin .sub .scalar (.tmp 15) (.const (.int .i64 1))), none⟩,
  ⟨some 7, .op (.mv (.tmp 16)), none⟩]))
noncomputable def milestoneref5_Next_c2 : MCode := .seq [0, 1, 6, 35, 36, 37, 38, 39, 40, 41] (.region [⟨some 35, .op (.mv (.tmp 6)), none⟩,
  ⟨some 36, .op (.buildSlice 1 1 [.int .i64 0] [(0, 1, (.const (.int .i64 0)))]), none⟩,
  ⟨some 37, .op (.append 1 8 (.tmp 35) (.tmp 36)), none⟩,
  ⟨some 38, .op (.mv (.tmp 0)), none⟩,
  ⟨some 39, .op (.lenSl (.tmp 38)), none⟩,
  ⟨some 40, .op (.mv (.tmp 1)), none⟩,
  ⟨some 41, .op (.bin .lss .scalar (.tmp 39) (.tmp 40)), none⟩,
  ⟨some 4, .op (.mv (.tmp 37)), none⟩,
  ⟨some 5, .op (.mv (.tmp 41)), none⟩]) .ret
def milestoneref5_Next_rs : Res := [(4, none), (5, none)]
noncomputable def milestoneref5_Next_mf : MFn := ⟨42, milestoneref5_Next_rs, .seq [4, 5] (.region [⟨some 4, .op (.mv (.const .nils)), none⟩,
  ⟨some 5, .op (.mv (.const (.bool false))), none⟩]) (.seq [8, 9, 10] (.region [⟨some 8, .op (.buildSlice 1 0 [] []), none⟩,
  ⟨some 9, .op (.mv (.tmp 0)), none⟩,
  ⟨some 10, .op (.append 1 8 (.tmp 8) (.tmp 9)), none⟩,
  ⟨some 6, .op (.mv (.tmp 10)), none⟩]) (.seq [7, 14] (.seq [11, 12] (.region [⟨some 11, .op (.mv (.tmp 6)), none⟩,
  ⟨some 12, .op (.lenSl (.tmp 11)), none⟩,
  ⟨some 7, .op (.mv (.tmp 12)), none⟩]) (.block 0 (.loop [15, 16] milestoneref5_Next_c1))) (.lab milestoneref5_Next_c2)))⟩
noncomputable def milestoneref5_Next_l1 (T : Tab) (k j0 : Nat) (w0 most1 out6 i7 : AV) (h : Heap) : Option (AV × Heap) :=
  loopB T k milestoneref5_Next_rs j0 [15, 16] milestoneref5_Next_c1 [.blk 0, .seq [7, 14] (.lab milestoneref5_Next_c2)] [w0, most1, .undef, .undef, .undef, .undef, out6, i7, .undef, .undef, .undef, .undef, .undef, .undef, .undef, .undef, .undef, .undef, .undef, .undef, .undef, .undef, .undef, .undef, .undef, .undef, .undef, .undef, .undef, .undef, .undef, .undef, .undef, .undef, .undef, .undef, .undef, .undef, .undef, .undef, .undef, .undef] h
noncomputable def milestoneref5_Next_b2 (T : Tab) (k : Nat) (w0 most1 out6 : AV) (h : Heap) : Option (AV × Heap) :=
  evB T k milestoneref5_Next_rs milestoneref5_Next_c2 [] [w0, most1, .undef, .undef, .undef, .undef, out6, .undef, .undef, .undef, .undef, .undef, .undef, .undef, .undef, .undef, .undef, .undef, .undef, .undef, .undef, .undef, .undef, .undef, .undef, .undef, .undef, .undef, .undef, .undef, .undef, .undef, .undef, .undef, .undef, .undef, .undef, .undef, .undef, .undef, .undef, .undef] h
theorem milestoneref5_Next_b2_eq (T : Tab) (k : Nat) (w0 most1 out6 : AV) (h : Heap) : milestoneref5_Next_b2 T k w0 most1 out6 h =
    ob (buildSl 1 1 [.int .i64 0] [(0, 1, (.int .i64 0))] h) fun t36_1 h_2 =>
    ob (apnd 1 8 out6 t36_1 h_2) fun t37_3 h_4 =>
    oa (lenS w0) fun t39_5 =>
    oa (binV .lss .scalar t39_5 most1) fun t41_6 =>
    some (.tup [t37_3, t41_6], h_4) := blockEq (by kernel_rfl)
theorem milestoneref5_Next_l1_eq (T : Tab) (k j0 : Nat) (w0 most1 out6 i7 : AV) (h : Heap) : milestoneref5_Next_l1 T k (j0 + 1) w0 most1 out6 i7 h =
    oa (binV .gtr .scalar i7 (.int .i64 0)) fun t14_1 =>
    cond2 t14_1
      (
      oa (binV .sub .scalar i7 (.int .i64 1)) fun t19_2 =>
      oa (idxS 1 out6 t19_2) fun t20_3 =>
      oa (ld1 h t20_3) fun t21_4 =>
      oa (binV .add .scalar t21_4 (.int .i64 1)) fun t22_5 =>
      oa (idxS 1 out6 t19_2) fun t23_6 =>
      oh (stN 1 h t23_6 t22_5) fun h_7 =>
      oa (binV .sub .scalar i7 (.int .i64 1)) fun t26_8 =>
      oa (idxS 1 out6 t26_8) fun t27_9 =>
      oa (ld1 h_7 t27_9) fun t28_10 =>
      oa (binV .lss .scalar t28_10 (.int .i64 5)) fun t29_11 =>
      cond2 t29_11
        (
        some (.tup [out6, (.bool true)], h_7)
        )
        (
        oa (binV .sub .scalar i7 (.int .i64 1)) fun t33_12 =>
        oa (idxS 1 out6 t33_12) fun t34_13 =>
        oh (stN 1 h_7 t34_13 (.int .i64 0)) fun h_14 =>
        oa (binV .sub .scalar i7 (.int .i64 1)) fun t16_15 =>
        milestoneref5_Next_l1 T k j0 w0 most1 out6 t16_15 h_14
        )
      )
      (
      milestoneref5_Next_b2 T k w0 most1 out6 h
      ) := loopEq (by kernel_rfl)
theorem milestoneref5_Next_eq (T : Tab) (k : Nat) (w0 most1 : AV) (h : Heap) : runF T k milestoneref5_Next_mf [w0, most1] h =
    ob (buildSl 1 0 [] [] h) fun t8_1 h_2 =>
    ob (apnd 1 8 t8_1 w0 h_2) fun t10_3 h_4 =>
    oa (lenS t10_3) fun t12_5 =>
    milestoneref5_Next_l1 T k k w0 most1 t10_3 t12_5 h_4 := runEq (by kernel_rfl)
noncomputable def milestoneref4_Parse_c1 : MCode := .seq [5, 36] (.seq [32, 33, 34, 35] (.region [⟨some 32, .op (.mv (.tmp 5)), none⟩,
  ⟨some 33, .op (.nilCheck (.tmp 32)), none⟩,
  ⟨some 34, .op (.fieldAddr 3 (.tmp 33)), none⟩,
  ⟨some 35, .op (.load none (.tmp 34)), none⟩,
  ⟨some 36, .op (.bin .neq .scalar (.tmp 35) (.const (.int .i64 0))), none⟩]) (.cond (.tmp 36) (.seq [5, 6, 36, 37, 38, 39, 40, 41, 42, 43, 44, 45] (.regionD 47 [⟨0, ⟨some 47, .op (.build [.int .i64 0, .int .i64 0, .int .i64 0, .int .i64 0, .nils] []), none⟩, []⟩,
  ⟨1, ⟨some 48, .op (.mv (.tmp 5)), none⟩, []⟩,
  ⟨2, ⟨some 49, .op (.nilCheck (.tmp 48)), none⟩, []⟩,
  ⟨3, ⟨some 50, .op (.fieldAddr 1 (.tmp 49)), none⟩, []⟩,
  ⟨4, ⟨some 51, .op (.load none (.tmp 50)), none⟩, []⟩,
  ⟨5, ⟨some 52, .op (.mv (.tmp 5)), none⟩, []⟩,
  ⟨6, ⟨some 53, .op (.nilCheck (.tmp 52)), none⟩, []⟩,
  ⟨7, ⟨some 54, .op (.fieldAddr 3 (.tmp 53)), none⟩, []⟩,
  ⟨8, ⟨some 55, .op (.load none (.tmp 54)), none⟩, []⟩,
  ⟨9, ⟨some 56, .op (.store 5 (.tmp 2) (.tmp 47)), none⟩, [(51, ⟨some 51, .op (.load none (.tmp 50)), none⟩), (55, ⟨some 55, .op (.load none (.tmp 54)), none⟩)]⟩,
  ⟨10, ⟨some 57, .op (.mv (.tmp 51)), none⟩, []⟩,
  ⟨11, ⟨some 58, .op (.mv (.tmp 55)), none⟩, []⟩] [(37, 47), (38, 48), (39, 49), (40, 50), (41, 51), (42, 52), (43, 53), (44, 54), (45, 55), (3, 57), (4, 58)]) .ret) .skip)) (.seq [6, 46] (.region [⟨some 46, .op (.load (some 5) (.tmp 6)), none⟩,
  ⟨none, .op (.store 5 (.tmp 2) (.tmp 46)), none⟩,
  ⟨some 3, .op (.mv (.const (.int .i64 0))), none⟩,
  ⟨some 4, .op (.mv (.const (.int .i64 0))), none⟩]) .ret)
def milestoneref4_Parse_rs : Res := [(2, some (some 5)), (3, none), (4, none)]
noncomputable def milestoneref4_Parse_mf : MFn := ⟨47, milestoneref4_Parse_rs, .seq [3, 4] (.region [⟨some 2, .op (.alloc [.int .i64 0, .int .i64 0, .int .i64 0, .int .i64 0, .nils]), none⟩,
  ⟨some 3, .op (.mv (.const (.int .i64 0))), none⟩,
  ⟨some 4, .op (.mv (.const (.int .i64 0))), none⟩]) (.seq [9] (.seq [7, 8] (.region [⟨some 7, .op (.mv (.tmp 0)), none⟩,
  ⟨some 8, .op (.lenStr (.tmp 7)), none⟩,
  ⟨some 9, .op (.bin .gtr .scalar (.tmp 8) (.const (.int .i64 200))), none⟩]) (.cond (.tmp 9) (.seq [0, 9, 10] (.region [⟨some 10, .op (.build [.int .i64 0, .int .i64 0, .int .i64 0, .int .i64 0, .nils] []), none⟩,
  ⟨none, .op (.store 5 (.tmp 2) (.tmp 10)), none⟩,
  ⟨some 3, .op (.mv (.const (.int .i64 0))), none⟩,
  ⟨some 4, .op (.mv (.const (.int .i64 4))), none⟩]) .ret) .skip)) (.seq [11, 12, 13] (.region [⟨some 11, .op (.mv (.tmp 0)), none⟩,
  ⟨some 12, .op (.build [.str ⟨#[]⟩, .int .i64 0, .int .i64 0, .int .i64 0] [(0, 1, (.tmp 11))]), none⟩,
  ⟨some 13, .op (.box (.tmp 12)), none⟩,
  ⟨some 5, .op (.mv (.tmp 13)), none⟩]) (.seq [14, 15] (.region [⟨some 14, .op (.mv (.tmp 5)), none⟩,
  ⟨some 15, .call f_milestoneref4_reader_union [(.tmp 14)], none⟩,
  ⟨some 6, .op (.alloc [.int .i64 0, .int .i64 0, .int .i64 0, .int .i64 0, .nils]), none⟩,
  ⟨none, .op (.store 5 (.tmp 6) (.tmp 15)), none⟩]) (.seq [29, 30, 31] (.seq [0, 16, 17, 18, 19, 20, 21, 22, 23, 24, 25, 26, 27, 28] (.region [⟨some 16, .op (.mv (.tmp 5)), none⟩,
  ⟨some 17, .op (.nilCheck (.tmp 16)), none⟩,
  ⟨some 18, .op (.fieldAddr 3 (.tmp 17)), none⟩,
  ⟨some 19, .op (.load none (.tmp 18)), none⟩,
  ⟨some 20, .op (.bin .eql .scalar (.tmp 19) (.const (.int .i64 0))), none⟩,
  ⟨some 21, .op (.mv (.tmp 20)), none⟩,
  ⟨some 22, .op (.mv (.tmp 5)), some (21, true)⟩,
  ⟨some 23, .op (.nilCheck (.tmp 22)), some (21, true)⟩,
  ⟨some 24, .op (.fieldAddr 1 (.tmp 23)), some (21, true)⟩,
  ⟨some 25, .op (.load none (.tmp 24)), some (21, true)⟩,
  ⟨some 26, .op (.mv (.tmp 0)), some (21, true)⟩,
  ⟨some 27, .op (.lenStr (.tmp 26)), some (21, true)⟩,
  ⟨some 28, .op (.bin .lss .scalar (.tmp 25) (.tmp 27)), some (21, true)⟩,
  ⟨some 29, .op (.pick (.tmp 21) (.tmp 28) (.const (.bool false))), none⟩]) (.cond (.tmp 29) (.region [⟨some 30, .op (.mv (.tmp 5)), none⟩,
  ⟨some 31, .call f_milestoneref4_reader_fail [(.tmp 30), (.const (.int .i64 3))], none⟩]) .skip)) (.lab milestoneref4_Parse_c1)))))⟩
noncomputable def milestoneref4_Parse_b1 (T : Tab) (k : Nat) (t2 r5 n6 : AV) (h : Heap) : Option (AV × Heap) :=
  evB T k milestoneref4_Parse_rs milestoneref4_Parse_c1 [] [.undef, .undef, t2, .undef, .undef, r5, n6, .undef, .undef, .undef, .undef, .undef, .undef, .undef, .undef, .undef, .undef, .undef, .undef, .undef, .undef, .undef, .undef, .undef, .undef, .undef, .undef, .undef, .undef, .undef, .undef, .undef, .undef, .undef, .undef, .undef, .undef, .undef, .undef, .undef, .undef, .undef, .undef, .undef, .undef, .undef, .undef] h
theorem milestoneref4_Parse_b1_eq (T : Tab) (k : Nat) (t2 r5 n6 : AV) (h : Heap) : milestoneref4_Parse_b1 T k t2 r5 n6 h =
    oa (nilCk r5) fun t33_1 =>
    oa (fldA 3 t33_1) fun t34_2 =>
    oa (ld1 h t34_2) fun t35_3 =>
    oa (binV .neq .scalar t35_3 (.int .i64 0)) fun t36_4 =>
    cond2 t36_4
      (
      oa (buildV [.int .i64 0, .int .i64 0, .int .i64 0, .int .i64 0, .nils] []) fun t47_5 =>
      oa (nilCk r5) fun t49_6 =>
      oa (fldA 1 t49_6) fun t50_7 =>
      oa (ld1 h t50_7) fun t51_8 =>
      oa (nilCk r5) fun t53_9 =>
      oa (fldA 3 t53_9) fun t54_10 =>
      oa (ld1 h t54_10) fun t55_11 =>
      oh (stN 5 h t2 t47_5) fun h_12 =>
      chk ((sameB (pure1 h_12 (ld1 h_12 t50_7)) t51_8 && (sameB (pure1 h_12 (ld1 h_12 t54_10)) t55_11 && true))) <|
      oa (ldN 5 h_12 t2) fun t2_13 =>
      some (.tup [t2_13, t51_8, t55_11], h_12)
      )
      (
      oa (ldN 5 h n6) fun t46_14 =>
      oh (stN 5 h t2 t46_14) fun h_15 =>
      oa (ldN 5 h_15 t2) fun t2_16 =>
      some (.tup [t2_16, (.int .i64 0), (.int .i64 0)], h_15)
      ) := blockEq (by kernel_rfl)
theorem milestoneref4_Parse_eq (T : Tab) (k : Nat) (s0 : AV) (h : Heap) : runF T k milestoneref4_Parse_mf [s0] h =
    ob (newVar h [.int .i64 0, .int .i64 0, .int .i64 0, .int .i64 0, .nils]) fun t2_1 h_2 =>
    oa (lenB s0) fun t8_3 =>
    oa (binV .gtr .scalar t8_3 (.int .i64 200)) fun t9_4 =>
    cond2 t9_4
      (
      oa (buildV [.int .i64 0, .int .i64 0, .int .i64 0, .int .i64 0, .nils] []) fun t10_5 =>
      oh (stN 5 h_2 t2_1 t10_5) fun h_6 =>
      oa (ldN 5 h_6 t2_1) fun t2_7 =>
      some (.tup [t2_7, (.int .i64 0), (.int .i64 4)], h_6)
      )
      (
      oa (buildV [.str ⟨#[]⟩, .int .i64 0, .int .i64 0, .int .i64 0] [(0, 1, s0)]) fun t12_8 =>
      ob (newVar h_2 (AV.cells t12_8)) fun t13_9 h_10 =>
      ob (evalFn T k f_milestoneref4_reader_union [t13_9] h_10) fun t15_11 h_12 =>
      ob (newVar h_12 [.int .i64 0, .int .i64 0, .int .i64 0, .int .i64 0, .nils]) fun n6_13 h_14 =>
      oh (stN 5 h_14 n6_13 t15_11) fun h_15 =>
      oa (nilCk t13_9) fun t17_16 =>
      oa (fldA 3 t17_16) fun t18_17 =>
      oa (ld1 h_15 t18_17) fun t19_18 =>
      oa (binV .eql .scalar t19_18 (.int .i64 0)) fun t20_19 =>
      ob (gd t20_19 true (some (t13_9, h_15)) h_15) fun t22_20 h_21 =>
      ob (gd t20_19 true (pure1 h_21 (nilCk t22_20)) h_21) fun t23_22 h_23 =>
      ob (gd t20_19 true (pure1 h_23 (fldA 1 t23_22)) h_23) fun t24_24 h_25 =>
      ob (gd t20_19 true (pure1 h_25 (ld1 h_25 t24_24)) h_25) fun t25_26 h_27 =>
      ob (gd t20_19 true (some (s0, h_27)) h_27) fun t26_28 h_29 =>
      ob (gd t20_19 true (pure1 h_29 (lenB t26_28)) h_29) fun t27_30 h_31 =>
      ob (gd t20_19 true (pure1 h_31 (binV .lss .scalar t25_26 t27_30)) h_31) fun t28_32 h_33 =>
      oa (pickV t20_19 t28_32 (.bool false)) fun t29_34 =>
      cond2 t29_34
        (
        ob (evalFn T k f_milestoneref4_reader_fail [t13_9, (.int .i64 3)] h_33) fun t31_35 h_36 =>
        milestoneref4_Parse_b1 T k t2_1 t13_9 n6_13 h_36
        )
        (
        milestoneref4_Parse_b1 T k t2_1 t13_9 n6_13 h_33
        )
      ) := runEq (by kernel_rfl)
def milestonelaw4_within_rs : Res := [(4, none)]
noncomputable def milestonelaw4_within_mf : MFn := ⟨15, milestonelaw4_within_rs, .seq [4] (.region [⟨some 4, .op (.mv (.const (.int .i64 0))), none⟩]) (.seq [0, 6, 7, 8] (.region [⟨some 6, .op (.mv (.tmp 0)), none⟩,
  ⟨some 7, .op (.mv (.tmp 1)), none⟩,
  ⟨some 8, .op (.bin .rem .scalar (.tmp 6) (.tmp 7)), none⟩,
  ⟨some 5, .op (.mv (.tmp 8)), none⟩]) (.seq [1, 10, 11, 12, 13] (.seq [9] (.region [⟨some 9, .op (.mv (.tmp 5)), none⟩,
  ⟨some 10, .op (.bin .lss .scalar (.tmp 9) (.const (.int .i64 0))), none⟩]) (.cond (.tmp 10) (.region [⟨some 11, .op (.mv (.tmp 5)), none⟩,
  ⟨some 12, .op (.mv (.tmp 1)), none⟩,
  ⟨some 13, .op (.bin .add .scalar (.tmp 11) (.tmp 12)), none⟩,
  ⟨some 5, .op (.mv (.tmp 13)), none⟩]) .skip)) (.seq [5, 14] (.region [⟨some 14, .op (.mv (.tmp 5)), none⟩,
  ⟨some 4, .op (.mv (.tmp 14)), none⟩]) .ret)))⟩
theorem milestonelaw4_within_eq (T : Tab) (k : Nat) (at0 n1 : AV) (h : Heap) : runF T k milestonelaw4_within_mf [at0, n1] h =
    oa (binV .rem .scalar at0 n1) fun t8_1 =>
    oa (binV .lss .scalar t8_1 (.int .i64 0)) fun t10_2 =>
    cond2 t10_2
      (
      oa (binV .add .scalar t8_1 n1) fun t13_3 =>
      some (t13_3, h)
      )
      (
      some (t8_1, h)
      ) := runEq (by kernel_rfl)
def milestonelaw4_Raw_part_rs : Res := [(4, some (some 5))]
noncomputable def milestonelaw4_Raw_part_mf : MFn := ⟨24, milestonelaw4_Raw_part_rs, .seq [0] (.region [⟨some 2, .op (.box (.tmp 0)), none⟩,
  ⟨some 4, .op (.alloc [.int .i64 0, .int .i64 0, .int .i64 0, .int .i64 0, .nils]), none⟩]) (.seq [9] (.seq [5, 6, 7, 8] (.region [⟨some 5, .op (.mv (.tmp 1)), none⟩,
  ⟨some 6, .op (.fieldAddr 2 (.tmp 2)), none⟩,
  ⟨some 7, .op (.load none (.tmp 6)), none⟩,
  ⟨some 8, .op (.lenSl (.tmp 7)), none⟩,
  ⟨some 9, .op (.bin .lss .scalar (.tmp 5) (.tmp 8)), none⟩]) (.cond (.tmp 9) (.seq [1, 2, 9, 10, 11, 12, 13, 14, 15] (.region [⟨some 10, .op (.fieldAddr 2 (.tmp 2)), none⟩,
  ⟨some 11, .op (.load none (.tmp 10)), none⟩,
  ⟨some 12, .op (.mv (.tmp 1)), none⟩,
  ⟨some 13, .op (.idxSl 3 (.tmp 11) (.tmp 12)), none⟩,
  ⟨some 14, .op (.load (some 3) (.tmp 13)), none⟩,
  ⟨some 15, .call f_milestonelaw4_Raw_Make [(.tmp 14)], none⟩,
  ⟨none, .op (.store 5 (.tmp 4) (.tmp 15)), none⟩]) .ret) .skip)) (.seq [1, 2, 16, 17, 18, 19, 20, 21, 22, 23] (.region [⟨some 16, .op (.fieldAddr 1 (.tmp 2)), none⟩,
  ⟨some 17, .op (.load none (.tmp 16)), none⟩,
  ⟨some 18, .op (.mv (.tmp 1)), none⟩,
  ⟨some 19, .op (.bin .add .scalar (.tmp 17) (.tmp 18)), none⟩,
  ⟨some 20, .call f_milestonelaw4_within [(.tmp 19), (.const (.int .i64 5))], none⟩,
  ⟨some 21, .op (.convI .u64 (.tmp 20)), none⟩,
  ⟨some 22, .op (.bin .shl .scalar (.const (.int .i64 1)) (.tmp 21)), none⟩,
  ⟨some 23, .op (.build [.int .i64 0, .int .i64 0, .int .i64 0, .int .i64 0, .nils] [(0, 1, (.const (.int .i64 1))), (1, 1, (.tmp 22))]), none⟩,
  ⟨none, .op (.store 5 (.tmp 4) (.tmp 23)), none⟩]) .ret))⟩
theorem milestonelaw4_Raw_part_eq (T : Tab) (k : Nat) (r0 i1 : AV) (h : Heap) : runF T k milestonelaw4_Raw_part_mf [r0, i1] h =
    ob (newVar h (AV.cells r0)) fun r2_1 h_2 =>
    ob (newVar h_2 [.int .i64 0, .int .i64 0, .int .i64 0, .int .i64 0, .nils]) fun t4_3 h_4 =>
    oa (fldA 2 r2_1) fun t6_5 =>
    oa (ld1 h_4 t6_5) fun t7_6 =>
    oa (lenS t7_6) fun t8_7 =>
    oa (binV .lss .scalar i1 t8_7) fun t9_8 =>
    cond2 t9_8
      (
      oa (fldA 2 r2_1) fun t10_9 =>
      oa (ld1 h_4 t10_9) fun t11_10 =>
      oa (idxS 3 t11_10 i1) fun t13_11 =>
      oa (ldN 3 h_4 t13_11) fun t14_12 =>
      ob (evalFn T k f_milestonelaw4_Raw_Make [t14_12] h_4) fun t15_13 h_14 =>
      oh (stN 5 h_14 t4_3 t15_13) fun h_15 =>
      oa (ldN 5 h_15 t4_3) fun t4_16 =>
      some (t4_16, h_15)
      )
      (
      oa (fldA 1 r2_1) fun t16_17 =>
      oa (ld1 h_4 t16_17) fun t17_18 =>
      oa (binV .add .scalar t17_18 i1) fun t19_19 =>
      ob (evalFn T k f_milestonelaw4_within [t19_19, (.int .i64 5)] h_4) fun t20_20 h_21 =>
      oa (convV .u64 t20_20) fun t21_22 =>
      oa (binV .shl .scalar (.int .i64 1) t21_22) fun t22_23 =>
      oa (buildV [.int .i64 0, .int .i64 0, .int .i64 0, .int .i64 0, .nils] [(0, 1, (.int .i64 1)), (1, 1, t22_23)]) fun t23_24 =>
      oh (stN 5 h_21 t4_3 t23_24) fun h_25 =>
      oa (ldN 5 h_25 t4_3) fun t4_26 =>
      some (t4_26, h_25)
      ) := runEq (by kernel_rfl)
noncomputable def match_matcher_step_c1 : MCode := .seq [] (.region [⟨some 15, .op (.bin .lss .scalar (.tmp 14) (.tmp 13)), none⟩]) (.seq [15] (.cond (.tmp 15) .skip (.exit 0)) (.seq [8, 19, 20, 21, 22, 23, 24, 25, 26] (.block 1 (.seq [16, 17, 18] (.region [⟨some 16, .op (.mv (.tmp 14)), none⟩,
  ⟨some 17, .op (.idxSl 1 (.tmp 12) (.tmp 14)), none⟩,
  ⟨some 18, .op (.load none (.tmp 17)), none⟩,
  ⟨some 8, .op (.mv (.tmp 16)), none⟩,
  ⟨some 9, .op (.mv (.tmp 18)), none⟩]) (.seq [9] (.region [⟨some 19, .op (.mv (.tmp 9)), none⟩]) (.cond (.tmp 19) (.region [⟨some 20, .op (.mv (.tmp 7)), none⟩,
  ⟨some 21, .op (.mv (.tmp 0)), none⟩,
  ⟨some 22, .op (.mv (.tmp 1)), none⟩,
  ⟨some 23, .op (.mv (.tmp 8)), none⟩,
  ⟨some 24, .call f_match_matcher_ends [(.tmp 21), (.tmp 22), (.tmp 23)], none⟩,
  ⟨some 25, .op (.buildSlice 1 1 [.nils] [(0, 1, (.tmp 24))]), none⟩,
  ⟨some 26, .call f_match_together [(.tmp 20), (.tmp 25)], none⟩]) .skip)))) (.region [⟨some 27, .op (.bin .add .scalar (.tmp 14) (.const (.int .i64 1))), none⟩,
  ⟨some 14, .op (.mv (.tmp 27)), none⟩])))
def match_matcher_step_rs : Res := [(6, none)]
noncomputable def match_matcher_step_mf : MFn := ⟨29, match_matcher_step_rs, .seq [6] (.region [⟨some 6, .op (.mv (.const .nils)), none⟩]) (.seq [10, 11] (.region [⟨some 10, .op (.mv (.tmp 0)), none⟩,
  ⟨some 11, .call f_match_matcher_none [(.tmp 10)], none⟩,
  ⟨some 7, .op (.mv (.tmp 11)), none⟩]) (.seq [0, 1, 12, 13, 14, 15] (.seq [2] (.region [⟨some 12, .op (.mv (.tmp 2)), none⟩,
  ⟨some 13, .op (.lenSl (.tmp 12)), none⟩,
  ⟨some 14, .op (.mv (.const (.int .i64 0))), none⟩]) (.block 0 (.loop [27] match_matcher_step_c1))) (.seq [7, 28] (.region [⟨some 28, .op (.mv (.tmp 7)), none⟩,
  ⟨some 6, .op (.mv (.tmp 28)), none⟩]) .ret)))⟩
noncomputable def match_matcher_step_l1 (T : Tab) (k j0 : Nat) (m0 k1 out7 t12 t13 t14 : AV) (h : Heap) : Option (AV × Heap) :=
  loopB T k match_matcher_step_rs j0 [27] match_matcher_step_c1 [.blk 0, .seq [0, 1, 12, 13, 14, 15] (.seq [7, 28] (.region [⟨some 28, .op (.mv (.tmp 7)), none⟩,
  ⟨some 6, .op (.mv (.tmp 28)), none⟩]) .ret)] [m0, k1, .undef, .undef, .undef, .undef, .undef, out7, .undef, .undef, .undef, .undef, t12, t13, t14, .undef, .undef, .undef, .undef, .undef, .undef, .undef, .undef, .undef, .undef, .undef, .undef, .undef, .undef] h
theorem match_matcher_step_l1_eq (T : Tab) (k j0 : Nat) (m0 k1 out7 t12 t13 t14 : AV) (h : Heap) : match_matcher_step_l1 T k (j0 + 1) m0 k1 out7 t12 t13 t14 h =
    oa (binV .lss .scalar t14 t13) fun t15_1 =>
    cond2 t15_1
      (
      oa (idxS 1 t12 t14) fun t17_2 =>
      oa (ld1 h t17_2) fun t18_3 =>
      cond2 t18_3
        (
        ob (evalFn T k f_match_matcher_ends [m0, k1, t14] h) fun t24_4 h_5 =>
        ob (buildSl 1 1 [.nils] [(0, 1, t24_4)] h_5) fun t25_6 h_7 =>
        ob (evalFn T k f_match_together [out7, t25_6] h_7) fun t26_8 h_9 =>
        oa (binV .add .scalar t14 (.int .i64 1)) fun t27_10 =>
        match_matcher_step_l1 T k j0 m0 k1 out7 t12 t13 t27_10 h_9
        )
        (
        oa (binV .add .scalar t14 (.int .i64 1)) fun t27_11 =>
        match_matcher_step_l1 T k j0 m0 k1 out7 t12 t13 t27_11 h
        )
      )
      (
      some (out7, h)
      ) := loopEq (by kernel_rfl)
theorem match_matcher_step_eq (T : Tab) (k : Nat) (m0 k1 from2 : AV) (h : Heap) : runF T k match_matcher_step_mf [m0, k1, from2] h =
    ob (evalFn T k f_match_matcher_none [m0] h) fun t11_1 h_2 =>
    oa (lenS from2) fun t13_3 =>
    match_matcher_step_l1 T k k m0 k1 t11_1 from2 t13_3 (.int .i64 0) h_2 := runEq (by kernel_rfl)
def match_matcher_none_rs : Res := [(2, none)]
noncomputable def match_matcher_none_mf : MFn := ⟨10, match_matcher_none_rs, .seq [2] (.region [⟨some 2, .op (.mv (.const .nils)), none⟩]) (.seq [0, 3, 4, 5, 6, 7, 8, 9] (.region [⟨some 3, .op (.mv (.tmp 0)), none⟩,
  ⟨some 4, .op (.nilCheck (.tmp 3)), none⟩,
  ⟨some 5, .op (.fieldAddr 1 (.tmp 4)), none⟩,
  ⟨some 6, .op (.load none (.tmp 5)), none⟩,
  ⟨some 7, .op (.lenSl (.tmp 6)), none⟩,
  ⟨some 8, .op (.bin .add .scalar (.tmp 7) (.const (.int .i64 1))), none⟩,
  ⟨some 9, .op (.mkSlice [.bool false] 1 1 (.tmp 8) (.tmp 8)), none⟩,
  ⟨some 2, .op (.mv (.tmp 9)), none⟩]) .ret)⟩
theorem match_matcher_none_eq (T : Tab) (k : Nat) (m0 : AV) (h : Heap) : runF T k match_matcher_none_mf [m0] h =
    oa (nilCk m0) fun t4_1 =>
    oa (fldA 1 t4_1) fun t5_2 =>
    oa (ld1 h t5_2) fun t6_3 =>
    oa (lenS t6_3) fun t7_4 =>
    oa (binV .add .scalar t7_4 (.int .i64 1)) fun t8_5 =>
    ob (mkSl [.bool false] 1 1 t8_5 t8_5 h) fun t9_6 h_7 =>
    some (t9_6, h_7) := runEq (by kernel_rfl)
noncomputable def match_together_c1 : MCode := .seq [] (.region [⟨some 19, .op (.bin .lss .scalar (.tmp 18) (.tmp 17)), none⟩]) (.seq [19] (.cond (.tmp 19) .skip (.exit 2)) (.seq [8, 30, 31, 32, 33] (.block 3 (.seq [20, 21, 22] (.region [⟨some 20, .op (.mv (.tmp 18)), none⟩,
  ⟨some 21, .op (.idxSl 1 (.tmp 16) (.tmp 18)), none⟩,
  ⟨some 22, .op (.load none (.tmp 21)), none⟩,
  ⟨some 8, .op (.mv (.tmp 20)), none⟩,
  ⟨some 9, .op (.mv (.tmp 22)), none⟩]) (.seq [9, 23, 24, 25, 26, 27, 28, 29] (.region [⟨some 23, .op (.mv (.tmp 9)), none⟩,
  ⟨some 24, .op (.mv (.tmp 23)), none⟩,
  ⟨some 25, .op (.mv (.tmp 0)), some (24, true)⟩,
  ⟨some 26, .op (.mv (.tmp 8)), some (24, true)⟩,
  ⟨some 27, .op (.idxSl 1 (.tmp 25) (.tmp 26)), some (24, true)⟩,
  ⟨some 28, .op (.load none (.tmp 27)), some (24, true)⟩,
  ⟨some 29, .op (.un .not (.tmp 28)), some (24, true)⟩,
  ⟨some 30, .op (.pick (.tmp 24) (.tmp 29) (.const (.bool false))), none⟩]) (.cond (.tmp 30) (.region [⟨some 31, .op (.mv (.tmp 0)), none⟩,
  ⟨some 32, .op (.mv (.tmp 8)), none⟩,
  ⟨some 33, .op (.idxSl 1 (.tmp 31) (.tmp 32)), none⟩,
  ⟨none, .op (.store 1 (.tmp 33) (.const (.bool true))), none⟩,
  ⟨some 5, .op (.mv (.const (.bool true))), none⟩]) .skip)))) (.region [⟨some 34, .op (.bin .add .scalar (.tmp 18) (.const (.int .i64 1))), none⟩,
  ⟨some 18, .op (.mv (.tmp 34)), none⟩])))
noncomputable def match_together_c2 : MCode := .seq [] (.region [⟨some 13, .op (.bin .lss .scalar (.tmp 12) (.tmp 11)), none⟩]) (.seq [13] (.cond (.tmp 13) .skip (.exit 0)) (.seq [16, 17, 18, 19] (.block 1 (.seq [14, 15] (.region [⟨some 14, .op (.idxSl 1 (.tmp 10) (.tmp 12)), none⟩,
  ⟨some 15, .op (.load none (.tmp 14)), none⟩,
  ⟨some 7, .op (.mv (.tmp 15)), none⟩]) (.seq [7] (.region [⟨some 16, .op (.mv (.tmp 7)), none⟩,
  ⟨some 17, .op (.lenSl (.tmp 16)), none⟩,
  ⟨some 18, .op (.mv (.const (.int .i64 0))), none⟩]) (.block 2 (.loop [34] match_together_c1))))) (.region [⟨some 35, .op (.bin .add .scalar (.tmp 12) (.const (.int .i64 1))), none⟩,
  ⟨some 12, .op (.mv (.tmp 35)), none⟩])))
def match_together_rs : Res := [(4, none)]
noncomputable def match_together_mf : MFn := ⟨37, match_together_rs, .seq [4] (.region [⟨some 4, .op (.mv (.const (.bool false))), none⟩]) (.seq [] (.region [⟨some 5, .op (.mv (.const (.bool false))), none⟩]) (.seq [0, 10, 11, 12, 13] (.seq [1] (.region [⟨some 10, .op (.mv (.tmp 1)), none⟩,
  ⟨some 11, .op (.lenSl (.tmp 10)), none⟩,
  ⟨some 12, .op (.mv (.const (.int .i64 0))), none⟩]) (.block 0 (.loop [35] match_together_c2))) (.seq [5, 36] (.region [⟨some 36, .op (.mv (.tmp 5)), none⟩,
  ⟨some 4, .op (.mv (.tmp 36)), none⟩]) .ret)))⟩
noncomputable def match_together_l1 (T : Tab) (k j0 : Nat) (to0 is5 t10 t11 t12 : AV) (h : Heap) : Option (AV × Heap) :=
  loopB T k match_together_rs j0 [35] match_together_c2 [.blk 0, .seq [0, 10, 11, 12, 13] (.seq [5, 36] (.region [⟨some 36, .op (.mv (.tmp 5)), none⟩,
  ⟨some 4, .op (.mv (.tmp 36)), none⟩]) .ret)] [to0, .undef, .undef, .undef, .undef, is5, .undef, .undef, .undef, .undef, t10, t11, t12, .undef, .undef, .undef, .undef, .undef, .undef, .undef, .undef, .undef, .undef, .undef, .undef, .undef, .undef, .undef, .undef, .undef, .undef, .undef, .undef, .undef, .undef, .undef, .undef] h
noncomputable def match_together_l2 (T : Tab) (k j0 j1 : Nat) (to0 is5 t10 t11 t12 t16 t17 t18 : AV) (h : Heap) : Option (AV × Heap) :=
  loopB T k match_together_rs j1 [34] match_together_c1 [.blk 2, .blk 1, .seq [16, 17, 18, 19] (.region [⟨some 35, .op (.bin .add .scalar (.tmp 12) (.const (.int .i64 1))), none⟩,
  ⟨some 12, .op (.mv (.tmp 35)), none⟩]), .lp j0 [35] match_together_c2, .blk 0, .seq [0, 10, 11, 12, 13] (.seq [5, 36] (.region [⟨some 36, .op (.mv (.tmp 5)), none⟩,
  ⟨some 4, .op (.mv (.tmp 36)), none⟩]) .ret)] [to0, .undef, .undef, .undef, .undef, is5, .undef, .undef, .undef, .undef, t10, t11, t12, .undef, .undef, .undef, t16, t17, t18, .undef, .undef, .undef, .undef, .undef, .undef, .undef, .undef, .undef, .undef, .undef, .undef, .undef, .undef, .undef, .undef, .undef, .undef] h
theorem match_together_l2_eq (T : Tab) (k j0 j1 : Nat) (to0 is5 t10 t11 t12 t16 t17 t18 : AV) (h : Heap) : match_together_l2 T k j0 (j1 + 1) to0 is5 t10 t11 t12 t16 t17 t18 h =
    oa (binV .lss .scalar t18 t17) fun t19_1 =>
    cond2 t19_1
      (
      oa (idxS 1 t16 t18) fun t21_2 =>
      oa (ld1 h t21_2) fun t22_3 =>
      ob (gd t22_3 true (some (to0, h)) h) fun t25_4 h_5 =>
      ob (gd t22_3 true (some (t18, h_5)) h_5) fun t26_6 h_7 =>
      ob (gd t22_3 true (pure1 h_7 (idxS 1 t25_4 t26_6)) h_7) fun t27_8 h_9 =>
      ob (gd t22_3 true (pure1 h_9 (ld1 h_9 t27_8)) h_9) fun t28_10 h_11 =>
      ob (gd t22_3 true (pure1 h_11 (unV .not t28_10)) h_11) fun t29_12 h_13 =>
      oa (pickV t22_3 t29_12 (.bool false)) fun t30_14 =>
      cond2 t30_14
        (
        oa (idxS 1 to0 t18) fun t33_15 =>
        oh (stN 1 h_13 t33_15 (.bool true)) fun h_16 =>
        oa (binV .add .scalar t18 (.int .i64 1)) fun t34_17 =>
        match_together_l2 T k j0 j1 to0 (.bool true) t10 t11 t12 t16 t17 t34_17 h_16
        )
        (
        oa (binV .add .scalar t18 (.int .i64 1)) fun t34_18 =>
        match_together_l2 T k j0 j1 to0 is5 t10 t11 t12 t16 t17 t34_18 h_13
        )
      )
      (
      oa (binV .add .scalar t12 (.int .i64 1)) fun t35_19 =>
      match_together_l1 T k j0 to0 is5 t10 t11 t35_19 h
      ) := loopEq (by kernel_rfl)
theorem match_together_l1_eq (T : Tab) (k j0 : Nat) (to0 is5 t10 t11 t12 : AV) (h : Heap) : match_together_l1 T k (j0 + 1) to0 is5 t10 t11 t12 h =
    oa (binV .lss .scalar t12 t11) fun t13_1 =>
    cond2 t13_1
      (
      oa (idxS 1 t10 t12) fun t14_2 =>
      oa (ld1 h t14_2) fun t15_3 =>
      oa (lenS t15_3) fun t17_4 =>
      match_together_l2 T k j0 k to0 is5 t10 t11 t12 t15_3 t17_4 (.int .i64 0) h
      )
      (
      some (is5, h)
      ) := loopEq (by kernel_rfl)
theorem match_together_eq (T : Tab) (k : Nat) (to0 more1 : AV) (h : Heap) : runF T k match_together_mf [to0, more1] h =
    oa (lenS more1) fun t11_1 =>
    match_together_l1 T k k to0 (.bool false) more1 t11_1 (.int .i64 0) h := runEq (by kernel_rfl)
noncomputable def match_matcher_again_c1 : MCode := .seq [16] (.seq [10, 11, 12, 13, 14, 15] (.region [⟨some 10, .op (.mv (.tmp 7)), none⟩,
  ⟨some 11, .op (.mv (.tmp 0)), none⟩,
  ⟨some 12, .op (.mv (.tmp 1)), none⟩,
  ⟨some 13, .op (.mv (.tmp 7)), none⟩,
  ⟨some 14, .call f_match_matcher_step [(.tmp 11), (.tmp 12), (.tmp 13)], none⟩,
  ⟨some 15, .op (.buildSlice 1 1 [.nils] [(0, 1, (.tmp 14))]), none⟩,
  ⟨some 16, .call f_match_together [(.tmp 10), (.tmp 15)], none⟩]) (.cond (.tmp 16) .skip (.exit 0))) (.block 1 .skip)
def match_matcher_again_rs : Res := [(6, none)]
noncomputable def match_matcher_again_mf : MFn := ⟨18, match_matcher_again_rs, .seq [6] (.region [⟨some 6, .op (.mv (.const .nils)), none⟩]) (.seq [2, 8, 9] (.region [⟨some 8, .op (.mv (.tmp 2)), none⟩,
  ⟨some 9, .call f_slices_Clone_bool [(.tmp 8)], none⟩,
  ⟨some 7, .op (.mv (.tmp 9)), none⟩]) (.seq [0, 1, 16] (.block 0 (.loop [] match_matcher_again_c1)) (.seq [7, 17] (.region [⟨some 17, .op (.mv (.tmp 7)), none⟩,
  ⟨some 6, .op (.mv (.tmp 17)), none⟩]) .ret)))⟩
noncomputable def match_matcher_again_l1 (T : Tab) (k j0 : Nat) (m0 k1 out7 : AV) (h : Heap) : Option (AV × Heap) :=
  loopB T k match_matcher_again_rs j0 [] match_matcher_again_c1 [.blk 0, .seq [0, 1, 16] (.seq [7, 17] (.region [⟨some 17, .op (.mv (.tmp 7)), none⟩,
  ⟨some 6, .op (.mv (.tmp 17)), none⟩]) .ret)] [m0, k1, .undef, .undef, .undef, .undef, .undef, out7, .undef, .undef, .undef, .undef, .undef, .undef, .undef, .undef, .undef, .undef] h
theorem match_matcher_again_l1_eq (T : Tab) (k j0 : Nat) (m0 k1 out7 : AV) (h : Heap) : match_matcher_again_l1 T k (j0 + 1) m0 k1 out7 h =
    ob (evalFn T k f_match_matcher_step [m0, k1, out7] h) fun t14_1 h_2 =>
    ob (buildSl 1 1 [.nils] [(0, 1, t14_1)] h_2) fun t15_3 h_4 =>
    ob (evalFn T k f_match_together [out7, t15_3] h_4) fun t16_5 h_6 =>
    cond2 t16_5
      (
      match_matcher_again_l1 T k j0 m0 k1 out7 h_6
      )
      (
      some (out7, h_6)
      ) := loopEq (by kernel_rfl)
theorem match_matcher_again_eq (T : Tab) (k : Nat) (m0 k1 from2 : AV) (h : Heap) : runF T k match_matcher_again_mf [m0, k1, from2] h =
    ob (evalFn T k f_slices_Clone_bool [from2] h) fun t9_1 h_2 =>
    match_matcher_again_l1 T k k m0 k1 t9_1 h_2 := runEq (by kernel_rfl)
noncomputable def milestoneref5_both_c1 : MCode := .seq [15] (.seq [12, 13, 14] (.region [⟨some 12, .op (.mv (.tmp 8)), none⟩,
  ⟨some 13, .op (.mv (.tmp 1)), none⟩,
  ⟨some 14, .op (.lenSl (.tmp 13)), none⟩,
  ⟨some 15, .op (.bin .lss .scalar (.tmp 12) (.tmp 14)), none⟩]) (.cond (.tmp 15) .skip (.exit 0))) (.seq [28, 29, 30, 31] (.block 1 (.seq [18, 19, 20, 21, 22, 23, 24, 25, 26, 27] (.region [⟨some 18, .op (.mv (.tmp 1)), none⟩,
  ⟨some 19, .op (.mv (.tmp 8)), none⟩,
  ⟨some 20, .op (.idxSl 1 (.tmp 18) (.tmp 19)), none⟩,
  ⟨some 21, .op (.load none (.tmp 20)), none⟩,
  ⟨some 22, .op (.mv (.tmp 21)), none⟩,
  ⟨some 23, .op (.mv (.tmp 6)), some (22, true)⟩,
  ⟨some 24, .op (.mv (.tmp 8)), some (22, true)⟩,
  ⟨some 25, .op (.idxSl 1 (.tmp 23) (.tmp 24)), some (22, true)⟩,
  ⟨some 26, .op (.load none (.tmp 25)), some (22, true)⟩,
  ⟨some 27, .op (.un .not (.tmp 26)), some (22, true)⟩,
  ⟨some 28, .op (.pick (.tmp 22) (.tmp 27) (.const (.bool false))), none⟩]) (.cond (.tmp 28) (.region [⟨some 29, .op (.mv (.tmp 6)), none⟩,
  ⟨some 30, .op (.mv (.tmp 8)), none⟩,
  ⟨some 31, .op (.idxSl 1 (.tmp 29) (.tmp 30)), none⟩,
  ⟨none, .op (.store 1 (.tmp 31) (.const (.bool true))), none⟩,
  ⟨some 7, .op (.mv (.const (.bool true))), none⟩]) .skip))) (.region [⟨some 16, .op (.mv (.tmp 8)), none⟩,
  ⟨some 17, .op (.bin .add .scalar (.tmp 16) (.const (.int .i64 1))), none⟩,
  ⟨some 8, .op (.mv (.tmp 17)), none⟩]))
noncomputable def milestoneref5_both_c2 : MCode := .seq [6, 7, 32, 33] (.region [⟨some 32, .op (.mv (.tmp 6)), none⟩,
  ⟨some 33, .op (.mv (.tmp 7)), none⟩,
  ⟨some 4, .op (.mv (.tmp 32)), none⟩,
  ⟨some 5, .op (.mv (.tmp 33)), none⟩]) .ret
def milestoneref5_both_rs : Res := [(4, none), (5, none)]
noncomputable def milestoneref5_both_mf : MFn := ⟨34, milestoneref5_both_rs, .seq [4, 5] (.region [⟨some 4, .op (.mv (.const .nils)), none⟩,
  ⟨some 5, .op (.mv (.const (.bool false))), none⟩]) (.seq [0, 9, 10, 11] (.region [⟨some 9, .op (.buildSlice 1 0 [] []), none⟩,
  ⟨some 10, .op (.mv (.tmp 0)), none⟩,
  ⟨some 11, .op (.append 1 1 (.tmp 9) (.tmp 10)), none⟩,
  ⟨some 6, .op (.mv (.tmp 11)), none⟩]) (.seq [] (.region [⟨some 7, .op (.mv (.const (.bool false))), none⟩]) (.seq [1, 8, 15] (.seq [] (.region [⟨some 8, .op (.mv (.const (.int .i64 0))), none⟩]) (.block 0 (.loop [16, 17] milestoneref5_both_c1))) (.lab milestoneref5_both_c2))))⟩
noncomputable def milestoneref5_both_l1 (T : Tab) (k j0 : Nat) (b1 out6 more7 i8 : AV) (h : Heap) : Option (AV × Heap) :=
  loopB T k milestoneref5_both_rs j0 [16, 17] milestoneref5_both_c1 [.blk 0, .seq [1, 8, 15] (.lab milestoneref5_both_c2)] [.undef, b1, .undef, .undef, .undef, .undef, out6, more7, i8, .undef, .undef, .undef, .undef, .undef, .undef, .undef, .undef, .undef, .undef, .undef, .undef, .undef, .undef, .undef, .undef, .undef, .undef, .undef, .undef, .undef, .undef, .undef, .undef, .undef] h
noncomputable def milestoneref5_both_b2 (T : Tab) (k : Nat) (out6 more7 : AV) (h : Heap) : Option (AV × Heap) :=
  evB T k milestoneref5_both_rs milestoneref5_both_c2 [] [.undef, .undef, .undef, .undef, .undef, .undef, out6, more7, .undef, .undef, .undef, .undef, .undef, .undef, .undef, .undef, .undef, .undef, .undef, .undef, .undef, .undef, .undef, .undef, .undef, .undef, .undef, .undef, .undef, .undef, .undef, .undef, .undef, .undef] h
theorem milestoneref5_both_b2_eq (T : Tab) (k : Nat) (out6 more7 : AV) (h : Heap) : milestoneref5_both_b2 T k out6 more7 h =
    some (.tup [out6, more7], h) := blockEq (by kernel_rfl)
theorem milestoneref5_both_l1_eq (T : Tab) (k j0 : Nat) (b1 out6 more7 i8 : AV) (h : Heap) : milestoneref5_both_l1 T k (j0 + 1) b1 out6 more7 i8 h =
    oa (lenS b1) fun t14_1 =>
    oa (binV .lss .scalar i8 t14_1) fun t15_2 =>
    cond2 t15_2
      (
      oa (idxS 1 b1 i8) fun t20_3 =>
      oa (ld1 h t20_3) fun t21_4 =>
      ob (gd t21_4 true (some (out6, h)) h) fun t23_5 h_6 =>
      ob (gd t21_4 true (some (i8, h_6)) h_6) fun t24_7 h_8 =>
      ob (gd t21_4 true (pure1 h_8 (idxS 1 t23_5 t24_7)) h_8) fun t25_9 h_10 =>
      ob (gd t21_4 true (pure1 h_10 (ld1 h_10 t25_9)) h_10) fun t26_11 h_12 =>
      ob (gd t21_4 true (pure1 h_12 (unV .not t26_11)) h_12) fun t27_13 h_14 =>
      oa (pickV t21_4 t27_13 (.bool false)) fun t28_15 =>
      cond2 t28_15
        (
        oa (idxS 1 out6 i8) fun t31_16 =>
        oh (stN 1 h_14 t31_16 (.bool true)) fun h_17 =>
        oa (binV .add .scalar i8 (.int .i64 1)) fun t17_18 =>
        milestoneref5_both_l1 T k j0 b1 out6 (.bool true) t17_18 h_17
        )
        (
        oa (binV .add .scalar i8 (.int .i64 1)) fun t17_19 =>
        milestoneref5_both_l1 T k j0 b1 out6 more7 t17_19 h_14
        )
      )
      (
      milestoneref5_both_b2 T k out6 more7 h
      ) := loopEq (by kernel_rfl)
theorem milestoneref5_both_eq (T : Tab) (k : Nat) (a0 b1 : AV) (h : Heap) : runF T k milestoneref5_both_mf [a0, b1] h =
    ob (buildSl 1 0 [] [] h) fun t9_1 h_2 =>
    ob (apnd 1 1 t9_1 a0 h_2) fun t11_3 h_4 =>
    milestoneref5_both_l1 T k k b1 t11_3 (.bool false) (.int .i64 0) h_4 := runEq (by kernel_rfl)
noncomputable def milestoneref5_often_c1 : MCode := .seq [24] (.seq [18, 19, 20, 21, 22, 23] (.region [⟨some 18, .op (.mv (.tmp 3)), none⟩,
  ⟨some 19, .op (.bin .eql .scalar (.tmp 18) (.const (.int .i64 0))), none⟩,
  ⟨some 20, .op (.mv (.tmp 19)), none⟩,
  ⟨some 21, .op (.mv (.tmp 11)), some (20, false)⟩,
  ⟨some 22, .op (.mv (.tmp 3)), some (20, false)⟩,
  ⟨some 23, .op (.bin .lss .scalar (.tmp 21) (.tmp 22)), some (20, false)⟩,
  ⟨some 24, .op (.pick (.tmp 20) (.const (.bool true)) (.tmp 23)), none⟩]) (.cond (.tmp 24) .skip (.exit 0))) (.seq [39] (.block 1 (.seq [27, 28, 29, 30] (.region [⟨some 27, .op (.load (some 5) (.tmp 4)), none⟩,
  ⟨some 28, .op (.mv (.tmp 1)), none⟩,
  ⟨some 29, .op (.mv (.tmp 10)), none⟩,
  ⟨some 30, .call f_milestoneref5_ends [(.tmp 27), (.tmp 28), (.tmp 29)], none⟩,
  ⟨some 10, .op (.mv (.tmp 30)), none⟩]) (.seq [9, 31, 32, 33, 34, 35, 36] (.region [⟨some 32, .op (.mv (.tmp 9)), none⟩,
  ⟨some 33, .op (.mv (.tmp 10)), none⟩,
  ⟨some 34, .call f_milestoneref5_both [(.tmp 32), (.tmp 33)], none⟩,
  ⟨some 31, .op (.mv (.tmp 34)), none⟩,
  ⟨some 35, .op (.extract 0 (.tmp 31)), none⟩,
  ⟨some 36, .op (.extract 1 (.tmp 31)), none⟩,
  ⟨some 12, .op (.mv (.tmp 35)), none⟩,
  ⟨some 13, .op (.mv (.tmp 36)), none⟩]) (.seq [12, 37] (.region [⟨some 37, .op (.mv (.tmp 12)), none⟩,
  ⟨some 9, .op (.mv (.tmp 37)), none⟩]) (.seq [13, 38] (.region [⟨some 38, .op (.mv (.tmp 13)), none⟩,
  ⟨some 39, .op (.un .not (.tmp 38)), none⟩]) (.cond (.tmp 39) (.exit 0) .skip)))))) (.region [⟨some 25, .op (.mv (.tmp 11)), none⟩,
  ⟨some 26, .op (.bin .add .scalar (.tmp 25) (.const (.int .i64 1))), none⟩,
  ⟨some 11, .op (.mv (.tmp 26)), none⟩]))
def milestoneref5_often_rs : Res := [(8, none)]
noncomputable def milestoneref5_often_mf : MFn := ⟨41, milestoneref5_often_rs, .seq [0, 8] (.region [⟨some 4, .op (.box (.tmp 0)), none⟩,
  ⟨some 8, .op (.mv (.const .nils)), none⟩]) (.seq [14, 15, 16] (.region [⟨some 14, .op (.mv (.tmp 2)), none⟩,
  ⟨some 15, .op (.lenSl (.tmp 14)), none⟩,
  ⟨some 16, .op (.mkSlice [.bool false] 1 1 (.tmp 15) (.tmp 15)), none⟩,
  ⟨some 9, .op (.mv (.tmp 16)), none⟩]) (.seq [2, 17] (.region [⟨some 17, .op (.mv (.tmp 2)), none⟩,
  ⟨some 10, .op (.mv (.tmp 17)), none⟩]) (.seq [1, 3, 4, 10, 11, 24, 39] (.seq [] (.region [⟨some 11, .op (.mv (.const (.int .i64 0))), none⟩]) (.block 0 (.loop [25, 26] milestoneref5_often_c1))) (.seq [9, 40] (.region [⟨some 40, .op (.mv (.tmp 9)), none⟩,
  ⟨some 8, .op (.mv (.tmp 40)), none⟩]) .ret))))⟩
noncomputable def milestoneref5_often_l1 (T : Tab) (k j0 : Nat) (word1 most3 n4 all9 cur10 i11 : AV) (h : Heap) : Option (AV × Heap) :=
  loopB T k milestoneref5_often_rs j0 [25, 26] milestoneref5_often_c1 [.blk 0, .seq [1, 3, 4, 10, 11, 24, 39] (.seq [9, 40] (.region [⟨some 40, .op (.mv (.tmp 9)), none⟩,
  ⟨some 8, .op (.mv (.tmp 40)), none⟩]) .ret)] [.undef, word1, .undef, most3, n4, .undef, .undef, .undef, .undef, all9, cur10, i11, .undef, .undef, .undef, .undef, .undef, .undef, .undef, .undef, .undef, .undef, .undef, .undef, .undef, .undef, .undef, .undef, .undef, .undef, .undef, .undef, .undef, .undef, .undef, .undef, .undef, .undef, .undef, .undef, .undef] h
theorem milestoneref5_often_l1_eq (T : Tab) (k j0 : Nat) (word1 most3 n4 all9 cur10 i11 : AV) (h : Heap) : milestoneref5_often_l1 T k (j0 + 1) word1 most3 n4 all9 cur10 i11 h =
    oa (binV .eql .scalar most3 (.int .i64 0)) fun t19_1 =>
    ob (gd t19_1 false (some (i11, h)) h) fun t21_2 h_3 =>
    ob (gd t19_1 false (some (most3, h_3)) h_3) fun t22_4 h_5 =>
    ob (gd t19_1 false (pure1 h_5 (binV .lss .scalar t21_2 t22_4)) h_5) fun t23_6 h_7 =>
    oa (pickV t19_1 (.bool true) t23_6) fun t24_8 =>
    cond2 t24_8
      (
      oa (ldN 5 h_7 n4) fun t27_9 =>
      ob (evalFn T k f_milestoneref5_ends [t27_9, word1, cur10] h_7) fun t30_10 h_11 =>
      ob (evalFn T k f_milestoneref5_both [all9, t30_10] h_11) fun t34_12 h_13 =>
      oa (extr 0 t34_12) fun t35_14 =>
      oa (extr 1 t34_12) fun t36_15 =>
      oa (unV .not t36_15) fun t39_16 =>
      cond2 t39_16
        (
        some (t35_14, h_13)
        )
        (
        oa (binV .add .scalar i11 (.int .i64 1)) fun t26_17 =>
        milestoneref5_often_l1 T k j0 word1 most3 n4 t35_14 t30_10 t26_17 h_13
        )
      )
      (
      some (all9, h_7)
      ) := loopEq (by kernel_rfl)
theorem milestoneref5_often_eq (T : Tab) (k : Nat) (n0 word1 from2 most3 : AV) (h : Heap) : runF T k milestoneref5_often_mf [n0, word1, from2, most3] h =
    ob (newVar h (AV.cells n0)) fun n4_1 h_2 =>
    oa (lenS from2) fun t15_3 =>
    ob (mkSl [.bool false] 1 1 t15_3 t15_3 h_2) fun t16_4 h_5 =>
    milestoneref5_often_l1 T k k word1 most3 n4_1 t16_4 from2 (.int .i64 0) h_5 := runEq (by kernel_rfl)
noncomputable def milestoneref5_repeat_c1 : MCode := .seq [13] (.seq [10, 11, 12] (.region [⟨some 10, .op (.mv (.tmp 7)), none⟩,
  ⟨some 11, .op (.fieldAddr 2 (.tmp 3)), none⟩,
  ⟨some 12, .op (.load none (.tmp 11)), none⟩,
  ⟨some 13, .op (.bin .lss .scalar (.tmp 10) (.tmp 12)), none⟩]) (.cond (.tmp 13) .skip (.exit 0))) (.seq [16, 17, 18, 19, 20, 21, 22] (.block 1 (.region [⟨some 16, .op (.fieldAddr 4 (.tmp 3)), none⟩,
  ⟨some 17, .op (.load none (.tmp 16)), none⟩,
  ⟨some 18, .op (.idxSl 5 (.tmp 17) (.const (.int .i64 0))), none⟩,
  ⟨some 19, .op (.load (some 5) (.tmp 18)), none⟩,
  ⟨some 20, .op (.mv (.tmp 1)), none⟩,
  ⟨some 21, .op (.mv (.tmp 2)), none⟩,
  ⟨some 22, .call f_milestoneref5_ends [(.tmp 19), (.tmp 20), (.tmp 21)], none⟩,
  ⟨some 2, .op (.mv (.tmp 22)), none⟩])) (.region [⟨some 14, .op (.mv (.tmp 7)), none⟩,
  ⟨some 15, .op (.bin .add .scalar (.tmp 14) (.const (.int .i64 1))), none⟩,
  ⟨some 7, .op (.mv (.tmp 15)), none⟩]))
noncomputable def milestoneref5_repeat_c2 : MCode := .seq [29] (.seq [26, 27, 28] (.region [⟨some 26, .op (.mv (.tmp 9)), none⟩,
  ⟨some 27, .op (.fieldAddr 3 (.tmp 3)), none⟩,
  ⟨some 28, .op (.load none (.tmp 27)), none⟩,
  ⟨some 29, .op (.bin .lss .scalar (.tmp 26) (.tmp 28)), none⟩]) (.cond (.tmp 29) .skip (.exit 2))) (.seq [39, 40, 41, 42, 43, 44] (.block 3 (.seq [32, 33, 34, 35, 36, 37, 38] (.region [⟨some 32, .op (.fieldAddr 4 (.tmp 3)), none⟩,
  ⟨some 33, .op (.load none (.tmp 32)), none⟩,
  ⟨some 34, .op (.idxSl 5 (.tmp 33) (.const (.int .i64 0))), none⟩,
  ⟨some 35, .op (.load (some 5) (.tmp 34)), none⟩,
  ⟨some 36, .op (.mv (.tmp 1)), none⟩,
  ⟨some 37, .op (.mv (.tmp 2)), none⟩,
  ⟨some 38, .call f_milestoneref5_ends [(.tmp 35), (.tmp 36), (.tmp 37)], none⟩,
  ⟨some 2, .op (.mv (.tmp 38)), none⟩]) (.region [⟨some 40, .op (.mv (.tmp 8)), none⟩,
  ⟨some 41, .op (.mv (.tmp 2)), none⟩,
  ⟨some 42, .call f_milestoneref5_both [(.tmp 40), (.tmp 41)], none⟩,
  ⟨some 39, .op (.mv (.tmp 42)), none⟩,
  ⟨some 43, .op (.extract 0 (.tmp 39)), none⟩,
  ⟨some 44, .op (.extract 1 (.tmp 39)), none⟩,
  ⟨some 8, .op (.mv (.tmp 43)), none⟩]))) (.region [⟨some 30, .op (.mv (.tmp 9)), none⟩,
  ⟨some 31, .op (.bin .add .scalar (.tmp 30) (.const (.int .i64 1))), none⟩,
  ⟨some 9, .op (.mv (.tmp 31)), none⟩]))
noncomputable def milestoneref5_repeat_c3 : MCode := .seq [23] (.region [⟨some 23, .op (.mv (.tmp 2)), none⟩,
  ⟨some 8, .op (.mv (.tmp 23)), none⟩]) (.seq [1, 2, 3, 9, 29] (.seq [24, 25] (.region [⟨some 24, .op (.fieldAddr 2 (.tmp 3)), none⟩,
  ⟨some 25, .op (.load none (.tmp 24)), none⟩,
  ⟨some 9, .op (.mv (.tmp 25)), none⟩]) (.block 2 (.loop [30, 31] milestoneref5_repeat_c2))) (.seq [8, 45] (.region [⟨some 45, .op (.mv (.tmp 8)), none⟩,
  ⟨some 6, .op (.mv (.tmp 45)), none⟩]) .ret))
def milestoneref5_repeat_rs : Res := [(6, none)]
noncomputable def milestoneref5_repeat_mf : MFn := ⟨46, milestoneref5_repeat_rs, .seq [0, 6] (.region [⟨some 3, .op (.box (.tmp 0)), none⟩,
  ⟨some 6, .op (.mv (.const .nils)), none⟩]) (.seq [7, 13] (.seq [] (.region [⟨some 7, .op (.mv (.const (.int .i64 0))), none⟩]) (.block 0 (.loop [14, 15] milestoneref5_repeat_c1))) (.lab milestoneref5_repeat_c3))⟩
noncomputable def milestoneref5_repeat_l1 (T : Tab) (k j0 : Nat) (word1 from2 n3 i7 : AV) (h : Heap) : Option (AV × Heap) :=
  loopB T k milestoneref5_repeat_rs j0 [14, 15] milestoneref5_repeat_c1 [.blk 0, .seq [7, 13] (.lab milestoneref5_repeat_c3)] [.undef, word1, from2, n3, .undef, .undef, .undef, i7, .undef, .undef, .undef, .undef, .undef, .undef, .undef, .undef, .undef, .undef, .undef, .undef, .undef, .undef, .undef, .undef, .undef, .undef, .undef, .undef, .undef, .undef, .undef, .undef, .undef, .undef, .undef, .undef, .undef, .undef, .undef, .undef, .undef, .undef, .undef, .undef, .undef, .undef] h
noncomputable def milestoneref5_repeat_b2 (T : Tab) (k : Nat) (word1 from2 n3 : AV) (h : Heap) : Option (AV × Heap) :=
  evB T k milestoneref5_repeat_rs milestoneref5_repeat_c3 [] [.undef, word1, from2, n3, .undef, .undef, .undef, .undef, .undef, .undef, .undef, .undef, .undef, .undef, .undef, .undef, .undef, .undef, .undef, .undef, .undef, .undef, .undef, .undef, .undef, .undef, .undef, .undef, .undef, .undef, .undef, .undef, .undef, .undef, .undef, .undef, .undef, .undef, .undef, .undef, .undef, .undef, .undef, .undef, .undef, .undef] h
noncomputable def milestoneref5_repeat_l3 (T : Tab) (k j0 : Nat) (word1 from2 n3 all8 i9 : AV) (h : Heap) : Option (AV × Heap) :=
  loopB T k milestoneref5_repeat_rs j0 [30, 31] milestoneref5_repeat_c2 [.blk 2, .seq [1, 2, 3, 9, 29] (.seq [8, 45] (.region [⟨some 45, .op (.mv (.tmp 8)), none⟩,
  ⟨some 6, .op (.mv (.tmp 45)), none⟩]) .ret)] [.undef, word1, from2, n3, .undef, .undef, .undef, .undef, all8, i9, .undef, .undef, .undef, .undef, .undef, .undef, .undef, .undef, .undef, .undef, .undef, .undef, .undef, .undef, .undef, .undef, .undef, .undef, .undef, .undef, .undef, .undef, .undef, .undef, .undef, .undef, .undef, .undef, .undef, .undef, .undef, .undef, .undef, .undef, .undef, .undef] h
theorem milestoneref5_repeat_l3_eq (T : Tab) (k j0 : Nat) (word1 from2 n3 all8 i9 : AV) (h : Heap) : milestoneref5_repeat_l3 T k (j0 + 1) word1 from2 n3 all8 i9 h =
    oa (fldA 3 n3) fun t27_1 =>
    oa (ld1 h t27_1) fun t28_2 =>
    oa (binV .lss .scalar i9 t28_2) fun t29_3 =>
    cond2 t29_3
      (
      oa (fldA 4 n3) fun t32_4 =>
      oa (ld1 h t32_4) fun t33_5 =>
      oa (idxS 5 t33_5 (.int .i64 0)) fun t34_6 =>
      oa (ldN 5 h t34_6) fun t35_7 =>
      ob (evalFn T k f_milestoneref5_ends [t35_7, word1, from2] h) fun t38_8 h_9 =>
      ob (evalFn T k f_milestoneref5_both [all8, t38_8] h_9) fun t42_10 h_11 =>
      oa (extr 0 t42_10) fun t43_12 =>
      oa (extr 1 t42_10) fun t44_13 =>
      oa (binV .add .scalar i9 (.int .i64 1)) fun t31_14 =>
      milestoneref5_repeat_l3 T k j0 word1 t38_8 n3 t43_12 t31_14 h_11
      )
      (
      some (all8, h)
      ) := loopEq (by kernel_rfl)
theorem milestoneref5_repeat_b2_eq (T : Tab) (k : Nat) (word1 from2 n3 : AV) (h : Heap) : milestoneref5_repeat_b2 T k word1 from2 n3 h =
    oa (fldA 2 n3) fun t24_1 =>
    oa (ld1 h t24_1) fun t25_2 =>
    milestoneref5_repeat_l3 T k k word1 from2 n3 from2 t25_2 h := blockEq (by kernel_rfl)
theorem milestoneref5_repeat_l1_eq (T : Tab) (k j0 : Nat) (word1 from2 n3 i7 : AV) (h : Heap) : milestoneref5_repeat_l1 T k (j0 + 1) word1 from2 n3 i7 h =
    oa (fldA 2 n3) fun t11_1 =>
    oa (ld1 h t11_1) fun t12_2 =>
    oa (binV .lss .scalar i7 t12_2) fun t13_3 =>
    cond2 t13_3
      (
      oa (fldA 4 n3) fun t16_4 =>
      oa (ld1 h t16_4) fun t17_5 =>
      oa (idxS 5 t17_5 (.int .i64 0)) fun t18_6 =>
      oa (ldN 5 h t18_6) fun t19_7 =>
      ob (evalFn T k f_milestoneref5_ends [t19_7, word1, from2] h) fun t22_8 h_9 =>
      oa (binV .add .scalar i7 (.int .i64 1)) fun t15_10 =>
      milestoneref5_repeat_l1 T k j0 word1 t22_8 n3 t15_10 h_9
      )
      (
      milestoneref5_repeat_b2 T k word1 from2 n3 h
      ) := loopEq (by kernel_rfl)
theorem milestoneref5_repeat_eq (T : Tab) (k : Nat) (n0 word1 from2 : AV) (h : Heap) : runF T k milestoneref5_repeat_mf [n0, word1, from2] h =
    ob (newVar h (AV.cells n0)) fun n3_1 h_2 =>
    milestoneref5_repeat_l1 T k k word1 from2 n3_1 (.int .i64 0) h_2 := runEq (by kernel_rfl)
noncomputable def milestoneref4_reader_union_c1 : MCode := .block 1 (.seq [9, 10, 11, 12, 13] (.region [⟨some 10, .op (.mv (.tmp 0)), none⟩,
  ⟨some 11, .call f_milestoneref4_reader_next [(.tmp 10)], none⟩,
  ⟨some 9, .op (.mv (.tmp 11)), none⟩,
  ⟨some 12, .op (.extract 0 (.tmp 9)), none⟩,
  ⟨some 13, .op (.extract 1 (.tmp 9)), none⟩,
  ⟨some 4, .op (.mv (.tmp 12)), none⟩,
  ⟨some 5, .op (.mv (.tmp 13)), none⟩]) (.seq [19] (.seq [4, 5, 14, 15, 16, 17, 18] (.region [⟨some 14, .op (.mv (.tmp 5)), none⟩,
  ⟨some 15, .op (.un .not (.tmp 14)), none⟩,
  ⟨some 16, .op (.mv (.tmp 15)), none⟩,
  ⟨some 17, .op (.mv (.tmp 4)), some (16, false)⟩,
  ⟨some 18, .op (.bin .neq .scalar (.tmp 17) (.const (.int .u8 124))), some (16, false)⟩,
  ⟨some 19, .op (.pick (.tmp 16) (.const (.bool true)) (.tmp 18)), none⟩]) (.cond (.tmp 19) (.exit 0) .skip)) (.seq [20, 21, 22, 23, 24, 25, 26] (.region [⟨some 20, .op (.mv (.tmp 0)), none⟩,
  ⟨some 21, .op (.nilCheck (.tmp 20)), none⟩,
  ⟨some 22, .op (.fieldAddr 1 (.tmp 21)), none⟩,
  ⟨some 23, .op (.load none (.tmp 22)), none⟩,
  ⟨some 24, .op (.bin .add .scalar (.tmp 23) (.const (.int .i64 1))), none⟩,
  ⟨some 25, .op (.nilCheck (.tmp 20)), none⟩,
  ⟨some 26, .op (.fieldAddr 1 (.tmp 25)), none⟩,
  ⟨none, .op (.store 1 (.tmp 26) (.tmp 24)), none⟩]) (.region [⟨some 27, .op (.mv (.tmp 3)), none⟩,
  ⟨some 28, .op (.mv (.tmp 0)), none⟩,
  ⟨some 29, .call f_milestoneref4_reader_join [(.tmp 28)], none⟩,
  ⟨some 30, .op (.buildSlice 5 1 [.int .i64 0, .int .i64 0, .int .i64 0, .int .i64 0, .nils] [(0, 5, (.tmp 29))]), none⟩,
  ⟨some 31, .op (.append 5 56 (.tmp 27) (.tmp 30)), none⟩,
  ⟨some 3, .op (.mv (.tmp 31)), none⟩]))))
noncomputable def milestoneref4_reader_union_c2 : MCode := .seq [34] (.seq [32, 33] (.region [⟨some 32, .op (.mv (.tmp 3)), none⟩,
  ⟨some 33, .op (.lenSl (.tmp 32)), none⟩,
  ⟨some 34, .op (.bin .eql .scalar (.tmp 33) (.const (.int .i64 1))), none⟩]) (.cond (.tmp 34) (.seq [3, 34, 35, 36, 37] (.region [⟨some 35, .op (.mv (.tmp 3)), none⟩,
  ⟨some 36, .op (.idxSl 5 (.tmp 35) (.const (.int .i64 0))), none⟩,
  ⟨some 37, .op (.load (some 5) (.tmp 36)), none⟩,
  ⟨none, .op (.store 5 (.tmp 2) (.tmp 37)), none⟩]) .ret) .skip)) (.seq [3, 38, 39] (.region [⟨some 38, .op (.mv (.tmp 3)), none⟩,
  ⟨some 39, .op (.build [.int .i64 0, .int .i64 0, .int .i64 0, .int .i64 0, .nils] [(0, 1, (.const (.int .i64 5))), (4, 1, (.tmp 38))]), none⟩,
  ⟨none, .op (.store 5 (.tmp 2) (.tmp 39)), none⟩]) .ret)
def milestoneref4_reader_union_rs : Res := [(2, some (some 5))]
noncomputable def milestoneref4_reader_union_mf : MFn := ⟨40, milestoneref4_reader_union_rs, .seq [] (.region [⟨some 2, .op (.alloc [.int .i64 0, .int .i64 0, .int .i64 0, .int .i64 0, .nils]), none⟩]) (.seq [6, 7, 8] (.region [⟨some 6, .op (.mv (.tmp 0)), none⟩,
  ⟨some 7, .call f_milestoneref4_reader_join [(.tmp 6)], none⟩,
  ⟨some 8, .op (.buildSlice 5 1 [.int .i64 0, .int .i64 0, .int .i64 0, .int .i64 0, .nils] [(0, 5, (.tmp 7))]), none⟩,
  ⟨some 3, .op (.mv (.tmp 8)), none⟩]) (.seq [0, 19] (.block 0 (.loop [27, 28, 29, 30, 31] milestoneref4_reader_union_c1)) (.lab milestoneref4_reader_union_c2)))⟩
noncomputable def milestoneref4_reader_union_l1 (T : Tab) (k j0 : Nat) (r0 t2 l3 : AV) (h : Heap) : Option (AV × Heap) :=
  loopB T k milestoneref4_reader_union_rs j0 [27, 28, 29, 30, 31] milestoneref4_reader_union_c1 [.blk 0, .seq [0, 19] (.lab milestoneref4_reader_union_c2)] [r0, .undef, t2, l3, .undef, .undef, .undef, .undef, .undef, .undef, .undef, .undef, .undef, .undef, .undef, .undef, .undef, .undef, .undef, .undef, .undef, .undef, .undef, .undef, .undef, .undef, .undef, .undef, .undef, .undef, .undef, .undef, .undef, .undef, .undef, .undef, .undef, .undef, .undef, .undef] h
noncomputable def milestoneref4_reader_union_b2 (T : Tab) (k : Nat) (t2 l3 : AV) (h : Heap) : Option (AV × Heap) :=
  evB T k milestoneref4_reader_union_rs milestoneref4_reader_union_c2 [] [.undef, .undef, t2, l3, .undef, .undef, .undef, .undef, .undef, .undef, .undef, .undef, .undef, .undef, .undef, .undef, .undef, .undef, .undef, .undef, .undef, .undef, .undef, .undef, .undef, .undef, .undef, .undef, .undef, .undef, .undef, .undef, .undef, .undef, .undef, .undef, .undef, .undef, .undef, .undef] h
theorem milestoneref4_reader_union_b2_eq (T : Tab) (k : Nat) (t2 l3 : AV) (h : Heap) : milestoneref4_reader_union_b2 T k t2 l3 h =
    oa (lenS l3) fun t33_1 =>
    oa (binV .eql .scalar t33_1 (.int .i64 1)) fun t34_2 =>
    cond2 t34_2
      (
      oa (idxS 5 l3 (.int .i64 0)) fun t36_3 =>
      oa (ldN 5 h t36_3) fun t37_4 =>
      oh (stN 5 h t2 t37_4) fun h_5 =>
      oa (ldN 5 h_5 t2) fun t2_6 =>
      some (t2_6, h_5)
      )
      (
      oa (buildV [.int .i64 0, .int .i64 0, .int .i64 0, .int .i64 0, .nils] [(0, 1, (.int .i64 5)), (4, 1, l3)]) fun t39_7 =>
      oh (stN 5 h t2 t39_7) fun h_8 =>
      oa (ldN 5 h_8 t2) fun t2_9 =>
      some (t2_9, h_8)
      ) := blockEq (by kernel_rfl)
theorem milestoneref4_reader_union_l1_eq (T : Tab) (k j0 : Nat) (r0 t2 l3 : AV) (h : Heap) : milestoneref4_reader_union_l1 T k (j0 + 1) r0 t2 l3 h =
    ob (evalFn T k f_milestoneref4_reader_next [r0] h) fun t11_1 h_2 =>
    oa (extr 0 t11_1) fun t12_3 =>
    oa (extr 1 t11_1) fun t13_4 =>
    oa (unV .not t13_4) fun t15_5 =>
    ob (gd t15_5 false (some (t12_3, h_2)) h_2) fun t17_6 h_7 =>
    ob (gd t15_5 false (pure1 h_7 (binV .neq .scalar t17_6 (.int .u8 124))) h_7) fun t18_8 h_9 =>
    oa (pickV t15_5 (.bool true) t18_8) fun t19_10 =>
    cond2 t19_10
      (
      milestoneref4_reader_union_b2 T k t2 l3 h_9
      )
      (
      oa (nilCk r0) fun t21_11 =>
      oa (fldA 1 t21_11) fun t22_12 =>
      oa (ld1 h_9 t22_12) fun t23_13 =>
      oa (binV .add .scalar t23_13 (.int .i64 1)) fun t24_14 =>
      oa (nilCk r0) fun t25_15 =>
      oa (fldA 1 t25_15) fun t26_16 =>
      oh (stN 1 h_9 t26_16 t24_14) fun h_17 =>
      ob (evalFn T k f_milestoneref4_reader_join [r0] h_17) fun t29_18 h_19 =>
      ob (buildSl 5 1 [.int .i64 0, .int .i64 0, .int .i64 0, .int .i64 0, .nils] [(0, 5, t29_18)] h_19) fun t30_20 h_21 =>
      ob (apnd 5 56 l3 t30_20 h_21) fun t31_22 h_23 =>
      milestoneref4_reader_union_l1 T k j0 r0 t2 t31_22 h_23
      ) := loopEq (by kernel_rfl)
theorem milestoneref4_reader_union_eq (T : Tab) (k : Nat) (r0 : AV) (h : Heap) : runF T k milestoneref4_reader_union_mf [r0] h =
    ob (newVar h [.int .i64 0, .int .i64 0, .int .i64 0, .int .i64 0, .nils]) fun t2_1 h_2 =>
    ob (evalFn T k f_milestoneref4_reader_join [r0] h_2) fun t7_3 h_4 =>
    ob (buildSl 5 1 [.int .i64 0, .int .i64 0, .int .i64 0, .int .i64 0, .nils] [(0, 5, t7_3)] h_4) fun t8_5 h_6 =>
    milestoneref4_reader_union_l1 T k k r0 t2_1 t8_5 h_6 := runEq (by kernel_rfl)
def milestoneref4_reader_fail_rs : Res := [(4, some (some 5))]
noncomputable def milestoneref4_reader_fail_mf : MFn := ⟨15, milestoneref4_reader_fail_rs, .seq [] (.region [⟨some 4, .op (.alloc [.int .i64 0, .int .i64 0, .int .i64 0, .int .i64 0, .nils]), none⟩]) (.seq [0, 1, 9, 10, 11, 12, 13] (.seq [5, 6, 7, 8] (.region [⟨some 5, .op (.mv (.tmp 0)), none⟩,
  ⟨some 6, .op (.nilCheck (.tmp 5)), none⟩,
  ⟨some 7, .op (.fieldAddr 3 (.tmp 6)), none⟩,
  ⟨some 8, .op (.load none (.tmp 7)), none⟩,
  ⟨some 9, .op (.bin .eql .scalar (.tmp 8) (.const (.int .i64 0))), none⟩]) (.cond (.tmp 9) (.region [⟨some 10, .op (.mv (.tmp 0)), none⟩,
  ⟨some 11, .op (.mv (.tmp 1)), none⟩,
  ⟨some 12, .op (.nilCheck (.tmp 10)), none⟩,
  ⟨some 13, .op (.fieldAddr 3 (.tmp 12)), none⟩,
  ⟨none, .op (.store 1 (.tmp 13) (.tmp 11)), none⟩]) .skip)) (.seq [14] (.region [⟨some 14, .op (.build [.int .i64 0, .int .i64 0, .int .i64 0, .int .i64 0, .nils] []), none⟩,
  ⟨none, .op (.store 5 (.tmp 4) (.tmp 14)), none⟩]) .ret))⟩
theorem milestoneref4_reader_fail_eq (T : Tab) (k : Nat) (r0 e1 : AV) (h : Heap) : runF T k milestoneref4_reader_fail_mf [r0, e1] h =
    ob (newVar h [.int .i64 0, .int .i64 0, .int .i64 0, .int .i64 0, .nils]) fun t4_1 h_2 =>
    oa (nilCk r0) fun t6_3 =>
    oa (fldA 3 t6_3) fun t7_4 =>
    oa (ld1 h_2 t7_4) fun t8_5 =>
    oa (binV .eql .scalar t8_5 (.int .i64 0)) fun t9_6 =>
    cond2 t9_6
      (
      oa (nilCk r0) fun t12_7 =>
      oa (fldA 3 t12_7) fun t13_8 =>
      oh (stN 1 h_2 t13_8 e1) fun h_9 =>
      oa (buildV [.int .i64 0, .int .i64 0, .int .i64 0, .int .i64 0, .nils] []) fun t14_10 =>
      oh (stN 5 h_9 t4_1 t14_10) fun h_11 =>
      oa (ldN 5 h_11 t4_1) fun t4_12 =>
      some (t4_12, h_11)
      )
      (
      oa (buildV [.int .i64 0, .int .i64 0, .int .i64 0, .int .i64 0, .nils] []) fun t14_13 =>
      oh (stN 5 h_2 t4_1 t14_13) fun h_14 =>
      oa (ldN 5 h_14 t4_1) fun t4_15 =>
      some (t4_15, h_14)
      ) := runEq (by kernel_rfl)
def slices_Clone_bool_rs : Res := [(2, none)]
noncomputable def slices_Clone_bool_mf : MFn := ⟨8, slices_Clone_bool_rs, .seq [2] (.region [⟨some 2, .op (.mv (.const .nils)), none⟩]) (.seq [4] (.seq [3] (.region [⟨some 3, .op (.mv (.tmp 0)), none⟩,
  ⟨some 4, .op (.bin .eql .slice (.tmp 3) (.const .nils)), none⟩]) (.cond (.tmp 4) (.seq [0, 4] (.region [⟨some 2, .op (.mv (.const .nils)), none⟩]) .ret) .skip)) (.seq [0, 5, 6, 7] (.region [⟨some 5, .op (.buildSlice 1 0 [] []), none⟩,
  ⟨some 6, .op (.mv (.tmp 0)), none⟩,
  ⟨some 7, .op (.append 1 1 (.tmp 5) (.tmp 6)), none⟩,
  ⟨some 2, .op (.mv (.tmp 7)), none⟩]) .ret))⟩
theorem slices_Clone_bool_eq (T : Tab) (k : Nat) (s0 : AV) (h : Heap) : runF T k slices_Clone_bool_mf [s0] h =
    oa (binV .eql .slice s0 .nils) fun t4_1 =>
    cond2 t4_1
      (
      some (.nils, h)
      )
      (
      ob (buildSl 1 0 [] [] h) fun t5_2 h_3 =>
      ob (apnd 1 1 t5_2 s0 h_3) fun t7_4 h_5 =>
      some (t7_4, h_5)
      ) := runEq (by kernel_rfl)
noncomputable def milestoneref4_reader_join_c1 : MCode := .block 1 (.seq [9, 10, 11, 12, 13] (.region [⟨some 10, .op (.mv (.tmp 0)), none⟩,
  ⟨some 11, .call f_milestoneref4_reader_next [(.tmp 10)], none⟩,
  ⟨some 9, .op (.mv (.tmp 11)), none⟩,
  ⟨some 12, .op (.extract 0 (.tmp 9)), none⟩,
  ⟨some 13, .op (.extract 1 (.tmp 9)), none⟩,
  ⟨some 4, .op (.mv (.tmp 12)), none⟩,
  ⟨some 5, .op (.mv (.tmp 13)), none⟩]) (.seq [23] (.seq [4, 5, 14, 15, 16, 17, 18, 19, 20, 21, 22] (.region [⟨some 14, .op (.mv (.tmp 5)), none⟩,
  ⟨some 15, .op (.un .not (.tmp 14)), none⟩,
  ⟨some 16, .op (.mv (.tmp 15)), none⟩,
  ⟨some 17, .op (.mv (.tmp 4)), some (16, false)⟩,
  ⟨some 18, .op (.bin .eql .scalar (.tmp 17) (.const (.int .u8 124))), some (16, false)⟩,
  ⟨some 19, .op (.pick (.tmp 16) (.const (.bool true)) (.tmp 18)), none⟩,
  ⟨some 20, .op (.mv (.tmp 19)), none⟩,
  ⟨some 21, .op (.mv (.tmp 4)), some (20, false)⟩,
  ⟨some 22, .op (.bin .eql .scalar (.tmp 21) (.const (.int .u8 41))), some (20, false)⟩,
  ⟨some 23, .op (.pick (.tmp 20) (.const (.bool true)) (.tmp 22)), none⟩]) (.cond (.tmp 23) (.exit 0) .skip)) (.region [⟨some 24, .op (.mv (.tmp 3)), none⟩,
  ⟨some 25, .op (.mv (.tmp 0)), none⟩,
  ⟨some 26, .call f_milestoneref4_reader_piece [(.tmp 25)], none⟩,
  ⟨some 27, .op (.buildSlice 5 1 [.int .i64 0, .int .i64 0, .int .i64 0, .int .i64 0, .nils] [(0, 5, (.tmp 26))]), none⟩,
  ⟨some 28, .op (.append 5 56 (.tmp 24) (.tmp 27)), none⟩,
  ⟨some 3, .op (.mv (.tmp 28)), none⟩])))
noncomputable def milestoneref4_reader_join_c2 : MCode := .seq [31] (.seq [29, 30] (.region [⟨some 29, .op (.mv (.tmp 3)), none⟩,
  ⟨some 30, .op (.lenSl (.tmp 29)), none⟩,
  ⟨some 31, .op (.bin .eql .scalar (.tmp 30) (.const (.int .i64 1))), none⟩]) (.cond (.tmp 31) (.seq [3, 31, 32, 33, 34] (.region [⟨some 32, .op (.mv (.tmp 3)), none⟩,
  ⟨some 33, .op (.idxSl 5 (.tmp 32) (.const (.int .i64 0))), none⟩,
  ⟨some 34, .op (.load (some 5) (.tmp 33)), none⟩,
  ⟨none, .op (.store 5 (.tmp 2) (.tmp 34)), none⟩]) .ret) .skip)) (.seq [3, 35, 36] (.region [⟨some 35, .op (.mv (.tmp 3)), none⟩,
  ⟨some 36, .op (.build [.int .i64 0, .int .i64 0, .int .i64 0, .int .i64 0, .nils] [(0, 1, (.const (.int .i64 4))), (4, 1, (.tmp 35))]), none⟩,
  ⟨none, .op (.store 5 (.tmp 2) (.tmp 36)), none⟩]) .ret)
def milestoneref4_reader_join_rs : Res := [(2, some (some 5))]
noncomputable def milestoneref4_reader_join_mf : MFn := ⟨37, milestoneref4_reader_join_rs, .seq [] (.region [⟨some 2, .op (.alloc [.int .i64 0, .int .i64 0, .int .i64 0, .int .i64 0, .nils]), none⟩]) (.seq [6, 7, 8] (.region [⟨some 6, .op (.mv (.tmp 0)), none⟩,
  ⟨some 7, .call f_milestoneref4_reader_piece [(.tmp 6)], none⟩,
  ⟨some 8, .op (.buildSlice 5 1 [.int .i64 0, .int .i64 0, .int .i64 0, .int .i64 0, .nils] [(0, 5, (.tmp 7))]), none⟩,
  ⟨some 3, .op (.mv (.tmp 8)), none⟩]) (.seq [0, 23] (.block 0 (.loop [24, 25, 26, 27, 28] milestoneref4_reader_join_c1)) (.lab milestoneref4_reader_join_c2)))⟩
noncomputable def milestoneref4_reader_join_l1 (T : Tab) (k j0 : Nat) (r0 t2 l3 : AV) (h : Heap) : Option (AV × Heap) :=
  loopB T k milestoneref4_reader_join_rs j0 [24, 25, 26, 27, 28] milestoneref4_reader_join_c1 [.blk 0, .seq [0, 23] (.lab milestoneref4_reader_join_c2)] [r0, .undef, t2, l3, .undef, .undef, .undef, .undef, .undef, .undef, .undef, .undef, .undef, .undef, .undef, .undef, .undef, .undef, .undef, .undef, .undef, .undef, .undef, .undef, .undef, .undef, .undef, .undef, .undef, .undef, .undef, .undef, .undef, .undef, .undef, .undef, .undef] h
noncomputable def milestoneref4_reader_join_b2 (T : Tab) (k : Nat) (t2 l3 : AV) (h : Heap) : Option (AV × Heap) :=
  evB T k milestoneref4_reader_join_rs milestoneref4_reader_join_c2 [] [.undef, .undef, t2, l3, .undef, .undef, .undef, .undef, .undef, .undef, .undef, .undef, .undef, .undef, .undef, .undef, .undef, .undef, .undef, .undef, .undef, .undef, .undef, .undef, .undef, .undef, .undef, .undef, .undef, .undef, .undef, .undef, .undef, .undef, .undef, .undef, .undef] h
theorem milestoneref4_reader_join_b2_eq (T : Tab) (k : Nat) (t2 l3 : AV) (h : Heap) : milestoneref4_reader_join_b2 T k t2 l3 h =
    oa (lenS l3) fun t30_1 =>
    oa (binV .eql .scalar t30_1 (.int .i64 1)) fun t31_2 =>
    cond2 t31_2
      (
      oa (idxS 5 l3 (.int .i64 0)) fun t33_3 =>
      oa (ldN 5 h t33_3) fun t34_4 =>
      oh (stN 5 h t2 t34_4) fun h_5 =>
      oa (ldN 5 h_5 t2) fun t2_6 =>
      some (t2_6, h_5)
      )
      (
      oa (buildV [.int .i64 0, .int .i64 0, .int .i64 0, .int .i64 0, .nils] [(0, 1, (.int .i64 4)), (4, 1, l3)]) fun t36_7 =>
      oh (stN 5 h t2 t36_7) fun h_8 =>
      oa (ldN 5 h_8 t2) fun t2_9 =>
      some (t2_9, h_8)
      ) := blockEq (by kernel_rfl)
theorem milestoneref4_reader_join_l1_eq (T : Tab) (k j0 : Nat) (r0 t2 l3 : AV) (h : Heap) : milestoneref4_reader_join_l1 T k (j0 + 1) r0 t2 l3 h =
    ob (evalFn T k f_milestoneref4_reader_next [r0] h) fun t11_1 h_2 =>
    oa (extr 0 t11_1) fun t12_3 =>
    oa (extr 1 t11_1) fun t13_4 =>
    oa (unV .not t13_4) fun t15_5 =>
    ob (gd t15_5 false (some (t12_3, h_2)) h_2) fun t17_6 h_7 =>
    ob (gd t15_5 false (pure1 h_7 (binV .eql .scalar t17_6 (.int .u8 124))) h_7) fun t18_8 h_9 =>
    oa (pickV t15_5 (.bool true) t18_8) fun t19_10 =>
    ob (gd t19_10 false (some (t12_3, h_9)) h_9) fun t21_11 h_12 =>
    ob (gd t19_10 false (pure1 h_12 (binV .eql .scalar t21_11 (.int .u8 41))) h_12) fun t22_13 h_14 =>
    oa (pickV t19_10 (.bool true) t22_13) fun t23_15 =>
    cond2 t23_15
      (
      milestoneref4_reader_join_b2 T k t2 l3 h_14
      )
      (
      ob (evalFn T k f_milestoneref4_reader_piece [r0] h_14) fun t26_16 h_17 =>
      ob (buildSl 5 1 [.int .i64 0, .int .i64 0, .int .i64 0, .int .i64 0, .nils] [(0, 5, t26_16)] h_17) fun t27_18 h_19 =>
      ob (apnd 5 56 l3 t27_18 h_19) fun t28_20 h_21 =>
      milestoneref4_reader_join_l1 T k j0 r0 t2 t28_20 h_21
      ) := loopEq (by kernel_rfl)
theorem milestoneref4_reader_join_eq (T : Tab) (k : Nat) (r0 : AV) (h : Heap) : runF T k milestoneref4_reader_join_mf [r0] h =
    ob (newVar h [.int .i64 0, .int .i64 0, .int .i64 0, .int .i64 0, .nils]) fun t2_1 h_2 =>
    ob (evalFn T k f_milestoneref4_reader_piece [r0] h_2) fun t7_3 h_4 =>
    ob (buildSl 5 1 [.int .i64 0, .int .i64 0, .int .i64 0, .int .i64 0, .nils] [(0, 5, t7_3)] h_4) fun t8_5 h_6 =>
    milestoneref4_reader_join_l1 T k k r0 t2_1 t8_5 h_6 := runEq (by kernel_rfl)
def milestoneref4_reader_next_rs : Res := [(2, none), (3, none)]
noncomputable def milestoneref4_reader_next_mf : MFn := ⟨30, milestoneref4_reader_next_rs, .seq [2, 3] (.region [⟨some 2, .op (.mv (.const (.int .u8 0))), none⟩,
  ⟨some 3, .op (.mv (.const (.bool false))), none⟩]) (.seq [20] (.seq [4, 5, 6, 7, 8, 9, 10, 11, 12, 13, 14, 15, 16, 17, 18, 19] (.regionD 30 [⟨0, ⟨some 30, .op (.mv (.tmp 0)), none⟩, []⟩,
  ⟨1, ⟨some 31, .op (.nilCheck (.tmp 30)), none⟩, []⟩,
  ⟨2, ⟨some 32, .op (.fieldAddr 1 (.tmp 31)), none⟩, []⟩,
  ⟨3, ⟨some 33, .op (.load none (.tmp 32)), none⟩, []⟩,
  ⟨4, ⟨some 34, .op (.mv (.tmp 0)), none⟩, []⟩,
  ⟨5, ⟨some 35, .op (.nilCheck (.tmp 34)), none⟩, []⟩,
  ⟨6, ⟨some 36, .op (.fieldAddr 0 (.tmp 35)), none⟩, []⟩,
  ⟨7, ⟨some 37, .op (.load none (.tmp 36)), none⟩, []⟩,
  ⟨8, ⟨some 38, .op (.lenStr (.tmp 37)), none⟩, []⟩,
  ⟨9, ⟨some 39, .op (.bin .geq .scalar (.tmp 33) (.tmp 38)), none⟩, []⟩,
  ⟨10, ⟨some 40, .op (.mv (.tmp 39)), none⟩, []⟩,
  ⟨11, ⟨some 41, .op (.mv (.tmp 0)), some (40, false)⟩, []⟩,
  ⟨12, ⟨some 42, .op (.nilCheck (.tmp 41)), some (40, false)⟩, []⟩,
  ⟨13, ⟨some 43, .op (.fieldAddr 3 (.tmp 42)), some (40, false)⟩, []⟩,
  ⟨14, ⟨some 44, .op (.load none (.tmp 43)), some (40, false)⟩, []⟩,
  ⟨15, ⟨some 45, .op (.bin .neq .scalar (.tmp 44) (.const (.int .i64 0))), some (40, false)⟩, []⟩,
  ⟨16, ⟨some 46, .op (.pick (.tmp 40) (.const (.bool true)) (.tmp 45)), none⟩, []⟩] [(4, 30), (5, 31), (6, 32), (7, 33), (8, 34), (9, 35), (10, 36), (11, 37), (12, 38), (13, 39), (14, 40), (15, 41), (16, 42), (17, 43), (18, 44), (19, 45), (20, 46)]) (.cond (.tmp 20) (.seq [0, 20] (.region [⟨some 2, .op (.mv (.const (.int .u8 0))), none⟩,
  ⟨some 3, .op (.mv (.const (.bool false))), none⟩]) .ret) .skip)) (.seq [0, 21, 22, 23, 24, 25, 26, 27, 28, 29] (.regionD 30 [⟨0, ⟨some 30, .op (.mv (.tmp 0)), none⟩, []⟩,
  ⟨1, ⟨some 31, .op (.nilCheck (.tmp 30)), none⟩, []⟩,
  ⟨2, ⟨some 32, .op (.fieldAddr 0 (.tmp 31)), none⟩, []⟩,
  ⟨3, ⟨some 33, .op (.load none (.tmp 32)), none⟩, []⟩,
  ⟨4, ⟨some 34, .op (.mv (.tmp 0)), none⟩, []⟩,
  ⟨5, ⟨some 35, .op (.nilCheck (.tmp 34)), none⟩, []⟩,
  ⟨6, ⟨some 36, .op (.fieldAddr 1 (.tmp 35)), none⟩, []⟩,
  ⟨7, ⟨some 37, .op (.load none (.tmp 36)), none⟩, []⟩,
  ⟨8, ⟨some 38, .op (.ixStr (.tmp 33) (.tmp 37)), none⟩, []⟩,
  ⟨9, ⟨some 39, .op (.mv (.tmp 38)), none⟩, []⟩,
  ⟨10, ⟨some 40, .op (.mv (.const (.bool true))), none⟩, []⟩] [(21, 30), (22, 31), (23, 32), (24, 33), (25, 34), (26, 35), (27, 36), (28, 37), (29, 38), (2, 39), (3, 40)]) .ret))⟩
theorem milestoneref4_reader_next_eq (T : Tab) (k : Nat) (r0 : AV) (h : Heap) : runF T k milestoneref4_reader_next_mf [r0] h =
    oa (nilCk r0) fun t31_1 =>
    oa (fldA 1 t31_1) fun t32_2 =>
    oa (ld1 h t32_2) fun t33_3 =>
    oa (nilCk r0) fun t35_4 =>
    oa (fldA 0 t35_4) fun t36_5 =>
    oa (ld1 h t36_5) fun t37_6 =>
    oa (lenB t37_6) fun t38_7 =>
    oa (binV .geq .scalar t33_3 t38_7) fun t39_8 =>
    ob (gd t39_8 false (some (r0, h)) h) fun t41_9 h_10 =>
    ob (gd t39_8 false (pure1 h_10 (nilCk t41_9)) h_10) fun t42_11 h_12 =>
    ob (gd t39_8 false (pure1 h_12 (fldA 3 t42_11)) h_12) fun t43_13 h_14 =>
    ob (gd t39_8 false (pure1 h_14 (ld1 h_14 t43_13)) h_14) fun t44_15 h_16 =>
    ob (gd t39_8 false (pure1 h_16 (binV .neq .scalar t44_15 (.int .i64 0))) h_16) fun t45_17 h_18 =>
    oa (pickV t39_8 (.bool true) t45_17) fun t46_19 =>
    cond2 t46_19
      (
      some (.tup [(.int .u8 0), (.bool false)], h_18)
      )
      (
      oa (nilCk r0) fun t31_20 =>
      oa (fldA 0 t31_20) fun t32_21 =>
      oa (ld1 h_18 t32_21) fun t33_22 =>
      oa (nilCk r0) fun t35_23 =>
      oa (fldA 1 t35_23) fun t36_24 =>
      oa (ld1 h_18 t36_24) fun t37_25 =>
      oa (ixS t33_22 t37_25) fun t38_26 =>
      some (.tup [t38_26, (.bool true)], h_18)
      ) := runEq (by kernel_rfl)
noncomputable def milestoneref4_reader_piece_c1 : MCode := .region [⟨some 45, .op (.mv (.tmp 0)), none⟩,
  ⟨some 46, .op (.nilCheck (.tmp 45)), none⟩,
  ⟨some 47, .op (.fieldAddr 1 (.tmp 46)), none⟩,
  ⟨some 48, .op (.load none (.tmp 47)), none⟩,
  ⟨some 49, .op (.bin .add .scalar (.tmp 48) (.const (.int .i64 1))), none⟩,
  ⟨some 50, .op (.nilCheck (.tmp 45)), none⟩,
  ⟨some 51, .op (.fieldAddr 1 (.tmp 50)), none⟩,
  ⟨none, .op (.store 1 (.tmp 51) (.tmp 49)), none⟩]
noncomputable def milestoneref4_reader_piece_c2 : MCode := .block 1 (.seq [8, 9, 10, 11, 12] (.region [⟨some 9, .op (.mv (.tmp 0)), none⟩,
  ⟨some 10, .call f_milestoneref4_reader_next [(.tmp 9)], none⟩,
  ⟨some 8, .op (.mv (.tmp 10)), none⟩,
  ⟨some 11, .op (.extract 0 (.tmp 8)), none⟩,
  ⟨some 12, .op (.extract 1 (.tmp 8)), none⟩,
  ⟨some 4, .op (.mv (.tmp 11)), none⟩,
  ⟨some 5, .op (.mv (.tmp 12)), none⟩]) (.seq [14] (.seq [5, 13] (.region [⟨some 13, .op (.mv (.tmp 5)), none⟩,
  ⟨some 14, .op (.un .not (.tmp 13)), none⟩]) (.cond (.tmp 14) (.seq [0, 3, 4, 14, 15] (.region [⟨some 15, .op (.load (some 5) (.tmp 3)), none⟩,
  ⟨none, .op (.store 5 (.tmp 2) (.tmp 15)), none⟩]) .ret) .skip)) (.seq [16, 18, 20, 21, 22, 23, 25, 26, 27, 28, 30, 31, 32] (.seq [4] (.region [⟨some 16, .op (.mv (.tmp 4)), none⟩]) (.block 2 (.seq [19] (.region [⟨some 19, .op (.bin .eql .scalar (.tmp 16) (.const (.int .u8 42))), none⟩,
  ⟨some 18, .op (.mv (.tmp 19)), none⟩]) (.cond (.tmp 18) (.region [⟨some 20, .op (.load (some 5) (.tmp 3)), none⟩,
  ⟨some 21, .op (.buildSlice 5 1 [.int .i64 0, .int .i64 0, .int .i64 0, .int .i64 0, .nils] [(0, 5, (.tmp 20))]), none⟩,
  ⟨some 22, .op (.build [.int .i64 0, .int .i64 0, .int .i64 0, .int .i64 0, .nils] [(0, 1, (.const (.int .i64 6))), (4, 1, (.tmp 21))]), none⟩,
  ⟨none, .op (.store 5 (.tmp 3) (.tmp 22)), none⟩]) (.seq [18, 24] (.region [⟨some 24, .op (.bin .eql .scalar (.tmp 16) (.const (.int .u8 43))), none⟩,
  ⟨some 23, .op (.mv (.tmp 24)), none⟩]) (.cond (.tmp 23) (.region [⟨some 25, .op (.load (some 5) (.tmp 3)), none⟩,
  ⟨some 26, .op (.buildSlice 5 1 [.int .i64 0, .int .i64 0, .int .i64 0, .int .i64 0, .nils] [(0, 5, (.tmp 25))]), none⟩,
  ⟨some 27, .op (.build [.int .i64 0, .int .i64 0, .int .i64 0, .int .i64 0, .nils] [(0, 1, (.const (.int .i64 7))), (4, 1, (.tmp 26))]), none⟩,
  ⟨none, .op (.store 5 (.tmp 3) (.tmp 27)), none⟩]) (.seq [23, 29] (.region [⟨some 29, .op (.bin .eql .scalar (.tmp 16) (.const (.int .u8 63))), none⟩,
  ⟨some 28, .op (.mv (.tmp 29)), none⟩]) (.cond (.tmp 28) (.region [⟨some 30, .op (.load (some 5) (.tmp 3)), none⟩,
  ⟨some 31, .op (.buildSlice 5 1 [.int .i64 0, .int .i64 0, .int .i64 0, .int .i64 0, .nils] [(0, 5, (.tmp 30))]), none⟩,
  ⟨some 32, .op (.build [.int .i64 0, .int .i64 0, .int .i64 0, .int .i64 0, .nils] [(0, 1, (.const (.int .i64 8))), (4, 1, (.tmp 31))]), none⟩,
  ⟨none, .op (.store 5 (.tmp 3) (.tmp 32)), none⟩]) (.seq [16, 28, 34] (.region [⟨some 34, .op (.bin .eql .scalar (.tmp 16) (.const (.int .u8 123))), none⟩,
  ⟨some 33, .op (.mv (.tmp 34)), none⟩]) (.cond (.tmp 33) (.seq [33, 35, 36, 37, 38, 39, 40, 41] (.region [⟨some 35, .op (.mv (.tmp 0)), none⟩,
  ⟨some 36, .op (.nilCheck (.tmp 35)), none⟩,
  ⟨some 37, .op (.fieldAddr 1 (.tmp 36)), none⟩,
  ⟨some 38, .op (.load none (.tmp 37)), none⟩,
  ⟨some 39, .op (.bin .add .scalar (.tmp 38) (.const (.int .i64 1))), none⟩,
  ⟨some 40, .op (.nilCheck (.tmp 35)), none⟩,
  ⟨some 41, .op (.fieldAddr 1 (.tmp 40)), none⟩,
  ⟨none, .op (.store 1 (.tmp 41) (.tmp 39)), none⟩]) (.seq [42, 43, 44] (.region [⟨some 42, .op (.mv (.tmp 0)), none⟩,
  ⟨some 43, .op (.load (some 5) (.tmp 3)), none⟩,
  ⟨some 44, .call f_milestoneref4_reader_times [(.tmp 42), (.tmp 43)], none⟩,
  ⟨none, .op (.store 5 (.tmp 3) (.tmp 44)), none⟩]) (.exit 1))) (.seq [0, 3, 17, 33] (.region [⟨some 17, .op (.load (some 5) (.tmp 3)), none⟩,
  ⟨none, .op (.store 5 (.tmp 2) (.tmp 17)), none⟩]) .ret))))))))))) (.lab milestoneref4_reader_piece_c1))))
def milestoneref4_reader_piece_rs : Res := [(2, some (some 5))]
noncomputable def milestoneref4_reader_piece_mf : MFn := ⟨52, milestoneref4_reader_piece_rs, .seq [] (.region [⟨some 2, .op (.alloc [.int .i64 0, .int .i64 0, .int .i64 0, .int .i64 0, .nils]), none⟩]) (.seq [6, 7] (.region [⟨some 6, .op (.mv (.tmp 0)), none⟩,
  ⟨some 7, .call f_milestoneref4_reader_atom [(.tmp 6)], none⟩,
  ⟨some 3, .op (.alloc [.int .i64 0, .int .i64 0, .int .i64 0, .int .i64 0, .nils]), none⟩,
  ⟨none, .op (.store 5 (.tmp 3) (.tmp 7)), none⟩]) (.block 0 (.loop [45, 46, 47, 48, 49, 50, 51] milestoneref4_reader_piece_c2)))⟩
noncomputable def milestoneref4_reader_piece_l1 (T : Tab) (k j0 : Nat) (r0 t2 n3 : AV) (h : Heap) : Option (AV × Heap) :=
  loopB T k milestoneref4_reader_piece_rs j0 [45, 46, 47, 48, 49, 50, 51] milestoneref4_reader_piece_c2 [.blk 0] [r0, .undef, t2, n3, .undef, .undef, .undef, .undef, .undef, .undef, .undef, .undef, .undef, .undef, .undef, .undef, .undef, .undef, .undef, .undef, .undef, .undef, .undef, .undef, .undef, .undef, .undef, .undef, .undef, .undef, .undef, .undef, .undef, .undef, .undef, .undef, .undef, .undef, .undef, .undef, .undef, .undef, .undef, .undef, .undef, .undef, .undef, .undef, .undef, .undef, .undef, .undef] h
noncomputable def milestoneref4_reader_piece_b2 (T : Tab) (k j0 : Nat) (r0 t2 n3 : AV) (h : Heap) : Option (AV × Heap) :=
  evB T k milestoneref4_reader_piece_rs milestoneref4_reader_piece_c1 [.blk 1, .lp j0 [45, 46, 47, 48, 49, 50, 51] milestoneref4_reader_piece_c2, .blk 0] [r0, .undef, t2, n3, .undef, .undef, .undef, .undef, .undef, .undef, .undef, .undef, .undef, .undef, .undef, .undef, .undef, .undef, .undef, .undef, .undef, .undef, .undef, .undef, .undef, .undef, .undef, .undef, .undef, .undef, .undef, .undef, .undef, .undef, .undef, .undef, .undef, .undef, .undef, .undef, .undef, .undef, .undef, .undef, .undef, .undef, .undef, .undef, .undef, .undef, .undef, .undef] h
theorem milestoneref4_reader_piece_b2_eq (T : Tab) (k j0 : Nat) (r0 t2 n3 : AV) (h : Heap) : milestoneref4_reader_piece_b2 T k j0 r0 t2 n3 h =
    oa (nilCk r0) fun t46_1 =>
    oa (fldA 1 t46_1) fun t47_2 =>
    oa (ld1 h t47_2) fun t48_3 =>
    oa (binV .add .scalar t48_3 (.int .i64 1)) fun t49_4 =>
    oa (nilCk r0) fun t50_5 =>
    oa (fldA 1 t50_5) fun t51_6 =>
    oh (stN 1 h t51_6 t49_4) fun h_7 =>
    milestoneref4_reader_piece_l1 T k j0 r0 t2 n3 h_7 := blockEq (by kernel_rfl)
theorem milestoneref4_reader_piece_l1_eq (T : Tab) (k j0 : Nat) (r0 t2 n3 : AV) (h : Heap) : milestoneref4_reader_piece_l1 T k (j0 + 1) r0 t2 n3 h =
    ob (evalFn T k f_milestoneref4_reader_next [r0] h) fun t10_1 h_2 =>
    oa (extr 0 t10_1) fun t11_3 =>
    oa (extr 1 t10_1) fun t12_4 =>
    oa (unV .not t12_4) fun t14_5 =>
    cond2 t14_5
      (
      oa (ldN 5 h_2 n3) fun t15_6 =>
      oh (stN 5 h_2 t2 t15_6) fun h_7 =>
      oa (ldN 5 h_7 t2) fun t2_8 =>
      some (t2_8, h_7)
      )
      (
      oa (binV .eql .scalar t11_3 (.int .u8 42)) fun t19_9 =>
      cond2 t19_9
        (
        oa (ldN 5 h_2 n3) fun t20_10 =>
        ob (buildSl 5 1 [.int .i64 0, .int .i64 0, .int .i64 0, .int .i64 0, .nils] [(0, 5, t20_10)] h_2) fun t21_11 h_12 =>
        oa (buildV [.int .i64 0, .int .i64 0, .int .i64 0, .int .i64 0, .nils] [(0, 1, (.int .i64 6)), (4, 1, t21_11)]) fun t22_13 =>
        oh (stN 5 h_12 n3 t22_13) fun h_14 =>
        milestoneref4_reader_piece_b2 T k j0 r0 t2 n3 h_14
        )
        (
        oa (binV .eql .scalar t11_3 (.int .u8 43)) fun t24_15 =>
        cond2 t24_15
          (
          oa (ldN 5 h_2 n3) fun t25_16 =>
          ob (buildSl 5 1 [.int .i64 0, .int .i64 0, .int .i64 0, .int .i64 0, .nils] [(0, 5, t25_16)] h_2) fun t26_17 h_18 =>
          oa (buildV [.int .i64 0, .int .i64 0, .int .i64 0, .int .i64 0, .nils] [(0, 1, (.int .i64 7)), (4, 1, t26_17)]) fun t27_19 =>
          oh (stN 5 h_18 n3 t27_19) fun h_20 =>
          milestoneref4_reader_piece_b2 T k j0 r0 t2 n3 h_20
          )
          (
          oa (binV .eql .scalar t11_3 (.int .u8 63)) fun t29_21 =>
          cond2 t29_21
            (
            oa (ldN 5 h_2 n3) fun t30_22 =>
            ob (buildSl 5 1 [.int .i64 0, .int .i64 0, .int .i64 0, .int .i64 0, .nils] [(0, 5, t30_22)] h_2) fun t31_23 h_24 =>
            oa (buildV [.int .i64 0, .int .i64 0, .int .i64 0, .int .i64 0, .nils] [(0, 1, (.int .i64 8)), (4, 1, t31_23)]) fun t32_25 =>
            oh (stN 5 h_24 n3 t32_25) fun h_26 =>
            milestoneref4_reader_piece_b2 T k j0 r0 t2 n3 h_26
            )
            (
            oa (binV .eql .scalar t11_3 (.int .u8 123)) fun t34_27 =>
            cond2 t34_27
              (
              oa (nilCk r0) fun t36_28 =>
              oa (fldA 1 t36_28) fun t37_29 =>
              oa (ld1 h_2 t37_29) fun t38_30 =>
              oa (binV .add .scalar t38_30 (.int .i64 1)) fun t39_31 =>
              oa (nilCk r0) fun t40_32 =>
              oa (fldA 1 t40_32) fun t41_33 =>
              oh (stN 1 h_2 t41_33 t39_31) fun h_34 =>
              oa (ldN 5 h_34 n3) fun t43_35 =>
              ob (evalFn T k f_milestoneref4_reader_times [r0, t43_35] h_34) fun t44_36 h_37 =>
              oh (stN 5 h_37 n3 t44_36) fun h_38 =>
              milestoneref4_reader_piece_l1 T k j0 r0 t2 n3 h_38
              )
              (
              oa (ldN 5 h_2 n3) fun t17_39 =>
              oh (stN 5 h_2 t2 t17_39) fun h_40 =>
              oa (ldN 5 h_40 t2) fun t2_41 =>
              some (t2_41, h_40)
              )
            )
          )
        )
      ) := loopEq (by kernel_rfl)
theorem milestoneref4_reader_piece_eq (T : Tab) (k : Nat) (r0 : AV) (h : Heap) : runF T k milestoneref4_reader_piece_mf [r0] h =
    ob (newVar h [.int .i64 0, .int .i64 0, .int .i64 0, .int .i64 0, .nils]) fun t2_1 h_2 =>
    ob (evalFn T k f_milestoneref4_reader_atom [r0] h_2) fun t7_3 h_4 =>
    ob (newVar h_4 [.int .i64 0, .int .i64 0, .int .i64 0, .int .i64 0, .nils]) fun n3_5 h_6 =>
    oh (stN 5 h_6 n3_5 t7_3) fun h_7 =>
    milestoneref4_reader_piece_l1 T k k r0 t2_1 n3_5 h_7 := runEq (by kernel_rfl)
def milestoneref4_reader_atom_rs : Res := [(2, some (some 5))]
noncomputable def milestoneref4_reader_atom_mf : MFn := ⟨72, milestoneref4_reader_atom_rs, .seq [] (.region [⟨some 2, .op (.alloc [.int .i64 0, .int .i64 0, .int .i64 0, .int .i64 0, .nils]), none⟩]) (.seq [5, 6, 7, 8, 9] (.region [⟨some 6, .op (.mv (.tmp 0)), none⟩,
  ⟨some 7, .call f_milestoneref4_reader_next [(.tmp 6)], none⟩,
  ⟨some 5, .op (.mv (.tmp 7)), none⟩,
  ⟨some 8, .op (.extract 0 (.tmp 5)), none⟩,
  ⟨some 9, .op (.extract 1 (.tmp 5)), none⟩,
  ⟨some 3, .op (.mv (.tmp 8)), none⟩,
  ⟨some 4, .op (.mv (.tmp 9)), none⟩]) (.seq [11] (.seq [4, 10] (.region [⟨some 10, .op (.mv (.tmp 4)), none⟩,
  ⟨some 11, .op (.un .not (.tmp 10)), none⟩]) (.cond (.tmp 11) (.seq [0, 3, 11, 12, 13] (.region [⟨some 12, .op (.mv (.tmp 0)), none⟩,
  ⟨some 13, .call f_milestoneref4_reader_fail [(.tmp 12), (.const (.int .i64 3))], none⟩,
  ⟨none, .op (.store 5 (.tmp 2) (.tmp 13)), none⟩]) .ret) .skip)) (.seq [22] (.seq [14, 15, 16, 17, 18, 19, 20, 21] (.region [⟨some 14, .op (.mv (.tmp 3)), none⟩,
  ⟨some 15, .op (.bin .eql .scalar (.tmp 14) (.const (.int .u8 40))), none⟩,
  ⟨some 16, .op (.mv (.tmp 15)), none⟩,
  ⟨some 17, .op (.mv (.tmp 0)), some (16, true)⟩,
  ⟨some 18, .op (.nilCheck (.tmp 17)), some (16, true)⟩,
  ⟨some 19, .op (.fieldAddr 2 (.tmp 18)), some (16, true)⟩,
  ⟨some 20, .op (.load none (.tmp 19)), some (16, true)⟩,
  ⟨some 21, .op (.bin .geq .scalar (.tmp 20) (.const (.int .i64 30))), some (16, true)⟩,
  ⟨some 22, .op (.pick (.tmp 16) (.tmp 21) (.const (.bool false))), none⟩]) (.cond (.tmp 22) (.seq [0, 3, 22, 23, 24] (.region [⟨some 23, .op (.mv (.tmp 0)), none⟩,
  ⟨some 24, .call f_milestoneref4_reader_fail [(.tmp 23), (.const (.int .i64 4))], none⟩,
  ⟨none, .op (.store 5 (.tmp 2) (.tmp 24)), none⟩]) .ret) .skip)) (.seq [25, 26, 27, 28, 29, 30, 31] (.region [⟨some 25, .op (.mv (.tmp 0)), none⟩,
  ⟨some 26, .op (.nilCheck (.tmp 25)), none⟩,
  ⟨some 27, .op (.fieldAddr 1 (.tmp 26)), none⟩,
  ⟨some 28, .op (.load none (.tmp 27)), none⟩,
  ⟨some 29, .op (.bin .add .scalar (.tmp 28) (.const (.int .i64 1))), none⟩,
  ⟨some 30, .op (.nilCheck (.tmp 25)), none⟩,
  ⟨some 31, .op (.fieldAddr 1 (.tmp 30)), none⟩,
  ⟨none, .op (.store 1 (.tmp 31) (.tmp 29)), none⟩]) (.seq [58] (.block 0 (.seq [33, 34, 35] (.region [⟨some 33, .op (.mv (.tmp 3)), none⟩,
  ⟨some 34, .call f_milestoneref4_mode [(.tmp 33)], none⟩,
  ⟨some 35, .op (.bin .geq .scalar (.tmp 34) (.const (.int .i64 0))), none⟩,
  ⟨some 32, .op (.mv (.tmp 35)), none⟩]) (.cond (.tmp 32) (.seq [0, 3, 32, 36, 37, 38, 39, 40] (.region [⟨some 36, .op (.mv (.tmp 3)), none⟩,
  ⟨some 37, .call f_milestoneref4_mode [(.tmp 36)], none⟩,
  ⟨some 38, .op (.convI .u64 (.tmp 37)), none⟩,
  ⟨some 39, .op (.bin .shl .scalar (.const (.int .i64 1)) (.tmp 38)), none⟩,
  ⟨some 40, .op (.build [.int .i64 0, .int .i64 0, .int .i64 0, .int .i64 0, .nils] [(0, 1, (.const (.int .i64 1))), (1, 1, (.tmp 39))]), none⟩,
  ⟨none, .op (.store 5 (.tmp 2) (.tmp 40)), none⟩]) .ret) (.seq [32, 42, 43] (.region [⟨some 42, .op (.mv (.tmp 3)), none⟩,
  ⟨some 43, .op (.bin .eql .scalar (.tmp 42) (.const (.int .u8 46))), none⟩,
  ⟨some 41, .op (.mv (.tmp 43)), none⟩]) (.cond (.tmp 41) (.seq [0, 3, 41, 44] (.region [⟨some 44, .op (.build [.int .i64 0, .int .i64 0, .int .i64 0, .int .i64 0, .nils] [(0, 1, (.const (.int .i64 1))), (1, 1, (.const (.int .i64 31)))]), none⟩,
  ⟨none, .op (.store 5 (.tmp 2) (.tmp 44)), none⟩]) .ret) (.seq [41, 46, 47] (.region [⟨some 46, .op (.mv (.tmp 3)), none⟩,
  ⟨some 47, .op (.bin .eql .scalar (.tmp 46) (.const (.int .u8 48))), none⟩,
  ⟨some 45, .op (.mv (.tmp 47)), none⟩]) (.cond (.tmp 45) (.seq [0, 3, 45, 48] (.region [⟨some 48, .op (.build [.int .i64 0, .int .i64 0, .int .i64 0, .int .i64 0, .nils] [(0, 1, (.const (.int .i64 2)))]), none⟩,
  ⟨none, .op (.store 5 (.tmp 2) (.tmp 48)), none⟩]) .ret) (.seq [45, 50, 51] (.region [⟨some 50, .op (.mv (.tmp 3)), none⟩,
  ⟨some 51, .op (.bin .eql .scalar (.tmp 50) (.const (.int .u8 95))), none⟩,
  ⟨some 49, .op (.mv (.tmp 51)), none⟩]) (.cond (.tmp 49) (.seq [0, 3, 49, 52] (.region [⟨some 52, .op (.build [.int .i64 0, .int .i64 0, .int .i64 0, .int .i64 0, .nils] [(0, 1, (.const (.int .i64 3)))]), none⟩,
  ⟨none, .op (.store 5 (.tmp 2) (.tmp 52)), none⟩]) .ret) (.seq [49, 54, 55] (.region [⟨some 54, .op (.mv (.tmp 3)), none⟩,
  ⟨some 55, .op (.bin .eql .scalar (.tmp 54) (.const (.int .u8 91))), none⟩,
  ⟨some 53, .op (.mv (.tmp 55)), none⟩]) (.cond (.tmp 53) (.seq [0, 3, 53, 56, 57] (.region [⟨some 56, .op (.mv (.tmp 0)), none⟩,
  ⟨some 57, .call f_milestoneref4_reader_class [(.tmp 56)], none⟩,
  ⟨none, .op (.store 5 (.tmp 2) (.tmp 57)), none⟩]) .ret) (.seq [3, 53, 59, 60] (.region [⟨some 59, .op (.mv (.tmp 3)), none⟩,
  ⟨some 60, .op (.bin .eql .scalar (.tmp 59) (.const (.int .u8 40))), none⟩,
  ⟨some 58, .op (.mv (.tmp 60)), none⟩]) (.cond (.tmp 58) (.seq [0, 58, 61, 62] (.region [⟨some 61, .op (.mv (.tmp 0)), none⟩,
  ⟨some 62, .call f_milestoneref4_reader_group [(.tmp 61)], none⟩,
  ⟨none, .op (.store 5 (.tmp 2) (.tmp 62)), none⟩]) .ret) .skip))))))))))))) (.seq [63, 64, 65, 66, 67, 68, 69] (.region [⟨some 63, .op (.mv (.tmp 0)), none⟩,
  ⟨some 64, .op (.nilCheck (.tmp 63)), none⟩,
  ⟨some 65, .op (.fieldAddr 1 (.tmp 64)), none⟩,
  ⟨some 66, .op (.load none (.tmp 65)), none⟩,
  ⟨some 67, .op (.bin .sub .scalar (.tmp 66) (.const (.int .i64 1))), none⟩,
  ⟨some 68, .op (.nilCheck (.tmp 63)), none⟩,
  ⟨some 69, .op (.fieldAddr 1 (.tmp 68)), none⟩,
  ⟨none, .op (.store 1 (.tmp 69) (.tmp 67)), none⟩]) (.seq [0, 70, 71] (.region [⟨some 70, .op (.mv (.tmp 0)), none⟩,
  ⟨some 71, .call f_milestoneref4_reader_fail [(.tmp 70), (.const (.int .i64 3))], none⟩,
  ⟨none, .op (.store 5 (.tmp 2) (.tmp 71)), none⟩]) .ret)))))))⟩
theorem milestoneref4_reader_atom_eq (T : Tab) (k : Nat) (r0 : AV) (h : Heap) : runF T k milestoneref4_reader_atom_mf [r0] h =
    ob (newVar h [.int .i64 0, .int .i64 0, .int .i64 0, .int .i64 0, .nils]) fun t2_1 h_2 =>
    ob (evalFn T k f_milestoneref4_reader_next [r0] h_2) fun t7_3 h_4 =>
    oa (extr 0 t7_3) fun t8_5 =>
    oa (extr 1 t7_3) fun t9_6 =>
    oa (unV .not t9_6) fun t11_7 =>
    cond2 t11_7
      (
      ob (evalFn T k f_milestoneref4_reader_fail [r0, (.int .i64 3)] h_4) fun t13_8 h_9 =>
      oh (stN 5 h_9 t2_1 t13_8) fun h_10 =>
      oa (ldN 5 h_10 t2_1) fun t2_11 =>
      some (t2_11, h_10)
      )
      (
      oa (binV .eql .scalar t8_5 (.int .u8 40)) fun t15_12 =>
      ob (gd t15_12 true (some (r0, h_4)) h_4) fun t17_13 h_14 =>
      ob (gd t15_12 true (pure1 h_14 (nilCk t17_13)) h_14) fun t18_15 h_16 =>
      ob (gd t15_12 true (pure1 h_16 (fldA 2 t18_15)) h_16) fun t19_17 h_18 =>
      ob (gd t15_12 true (pure1 h_18 (ld1 h_18 t19_17)) h_18) fun t20_19 h_20 =>
      ob (gd t15_12 true (pure1 h_20 (binV .geq .scalar t20_19 (.int .i64 30))) h_20) fun t21_21 h_22 =>
      oa (pickV t15_12 t21_21 (.bool false)) fun t22_23 =>
      cond2 t22_23
        (
        ob (evalFn T k f_milestoneref4_reader_fail [r0, (.int .i64 4)] h_22) fun t24_24 h_25 =>
        oh (stN 5 h_25 t2_1 t24_24) fun h_26 =>
        oa (ldN 5 h_26 t2_1) fun t2_27 =>
        some (t2_27, h_26)
        )
        (
        oa (nilCk r0) fun t26_28 =>
        oa (fldA 1 t26_28) fun t27_29 =>
        oa (ld1 h_22 t27_29) fun t28_30 =>
        oa (binV .add .scalar t28_30 (.int .i64 1)) fun t29_31 =>
        oa (nilCk r0) fun t30_32 =>
        oa (fldA 1 t30_32) fun t31_33 =>
        oh (stN 1 h_22 t31_33 t29_31) fun h_34 =>
        ob (evalFn T k f_milestoneref4_mode [t8_5] h_34) fun t34_35 h_36 =>
        oa (binV .geq .scalar t34_35 (.int .i64 0)) fun t35_37 =>
        cond2 t35_37
          (
          ob (evalFn T k f_milestoneref4_mode [t8_5] h_36) fun t37_38 h_39 =>
          oa (convV .u64 t37_38) fun t38_40 =>
          oa (binV .shl .scalar (.int .i64 1) t38_40) fun t39_41 =>
          oa (buildV [.int .i64 0, .int .i64 0, .int .i64 0, .int .i64 0, .nils] [(0, 1, (.int .i64 1)), (1, 1, t39_41)]) fun t40_42 =>
          oh (stN 5 h_39 t2_1 t40_42) fun h_43 =>
          oa (ldN 5 h_43 t2_1) fun t2_44 =>
          some (t2_44, h_43)
          )
          (
          oa (binV .eql .scalar t8_5 (.int .u8 46)) fun t43_45 =>
          cond2 t43_45
            (
            oa (buildV [.int .i64 0, .int .i64 0, .int .i64 0, .int .i64 0, .nils] [(0, 1, (.int .i64 1)), (1, 1, (.int .i64 31))]) fun t44_46 =>
            oh (stN 5 h_36 t2_1 t44_46) fun h_47 =>
            oa (ldN 5 h_47 t2_1) fun t2_48 =>
            some (t2_48, h_47)
            )
            (
            oa (binV .eql .scalar t8_5 (.int .u8 48)) fun t47_49 =>
            cond2 t47_49
              (
              oa (buildV [.int .i64 0, .int .i64 0, .int .i64 0, .int .i64 0, .nils] [(0, 1, (.int .i64 2))]) fun t48_50 =>
              oh (stN 5 h_36 t2_1 t48_50) fun h_51 =>
              oa (ldN 5 h_51 t2_1) fun t2_52 =>
              some (t2_52, h_51)
              )
              (
              oa (binV .eql .scalar t8_5 (.int .u8 95)) fun t51_53 =>
              cond2 t51_53
                (
                oa (buildV [.int .i64 0, .int .i64 0, .int .i64 0, .int .i64 0, .nils] [(0, 1, (.int .i64 3))]) fun t52_54 =>
                oh (stN 5 h_36 t2_1 t52_54) fun h_55 =>
                oa (ldN 5 h_55 t2_1) fun t2_56 =>
                some (t2_56, h_55)
                )
                (
                oa (binV .eql .scalar t8_5 (.int .u8 91)) fun t55_57 =>
                cond2 t55_57
                  (
                  ob (evalFn T k f_milestoneref4_reader_class [r0] h_36) fun t57_58 h_59 =>
                  oh (stN 5 h_59 t2_1 t57_58) fun h_60 =>
                  oa (ldN 5 h_60 t2_1) fun t2_61 =>
                  some (t2_61, h_60)
                  )
                  (
                  oa (binV .eql .scalar t8_5 (.int .u8 40)) fun t60_62 =>
                  cond2 t60_62
                    (
                    ob (evalFn T k f_milestoneref4_reader_group [r0] h_36) fun t62_63 h_64 =>
                    oh (stN 5 h_64 t2_1 t62_63) fun h_65 =>
                    oa (ldN 5 h_65 t2_1) fun t2_66 =>
                    some (t2_66, h_65)
                    )
                    (
                    oa (nilCk r0) fun t64_67 =>
                    oa (fldA 1 t64_67) fun t65_68 =>
                    oa (ld1 h_36 t65_68) fun t66_69 =>
                    oa (binV .sub .scalar t66_69 (.int .i64 1)) fun t67_70 =>
                    oa (nilCk r0) fun t68_71 =>
                    oa (fldA 1 t68_71) fun t69_72 =>
                    oh (stN 1 h_36 t69_72 t67_70) fun h_73 =>
                    ob (evalFn T k f_milestoneref4_reader_fail [r0, (.int .i64 3)] h_73) fun t71_74 h_75 =>
                    oh (stN 5 h_75 t2_1 t71_74) fun h_76 =>
                    oa (ldN 5 h_76 t2_1) fun t2_77 =>
                    some (t2_77, h_76)
                    )
                  )
                )
              )
            )
          )
        )
      ) := runEq (by kernel_rfl)
noncomputable def milestoneref4_reader_times_c1 : MCode := .seq [16] (.seq [15] (.region [⟨some 15, .op (.mv (.tmp 7)), none⟩,
  ⟨some 16, .op (.bin .lss .scalar (.tmp 15) (.const (.int .i64 2))), none⟩]) (.cond (.tmp 16) .skip (.exit 0))) (.seq [69, 70, 71, 72, 73, 74, 75] (.block 1 (.seq [19, 20, 21, 22, 23] (.region [⟨some 20, .op (.mv (.tmp 0)), none⟩,
  ⟨some 21, .call f_milestoneref4_reader_next [(.tmp 20)], none⟩,
  ⟨some 19, .op (.mv (.tmp 21)), none⟩,
  ⟨some 22, .op (.extract 0 (.tmp 19)), none⟩,
  ⟨some 23, .op (.extract 1 (.tmp 19)), none⟩,
  ⟨some 8, .op (.mv (.tmp 22)), none⟩,
  ⟨some 9, .op (.mv (.tmp 23)), none⟩]) (.seq [9, 33] (.seq [24, 25, 26, 27, 28, 29, 30, 31, 32] (.region [⟨some 24, .op (.mv (.tmp 9)), none⟩,
  ⟨some 25, .op (.un .not (.tmp 24)), none⟩,
  ⟨some 26, .op (.mv (.tmp 25)), none⟩,
  ⟨some 27, .op (.mv (.tmp 8)), some (26, false)⟩,
  ⟨some 28, .op (.bin .lss .scalar (.tmp 27) (.const (.int .u8 48))), some (26, false)⟩,
  ⟨some 29, .op (.pick (.tmp 26) (.const (.bool true)) (.tmp 28)), none⟩,
  ⟨some 30, .op (.mv (.tmp 29)), none⟩,
  ⟨some 31, .op (.mv (.tmp 8)), some (30, false)⟩,
  ⟨some 32, .op (.bin .gtr .scalar (.tmp 31) (.const (.int .u8 57))), some (30, false)⟩,
  ⟨some 33, .op (.pick (.tmp 30) (.const (.bool true)) (.tmp 32)), none⟩]) (.cond (.tmp 33) (.seq [5, 34, 35, 36, 37, 38] (.seq [3, 6, 7, 8, 9, 33] (.region [⟨some 34, .op (.mv (.tmp 9)), none⟩]) (.cond (.tmp 34) (.region [⟨some 35, .op (.mv (.tmp 0)), none⟩,
  ⟨some 36, .op (.mv (.tmp 5)), none⟩,
  ⟨some 37, .op (.nilCheck (.tmp 35)), none⟩,
  ⟨some 38, .op (.fieldAddr 1 (.tmp 37)), none⟩,
  ⟨none, .op (.store 1 (.tmp 38) (.tmp 36)), none⟩]) .skip)) (.seq [0, 39, 40] (.region [⟨some 39, .op (.mv (.tmp 0)), none⟩,
  ⟨some 40, .call f_milestoneref4_reader_fail [(.tmp 39), (.const (.int .i64 3))], none⟩,
  ⟨none, .op (.store 5 (.tmp 4) (.tmp 40)), none⟩]) .ret)) .skip)) (.seq [8, 41, 42, 43, 44, 45] (.region [⟨some 41, .op (.mv (.tmp 7)), none⟩,
  ⟨some 42, .op (.mv (.tmp 8)), none⟩,
  ⟨some 43, .op (.bin .sub .scalar (.tmp 42) (.const (.int .u8 48))), none⟩,
  ⟨some 44, .op (.convI .i64 (.tmp 43)), none⟩,
  ⟨some 45, .op (.idxArr 2 1 (.tmp 6) (.tmp 41)), none⟩,
  ⟨none, .op (.store 1 (.tmp 45) (.tmp 44)), none⟩]) (.seq [46, 47, 48, 49, 50, 51, 52] (.region [⟨some 46, .op (.mv (.tmp 0)), none⟩,
  ⟨some 47, .op (.nilCheck (.tmp 46)), none⟩,
  ⟨some 48, .op (.fieldAddr 1 (.tmp 47)), none⟩,
  ⟨some 49, .op (.load none (.tmp 48)), none⟩,
  ⟨some 50, .op (.bin .add .scalar (.tmp 49) (.const (.int .i64 1))), none⟩,
  ⟨some 51, .op (.nilCheck (.tmp 46)), none⟩,
  ⟨some 52, .op (.fieldAddr 1 (.tmp 51)), none⟩,
  ⟨none, .op (.store 1 (.tmp 52) (.tmp 50)), none⟩]) (.seq [53, 54, 55, 56, 57] (.region [⟨some 54, .op (.mv (.tmp 0)), none⟩,
  ⟨some 55, .call f_milestoneref4_reader_next [(.tmp 54)], none⟩,
  ⟨some 53, .op (.mv (.tmp 55)), none⟩,
  ⟨some 56, .op (.extract 0 (.tmp 53)), none⟩,
  ⟨some 57, .op (.extract 1 (.tmp 53)), none⟩,
  ⟨some 8, .op (.mv (.tmp 56)), none⟩,
  ⟨some 9, .op (.mv (.tmp 57)), none⟩]) (.seq [66] (.seq [8, 9, 58, 59, 60, 61, 62, 63, 64, 65] (.region [⟨some 58, .op (.mv (.tmp 9)), none⟩,
  ⟨some 59, .op (.un .not (.tmp 58)), none⟩,
  ⟨some 60, .op (.mv (.tmp 59)), none⟩,
  ⟨some 61, .op (.mv (.tmp 8)), some (60, false)⟩,
  ⟨some 62, .op (.build [.int .u8 0, .int .u8 0] [(0, 1, (.const (.int .u8 44))), (1, 1, (.const (.int .u8 125)))]), some (60, false)⟩,
  ⟨some 63, .op (.mv (.tmp 7)), some (60, false)⟩,
  ⟨some 64, .op (.ixArr 2 1 none (.tmp 62) (.tmp 63)), some (60, false)⟩,
  ⟨some 65, .op (.bin .neq .scalar (.tmp 61) (.tmp 64)), some (60, false)⟩,
  ⟨some 66, .op (.pick (.tmp 60) (.const (.bool true)) (.tmp 65)), none⟩]) (.cond (.tmp 66) (.seq [0, 3, 5, 6, 7, 66, 67, 68] (.region [⟨some 67, .op (.mv (.tmp 0)), none⟩,
  ⟨some 68, .call f_milestoneref4_reader_fail [(.tmp 67), (.const (.int .i64 3))], none⟩,
  ⟨none, .op (.store 5 (.tmp 4) (.tmp 68)), none⟩]) .ret) .skip)) (.region [⟨some 69, .op (.mv (.tmp 0)), none⟩,
  ⟨some 70, .op (.nilCheck (.tmp 69)), none⟩,
  ⟨some 71, .op (.fieldAddr 1 (.tmp 70)), none⟩,
  ⟨some 72, .op (.load none (.tmp 71)), none⟩,
  ⟨some 73, .op (.bin .add .scalar (.tmp 72) (.const (.int .i64 1))), none⟩,
  ⟨some 74, .op (.nilCheck (.tmp 69)), none⟩,
  ⟨some 75, .op (.fieldAddr 1 (.tmp 74)), none⟩,
  ⟨none, .op (.store 1 (.tmp 75) (.tmp 73)), none⟩])))))))) (.region [⟨some 17, .op (.mv (.tmp 7)), none⟩,
  ⟨some 18, .op (.bin .add .scalar (.tmp 17) (.const (.int .i64 1))), none⟩,
  ⟨some 7, .op (.mv (.tmp 18)), none⟩]))
noncomputable def milestoneref4_reader_times_c2 : MCode := .seq [0, 5, 80] (.seq [76, 77, 78, 79] (.region [⟨some 76, .op (.idxArr 2 1 (.tmp 6) (.const (.int .i64 0))), none⟩,
  ⟨some 77, .op (.load none (.tmp 76)), none⟩,
  ⟨some 78, .op (.idxArr 2 1 (.tmp 6) (.const (.int .i64 1))), none⟩,
  ⟨some 79, .op (.load none (.tmp 78)), none⟩,
  ⟨some 80, .op (.bin .gtr .scalar (.tmp 77) (.tmp 79)), none⟩]) (.cond (.tmp 80) (.seq [3, 5, 6, 80, 81, 82, 83, 84] (.region [⟨some 81, .op (.mv (.tmp 0)), none⟩,
  ⟨some 82, .op (.mv (.tmp 5)), none⟩,
  ⟨some 83, .op (.nilCheck (.tmp 81)), none⟩,
  ⟨some 84, .op (.fieldAddr 1 (.tmp 83)), none⟩,
  ⟨none, .op (.store 1 (.tmp 84) (.tmp 82)), none⟩]) (.seq [0, 85, 86] (.region [⟨some 85, .op (.mv (.tmp 0)), none⟩,
  ⟨some 86, .call f_milestoneref4_reader_fail [(.tmp 85), (.const (.int .i64 3))], none⟩,
  ⟨none, .op (.store 5 (.tmp 4) (.tmp 86)), none⟩]) .ret)) .skip)) (.seq [3, 6, 87, 88, 89, 90, 91, 92, 93] (.region [⟨some 87, .op (.idxArr 2 1 (.tmp 6) (.const (.int .i64 0))), none⟩,
  ⟨some 88, .op (.load none (.tmp 87)), none⟩,
  ⟨some 89, .op (.idxArr 2 1 (.tmp 6) (.const (.int .i64 1))), none⟩,
  ⟨some 90, .op (.load none (.tmp 89)), none⟩,
  ⟨some 91, .op (.load (some 5) (.tmp 3)), none⟩,
  ⟨some 92, .op (.buildSlice 5 1 [.int .i64 0, .int .i64 0, .int .i64 0, .int .i64 0, .nils] [(0, 5, (.tmp 91))]), none⟩,
  ⟨some 93, .op (.build [.int .i64 0, .int .i64 0, .int .i64 0, .int .i64 0, .nils] [(0, 1, (.const (.int .i64 9))), (2, 1, (.tmp 88)), (3, 1, (.tmp 90)), (4, 1, (.tmp 92))]), none⟩,
  ⟨none, .op (.store 5 (.tmp 4) (.tmp 93)), none⟩]) .ret)
def milestoneref4_reader_times_rs : Res := [(4, some (some 5))]
noncomputable def milestoneref4_reader_times_mf : MFn := ⟨94, milestoneref4_reader_times_rs, .seq [1] (.region [⟨some 3, .op (.box (.tmp 1)), none⟩,
  ⟨some 4, .op (.alloc [.int .i64 0, .int .i64 0, .int .i64 0, .int .i64 0, .nils]), none⟩]) (.seq [10, 11, 12, 13, 14] (.region [⟨some 10, .op (.mv (.tmp 0)), none⟩,
  ⟨some 11, .op (.nilCheck (.tmp 10)), none⟩,
  ⟨some 12, .op (.fieldAddr 1 (.tmp 11)), none⟩,
  ⟨some 13, .op (.load none (.tmp 12)), none⟩,
  ⟨some 14, .op (.bin .sub .scalar (.tmp 13) (.const (.int .i64 1))), none⟩,
  ⟨some 5, .op (.mv (.tmp 14)), none⟩]) (.seq [] (.region [⟨some 6, .op (.alloc [.int .i64 0, .int .i64 0]), none⟩]) (.seq [7, 16] (.seq [] (.region [⟨some 7, .op (.mv (.const (.int .i64 0))), none⟩]) (.block 0 (.loop [17, 18] milestoneref4_reader_times_c1))) (.lab milestoneref4_reader_times_c2))))⟩
noncomputable def milestoneref4_reader_times_l1 (T : Tab) (k j0 : Nat) (r0 n3 t4 at5 d6 i7 : AV) (h : Heap) : Option (AV × Heap) :=
  loopB T k milestoneref4_reader_times_rs j0 [17, 18] milestoneref4_reader_times_c1 [.blk 0, .seq [7, 16] (.lab milestoneref4_reader_times_c2)] [r0, .undef, .undef, n3, t4, at5, d6, i7, .undef, .undef, .undef, .undef, .undef, .undef, .undef, .undef, .undef, .undef, .undef, .undef, .undef, .undef, .undef, .undef, .undef, .undef, .undef, .undef, .undef, .undef, .undef, .undef, .undef, .undef, .undef, .undef, .undef, .undef, .undef, .undef, .undef, .undef, .undef, .undef, .undef, .undef, .undef, .undef, .undef, .undef, .undef, .undef, .undef, .undef, .undef, .undef, .undef, .undef, .undef, .undef, .undef, .undef, .undef, .undef, .undef, .undef, .undef, .undef, .undef, .undef, .undef, .undef, .undef, .undef, .undef, .undef, .undef, .undef, .undef, .undef, .undef, .undef, .undef, .undef, .undef, .undef, .undef, .undef, .undef, .undef, .undef, .undef, .undef, .undef] h
noncomputable def milestoneref4_reader_times_b2 (T : Tab) (k : Nat) (r0 n3 t4 at5 d6 : AV) (h : Heap) : Option (AV × Heap) :=
  evB T k milestoneref4_reader_times_rs milestoneref4_reader_times_c2 [] [r0, .undef, .undef, n3, t4, at5, d6, .undef, .undef, .undef, .undef, .undef, .undef, .undef, .undef, .undef, .undef, .undef, .undef, .undef, .undef, .undef, .undef, .undef, .undef, .undef, .undef, .undef, .undef, .undef, .undef, .undef, .undef, .undef, .undef, .undef, .undef, .undef, .undef, .undef, .undef, .undef, .undef, .undef, .undef, .undef, .undef, .undef, .undef, .undef, .undef, .undef, .undef, .undef, .undef, .undef, .undef, .undef, .undef, .undef, .undef, .undef, .undef, .undef, .undef, .undef, .undef, .undef, .undef, .undef, .undef, .undef, .undef, .undef, .undef, .undef, .undef, .undef, .undef, .undef, .undef, .undef, .undef, .undef, .undef, .undef, .undef, .undef, .undef, .undef, .undef, .undef, .undef, .undef] h
theorem milestoneref4_reader_times_b2_eq (T : Tab) (k : Nat) (r0 n3 t4 at5 d6 : AV) (h : Heap) : milestoneref4_reader_times_b2 T k r0 n3 t4 at5 d6 h =
    oa (idxA 2 1 d6 (.int .i64 0)) fun t76_1 =>
    oa (ld1 h t76_1) fun t77_2 =>
    oa (idxA 2 1 d6 (.int .i64 1)) fun t78_3 =>
    oa (ld1 h t78_3) fun t79_4 =>
    oa (binV .gtr .scalar t77_2 t79_4) fun t80_5 =>
    cond2 t80_5
      (
      oa (nilCk r0) fun t83_6 =>
      oa (fldA 1 t83_6) fun t84_7 =>
      oh (stN 1 h t84_7 at5) fun h_8 =>
      ob (evalFn T k f_milestoneref4_reader_fail [r0, (.int .i64 3)] h_8) fun t86_9 h_10 =>
      oh (stN 5 h_10 t4 t86_9) fun h_11 =>
      oa (ldN 5 h_11 t4) fun t4_12 =>
      some (t4_12, h_11)
      )
      (
      oa (idxA 2 1 d6 (.int .i64 0)) fun t87_13 =>
      oa (ld1 h t87_13) fun t88_14 =>
      oa (idxA 2 1 d6 (.int .i64 1)) fun t89_15 =>
      oa (ld1 h t89_15) fun t90_16 =>
      oa (ldN 5 h n3) fun t91_17 =>
      ob (buildSl 5 1 [.int .i64 0, .int .i64 0, .int .i64 0, .int .i64 0, .nils] [(0, 5, t91_17)] h) fun t92_18 h_19 =>
      oa (buildV [.int .i64 0, .int .i64 0, .int .i64 0, .int .i64 0, .nils] [(0, 1, (.int .i64 9)), (2, 1, t88_14), (3, 1, t90_16), (4, 1, t92_18)]) fun t93_20 =>
      oh (stN 5 h_19 t4 t93_20) fun h_21 =>
      oa (ldN 5 h_21 t4) fun t4_22 =>
      some (t4_22, h_21)
      ) := blockEq (by kernel_rfl)
theorem milestoneref4_reader_times_l1_eq (T : Tab) (k j0 : Nat) (r0 n3 t4 at5 d6 i7 : AV) (h : Heap) : milestoneref4_reader_times_l1 T k (j0 + 1) r0 n3 t4 at5 d6 i7 h =
    oa (binV .lss .scalar i7 (.int .i64 2)) fun t16_1 =>
    cond2 t16_1
      (
      ob (evalFn T k f_milestoneref4_reader_next [r0] h) fun t21_2 h_3 =>
      oa (extr 0 t21_2) fun t22_4 =>
      oa (extr 1 t21_2) fun t23_5 =>
      oa (unV .not t23_5) fun t25_6 =>
      ob (gd t25_6 false (some (t22_4, h_3)) h_3) fun t27_7 h_8 =>
      ob (gd t25_6 false (pure1 h_8 (binV .lss .scalar t27_7 (.int .u8 48))) h_8) fun t28_9 h_10 =>
      oa (pickV t25_6 (.bool true) t28_9) fun t29_11 =>
      ob (gd t29_11 false (some (t22_4, h_10)) h_10) fun t31_12 h_13 =>
      ob (gd t29_11 false (pure1 h_13 (binV .gtr .scalar t31_12 (.int .u8 57))) h_13) fun t32_14 h_15 =>
      oa (pickV t29_11 (.bool true) t32_14) fun t33_16 =>
      cond2 t33_16
        (
        cond2 t23_5
          (
          oa (nilCk r0) fun t37_17 =>
          oa (fldA 1 t37_17) fun t38_18 =>
          oh (stN 1 h_15 t38_18 at5) fun h_19 =>
          ob (evalFn T k f_milestoneref4_reader_fail [r0, (.int .i64 3)] h_19) fun t40_20 h_21 =>
          oh (stN 5 h_21 t4 t40_20) fun h_22 =>
          oa (ldN 5 h_22 t4) fun t4_23 =>
          some (t4_23, h_22)
          )
          (
          ob (evalFn T k f_milestoneref4_reader_fail [r0, (.int .i64 3)] h_15) fun t40_24 h_25 =>
          oh (stN 5 h_25 t4 t40_24) fun h_26 =>
          oa (ldN 5 h_26 t4) fun t4_27 =>
          some (t4_27, h_26)
          )
        )
        (
        oa (binV .sub .scalar t22_4 (.int .u8 48)) fun t43_28 =>
        oa (convV .i64 t43_28) fun t44_29 =>
        oa (idxA 2 1 d6 i7) fun t45_30 =>
        oh (stN 1 h_15 t45_30 t44_29) fun h_31 =>
        oa (nilCk r0) fun t47_32 =>
        oa (fldA 1 t47_32) fun t48_33 =>
        oa (ld1 h_31 t48_33) fun t49_34 =>
        oa (binV .add .scalar t49_34 (.int .i64 1)) fun t50_35 =>
        oa (nilCk r0) fun t51_36 =>
        oa (fldA 1 t51_36) fun t52_37 =>
        oh (stN 1 h_31 t52_37 t50_35) fun h_38 =>
        ob (evalFn T k f_milestoneref4_reader_next [r0] h_38) fun t55_39 h_40 =>
        oa (extr 0 t55_39) fun t56_41 =>
        oa (extr 1 t55_39) fun t57_42 =>
        oa (unV .not t57_42) fun t59_43 =>
        ob (gd t59_43 false (some (t56_41, h_40)) h_40) fun t61_44 h_45 =>
        ob (gd t59_43 false (pure1 h_45 (buildV [.int .u8 0, .int .u8 0] [(0, 1, (.int .u8 44)), (1, 1, (.int .u8 125))])) h_45) fun t62_46 h_47 =>
        ob (gd t59_43 false (some (i7, h_47)) h_47) fun t63_48 h_49 =>
        ob (gd t59_43 false (pure1 h_49 (ixA 2 1 none t62_46 t63_48)) h_49) fun t64_50 h_51 =>
        ob (gd t59_43 false (pure1 h_51 (binV .neq .scalar t61_44 t64_50)) h_51) fun t65_52 h_53 =>
        oa (pickV t59_43 (.bool true) t65_52) fun t66_54 =>
        cond2 t66_54
          (
          ob (evalFn T k f_milestoneref4_reader_fail [r0, (.int .i64 3)] h_53) fun t68_55 h_56 =>
          oh (stN 5 h_56 t4 t68_55) fun h_57 =>
          oa (ldN 5 h_57 t4) fun t4_58 =>
          some (t4_58, h_57)
          )
          (
          oa (nilCk r0) fun t70_59 =>
          oa (fldA 1 t70_59) fun t71_60 =>
          oa (ld1 h_53 t71_60) fun t72_61 =>
          oa (binV .add .scalar t72_61 (.int .i64 1)) fun t73_62 =>
          oa (nilCk r0) fun t74_63 =>
          oa (fldA 1 t74_63) fun t75_64 =>
          oh (stN 1 h_53 t75_64 t73_62) fun h_65 =>
          oa (binV .add .scalar i7 (.int .i64 1)) fun t18_66 =>
          milestoneref4_reader_times_l1 T k j0 r0 n3 t4 at5 d6 t18_66 h_65
          )
        )
      )
      (
      milestoneref4_reader_times_b2 T k r0 n3 t4 at5 d6 h
      ) := loopEq (by kernel_rfl)
theorem milestoneref4_reader_times_eq (T : Tab) (k : Nat) (r0 n1 : AV) (h : Heap) : runF T k milestoneref4_reader_times_mf [r0, n1] h =
    ob (newVar h (AV.cells n1)) fun n3_1 h_2 =>
    ob (newVar h_2 [.int .i64 0, .int .i64 0, .int .i64 0, .int .i64 0, .nils]) fun t4_3 h_4 =>
    oa (nilCk r0) fun t11_5 =>
    oa (fldA 1 t11_5) fun t12_6 =>
    oa (ld1 h_4 t12_6) fun t13_7 =>
    oa (binV .sub .scalar t13_7 (.int .i64 1)) fun t14_8 =>
    ob (newVar h_4 [.int .i64 0, .int .i64 0]) fun d6_9 h_10 =>
    milestoneref4_reader_times_l1 T k k r0 n3_1 t4_3 t14_8 d6_9 (.int .i64 0) h_10 := runEq (by kernel_rfl)
noncomputable def milestoneref4_mode_c1 : MCode := .seq [5] (.seq [4] (.region [⟨some 4, .op (.mv (.tmp 3)), none⟩,
  ⟨some 5, .op (.bin .lss .scalar (.tmp 4) (.const (.int .i64 5))), none⟩]) (.cond (.tmp 5) .skip (.exit 0))) (.seq [11] (.block 1 (.seq [8, 9, 10] (.region [⟨some 8, .op (.mv (.tmp 3)), none⟩,
  ⟨some 9, .op (.ixStr (.const (.str ⟨#[119, 98, 99, 102, 116]⟩)) (.tmp 8)), none⟩,
  ⟨some 10, .op (.mv (.tmp 0)), none⟩,
  ⟨some 11, .op (.bin .eql .scalar (.tmp 9) (.tmp 10)), none⟩]) (.cond (.tmp 11) (.seq [0, 3, 11, 12] (.region [⟨some 12, .op (.mv (.tmp 3)), none⟩,
  ⟨some 2, .op (.mv (.tmp 12)), none⟩]) .ret) .skip))) (.region [⟨some 6, .op (.mv (.tmp 3)), none⟩,
  ⟨some 7, .op (.bin .add .scalar (.tmp 6) (.const (.int .i64 1))), none⟩,
  ⟨some 3, .op (.mv (.tmp 7)), none⟩]))
def milestoneref4_mode_rs : Res := [(2, none)]
noncomputable def milestoneref4_mode_mf : MFn := ⟨13, milestoneref4_mode_rs, .seq [2] (.region [⟨some 2, .op (.mv (.const (.int .i64 0))), none⟩]) (.seq [0, 3, 5] (.seq [] (.region [⟨some 3, .op (.mv (.const (.int .i64 0))), none⟩]) (.block 0 (.loop [6, 7] milestoneref4_mode_c1))) (.seq [] (.region [⟨some 2, .op (.mv (.const (.int .i64 (-1)))), none⟩]) .ret))⟩
noncomputable def milestoneref4_mode_l1 (T : Tab) (k j0 : Nat) (c0 i3 : AV) (h : Heap) : Option (AV × Heap) :=
  loopB T k milestoneref4_mode_rs j0 [6, 7] milestoneref4_mode_c1 [.blk 0, .seq [0, 3, 5] (.seq [] (.region [⟨some 2, .op (.mv (.const (.int .i64 (-1)))), none⟩]) .ret)] [c0, .undef, .undef, i3, .undef, .undef, .undef, .undef, .undef, .undef, .undef, .undef, .undef] h
theorem milestoneref4_mode_l1_eq (T : Tab) (k j0 : Nat) (c0 i3 : AV) (h : Heap) : milestoneref4_mode_l1 T k (j0 + 1) c0 i3 h =
    oa (binV .lss .scalar i3 (.int .i64 5)) fun t5_1 =>
    cond2 t5_1
      (
      oa (ixS (.str ⟨#[119, 98, 99, 102, 116]⟩) i3) fun t9_2 =>
      oa (binV .eql .scalar t9_2 c0) fun t11_3 =>
      cond2 t11_3
        (
        some (i3, h)
        )
        (
        oa (binV .add .scalar i3 (.int .i64 1)) fun t7_4 =>
        milestoneref4_mode_l1 T k j0 c0 t7_4 h
        )
      )
      (
      some ((.int .i64 (-1)), h)
      ) := loopEq (by kernel_rfl)
theorem milestoneref4_mode_eq (T : Tab) (k : Nat) (c0 : AV) (h : Heap) : runF T k milestoneref4_mode_mf [c0] h =
    milestoneref4_mode_l1 T k k c0 (.int .i64 0) h := runEq (by kernel_rfl)
noncomputable def milestoneref4_reader_class_c1 : MCode := .block 1 (.seq [6, 7, 8, 9, 10] (.region [⟨some 7, .op (.mv (.tmp 0)), none⟩,
  ⟨some 8, .call f_milestoneref4_reader_next [(.tmp 7)], none⟩,
  ⟨some 6, .op (.mv (.tmp 8)), none⟩,
  ⟨some 9, .op (.extract 0 (.tmp 6)), none⟩,
  ⟨some 10, .op (.extract 1 (.tmp 6)), none⟩,
  ⟨some 4, .op (.mv (.tmp 9)), none⟩,
  ⟨some 5, .op (.mv (.tmp 10)), none⟩]) (.seq [19] (.seq [11, 12, 13, 14, 15, 16, 17, 18] (.region [⟨some 11, .op (.mv (.tmp 5)), none⟩,
  ⟨some 12, .op (.mv (.tmp 11)), none⟩,
  ⟨some 13, .op (.mv (.tmp 4)), some (12, true)⟩,
  ⟨some 14, .op (.bin .eql .scalar (.tmp 13) (.const (.int .u8 93))), some (12, true)⟩,
  ⟨some 15, .op (.pick (.tmp 12) (.tmp 14) (.const (.bool false))), none⟩,
  ⟨some 16, .op (.mv (.tmp 15)), none⟩,
  ⟨some 17, .op (.mv (.tmp 3)), some (16, true)⟩,
  ⟨some 18, .op (.bin .gtr .scalar (.tmp 17) (.const (.int .i64 0))), some (16, true)⟩,
  ⟨some 19, .op (.pick (.tmp 16) (.tmp 18) (.const (.bool false))), none⟩]) (.cond (.tmp 19) (.seq [0, 4, 5, 19, 20, 21, 22, 23, 24, 25, 26] (.region [⟨some 20, .op (.mv (.tmp 0)), none⟩,
  ⟨some 21, .op (.nilCheck (.tmp 20)), none⟩,
  ⟨some 22, .op (.fieldAddr 1 (.tmp 21)), none⟩,
  ⟨some 23, .op (.load none (.tmp 22)), none⟩,
  ⟨some 24, .op (.bin .add .scalar (.tmp 23) (.const (.int .i64 1))), none⟩,
  ⟨some 25, .op (.nilCheck (.tmp 20)), none⟩,
  ⟨some 26, .op (.fieldAddr 1 (.tmp 25)), none⟩,
  ⟨none, .op (.store 1 (.tmp 26) (.tmp 24)), none⟩]) (.seq [3, 27, 28] (.region [⟨some 27, .op (.mv (.tmp 3)), none⟩,
  ⟨some 28, .op (.build [.int .i64 0, .int .i64 0, .int .i64 0, .int .i64 0, .nils] [(0, 1, (.const (.int .i64 1))), (1, 1, (.tmp 27))]), none⟩,
  ⟨none, .op (.store 5 (.tmp 2) (.tmp 28)), none⟩]) .ret)) .skip)) (.seq [35] (.seq [5, 29, 30, 31, 32, 33, 34] (.region [⟨some 29, .op (.mv (.tmp 5)), none⟩,
  ⟨some 30, .op (.un .not (.tmp 29)), none⟩,
  ⟨some 31, .op (.mv (.tmp 30)), none⟩,
  ⟨some 32, .op (.mv (.tmp 4)), some (31, false)⟩,
  ⟨some 33, .call f_milestoneref4_mode [(.tmp 32)], some (31, false)⟩,
  ⟨some 34, .op (.bin .lss .scalar (.tmp 33) (.const (.int .i64 0))), some (31, false)⟩,
  ⟨some 35, .op (.pick (.tmp 31) (.const (.bool true)) (.tmp 34)), none⟩]) (.cond (.tmp 35) (.seq [0, 3, 4, 35, 36, 37] (.region [⟨some 36, .op (.mv (.tmp 0)), none⟩,
  ⟨some 37, .call f_milestoneref4_reader_fail [(.tmp 36), (.const (.int .i64 3))], none⟩,
  ⟨none, .op (.store 5 (.tmp 2) (.tmp 37)), none⟩]) .ret) .skip)) (.seq [4, 38, 39, 40, 41, 42, 43] (.region [⟨some 38, .op (.mv (.tmp 3)), none⟩,
  ⟨some 39, .op (.mv (.tmp 4)), none⟩,
  ⟨some 40, .call f_milestoneref4_mode [(.tmp 39)], none⟩,
  ⟨some 41, .op (.convI .u64 (.tmp 40)), none⟩,
  ⟨some 42, .op (.bin .shl .scalar (.const (.int .i64 1)) (.tmp 41)), none⟩,
  ⟨some 43, .op (.bin .or .scalar (.tmp 38) (.tmp 42)), none⟩,
  ⟨some 3, .op (.mv (.tmp 43)), none⟩]) (.region [⟨some 44, .op (.mv (.tmp 0)), none⟩,
  ⟨some 45, .op (.nilCheck (.tmp 44)), none⟩,
  ⟨some 46, .op (.fieldAddr 1 (.tmp 45)), none⟩,
  ⟨some 47, .op (.load none (.tmp 46)), none⟩,
  ⟨some 48, .op (.bin .add .scalar (.tmp 47) (.const (.int .i64 1))), none⟩,
  ⟨some 49, .op (.nilCheck (.tmp 44)), none⟩,
  ⟨some 50, .op (.fieldAddr 1 (.tmp 49)), none⟩,
  ⟨none, .op (.store 1 (.tmp 50) (.tmp 48)), none⟩])))))
def milestoneref4_reader_class_rs : Res := [(2, some (some 5))]
noncomputable def milestoneref4_reader_class_mf : MFn := ⟨51, milestoneref4_reader_class_rs, .seq [] (.region [⟨some 2, .op (.alloc [.int .i64 0, .int .i64 0, .int .i64 0, .int .i64 0, .nils]), none⟩]) (.seq [] (.region [⟨some 3, .op (.mv (.const (.int .i64 0))), none⟩]) (.block 0 (.loop [44, 45, 46, 47, 48, 49, 50] milestoneref4_reader_class_c1)))⟩
noncomputable def milestoneref4_reader_class_l1 (T : Tab) (k j0 : Nat) (r0 t2 s3 : AV) (h : Heap) : Option (AV × Heap) :=
  loopB T k milestoneref4_reader_class_rs j0 [44, 45, 46, 47, 48, 49, 50] milestoneref4_reader_class_c1 [.blk 0] [r0, .undef, t2, s3, .undef, .undef, .undef, .undef, .undef, .undef, .undef, .undef, .undef, .undef, .undef, .undef, .undef, .undef, .undef, .undef, .undef, .undef, .undef, .undef, .undef, .undef, .undef, .undef, .undef, .undef, .undef, .undef, .undef, .undef, .undef, .undef, .undef, .undef, .undef, .undef, .undef, .undef, .undef, .undef, .undef, .undef, .undef, .undef, .undef, .undef, .undef] h
theorem milestoneref4_reader_class_l1_eq (T : Tab) (k j0 : Nat) (r0 t2 s3 : AV) (h : Heap) : milestoneref4_reader_class_l1 T k (j0 + 1) r0 t2 s3 h =
    ob (evalFn T k f_milestoneref4_reader_next [r0] h) fun t8_1 h_2 =>
    oa (extr 0 t8_1) fun t9_3 =>
    oa (extr 1 t8_1) fun t10_4 =>
    ob (gd t10_4 true (some (t9_3, h_2)) h_2) fun t13_5 h_6 =>
    ob (gd t10_4 true (pure1 h_6 (binV .eql .scalar t13_5 (.int .u8 93))) h_6) fun t14_7 h_8 =>
    oa (pickV t10_4 t14_7 (.bool false)) fun t15_9 =>
    ob (gd t15_9 true (some (s3, h_8)) h_8) fun t17_10 h_11 =>
    ob (gd t15_9 true (pure1 h_11 (binV .gtr .scalar t17_10 (.int .i64 0))) h_11) fun t18_12 h_13 =>
    oa (pickV t15_9 t18_12 (.bool false)) fun t19_14 =>
    cond2 t19_14
      (
      oa (nilCk r0) fun t21_15 =>
      oa (fldA 1 t21_15) fun t22_16 =>
      oa (ld1 h_13 t22_16) fun t23_17 =>
      oa (binV .add .scalar t23_17 (.int .i64 1)) fun t24_18 =>
      oa (nilCk r0) fun t25_19 =>
      oa (fldA 1 t25_19) fun t26_20 =>
      oh (stN 1 h_13 t26_20 t24_18) fun h_21 =>
      oa (buildV [.int .i64 0, .int .i64 0, .int .i64 0, .int .i64 0, .nils] [(0, 1, (.int .i64 1)), (1, 1, s3)]) fun t28_22 =>
      oh (stN 5 h_21 t2 t28_22) fun h_23 =>
      oa (ldN 5 h_23 t2) fun t2_24 =>
      some (t2_24, h_23)
      )
      (
      oa (unV .not t10_4) fun t30_25 =>
      ob (gd t30_25 false (some (t9_3, h_13)) h_13) fun t32_26 h_27 =>
      ob (gd t30_25 false (evalFn T k f_milestoneref4_mode [t32_26] h_27) h_27) fun t33_28 h_29 =>
      ob (gd t30_25 false (pure1 h_29 (binV .lss .scalar t33_28 (.int .i64 0))) h_29) fun t34_30 h_31 =>
      oa (pickV t30_25 (.bool true) t34_30) fun t35_32 =>
      cond2 t35_32
        (
        ob (evalFn T k f_milestoneref4_reader_fail [r0, (.int .i64 3)] h_31) fun t37_33 h_34 =>
        oh (stN 5 h_34 t2 t37_33) fun h_35 =>
        oa (ldN 5 h_35 t2) fun t2_36 =>
        some (t2_36, h_35)
        )
        (
        ob (evalFn T k f_milestoneref4_mode [t9_3] h_31) fun t40_37 h_38 =>
        oa (convV .u64 t40_37) fun t41_39 =>
        oa (binV .shl .scalar (.int .i64 1) t41_39) fun t42_40 =>
        oa (binV .or .scalar s3 t42_40) fun t43_41 =>
        oa (nilCk r0) fun t45_42 =>
        oa (fldA 1 t45_42) fun t46_43 =>
        oa (ld1 h_38 t46_43) fun t47_44 =>
        oa (binV .add .scalar t47_44 (.int .i64 1)) fun t48_45 =>
        oa (nilCk r0) fun t49_46 =>
        oa (fldA 1 t49_46) fun t50_47 =>
        oh (stN 1 h_38 t50_47 t48_45) fun h_48 =>
        milestoneref4_reader_class_l1 T k j0 r0 t2 t43_41 h_48
        )
      ) := loopEq (by kernel_rfl)
theorem milestoneref4_reader_class_eq (T : Tab) (k : Nat) (r0 : AV) (h : Heap) : runF T k milestoneref4_reader_class_mf [r0] h =
    ob (newVar h [.int .i64 0, .int .i64 0, .int .i64 0, .int .i64 0, .nils]) fun t2_1 h_2 =>
    milestoneref4_reader_class_l1 T k k r0 t2_1 (.int .i64 0) h_2 := runEq (by kernel_rfl)
def milestoneref4_reader_group_rs : Res := [(2, some (some 5))]
noncomputable def milestoneref4_reader_group_mf : MFn := ⟨43, milestoneref4_reader_group_rs, .seq [] (.region [⟨some 2, .op (.alloc [.int .i64 0, .int .i64 0, .int .i64 0, .int .i64 0, .nils]), none⟩]) (.seq [6, 7, 8, 9, 10, 11, 12] (.region [⟨some 6, .op (.mv (.tmp 0)), none⟩,
  ⟨some 7, .op (.nilCheck (.tmp 6)), none⟩,
  ⟨some 8, .op (.fieldAddr 2 (.tmp 7)), none⟩,
  ⟨some 9, .op (.load none (.tmp 8)), none⟩,
  ⟨some 10, .op (.bin .add .scalar (.tmp 9) (.const (.int .i64 1))), none⟩,
  ⟨some 11, .op (.nilCheck (.tmp 6)), none⟩,
  ⟨some 12, .op (.fieldAddr 2 (.tmp 11)), none⟩,
  ⟨none, .op (.store 1 (.tmp 12) (.tmp 10)), none⟩]) (.seq [13, 14] (.region [⟨some 13, .op (.mv (.tmp 0)), none⟩,
  ⟨some 14, .call f_milestoneref4_reader_union [(.tmp 13)], none⟩,
  ⟨some 3, .op (.alloc [.int .i64 0, .int .i64 0, .int .i64 0, .int .i64 0, .nils]), none⟩,
  ⟨none, .op (.store 5 (.tmp 3) (.tmp 14)), none⟩]) (.seq [15, 16, 17, 18, 19] (.region [⟨some 16, .op (.mv (.tmp 0)), none⟩,
  ⟨some 17, .call f_milestoneref4_reader_next [(.tmp 16)], none⟩,
  ⟨some 15, .op (.mv (.tmp 17)), none⟩,
  ⟨some 18, .op (.extract 0 (.tmp 15)), none⟩,
  ⟨some 19, .op (.extract 1 (.tmp 15)), none⟩,
  ⟨some 4, .op (.mv (.tmp 18)), none⟩,
  ⟨some 5, .op (.mv (.tmp 19)), none⟩]) (.seq [25] (.seq [4, 5, 20, 21, 22, 23, 24] (.region [⟨some 20, .op (.mv (.tmp 5)), none⟩,
  ⟨some 21, .op (.un .not (.tmp 20)), none⟩,
  ⟨some 22, .op (.mv (.tmp 21)), none⟩,
  ⟨some 23, .op (.mv (.tmp 4)), some (22, false)⟩,
  ⟨some 24, .op (.bin .neq .scalar (.tmp 23) (.const (.int .u8 41))), some (22, false)⟩,
  ⟨some 25, .op (.pick (.tmp 22) (.const (.bool true)) (.tmp 24)), none⟩]) (.cond (.tmp 25) (.seq [0, 3, 25, 26, 27] (.region [⟨some 26, .op (.mv (.tmp 0)), none⟩,
  ⟨some 27, .call f_milestoneref4_reader_fail [(.tmp 26), (.const (.int .i64 3))], none⟩,
  ⟨none, .op (.store 5 (.tmp 2) (.tmp 27)), none⟩]) .ret) .skip)) (.seq [28, 29, 30, 31, 32, 33, 34] (.region [⟨some 28, .op (.mv (.tmp 0)), none⟩,
  ⟨some 29, .op (.nilCheck (.tmp 28)), none⟩,
  ⟨some 30, .op (.fieldAddr 1 (.tmp 29)), none⟩,
  ⟨some 31, .op (.load none (.tmp 30)), none⟩,
  ⟨some 32, .op (.bin .add .scalar (.tmp 31) (.const (.int .i64 1))), none⟩,
  ⟨some 33, .op (.nilCheck (.tmp 28)), none⟩,
  ⟨some 34, .op (.fieldAddr 1 (.tmp 33)), none⟩,
  ⟨none, .op (.store 1 (.tmp 34) (.tmp 32)), none⟩]) (.seq [0, 35, 36, 37, 38, 39, 40, 41] (.region [⟨some 35, .op (.mv (.tmp 0)), none⟩,
  ⟨some 36, .op (.nilCheck (.tmp 35)), none⟩,
  ⟨some 37, .op (.fieldAddr 2 (.tmp 36)), none⟩,
  ⟨some 38, .op (.load none (.tmp 37)), none⟩,
  ⟨some 39, .op (.bin .sub .scalar (.tmp 38) (.const (.int .i64 1))), none⟩,
  ⟨some 40, .op (.nilCheck (.tmp 35)), none⟩,
  ⟨some 41, .op (.fieldAddr 2 (.tmp 40)), none⟩,
  ⟨none, .op (.store 1 (.tmp 41) (.tmp 39)), none⟩]) (.seq [3, 42] (.region [⟨some 42, .op (.load (some 5) (.tmp 3)), none⟩,
  ⟨none, .op (.store 5 (.tmp 2) (.tmp 42)), none⟩]) .ret)))))))⟩
theorem milestoneref4_reader_group_eq (T : Tab) (k : Nat) (r0 : AV) (h : Heap) : runF T k milestoneref4_reader_group_mf [r0] h =
    ob (newVar h [.int .i64 0, .int .i64 0, .int .i64 0, .int .i64 0, .nils]) fun t2_1 h_2 =>
    oa (nilCk r0) fun t7_3 =>
    oa (fldA 2 t7_3) fun t8_4 =>
    oa (ld1 h_2 t8_4) fun t9_5 =>
    oa (binV .add .scalar t9_5 (.int .i64 1)) fun t10_6 =>
    oa (nilCk r0) fun t11_7 =>
    oa (fldA 2 t11_7) fun t12_8 =>
    oh (stN 1 h_2 t12_8 t10_6) fun h_9 =>
    ob (evalFn T k f_milestoneref4_reader_union [r0] h_9) fun t14_10 h_11 =>
    ob (newVar h_11 [.int .i64 0, .int .i64 0, .int .i64 0, .int .i64 0, .nils]) fun n3_12 h_13 =>
    oh (stN 5 h_13 n3_12 t14_10) fun h_14 =>
    ob (evalFn T k f_milestoneref4_reader_next [r0] h_14) fun t17_15 h_16 =>
    oa (extr 0 t17_15) fun t18_17 =>
    oa (extr 1 t17_15) fun t19_18 =>
    oa (unV .not t19_18) fun t21_19 =>
    ob (gd t21_19 false (some (t18_17, h_16)) h_16) fun t23_20 h_21 =>
    ob (gd t21_19 false (pure1 h_21 (binV .neq .scalar t23_20 (.int .u8 41))) h_21) fun t24_22 h_23 =>
    oa (pickV t21_19 (.bool true) t24_22) fun t25_24 =>
    cond2 t25_24
      (
      ob (evalFn T k f_milestoneref4_reader_fail [r0, (.int .i64 3)] h_23) fun t27_25 h_26 =>
      oh (stN 5 h_26 t2_1 t27_25) fun h_27 =>
      oa (ldN 5 h_27 t2_1) fun t2_28 =>
      some (t2_28, h_27)
      )
      (
      oa (nilCk r0) fun t29_29 =>
      oa (fldA 1 t29_29) fun t30_30 =>
      oa (ld1 h_23 t30_30) fun t31_31 =>
      oa (binV .add .scalar t31_31 (.int .i64 1)) fun t32_32 =>
      oa (nilCk r0) fun t33_33 =>
      oa (fldA 1 t33_33) fun t34_34 =>
      oh (stN 1 h_23 t34_34 t32_32) fun h_35 =>
      oa (nilCk r0) fun t36_36 =>
      oa (fldA 2 t36_36) fun t37_37 =>
      oa (ld1 h_35 t37_37) fun t38_38 =>
      oa (binV .sub .scalar t38_38 (.int .i64 1)) fun t39_39 =>
      oa (nilCk r0) fun t40_40 =>
      oa (fldA 2 t40_40) fun t41_41 =>
      oh (stN 1 h_35 t41_41 t39_39) fun h_42 =>
      oa (ldN 5 h_42 n3_12) fun t42_43 =>
      oh (stN 5 h_42 t2_1 t42_43) fun h_44 =>
      oa (ldN 5 h_44 t2_1) fun t2_45 =>
      some (t2_45, h_44)
      ) := runEq (by kernel_rfl)
end Go.Gm.A5
