/- A part of the proof: GmA2K: an abstract machine, what it does, and what the functions of the program come to on it. -/
import Derived.Test.YtfihknbnoblihaaGmA2M
set_option linter.unusedVariables false
set_option linter.unusedSimpArgs false
namespace Go.Gm.A2
open Go Go.Gm

theorem sorted_ext : ∀ {xs ys : List Int}, xs.Pairwise (· < ·) → ys.Pairwise (· < ·) → (∀ u, u ∈ xs ↔ u ∈ ys) → xs = ys
  | [], [], _, _, _ => rfl
  | [], y :: ys, _, _, h => by have := (h y).2 (by simp); simp at this
  | x :: xs, [], _, _, h => by have := (h x).1 (by simp); simp at this
  | x :: xs, y :: ys, hx, hy, h => by
    rw [List.pairwise_cons] at hx hy
    have hxy : x = y := by
      have h1 := (h x).1 (by simp)
      have h2 := (h y).2 (by simp)
      rw [List.mem_cons] at h1 h2
      rcases h1 with h1 | h1
      · exact h1
      · rcases h2 with h2 | h2
        · exact h2.symm
        · have := hx.1 y h2
          have := hy.1 x h1
          omega
    subst hxy
    congr 1
    refine sorted_ext hx.2 hy.2 fun u => ?_
    have h1 := h u
    rw [List.mem_cons, List.mem_cons] at h1
    constructor
    · intro hu
      rcases h1.1 (.inr hu) with q | q
      · subst q; have := hx.1 u hu; omega
      · exact q
    · intro hu
      rcases h1.2 (.inr hu) with q | q
      · subst q; have := hy.1 u hu; omega
      · exact q

def kE : List E := [⟨0, 1, 2, 0⟩]
theorem kE_ok : NetOk 2 kE := ⟨by omega, by omega, by simp [kE], fun e he => by simp [kE] at he; subst he; simp⟩
theorem kE_rch {u : Int} : Rch kE 4 0 u ↔ u = 0 ∨ u = 1 := by
  constructor
  · intro h
    induction h with
    | refl => exact .inl rfl
    | step _ k0 k1 _ _ _ =>
      have := gi_mem k0 k1
      generalize gi kE _ = e at *
      simp [kE] at this; subst this; exact .inr rfl
  · rintro (rfl | rfl)
    · exact .refl
    · exact Rch.step (es := kE) (s := 4) (v := 0) (k := 0) .refl (by omega) (by simp [kE]) rfl (by decide)
theorem known_spec (h : Heap) : Tot tab f_milestonelaw2_known [] h fun r h' => r = .bool true ∧ Ext h h' := by
  refine WP.tot (fun k => (call_milestonelaw2_known k h).trans (milestonelaw2_known_eq tab k h)) ?_
  have g := Gr.lit (h := h) (sz := 4) (v := encE ⟨0, 1, 2, 0⟩) rfl
  have e0 : Ext h (mkObj h (encE ⟨0, 1, 2, 0⟩)) := by ((repeat (first | exact Ext.refl _ | assumption | apply Ext.app | apply Ext.mk | (refine Ext.setr ?_ (by (first | omega | (simp -implicitDefEqProofs only [List.length_append, List.length_set, List.length_cons, List.length_nil, List.length_map, List.length_replicate, mkObj_eq] <;> omega))) _))))
  obtain ⟨h1, hh1⟩ : ∃ h1, h1 = mkObj h (encE ⟨0, 1, 2, 0⟩) := ⟨_, rfl⟩
  rw [← hh1] at g e0
  simp only [mkObj_eq, encE] at hh1
  simp -implicitDefEqProofs (disch := first | assumption | omega | (simp -implicitDefEqProofs only [List.length_append, List.length_set, List.length_cons, List.length_nil, List.length_map, List.length_replicate, mkObj_eq] <;> omega) | ((repeat (first | exact Ext.refl _ | assumption | apply Ext.app | apply Ext.mk | (refine Ext.setr ?_ (by (first | omega | (simp -implicitDefEqProofs only [List.length_append, List.length_set, List.length_cons, List.length_nil, List.length_map, List.length_replicate, mkObj_eq] <;> omega))) _))); done) | (simp -implicitDefEqProofs only [List.length_append, List.length_set, List.length_cons, List.length_nil, List.length_map, List.length_replicate, mkObj_eq, List.all_cons, List.all_nil, one_int, one_bool, one_str, one_ptr, one_sl, one_nils, one_nilp, one_ifc, one_map, cells_int, cells_bool, cells_str, cells_ptr, cells_sl, cells_nils, cells_nilp, cells_ifc, cells_map, cells_agg, Bool.and_self, Bool.and_true, Bool.true_and, Nat.zero_mul, Nat.one_mul, Nat.mul_one] <;> omega) | fail) only [oa_some, oh_some, ob_some, cond2_true, cond2_false, chk_true, gd_tt, gd_ft, gd_ff, gd_tf, gd_n, ob_pure1, pick_t, pick_f, pure1_some', sameB_self, Bool.and_true, callVal_fn, List.nil_append, List.append_nil, lss_t, lss_f, leq_t, leq_f, gtr_t, gtr_f, geq_t, geq_f, eql_t, eql_f, neq_t, neq_f, add_i, sub_i, rem_i, quo_w, mul_w, eql_b, neq_b, mm_max, mm_min, fldP_ptr, fldP_fldP, fldA_ptr, nil_ptr, fldA_el, fldA_elf, nil_el, nil_elf, len_sl, len_nil, idx_sl, ld1_ptr, rdAt_row, ldN_ptr, rdNAt_row, stN_ptr, wrAt_row, get_set_ne, get_set_eq, get_app_l, get_app_r, mkObj_eq, newVar_i, un_not, Bool.not_true, Bool.not_false, one_int, one_bool, one_str, one_ptr, one_sl, one_nils, one_nilp, one_ifc, one_map, cells_int, cells_bool, cells_str, cells_ptr, cells_sl, cells_nils, cells_nilp, cells_ifc, cells_map, cells_agg, List.all_cons, List.all_nil, List.getElem?_cons_zero, List.getElem?_cons_succ, List.getD_cons_zero, List.getD_cons_succ, setAll, List.set_cons_zero, List.set_cons_succ, List.drop_zero, List.drop_succ_cons, List.take_succ_cons, List.take_zero, List.length_cons, List.length_nil, List.length_append, List.length_set, Nat.zero_add, Nat.add_zero, Nat.sub_self, Nat.add_sub_cancel_left, Int.toNat_natCast, Nat.mul_one, and_self, if_true, if_false, reduceIte, partL, fldV, buildV_i, fillP_i, fillP_n, Option.map_some, eql_sl_nil, eql_nil_nil, buildSl_i, bsl_i, or_i, and_i, shl_i, shr_i, conv_u64, bit_t, bit_f, ixA_i, Nat.reduceAdd, Nat.reduceMul]
  rw [show AV.int .i64 0 = I 0 from rfl, show AV.int .i64 1 = I 1 from rfl, show AV.int .i64 2 = I 2 from rfl, ← hh1]
  refine WP.call (new_spec (N := 2) (es := kE) kE_ok (g.sl.map (by simp [kE]))) ?_
  rintro r h2 ⟨e2, w, o, _, rfl⟩
  simp -implicitDefEqProofs (disch := first | assumption | omega | (simp -implicitDefEqProofs only [List.length_append, List.length_set, List.length_cons, List.length_nil, List.length_map, List.length_replicate, mkObj_eq] <;> omega) | ((repeat (first | exact Ext.refl _ | assumption | apply Ext.app | apply Ext.mk | (refine Ext.setr ?_ (by (first | omega | (simp -implicitDefEqProofs only [List.length_append, List.length_set, List.length_cons, List.length_nil, List.length_map, List.length_replicate, mkObj_eq] <;> omega))) _))); done) | (simp -implicitDefEqProofs only [List.length_append, List.length_set, List.length_cons, List.length_nil, List.length_map, List.length_replicate, mkObj_eq, List.all_cons, List.all_nil, one_int, one_bool, one_str, one_ptr, one_sl, one_nils, one_nilp, one_ifc, one_map, cells_int, cells_bool, cells_str, cells_ptr, cells_sl, cells_nils, cells_nilp, cells_ifc, cells_map, cells_agg, Bool.and_self, Bool.and_true, Bool.true_and, Nat.zero_mul, Nat.one_mul, Nat.mul_one, show binV .neq .ptr (.ptr o 0 4 0) .nilp = some (.bool true) from rfl] <;> omega) | fail) only [oa_some, oh_some, ob_some, cond2_true, cond2_false, chk_true, gd_tt, gd_ft, gd_ff, gd_tf, gd_n, ob_pure1, pick_t, pick_f, pure1_some', sameB_self, Bool.and_true, callVal_fn, List.nil_append, List.append_nil, lss_t, lss_f, leq_t, leq_f, gtr_t, gtr_f, geq_t, geq_f, eql_t, eql_f, neq_t, neq_f, add_i, sub_i, rem_i, quo_w, mul_w, eql_b, neq_b, mm_max, mm_min, fldP_ptr, fldP_fldP, fldA_ptr, nil_ptr, fldA_el, fldA_elf, nil_el, nil_elf, len_sl, len_nil, idx_sl, ld1_ptr, rdAt_row, ldN_ptr, rdNAt_row, stN_ptr, wrAt_row, get_set_ne, get_set_eq, get_app_l, get_app_r, mkObj_eq, newVar_i, un_not, Bool.not_true, Bool.not_false, one_int, one_bool, one_str, one_ptr, one_sl, one_nils, one_nilp, one_ifc, one_map, cells_int, cells_bool, cells_str, cells_ptr, cells_sl, cells_nils, cells_nilp, cells_ifc, cells_map, cells_agg, List.all_cons, List.all_nil, List.getElem?_cons_zero, List.getElem?_cons_succ, List.getD_cons_zero, List.getD_cons_succ, setAll, List.set_cons_zero, List.set_cons_succ, List.drop_zero, List.drop_succ_cons, List.take_succ_cons, List.take_zero, List.length_cons, List.length_nil, List.length_append, List.length_set, Nat.zero_add, Nat.add_zero, Nat.sub_self, Nat.add_sub_cancel_left, Int.toNat_natCast, Nat.mul_one, and_self, if_true, if_false, reduceIte, partL, fldV, buildV_i, fillP_i, fillP_n, Option.map_some, eql_sl_nil, eql_nil_nil, buildSl_i, bsl_i, or_i, and_i, shl_i, shr_i, conv_u64, bit_t, bit_f, ixA_i, Nat.reduceAdd, Nat.reduceMul, show binV .neq .ptr (.ptr o 0 4 0) .nilp = some (.bool true) from rfl]
  refine WP.call (out_spec kE_ok w) ?_
  rintro r1 h3 ⟨e3, g3⟩
  have l1 : ((outL kE 1).map encI).length = 0 := by decide
  simp -implicitDefEqProofs (disch := first | assumption | omega | (simp -implicitDefEqProofs only [List.length_append, List.length_set, List.length_cons, List.length_nil, List.length_map, List.length_replicate, mkObj_eq] <;> omega) | ((repeat (first | exact Ext.refl _ | assumption | apply Ext.app | apply Ext.mk | (refine Ext.setr ?_ (by (first | omega | (simp -implicitDefEqProofs only [List.length_append, List.length_set, List.length_cons, List.length_nil, List.length_map, List.length_replicate, mkObj_eq] <;> omega))) _))); done) | (simp -implicitDefEqProofs only [List.length_append, List.length_set, List.length_cons, List.length_nil, List.length_map, List.length_replicate, mkObj_eq, List.all_cons, List.all_nil, one_int, one_bool, one_str, one_ptr, one_sl, one_nils, one_nilp, one_ifc, one_map, cells_int, cells_bool, cells_str, cells_ptr, cells_sl, cells_nils, cells_nilp, cells_ifc, cells_map, cells_agg, Bool.and_self, Bool.and_true, Bool.true_and, Nat.zero_mul, Nat.one_mul, Nat.mul_one, g3.sl.len, l1] <;> omega) | fail) only [oa_some, oh_some, ob_some, cond2_true, cond2_false, chk_true, gd_tt, gd_ft, gd_ff, gd_tf, gd_n, ob_pure1, pick_t, pick_f, pure1_some', sameB_self, Bool.and_true, callVal_fn, List.nil_append, List.append_nil, lss_t, lss_f, leq_t, leq_f, gtr_t, gtr_f, geq_t, geq_f, eql_t, eql_f, neq_t, neq_f, add_i, sub_i, rem_i, quo_w, mul_w, eql_b, neq_b, mm_max, mm_min, fldP_ptr, fldP_fldP, fldA_ptr, nil_ptr, fldA_el, fldA_elf, nil_el, nil_elf, len_sl, len_nil, idx_sl, ld1_ptr, rdAt_row, ldN_ptr, rdNAt_row, stN_ptr, wrAt_row, get_set_ne, get_set_eq, get_app_l, get_app_r, mkObj_eq, newVar_i, un_not, Bool.not_true, Bool.not_false, one_int, one_bool, one_str, one_ptr, one_sl, one_nils, one_nilp, one_ifc, one_map, cells_int, cells_bool, cells_str, cells_ptr, cells_sl, cells_nils, cells_nilp, cells_ifc, cells_map, cells_agg, List.all_cons, List.all_nil, List.getElem?_cons_zero, List.getElem?_cons_succ, List.getD_cons_zero, List.getD_cons_succ, setAll, List.set_cons_zero, List.set_cons_succ, List.drop_zero, List.drop_succ_cons, List.take_succ_cons, List.take_zero, List.length_cons, List.length_nil, List.length_append, List.length_set, Nat.zero_add, Nat.add_zero, Nat.sub_self, Nat.add_sub_cancel_left, Int.toNat_natCast, Nat.mul_one, and_self, if_true, if_false, reduceIte, partL, fldV, buildV_i, fillP_i, fillP_n, Option.map_some, eql_sl_nil, eql_nil_nil, buildSl_i, bsl_i, or_i, and_i, shl_i, shr_i, conv_u64, bit_t, bit_f, ixA_i, Nat.reduceAdd, Nat.reduceMul, g3.sl.len, l1]
  refine WP.call (out_spec kE_ok (w.ext e3)) ?_
  rintro r2 h4 ⟨e4, g4⟩
  have l2 : ((outL kE 0).map encI).length = 1 := by decide
  simp -implicitDefEqProofs (disch := first | assumption | omega | (simp -implicitDefEqProofs only [List.length_append, List.length_set, List.length_cons, List.length_nil, List.length_map, List.length_replicate, mkObj_eq] <;> omega) | ((repeat (first | exact Ext.refl _ | assumption | apply Ext.app | apply Ext.mk | (refine Ext.setr ?_ (by (first | omega | (simp -implicitDefEqProofs only [List.length_append, List.length_set, List.length_cons, List.length_nil, List.length_map, List.length_replicate, mkObj_eq] <;> omega))) _))); done) | (simp -implicitDefEqProofs only [List.length_append, List.length_set, List.length_cons, List.length_nil, List.length_map, List.length_replicate, mkObj_eq, List.all_cons, List.all_nil, one_int, one_bool, one_str, one_ptr, one_sl, one_nils, one_nilp, one_ifc, one_map, cells_int, cells_bool, cells_str, cells_ptr, cells_sl, cells_nils, cells_nilp, cells_ifc, cells_map, cells_agg, Bool.and_self, Bool.and_true, Bool.true_and, Nat.zero_mul, Nat.one_mul, Nat.mul_one, g4.sl.len, l2] <;> omega) | fail) only [oa_some, oh_some, ob_some, cond2_true, cond2_false, chk_true, gd_tt, gd_ft, gd_ff, gd_tf, gd_n, ob_pure1, pick_t, pick_f, pure1_some', sameB_self, Bool.and_true, callVal_fn, List.nil_append, List.append_nil, lss_t, lss_f, leq_t, leq_f, gtr_t, gtr_f, geq_t, geq_f, eql_t, eql_f, neq_t, neq_f, add_i, sub_i, rem_i, quo_w, mul_w, eql_b, neq_b, mm_max, mm_min, fldP_ptr, fldP_fldP, fldA_ptr, nil_ptr, fldA_el, fldA_elf, nil_el, nil_elf, len_sl, len_nil, idx_sl, ld1_ptr, rdAt_row, ldN_ptr, rdNAt_row, stN_ptr, wrAt_row, get_set_ne, get_set_eq, get_app_l, get_app_r, mkObj_eq, newVar_i, un_not, Bool.not_true, Bool.not_false, one_int, one_bool, one_str, one_ptr, one_sl, one_nils, one_nilp, one_ifc, one_map, cells_int, cells_bool, cells_str, cells_ptr, cells_sl, cells_nils, cells_nilp, cells_ifc, cells_map, cells_agg, List.all_cons, List.all_nil, List.getElem?_cons_zero, List.getElem?_cons_succ, List.getD_cons_zero, List.getD_cons_succ, setAll, List.set_cons_zero, List.set_cons_succ, List.drop_zero, List.drop_succ_cons, List.take_succ_cons, List.take_zero, List.length_cons, List.length_nil, List.length_append, List.length_set, Nat.zero_add, Nat.add_zero, Nat.sub_self, Nat.add_sub_cancel_left, Int.toNat_natCast, Nat.mul_one, and_self, if_true, if_false, reduceIte, partL, fldV, buildV_i, fillP_i, fillP_n, Option.map_some, eql_sl_nil, eql_nil_nil, buildSl_i, bsl_i, or_i, and_i, shl_i, shr_i, conv_u64, bit_t, bit_f, ixA_i, Nat.reduceAdd, Nat.reduceMul, g4.sl.len, l2]
  refine WP.call (in_spec kE_ok (w.ext (e3.trans e4))) ?_
  rintro r3 h5 ⟨e5, g5⟩
  have l3 : ((inL kE 1).map encI).length = 1 := by decide
  simp -implicitDefEqProofs (disch := first | assumption | omega | (simp -implicitDefEqProofs only [List.length_append, List.length_set, List.length_cons, List.length_nil, List.length_map, List.length_replicate, mkObj_eq] <;> omega) | ((repeat (first | exact Ext.refl _ | assumption | apply Ext.app | apply Ext.mk | (refine Ext.setr ?_ (by (first | omega | (simp -implicitDefEqProofs only [List.length_append, List.length_set, List.length_cons, List.length_nil, List.length_map, List.length_replicate, mkObj_eq] <;> omega))) _))); done) | (simp -implicitDefEqProofs only [List.length_append, List.length_set, List.length_cons, List.length_nil, List.length_map, List.length_replicate, mkObj_eq, List.all_cons, List.all_nil, one_int, one_bool, one_str, one_ptr, one_sl, one_nils, one_nilp, one_ifc, one_map, cells_int, cells_bool, cells_str, cells_ptr, cells_sl, cells_nils, cells_nilp, cells_ifc, cells_map, cells_agg, Bool.and_self, Bool.and_true, Bool.true_and, Nat.zero_mul, Nat.one_mul, Nat.mul_one, g5.sl.len, l3] <;> omega) | fail) only [oa_some, oh_some, ob_some, cond2_true, cond2_false, chk_true, gd_tt, gd_ft, gd_ff, gd_tf, gd_n, ob_pure1, pick_t, pick_f, pure1_some', sameB_self, Bool.and_true, callVal_fn, List.nil_append, List.append_nil, lss_t, lss_f, leq_t, leq_f, gtr_t, gtr_f, geq_t, geq_f, eql_t, eql_f, neq_t, neq_f, add_i, sub_i, rem_i, quo_w, mul_w, eql_b, neq_b, mm_max, mm_min, fldP_ptr, fldP_fldP, fldA_ptr, nil_ptr, fldA_el, fldA_elf, nil_el, nil_elf, len_sl, len_nil, idx_sl, ld1_ptr, rdAt_row, ldN_ptr, rdNAt_row, stN_ptr, wrAt_row, get_set_ne, get_set_eq, get_app_l, get_app_r, mkObj_eq, newVar_i, un_not, Bool.not_true, Bool.not_false, one_int, one_bool, one_str, one_ptr, one_sl, one_nils, one_nilp, one_ifc, one_map, cells_int, cells_bool, cells_str, cells_ptr, cells_sl, cells_nils, cells_nilp, cells_ifc, cells_map, cells_agg, List.all_cons, List.all_nil, List.getElem?_cons_zero, List.getElem?_cons_succ, List.getD_cons_zero, List.getD_cons_succ, setAll, List.set_cons_zero, List.set_cons_succ, List.drop_zero, List.drop_succ_cons, List.take_succ_cons, List.take_zero, List.length_cons, List.length_nil, List.length_append, List.length_set, Nat.zero_add, Nat.add_zero, Nat.sub_self, Nat.add_sub_cancel_left, Int.toNat_natCast, Nat.mul_one, and_self, if_true, if_false, reduceIte, partL, fldV, buildV_i, fillP_i, fillP_n, Option.map_some, eql_sl_nil, eql_nil_nil, buildSl_i, bsl_i, or_i, and_i, shl_i, shr_i, conv_u64, bit_t, bit_f, ixA_i, Nat.reduceAdd, Nat.reduceMul, g5.sl.len, l3]
  refine WP.call (modes_spec kE_ok (w.ext ((e3.trans e4).trans e5))) ?_
  rintro r4 h6 ⟨e6, rfl⟩
  have l4 : modesV kE 0 = 4 := by decide
  simp -implicitDefEqProofs (disch := first | assumption | omega | (simp -implicitDefEqProofs only [List.length_append, List.length_set, List.length_cons, List.length_nil, List.length_map, List.length_replicate, mkObj_eq] <;> omega) | ((repeat (first | exact Ext.refl _ | assumption | apply Ext.app | apply Ext.mk | (refine Ext.setr ?_ (by (first | omega | (simp -implicitDefEqProofs only [List.length_append, List.length_set, List.length_cons, List.length_nil, List.length_map, List.length_replicate, mkObj_eq] <;> omega))) _))); done) | (simp -implicitDefEqProofs only [List.length_append, List.length_set, List.length_cons, List.length_nil, List.length_map, List.length_replicate, mkObj_eq, List.all_cons, List.all_nil, one_int, one_bool, one_str, one_ptr, one_sl, one_nils, one_nilp, one_ifc, one_map, cells_int, cells_bool, cells_str, cells_ptr, cells_sl, cells_nils, cells_nilp, cells_ifc, cells_map, cells_agg, Bool.and_self, Bool.and_true, Bool.true_and, Nat.zero_mul, Nat.one_mul, Nat.mul_one, l4] <;> omega) | fail) only [oa_some, oh_some, ob_some, cond2_true, cond2_false, chk_true, gd_tt, gd_ft, gd_ff, gd_tf, gd_n, ob_pure1, pick_t, pick_f, pure1_some', sameB_self, Bool.and_true, callVal_fn, List.nil_append, List.append_nil, lss_t, lss_f, leq_t, leq_f, gtr_t, gtr_f, geq_t, geq_f, eql_t, eql_f, neq_t, neq_f, add_i, sub_i, rem_i, quo_w, mul_w, eql_b, neq_b, mm_max, mm_min, fldP_ptr, fldP_fldP, fldA_ptr, nil_ptr, fldA_el, fldA_elf, nil_el, nil_elf, len_sl, len_nil, idx_sl, ld1_ptr, rdAt_row, ldN_ptr, rdNAt_row, stN_ptr, wrAt_row, get_set_ne, get_set_eq, get_app_l, get_app_r, mkObj_eq, newVar_i, un_not, Bool.not_true, Bool.not_false, one_int, one_bool, one_str, one_ptr, one_sl, one_nils, one_nilp, one_ifc, one_map, cells_int, cells_bool, cells_str, cells_ptr, cells_sl, cells_nils, cells_nilp, cells_ifc, cells_map, cells_agg, List.all_cons, List.all_nil, List.getElem?_cons_zero, List.getElem?_cons_succ, List.getD_cons_zero, List.getD_cons_succ, setAll, List.set_cons_zero, List.set_cons_succ, List.drop_zero, List.drop_succ_cons, List.take_succ_cons, List.take_zero, List.length_cons, List.length_nil, List.length_append, List.length_set, Nat.zero_add, Nat.add_zero, Nat.sub_self, Nat.add_sub_cancel_left, Int.toNat_natCast, Nat.mul_one, and_self, if_true, if_false, reduceIte, partL, fldV, buildV_i, fillP_i, fillP_n, Option.map_some, eql_sl_nil, eql_nil_nil, buildSl_i, bsl_i, or_i, and_i, shl_i, shr_i, conv_u64, bit_t, bit_f, ixA_i, Nat.reduceAdd, Nat.reduceMul, l4]
  refine WP.call (reach_spec (s := 4) kE_ok (w.ext (((e3.trans e4).trans e5).trans e6)) (by omega)) ?_
  rintro r5 h7 ⟨e7, xs, g7, p7, m7⟩
  have hx : xs = [0, 1] := sorted_ext p7 (by simp) fun u => by
    rw [m7, kE_rch]
    constructor
    · rintro ⟨_, q | q⟩ <;> simp [q]
    · intro q; simp at q; exact ⟨by omega, q⟩
  simp -implicitDefEqProofs (disch := first | assumption | omega | (simp -implicitDefEqProofs only [List.length_append, List.length_set, List.length_cons, List.length_nil, List.length_map, List.length_replicate, mkObj_eq] <;> omega) | ((repeat (first | exact Ext.refl _ | assumption | apply Ext.app | apply Ext.mk | (refine Ext.setr ?_ (by (first | omega | (simp -implicitDefEqProofs only [List.length_append, List.length_set, List.length_cons, List.length_nil, List.length_map, List.length_replicate, mkObj_eq] <;> omega))) _))); done) | (simp -implicitDefEqProofs only [List.length_append, List.length_set, List.length_cons, List.length_nil, List.length_map, List.length_replicate, mkObj_eq, List.all_cons, List.all_nil, one_int, one_bool, one_str, one_ptr, one_sl, one_nils, one_nilp, one_ifc, one_map, cells_int, cells_bool, cells_str, cells_ptr, cells_sl, cells_nils, cells_nilp, cells_ifc, cells_map, cells_agg, Bool.and_self, Bool.and_true, Bool.true_and, Nat.zero_mul, Nat.one_mul, Nat.mul_one, g7.sl.len, hx, List.length_map] <;> omega) | fail) only [oa_some, oh_some, ob_some, cond2_true, cond2_false, chk_true, gd_tt, gd_ft, gd_ff, gd_tf, gd_n, ob_pure1, pick_t, pick_f, pure1_some', sameB_self, Bool.and_true, callVal_fn, List.nil_append, List.append_nil, lss_t, lss_f, leq_t, leq_f, gtr_t, gtr_f, geq_t, geq_f, eql_t, eql_f, neq_t, neq_f, add_i, sub_i, rem_i, quo_w, mul_w, eql_b, neq_b, mm_max, mm_min, fldP_ptr, fldP_fldP, fldA_ptr, nil_ptr, fldA_el, fldA_elf, nil_el, nil_elf, len_sl, len_nil, idx_sl, ld1_ptr, rdAt_row, ldN_ptr, rdNAt_row, stN_ptr, wrAt_row, get_set_ne, get_set_eq, get_app_l, get_app_r, mkObj_eq, newVar_i, un_not, Bool.not_true, Bool.not_false, one_int, one_bool, one_str, one_ptr, one_sl, one_nils, one_nilp, one_ifc, one_map, cells_int, cells_bool, cells_str, cells_ptr, cells_sl, cells_nils, cells_nilp, cells_ifc, cells_map, cells_agg, List.all_cons, List.all_nil, List.getElem?_cons_zero, List.getElem?_cons_succ, List.getD_cons_zero, List.getD_cons_succ, setAll, List.set_cons_zero, List.set_cons_succ, List.drop_zero, List.drop_succ_cons, List.take_succ_cons, List.take_zero, List.length_cons, List.length_nil, List.length_append, List.length_set, Nat.zero_add, Nat.add_zero, Nat.sub_self, Nat.add_sub_cancel_left, Int.toNat_natCast, Nat.mul_one, and_self, if_true, if_false, reduceIte, partL, fldV, buildV_i, fillP_i, fillP_n, Option.map_some, eql_sl_nil, eql_nil_nil, buildSl_i, bsl_i, or_i, and_i, shl_i, shr_i, conv_u64, bit_t, bit_f, ixA_i, Nat.reduceAdd, Nat.reduceMul, g7.sl.len, hx, List.length_map]
  exact WP.ret ⟨rfl, (((((e0.trans e2).trans e3).trans e4).trans e5).trans e6).trans e7⟩
theorem within2_spec {a n : Int} (hn : 0 < n) (hf : Fit n) (h : Heap) : Tot tab f_milestonelaw2_within [I a, I n] h fun v h' => v = I (a % n) ∧ h = h' := by
  refine WP.tot (fun k => (call_milestonelaw2_within k _ _ h).trans (milestonelaw2_within_eq tab k _ _ h)) ?_
  refine WP.oa (bin_rem a n (by omega)) ?_
  refine WP.oa (bin_lss _ _) ?_
  have hlt := Int.tmod_lt_of_pos a hn
  have hgt := Int.lt_tmod_of_pos a hn
  have h1 := Int.tmod_eq_emod (a := a) (b := n)
  have h2 := Int.emod_nonneg a (by omega : n ≠ 0)
  have h3 := Int.emod_lt_of_pos a hn
  by_cases h0 : a.tmod n < 0
  · simp only [decide_eq_true h0, cond2_true]
    refine WP.oa (bin_add _ _ (by unfold Fit at *; omega)) (WP.ret ⟨?_, rfl⟩)
    congr 1
    split at h1 <;> omega
  · simp only [decide_eq_false h0, cond2_false]
    refine WP.ret ⟨?_, rfl⟩
    congr 1
    split at h1 <;> omega
theorem idxTo_sorted (p : E → Bool) (es : List E) (n : Nat) : (idxTo p es n).Pairwise (· < ·) := by
  simp only [idxTo, List.pairwise_map]
  exact (List.pairwise_lt_range.filter _).imp fun h => by omega
theorem sorted_gi {xs : List Int} (h : xs.Pairwise (· < ·)) {i : Int} (h0 : 0 < i) (h1 : i < xs.length) : gi xs (i - 1) < gi xs i := by
  have h2 := List.pairwise_iff_getElem.1 h (i - 1).toNat i.toNat (by omega) (by omega) (by omega)
  rw [← gi_nat, ← gi_nat] at h2
  rw [show (((i - 1).toNat : Nat) : Int) = i - 1 by omega, show ((i.toNat : Nat) : Int) = i by omega] at h2
  exact h2
theorem Rch.mono {es : List E} {s t : Nat} {v u : Int} (h : Rch es s v u) (hst : ∀ m, s.testBit m = true → t.testBit m = true) : Rch es t v u := by
  induction h with
  | refl => exact .refl
  | step _ k0 k1 k2 hb ih => exact .step ih k0 k1 k2 (hst _ hb)
theorem Rch.trans {es : List E} {s : Nat} {v u w : Int} (h : Rch es s v u) (k : Rch es s u w) : Rch es s v w := by
  induction k with
  | refl => exact h
  | step _ k0 k1 k2 hb ih => exact .step ih k0 k1 k2 hb
theorem Rch.zero {es : List E} {v u : Int} (h : Rch es 0 v u) : u = v := by
  induction h with
  | refl => rfl
  | step _ k0 k1 k2 hb ih => simp at hb
theorem sorted_len {N : Nat} : ∀ {xs : List Int} {a : Int}, xs.Pairwise (· < ·) → (∀ u ∈ xs, a ≤ u ∧ u < N) → 0 ≤ a → a ≤ N → (xs.length : Int) ≤ N - a
  | [], a, _, _, _, _ => by simp; omega
  | x :: xs, a, h, hr, ha, hn => by
    rw [List.pairwise_cons] at h
    have h1 := hr x (by simp)
    have := sorted_len (a := x + 1) h.2 (fun u hu => ⟨by have := h.1 u hu; omega, (hr u (List.mem_cons_of_mem _ hu)).2⟩) (by omega) (by omega)
    simp only [List.length_cons]; omega
theorem reach_len {N : Int} {es : List E} (ok : NetOk N es) {s : Nat} {v : Int} {xs : List Int} (h : xs.Pairwise (· < ·)) (hm : ∀ u, u ∈ xs ↔ (0 ≤ v ∧ v < N) ∧ Rch es s v u) : xs.length ≤ 100000 := by
  have h0 := ok.n0
  have h1 := ok.n1
  have := sorted_len (N := N.toNat) (a := 0) h (fun u hu => by
    have h2 := (hm u).1 hu
    have := h2.2.range ok h2.1.1 h2.1.2
    omega) (by omega) (by omega)
  omega
end Go.Gm.A2
