/- A part of the proof: GmA2U: an abstract machine, what it does, and what the functions of the program come to on it. -/
import Derived.Test.YtfihknbnoblihaaGmA2S
set_option linter.unusedVariables false
set_option linter.unusedSimpArgs false
namespace Go.Gm.A2
open Go Go.Gm

/-! ### What is reached -/
inductive Rch (es : List E) (s : Nat) (v : Int) : Int → Prop
  | refl : Rch es s v v
  | step {u k : Int} : Rch es s v u → 0 ≤ k → k < es.length → (gi es k).fr = u → s.testBit (gi es k).md.toNat = true → Rch es s v (gi es k).to
theorem Rch.range {N : Int} {es : List E} (ok : NetOk N es) {s : Nat} {v u : Int} (h : Rch es s v u) (h0 : 0 ≤ v) (h1 : v < N) : 0 ≤ u ∧ u < N := by
  induction h with
  | refl => exact ⟨h0, h1⟩
  | step _ k0 k1 _ _ _ =>
    have := ok.edge _ (gi_mem k0 k1)
    omega

def selTo (p : Nat → Bool) (n : Nat) : List Int := ((List.range n).filter p).map fun (i : Nat) => (i : Int)
theorem selTo_succ (p : Nat → Bool) (n : Nat) : selTo p (n + 1) = selTo p n ++ if p n then [(n : Int)] else [] := by
  simp only [selTo, List.range_succ, List.filter_append, List.map_append]
  congr 1
  by_cases h : p n <;> simp [h]
theorem selTo_len (p : Nat → Bool) (n : Nat) : (selTo p n).length ≤ n := by
  simp only [selTo, List.length_map]
  exact Nat.le_trans (List.length_filter_le ..) (by simp)
theorem selTo_mem {p : Nat → Bool} {n : Nat} {k : Int} : k ∈ selTo p n ↔ 0 ≤ k ∧ k < n ∧ p k.toNat = true := by
  simp only [selTo, List.mem_map, List.mem_filter, List.mem_range]
  constructor
  · rintro ⟨a, ⟨h1, h2⟩, rfl⟩
    exact ⟨by omega, by omega, h2⟩
  · rintro ⟨h1, h2, h3⟩
    exact ⟨k.toNat, ⟨by omega, h3⟩, by omega⟩
theorem selTo_sorted (p : Nat → Bool) (n : Nat) : (selTo p n).Pairwise (· < ·) := by
  simp only [selTo, List.pairwise_map]
  exact (List.pairwise_lt_range.filter _).imp fun h => by omega

theorem gi_set {α : Type} [Inhabited α] {xs : List α} {i j : Int} (h0 : 0 ≤ i) (h1 : i < xs.length) (hj : 0 ≤ j) (x : α) : gi (xs.set i.toNat x) j = if j = i then x else gi xs j := by
  simp only [gi, List.getD_eq_getElem?_getD]
  by_cases h : j = i
  · subst h
    rw [if_pos rfl, List.getElem?_set_self (by omega)]; rfl
  · rw [if_neg h, List.getElem?_set_ne (by omega)]
theorem count_set_f {xs : List Bool} {i : Int} (h0 : 0 ≤ i) (h1 : i < xs.length) (hf : gi xs i = false) : (xs.set i.toNat true).count false + 1 = xs.count false := by
  have hi : i.toNat < xs.length := by omega
  have hx : xs[i.toNat] = false := by
    have := gi_some h0 h1
    rw [List.getElem?_eq_getElem hi] at this
    injection this with this
    rw [this]; exact hf
  have h2 := List.count_set (a := true) (b := false) hi
  rw [hx] at h2
  have h3 : 0 < xs.count false := List.count_pos_iff.2 (hx ▸ List.getElem_mem hi)
  simp at h2
  omega

/-- The search's state: what was seen, what waits. -/
structure DInv (N : Int) (es : List E) (s : Nat) (v : Int) (sn : List Bool) (st : List Int) (C : Int → Prop) : Prop where
  len : (sn.length : Int) = N
  stk : ∀ u ∈ st, 0 ≤ u ∧ u < N
  sound : ∀ u, 0 ≤ u → u < N → gi sn u = true → Rch es s v u
  seen : ∀ u ∈ st, gi sn u = true
  v : gi sn v = true
  clo : ∀ u, 0 ≤ u → u < N → gi sn u = true → u ∈ st ∨ C u ∨ ∀ k ∈ outL es u, s.testBit (gi es k).md.toNat = true → gi sn (gi es k).to = true

theorem reach_l4 {h0 : Heap} {sn : List Bool} {a : AV} {q : Nat} {Q : AV → Heap → Prop} (hn : sn.length ≤ 100000) (hq : h0.length ≤ q)
    (hQ : ∀ r h', Ext h0 h' → Gr q h'.length h' 1 r ((selTo (fun i => gi sn i) sn.length).map encI) → Q r h') : ∀ (d n : Nat) (out : AV) (h : Heap), n + d = sn.length → Ext h0 h → q ≤ h.length → Gr h0.length q h 1 a (sn.map encB) → Gr q h.length h 1 out ((selTo (fun i => gi sn i) n).map encI) →
    WP (fun p : Nat × Nat => adj_Adj_Reach_l4 tab p.1 p.2 out a (I sn.length) (I n) h) Q := by
  intro d
  induction d with
  | zero =>
    intro n out h h1 e hq2 ga g
    refine WP.rnd (fun i' j => adj_Adj_Reach_l4_eq tab i' j out a (I sn.length) (I n) h) ?_
    simp -implicitDefEqProofs (disch := first | assumption | omega | (simp -implicitDefEqProofs only [List.length_append, List.length_set, List.length_cons, List.length_nil, List.length_map, List.length_replicate, mkObj_eq] <;> omega) | ((repeat (first | exact Ext.refl _ | assumption | apply Ext.app | apply Ext.mk | (refine Ext.setr ?_ (by (first | omega | (simp -implicitDefEqProofs only [List.length_append, List.length_set, List.length_cons, List.length_nil, List.length_map, List.length_replicate, mkObj_eq] <;> omega))) _))); done) | (simp -implicitDefEqProofs only [List.length_append, List.length_set, List.length_cons, List.length_nil, List.length_map, List.length_replicate, mkObj_eq, List.all_cons, List.all_nil, one_int, one_bool, one_str, one_ptr, one_sl, one_nils, one_nilp, one_ifc, one_map, cells_int, cells_bool, cells_str, cells_ptr, cells_sl, cells_nils, cells_nilp, cells_ifc, cells_map, cells_agg, Bool.and_self, Bool.and_true, Bool.true_and, Nat.zero_mul, Nat.one_mul, Nat.mul_one] <;> omega) | fail) only [oa_some, oh_some, ob_some, cond2_true, cond2_false, chk_true, gd_tt, gd_ft, gd_ff, gd_tf, gd_n, ob_pure1, pick_t, pick_f, pure1_some', sameB_self, Bool.and_true, callVal_fn, List.nil_append, List.append_nil, lss_t, lss_f, leq_t, leq_f, gtr_t, gtr_f, geq_t, geq_f, eql_t, eql_f, neq_t, neq_f, add_i, sub_i, rem_i, quo_w, mul_w, eql_b, neq_b, mm_max, mm_min, fldP_ptr, fldP_fldP, fldA_ptr, nil_ptr, fldA_el, fldA_elf, nil_el, nil_elf, len_sl, len_nil, idx_sl, ld1_ptr, rdAt_row, ldN_ptr, rdNAt_row, stN_ptr, wrAt_row, get_set_ne, get_set_eq, get_app_l, get_app_r, mkObj_eq, newVar_i, un_not, Bool.not_true, Bool.not_false, one_int, one_bool, one_str, one_ptr, one_sl, one_nils, one_nilp, one_ifc, one_map, cells_int, cells_bool, cells_str, cells_ptr, cells_sl, cells_nils, cells_nilp, cells_ifc, cells_map, cells_agg, List.all_cons, List.all_nil, List.getElem?_cons_zero, List.getElem?_cons_succ, List.getD_cons_zero, List.getD_cons_succ, setAll, List.set_cons_zero, List.set_cons_succ, List.drop_zero, List.drop_succ_cons, List.take_succ_cons, List.take_zero, List.length_cons, List.length_nil, List.length_append, List.length_set, Nat.zero_add, Nat.add_zero, Nat.sub_self, Nat.add_sub_cancel_left, Int.toNat_natCast, Nat.mul_one, and_self, if_true, if_false, reduceIte, partL, fldV, buildV_i, fillP_i, fillP_n, Option.map_some, eql_sl_nil, eql_nil_nil, buildSl_i, bsl_i, or_i, and_i, shl_i, shr_i, conv_u64, bit_t, bit_f, ixA_i, Nat.reduceAdd, Nat.reduceMul]
    refine WP.lv (d := fun k => adj_Adj_Reach_b5 tab k out h) ?_ fun i j => rfl
    refine WP.congr (fun k => adj_Adj_Reach_b5_eq tab k out h) ?_
    have hl := selTo_len (fun i => gi sn i) n
    refine WP.call (clone_spec g.sl (by simp; omega)) ?_
    rintro r h' ⟨e2, g2⟩
    rw [show n = sn.length by omega] at g2
    exact WP.ret (hQ _ _ (e.trans e2) (g2.mono hq2 (Nat.le_refl _)))
  | succ d ih =>
    intro n out h h1 e hq2 ga g
    refine WP.rnd (fun i' j => adj_Adj_Reach_l4_eq tab i' j out a (I sn.length) (I n) h) ?_
    have hl := selTo_len (fun i => gi sn i) n
    cases hx : gi sn n with
    | true =>
      obtain ⟨s', h', k1, k2, k3⟩ := g.append1 (bytes := 8) (v := [I n]) rfl (by omega) (by omega) (by simp; omega) hq2 (Nat.le_refl _)
      rw [mkObj_eq] at k1
      simp -implicitDefEqProofs (disch := first | assumption | omega | (simp -implicitDefEqProofs only [List.length_append, List.length_set, List.length_cons, List.length_nil, List.length_map, List.length_replicate, mkObj_eq] <;> omega) | ((repeat (first | exact Ext.refl _ | assumption | apply Ext.app | apply Ext.mk | (refine Ext.setr ?_ (by (first | omega | (simp -implicitDefEqProofs only [List.length_append, List.length_set, List.length_cons, List.length_nil, List.length_map, List.length_replicate, mkObj_eq] <;> omega))) _))); done) | (simp -implicitDefEqProofs only [List.length_append, List.length_set, List.length_cons, List.length_nil, List.length_map, List.length_replicate, mkObj_eq, List.all_cons, List.all_nil, one_int, one_bool, one_str, one_ptr, one_sl, one_nils, one_nilp, one_ifc, one_map, cells_int, cells_bool, cells_str, cells_ptr, cells_sl, cells_nils, cells_nilp, cells_ifc, cells_map, cells_agg, Bool.and_self, Bool.and_true, Bool.true_and, Nat.zero_mul, Nat.one_mul, Nat.mul_one, ga.sl.idxG, ga.sl.ld0, encB, hx, k1] <;> omega) | fail) only [oa_some, oh_some, ob_some, cond2_true, cond2_false, chk_true, gd_tt, gd_ft, gd_ff, gd_tf, gd_n, ob_pure1, pick_t, pick_f, pure1_some', sameB_self, Bool.and_true, callVal_fn, List.nil_append, List.append_nil, lss_t, lss_f, leq_t, leq_f, gtr_t, gtr_f, geq_t, geq_f, eql_t, eql_f, neq_t, neq_f, add_i, sub_i, rem_i, quo_w, mul_w, eql_b, neq_b, mm_max, mm_min, fldP_ptr, fldP_fldP, fldA_ptr, nil_ptr, fldA_el, fldA_elf, nil_el, nil_elf, len_sl, len_nil, idx_sl, ld1_ptr, rdAt_row, ldN_ptr, rdNAt_row, stN_ptr, wrAt_row, get_set_ne, get_set_eq, get_app_l, get_app_r, mkObj_eq, newVar_i, un_not, Bool.not_true, Bool.not_false, one_int, one_bool, one_str, one_ptr, one_sl, one_nils, one_nilp, one_ifc, one_map, cells_int, cells_bool, cells_str, cells_ptr, cells_sl, cells_nils, cells_nilp, cells_ifc, cells_map, cells_agg, List.all_cons, List.all_nil, List.getElem?_cons_zero, List.getElem?_cons_succ, List.getD_cons_zero, List.getD_cons_succ, setAll, List.set_cons_zero, List.set_cons_succ, List.drop_zero, List.drop_succ_cons, List.take_succ_cons, List.take_zero, List.length_cons, List.length_nil, List.length_append, List.length_set, Nat.zero_add, Nat.add_zero, Nat.sub_self, Nat.add_sub_cancel_left, Int.toNat_natCast, Nat.mul_one, and_self, if_true, if_false, reduceIte, partL, fldV, buildV_i, fillP_i, fillP_n, Option.map_some, eql_sl_nil, eql_nil_nil, buildSl_i, bsl_i, or_i, and_i, shl_i, shr_i, conv_u64, bit_t, bit_f, ixA_i, Nat.reduceAdd, Nat.reduceMul, ga.sl.idxG, ga.sl.ld0, encB, hx, k1]
      refine ih (n + 1) s' h' (by omega) (k3.ext e hq) (Nat.le_trans hq2 k3.len) (ga.fr k3 (by omega)) (k2.cong ?_)
      simp [selTo_succ, hx, encI]
    | false =>
      simp -implicitDefEqProofs (disch := first | assumption | omega | (simp -implicitDefEqProofs only [List.length_append, List.length_set, List.length_cons, List.length_nil, List.length_map, List.length_replicate, mkObj_eq] <;> omega) | ((repeat (first | exact Ext.refl _ | assumption | apply Ext.app | apply Ext.mk | (refine Ext.setr ?_ (by (first | omega | (simp -implicitDefEqProofs only [List.length_append, List.length_set, List.length_cons, List.length_nil, List.length_map, List.length_replicate, mkObj_eq] <;> omega))) _))); done) | (simp -implicitDefEqProofs only [List.length_append, List.length_set, List.length_cons, List.length_nil, List.length_map, List.length_replicate, mkObj_eq, List.all_cons, List.all_nil, one_int, one_bool, one_str, one_ptr, one_sl, one_nils, one_nilp, one_ifc, one_map, cells_int, cells_bool, cells_str, cells_ptr, cells_sl, cells_nils, cells_nilp, cells_ifc, cells_map, cells_agg, Bool.and_self, Bool.and_true, Bool.true_and, Nat.zero_mul, Nat.one_mul, Nat.mul_one, ga.sl.idxG, ga.sl.ld0, encB, hx] <;> omega) | fail) only [oa_some, oh_some, ob_some, cond2_true, cond2_false, chk_true, gd_tt, gd_ft, gd_ff, gd_tf, gd_n, ob_pure1, pick_t, pick_f, pure1_some', sameB_self, Bool.and_true, callVal_fn, List.nil_append, List.append_nil, lss_t, lss_f, leq_t, leq_f, gtr_t, gtr_f, geq_t, geq_f, eql_t, eql_f, neq_t, neq_f, add_i, sub_i, rem_i, quo_w, mul_w, eql_b, neq_b, mm_max, mm_min, fldP_ptr, fldP_fldP, fldA_ptr, nil_ptr, fldA_el, fldA_elf, nil_el, nil_elf, len_sl, len_nil, idx_sl, ld1_ptr, rdAt_row, ldN_ptr, rdNAt_row, stN_ptr, wrAt_row, get_set_ne, get_set_eq, get_app_l, get_app_r, mkObj_eq, newVar_i, un_not, Bool.not_true, Bool.not_false, one_int, one_bool, one_str, one_ptr, one_sl, one_nils, one_nilp, one_ifc, one_map, cells_int, cells_bool, cells_str, cells_ptr, cells_sl, cells_nils, cells_nilp, cells_ifc, cells_map, cells_agg, List.all_cons, List.all_nil, List.getElem?_cons_zero, List.getElem?_cons_succ, List.getD_cons_zero, List.getD_cons_succ, setAll, List.set_cons_zero, List.set_cons_succ, List.drop_zero, List.drop_succ_cons, List.take_succ_cons, List.take_zero, List.length_cons, List.length_nil, List.length_append, List.length_set, Nat.zero_add, Nat.add_zero, Nat.sub_self, Nat.add_sub_cancel_left, Int.toNat_natCast, Nat.mul_one, and_self, if_true, if_false, reduceIte, partL, fldV, buildV_i, fillP_i, fillP_n, Option.map_some, eql_sl_nil, eql_nil_nil, buildSl_i, bsl_i, or_i, and_i, shl_i, shr_i, conv_u64, bit_t, bit_f, ixA_i, Nat.reduceAdd, Nat.reduceMul, ga.sl.idxG, ga.sl.ld0, encB, hx]
      refine ih (n + 1) out h (by omega) e hq2 ga (g.cong ?_)
      simp [selTo_succ, hx]

def ReachQ (h0 : Heap) (es : List E) (s : Nat) (P : Prop) (v : Int) (r : AV) (h' : Heap) : Prop :=
  Ext h0 h' ∧ ∃ xs : List Int, Gr h0.length h'.length h' 1 r (xs.map encI) ∧ xs.Pairwise (· < ·) ∧ ∀ u, u ∈ xs ↔ P ∧ Rch es s v u

theorem DInv.done {N : Int} {es : List E} (ok : NetOk N es) {s : Nat} {v : Int} (hv : 0 ≤ v ∧ v < N) {sn : List Bool} (d : DInv N es s v sn [] fun _ => False) : ∀ u, u ∈ selTo (fun i => gi sn i) sn.length ↔ (0 ≤ v ∧ v < N) ∧ Rch es s v u := by
  intro u
  rw [selTo_mem]
  have hlen := d.len
  constructor
  · rintro ⟨h0, h1, h2⟩
    rw [show ((u.toNat : Nat) : Int) = u by omega] at h2
    exact ⟨hv, d.sound u h0 (by omega) h2⟩
  · rintro ⟨_, hr⟩
    have hr2 := hr.range ok hv.1 hv.2
    refine ⟨hr2.1, by omega, ?_⟩
    rw [show ((u.toNat : Nat) : Int) = u by omega]
    clear hr2
    induction hr with
    | refl => exact d.v
    | step hr k0 k1 hf hb ih =>
      have hu := hr.range ok hv.1 hv.2
      rcases d.clo _ hu.1 hu.2 ih with h | h | h
      · simp at h
      · exact h.elim
      · exact h _ (outL_mem.2 ⟨k0, k1, hf⟩) hb

theorem reach_l2 {h0 : Heap} {a : AV} {N v : Int} {es : List E} {sa so si : AV} {O J : List (AV × AV)} (ok : NetOk N es) (w : AdjW h0 a N es sa so si O J) (hv : 0 ≤ v ∧ v < N) {s : Nat} (hs : s < 2 ^ 62) {seen : AV} {Q : AV → Heap → Prop} {u : Int} (hu : 0 ≤ u ∧ u < N) {m : Nat} (hmb : m ≤ 1000000)
    (ih : ∀ (sn : List Bool) (st : List Int) (next : AV) (h : Heap), st.length + sn.count false = m → DInv N es s v sn st (fun _ => False) → Ext h0 h → h0.length + 1 ≤ h.length → Gr h0.length (h0.length + 1) h 1 seen (sn.map encB) → Gr (h0.length + 1) h.length h 1 next (st.map encI) → next ≠ .nils →
      WP (fun p : Nat × Nat => adj_Adj_Reach_l1 tab p.1 p.2 a (I s) seen next h) Q) :
    ∀ (d n : Nat) (sn : List Bool) (st : List Int) (next : AV) (h : Heap), n + d = (outL es u).length → st.length + sn.count false = m → gi sn u = true →
      DInv N es s v sn st (fun w => w = u ∧ ∀ j : Int, 0 ≤ j → j < n → s.testBit (gi es (gi (outL es u) j)).md.toNat = true → gi sn (gi es (gi (outL es u) j)).to = true) →
      Ext h0 h → h0.length + 1 ≤ h.length → Gr h0.length (h0.length + 1) h 1 seen (sn.map encB) → Gr (h0.length + 1) h.length h 1 next (st.map encI) → next ≠ .nils →
      WP (fun p : (Nat × Nat) × Nat => adj_Adj_Reach_l2 tab p.1.1 p.1.2 p.2 a (I s) seen next (I u) (gi O u).2 (I (outL es u).length) (I n) h) Q := by
  have hkl : (outL es u).length ≤ 100000 := Nat.le_trans (idxTo_len ..) ok.len
  have hlo := w.lo
  have hks := w.oo u hu.1 hu.2
  have hke := w.oe u hu.1 hu.2
  intro d
  induction d with
  | zero =>
    intro n sn st next h h1 hm hsu hd e hq gs gn hnn
    refine WP.rnd (fun i' j => adj_Adj_Reach_l2_eq tab i'.1 i'.2 j a (I s) seen next (I u) (gi O u).2 (I (outL es u).length) (I n) h) ?_
    simp -implicitDefEqProofs (disch := first | assumption | omega | (simp -implicitDefEqProofs only [List.length_append, List.length_set, List.length_cons, List.length_nil, List.length_map, List.length_replicate, mkObj_eq] <;> omega) | ((repeat (first | exact Ext.refl _ | assumption | apply Ext.app | apply Ext.mk | (refine Ext.setr ?_ (by (first | omega | (simp -implicitDefEqProofs only [List.length_append, List.length_set, List.length_cons, List.length_nil, List.length_map, List.length_replicate, mkObj_eq] <;> omega))) _))); done) | (simp -implicitDefEqProofs only [List.length_append, List.length_set, List.length_cons, List.length_nil, List.length_map, List.length_replicate, mkObj_eq, List.all_cons, List.all_nil, one_int, one_bool, one_str, one_ptr, one_sl, one_nils, one_nilp, one_ifc, one_map, cells_int, cells_bool, cells_str, cells_ptr, cells_sl, cells_nils, cells_nilp, cells_ifc, cells_map, cells_agg, Bool.and_self, Bool.and_true, Bool.true_and, Nat.zero_mul, Nat.one_mul, Nat.mul_one] <;> omega) | fail) only [oa_some, oh_some, ob_some, cond2_true, cond2_false, chk_true, gd_tt, gd_ft, gd_ff, gd_tf, gd_n, ob_pure1, pick_t, pick_f, pure1_some', sameB_self, Bool.and_true, callVal_fn, List.nil_append, List.append_nil, lss_t, lss_f, leq_t, leq_f, gtr_t, gtr_f, geq_t, geq_f, eql_t, eql_f, neq_t, neq_f, add_i, sub_i, rem_i, quo_w, mul_w, eql_b, neq_b, mm_max, mm_min, fldP_ptr, fldP_fldP, fldA_ptr, nil_ptr, fldA_el, fldA_elf, nil_el, nil_elf, len_sl, len_nil, idx_sl, ld1_ptr, rdAt_row, ldN_ptr, rdNAt_row, stN_ptr, wrAt_row, get_set_ne, get_set_eq, get_app_l, get_app_r, mkObj_eq, newVar_i, un_not, Bool.not_true, Bool.not_false, one_int, one_bool, one_str, one_ptr, one_sl, one_nils, one_nilp, one_ifc, one_map, cells_int, cells_bool, cells_str, cells_ptr, cells_sl, cells_nils, cells_nilp, cells_ifc, cells_map, cells_agg, List.all_cons, List.all_nil, List.getElem?_cons_zero, List.getElem?_cons_succ, List.getD_cons_zero, List.getD_cons_succ, setAll, List.set_cons_zero, List.set_cons_succ, List.drop_zero, List.drop_succ_cons, List.take_succ_cons, List.take_zero, List.length_cons, List.length_nil, List.length_append, List.length_set, Nat.zero_add, Nat.add_zero, Nat.sub_self, Nat.add_sub_cancel_left, Int.toNat_natCast, Nat.mul_one, and_self, if_true, if_false, reduceIte, partL, fldV, buildV_i, fillP_i, fillP_n, Option.map_some, eql_sl_nil, eql_nil_nil, buildSl_i, bsl_i, or_i, and_i, shl_i, shr_i, conv_u64, bit_t, bit_f, ixA_i, Nat.reduceAdd, Nat.reduceMul]
    refine WP.lv (ih sn st next h hm ⟨hd.len, hd.stk, hd.sound, hd.seen, hd.v, fun x x0 x1 x2 => ?_⟩ e hq gs gn hnn) fun i j => rfl
    rcases hd.clo x x0 x1 x2 with h2 | ⟨rfl, h2⟩ | h2
    · exact .inl h2
    · refine .inr (.inr fun k hk hb => ?_)
      obtain ⟨j, hj, rfl⟩ := List.getElem_of_mem hk
      have h3 := h2 (j : Int) (by omega) (by omega)
      rw [gi_nat hj] at h3
      exact h3 hb
    · exact .inr (.inr h2)
  | succ d ihd =>
    intro n sn st next h h1 hm hsu hd e hq gs gn hnn
    refine WP.rnd (fun i' j => adj_Adj_Reach_l2_eq tab i'.1 i'.2 j a (I s) seen next (I u) (gi O u).2 (I (outL es u).length) (I n) h) ?_
    obtain ⟨k, hk⟩ : ∃ k, gi (outL es u) n = k := ⟨_, rfl⟩
    have hkm : k ∈ outL es u := hk ▸ gi_mem (by omega) (by omega)
    obtain ⟨hk0, hk1, hk2⟩ := outL_mem.1 hkm
    have hke2 := ok.edge _ (gi_mem hk0 hk1)
    have hlen := hd.len
    have hnb := ok.n1
    obtain ⟨x, hx⟩ : ∃ x, (gi es k).to = x := ⟨_, rfl⟩
    have hgx : gi ((outL es u).map fun k => (gi es k).to) n = x := by
      simp only [gi, List.getD_eq_getElem?_getD, List.getElem?_map] at hk ⊢
      have := gi_some (xs := outL es u) (i := (n : Int)) (by omega) (by omega)
      rw [this] at hk ⊢
      simp only [Option.getD_some, Option.map_some] at hk ⊢
      rw [hk]; exact hx
    rw [hx] at hke2
    have hCn : ∀ (sn' : List Bool), (∀ y, 0 ≤ y → gi sn y = true → gi sn' y = true) → (s.testBit (gi es k).md.toNat = true → gi sn' x = true) → (∀ j : Int, 0 ≤ j → j < n → s.testBit (gi es (gi (outL es u) j)).md.toNat = true → gi sn (gi es (gi (outL es u) j)).to = true) →
        ∀ j : Int, 0 ≤ j → j < (n + 1 : Nat) → s.testBit (gi es (gi (outL es u) j)).md.toNat = true → gi sn' (gi es (gi (outL es u) j)).to = true := by
      intro sn' hmono hxx hC j j0 j1 hb
      by_cases hj : j = n
      · subst hj
        rw [hk] at hb ⊢
        rw [hx]; exact hxx hb
      · have hjm := outL_mem.1 (gi_mem (xs := outL es u) j0 (by omega))
        have := ok.edge _ (gi_mem hjm.1 hjm.2.1)
        exact hmono _ this.2.2.1 (hC j j0 (by omega) hb)
    cases hb : s.testBit (gi es k).md.toNat with
    | true =>
      have hand : binV .and .scalar (I (s >>> (gi es k).md.toNat : Nat)) (I 1) = _ := and_i (a := s >>> (gi es k).md.toNat) (b := 1) (Nat.lt_of_le_of_lt (Nat.shiftRight_le ..) hs) (by omega)
      have hb1 := bit_t (m := (gi es k).md) (by omega) hb
      cases hsx : gi sn x with
      | true =>
        simp -implicitDefEqProofs (disch := first | assumption | omega | (simp -implicitDefEqProofs only [List.length_append, List.length_set, List.length_cons, List.length_nil, List.length_map, List.length_replicate, mkObj_eq] <;> omega) | ((repeat (first | exact Ext.refl _ | assumption | apply Ext.app | apply Ext.mk | (refine Ext.setr ?_ (by (first | omega | (simp -implicitDefEqProofs only [List.length_append, List.length_set, List.length_cons, List.length_nil, List.length_map, List.length_replicate, mkObj_eq] <;> omega))) _))); done) | (simp -implicitDefEqProofs only [List.length_append, List.length_set, List.length_cons, List.length_nil, List.length_map, List.length_replicate, mkObj_eq, List.all_cons, List.all_nil, one_int, one_bool, one_str, one_ptr, one_sl, one_nils, one_nilp, one_ifc, one_map, cells_int, cells_bool, cells_str, cells_ptr, cells_sl, cells_nils, cells_nilp, cells_ifc, cells_map, cells_agg, Bool.and_self, Bool.and_true, Bool.true_and, Nat.zero_mul, Nat.one_mul, Nat.mul_one, hks.idxG, hks.ld0, hgx, encI, w.pt.nil, w.pt.fldA0, w.pt.fldAf, w.pt.ldfE, w.ed.idxG, w.ed.ldf, w.so.idxG, w.so.ldf, encP, hke.idxG, hke.ld0, hk, encE, hand, hb1, gs.sl.idxG, gs.sl.ld0, encB, hsx] <;> omega) | fail) only [oa_some, oh_some, ob_some, cond2_true, cond2_false, chk_true, gd_tt, gd_ft, gd_ff, gd_tf, gd_n, ob_pure1, pick_t, pick_f, pure1_some', sameB_self, Bool.and_true, callVal_fn, List.nil_append, List.append_nil, lss_t, lss_f, leq_t, leq_f, gtr_t, gtr_f, geq_t, geq_f, eql_t, eql_f, neq_t, neq_f, add_i, sub_i, rem_i, quo_w, mul_w, eql_b, neq_b, mm_max, mm_min, fldP_ptr, fldP_fldP, fldA_ptr, nil_ptr, fldA_el, fldA_elf, nil_el, nil_elf, len_sl, len_nil, idx_sl, ld1_ptr, rdAt_row, ldN_ptr, rdNAt_row, stN_ptr, wrAt_row, get_set_ne, get_set_eq, get_app_l, get_app_r, mkObj_eq, newVar_i, un_not, Bool.not_true, Bool.not_false, one_int, one_bool, one_str, one_ptr, one_sl, one_nils, one_nilp, one_ifc, one_map, cells_int, cells_bool, cells_str, cells_ptr, cells_sl, cells_nils, cells_nilp, cells_ifc, cells_map, cells_agg, List.all_cons, List.all_nil, List.getElem?_cons_zero, List.getElem?_cons_succ, List.getD_cons_zero, List.getD_cons_succ, setAll, List.set_cons_zero, List.set_cons_succ, List.drop_zero, List.drop_succ_cons, List.take_succ_cons, List.take_zero, List.length_cons, List.length_nil, List.length_append, List.length_set, Nat.zero_add, Nat.add_zero, Nat.sub_self, Nat.add_sub_cancel_left, Int.toNat_natCast, Nat.mul_one, and_self, if_true, if_false, reduceIte, partL, fldV, buildV_i, fillP_i, fillP_n, Option.map_some, eql_sl_nil, eql_nil_nil, buildSl_i, bsl_i, or_i, and_i, shl_i, shr_i, conv_u64, bit_t, bit_f, ixA_i, Nat.reduceAdd, Nat.reduceMul, hks.idxG, hks.ld0, hgx, encI, w.pt.nil, w.pt.fldA0, w.pt.fldAf, w.pt.ldfE, w.ed.idxG, w.ed.ldf, w.so.idxG, w.so.ldf, encP, hke.idxG, hke.ld0, hk, encE, hand, hb1, gs.sl.idxG, gs.sl.ld0, encB, hsx]
        refine ihd (n + 1) sn st next h (by omega) hm hsu ⟨hd.len, hd.stk, hd.sound, hd.seen, hd.v, fun y y0 y1 y2 => ?_⟩ e hq gs gn hnn
        rcases hd.clo y y0 y1 y2 with h2 | ⟨rfl, h2⟩ | h2
        · exact .inl h2
        · exact .inr (.inl ⟨rfl, hCn sn (fun _ _ h => h) (fun _ => hsx) h2⟩)
        · exact .inr (.inr h2)
      | false =>
        obtain ⟨h2, k1, k2, k3, k4⟩ := gs.write0 (i := x) (v := .bool true) (by omega) (by simp; omega) rfl rfl
        rw [show (sn.map encB).set x.toNat (AV.bool true).cells = (sn.set x.toNat true).map encB by rw [List.map_set]; rfl] at k2
        obtain ⟨s', h3, j1, j2, j3⟩ := (gn.fr k3 (by omega)).append1 (bytes := 8) (v := [I x]) rfl (by omega) (by omega) (by simp; omega) (by omega) (by omega)
        rw [mkObj_eq] at j1
        simp -implicitDefEqProofs (disch := first | assumption | omega | (simp -implicitDefEqProofs only [List.length_append, List.length_set, List.length_cons, List.length_nil, List.length_map, List.length_replicate, mkObj_eq] <;> omega) | ((repeat (first | exact Ext.refl _ | assumption | apply Ext.app | apply Ext.mk | (refine Ext.setr ?_ (by (first | omega | (simp -implicitDefEqProofs only [List.length_append, List.length_set, List.length_cons, List.length_nil, List.length_map, List.length_replicate, mkObj_eq] <;> omega))) _))); done) | (simp -implicitDefEqProofs only [List.length_append, List.length_set, List.length_cons, List.length_nil, List.length_map, List.length_replicate, mkObj_eq, List.all_cons, List.all_nil, one_int, one_bool, one_str, one_ptr, one_sl, one_nils, one_nilp, one_ifc, one_map, cells_int, cells_bool, cells_str, cells_ptr, cells_sl, cells_nils, cells_nilp, cells_ifc, cells_map, cells_agg, Bool.and_self, Bool.and_true, Bool.true_and, Nat.zero_mul, Nat.one_mul, Nat.mul_one, hks.idxG, hks.ld0, hgx, encI, w.pt.nil, w.pt.fldA0, w.pt.fldAf, w.pt.ldfE, w.ed.idxG, w.ed.ldf, w.so.idxG, w.so.ldf, encP, hke.idxG, hke.ld0, hk, encE, hand, hb1, gs.sl.idxG, gs.sl.ld0, encB, hsx, k1, j1] <;> omega) | fail) only [oa_some, oh_some, ob_some, cond2_true, cond2_false, chk_true, gd_tt, gd_ft, gd_ff, gd_tf, gd_n, ob_pure1, pick_t, pick_f, pure1_some', sameB_self, Bool.and_true, callVal_fn, List.nil_append, List.append_nil, lss_t, lss_f, leq_t, leq_f, gtr_t, gtr_f, geq_t, geq_f, eql_t, eql_f, neq_t, neq_f, add_i, sub_i, rem_i, quo_w, mul_w, eql_b, neq_b, mm_max, mm_min, fldP_ptr, fldP_fldP, fldA_ptr, nil_ptr, fldA_el, fldA_elf, nil_el, nil_elf, len_sl, len_nil, idx_sl, ld1_ptr, rdAt_row, ldN_ptr, rdNAt_row, stN_ptr, wrAt_row, get_set_ne, get_set_eq, get_app_l, get_app_r, mkObj_eq, newVar_i, un_not, Bool.not_true, Bool.not_false, one_int, one_bool, one_str, one_ptr, one_sl, one_nils, one_nilp, one_ifc, one_map, cells_int, cells_bool, cells_str, cells_ptr, cells_sl, cells_nils, cells_nilp, cells_ifc, cells_map, cells_agg, List.all_cons, List.all_nil, List.getElem?_cons_zero, List.getElem?_cons_succ, List.getD_cons_zero, List.getD_cons_succ, setAll, List.set_cons_zero, List.set_cons_succ, List.drop_zero, List.drop_succ_cons, List.take_succ_cons, List.take_zero, List.length_cons, List.length_nil, List.length_append, List.length_set, Nat.zero_add, Nat.add_zero, Nat.sub_self, Nat.add_sub_cancel_left, Int.toNat_natCast, Nat.mul_one, and_self, if_true, if_false, reduceIte, partL, fldV, buildV_i, fillP_i, fillP_n, Option.map_some, eql_sl_nil, eql_nil_nil, buildSl_i, bsl_i, or_i, and_i, shl_i, shr_i, conv_u64, bit_t, bit_f, ixA_i, Nat.reduceAdd, Nat.reduceMul, hks.idxG, hks.ld0, hgx, encI, w.pt.nil, w.pt.fldA0, w.pt.fldAf, w.pt.ldfE, w.ed.idxG, w.ed.ldf, w.so.idxG, w.so.ldf, encP, hke.idxG, hke.ld0, hk, encE, hand, hb1, gs.sl.idxG, gs.sl.ld0, encB, hsx, k1, j1]
        have hset : ∀ y, 0 ≤ y → gi (sn.set x.toNat true) y = if y = x then true else gi sn y := fun y hy => gi_set (by omega) (by omega) hy true
        have hmono : ∀ y, 0 ≤ y → gi sn y = true → gi (sn.set x.toNat true) y = true := fun y hy h => by rw [hset y hy]; split <;> first | rfl | exact h
        have hcnt := count_set_f (xs := sn) (i := x) (by omega) (by omega) hsx
        refine ihd (n + 1) (sn.set x.toNat true) (st ++ [x]) s' h3 (by omega) (by simp only [List.length_append, List.length_cons, List.length_nil]; omega) (hmono _ hu.1 hsu) ⟨by simp; exact hlen, ?_, ?_, ?_, hmono _ hv.1 hd.v, ?_⟩ ?_ ?_ ?_ ?_ ?_
        · intro y hy
          rcases List.mem_append.1 hy with hy | hy
          · exact hd.stk y hy
          · rw [List.mem_singleton.1 hy]; omega
        · intro y y0 y1 y2
          by_cases hyx : y = x
          · subst hyx
            exact hx ▸ Rch.step (hd.sound u hu.1 hu.2 hsu) hk0 hk1 hk2 hb
          · rw [hset y y0, if_neg hyx] at y2
            exact hd.sound y y0 y1 y2
        · intro y hy
          rcases List.mem_append.1 hy with hy | hy
          · exact hmono y (hd.stk y hy).1 (hd.seen y hy)
          · rw [List.mem_singleton.1 hy, hset x (by omega), if_pos rfl]
        · intro y y0 y1 y2
          by_cases hyx : y = x
          · exact .inl (by simp [hyx])
          · rw [hset y y0, if_neg hyx] at y2
            rcases hd.clo y y0 y1 y2 with h2 | ⟨rfl, h2⟩ | h2
            · exact .inl (List.mem_append_left _ h2)
            · exact .inr (.inl ⟨rfl, hCn _ hmono (fun _ => by rw [hset x (by omega), if_pos rfl]) h2⟩)
            · refine .inr (.inr fun k hk hb => ?_)
              have hm2 := outL_mem.1 hk
              have := ok.edge _ (gi_mem hm2.1 hm2.2.1)
              exact hmono _ this.2.2.1 (h2 k hk hb)
        · exact j3.ext (k3.ext e (Nat.le_refl _)) (by omega)
        · have := j3.len; omega
        · exact k2.fr j3 (by omega)
        · exact j2.cong (by simp [encI])
        · exact j2.nnil (by simp)
    | false =>
      have hand : binV .and .scalar (I (s >>> (gi es k).md.toNat : Nat)) (I 1) = _ := and_i (a := s >>> (gi es k).md.toNat) (b := 1) (Nat.lt_of_le_of_lt (Nat.shiftRight_le ..) hs) (by omega)
      have hb1 := bit_f (m := (gi es k).md) (by omega) hb
      simp -implicitDefEqProofs (disch := first | assumption | omega | (simp -implicitDefEqProofs only [List.length_append, List.length_set, List.length_cons, List.length_nil, List.length_map, List.length_replicate, mkObj_eq] <;> omega) | ((repeat (first | exact Ext.refl _ | assumption | apply Ext.app | apply Ext.mk | (refine Ext.setr ?_ (by (first | omega | (simp -implicitDefEqProofs only [List.length_append, List.length_set, List.length_cons, List.length_nil, List.length_map, List.length_replicate, mkObj_eq] <;> omega))) _))); done) | (simp -implicitDefEqProofs only [List.length_append, List.length_set, List.length_cons, List.length_nil, List.length_map, List.length_replicate, mkObj_eq, List.all_cons, List.all_nil, one_int, one_bool, one_str, one_ptr, one_sl, one_nils, one_nilp, one_ifc, one_map, cells_int, cells_bool, cells_str, cells_ptr, cells_sl, cells_nils, cells_nilp, cells_ifc, cells_map, cells_agg, Bool.and_self, Bool.and_true, Bool.true_and, Nat.zero_mul, Nat.one_mul, Nat.mul_one, hks.idxG, hks.ld0, hgx, encI, w.pt.nil, w.pt.fldA0, w.pt.fldAf, w.pt.ldfE, w.ed.idxG, w.ed.ldf, w.so.idxG, w.so.ldf, encP, hke.idxG, hke.ld0, hk, encE, hand, hb1] <;> omega) | fail) only [oa_some, oh_some, ob_some, cond2_true, cond2_false, chk_true, gd_tt, gd_ft, gd_ff, gd_tf, gd_n, ob_pure1, pick_t, pick_f, pure1_some', sameB_self, Bool.and_true, callVal_fn, List.nil_append, List.append_nil, lss_t, lss_f, leq_t, leq_f, gtr_t, gtr_f, geq_t, geq_f, eql_t, eql_f, neq_t, neq_f, add_i, sub_i, rem_i, quo_w, mul_w, eql_b, neq_b, mm_max, mm_min, fldP_ptr, fldP_fldP, fldA_ptr, nil_ptr, fldA_el, fldA_elf, nil_el, nil_elf, len_sl, len_nil, idx_sl, ld1_ptr, rdAt_row, ldN_ptr, rdNAt_row, stN_ptr, wrAt_row, get_set_ne, get_set_eq, get_app_l, get_app_r, mkObj_eq, newVar_i, un_not, Bool.not_true, Bool.not_false, one_int, one_bool, one_str, one_ptr, one_sl, one_nils, one_nilp, one_ifc, one_map, cells_int, cells_bool, cells_str, cells_ptr, cells_sl, cells_nils, cells_nilp, cells_ifc, cells_map, cells_agg, List.all_cons, List.all_nil, List.getElem?_cons_zero, List.getElem?_cons_succ, List.getD_cons_zero, List.getD_cons_succ, setAll, List.set_cons_zero, List.set_cons_succ, List.drop_zero, List.drop_succ_cons, List.take_succ_cons, List.take_zero, List.length_cons, List.length_nil, List.length_append, List.length_set, Nat.zero_add, Nat.add_zero, Nat.sub_self, Nat.add_sub_cancel_left, Int.toNat_natCast, Nat.mul_one, and_self, if_true, if_false, reduceIte, partL, fldV, buildV_i, fillP_i, fillP_n, Option.map_some, eql_sl_nil, eql_nil_nil, buildSl_i, bsl_i, or_i, and_i, shl_i, shr_i, conv_u64, bit_t, bit_f, ixA_i, Nat.reduceAdd, Nat.reduceMul, hks.idxG, hks.ld0, hgx, encI, w.pt.nil, w.pt.fldA0, w.pt.fldAf, w.pt.ldfE, w.ed.idxG, w.ed.ldf, w.so.idxG, w.so.ldf, encP, hke.idxG, hke.ld0, hk, encE, hand, hb1]
      refine ihd (n + 1) sn st next h (by omega) hm hsu ⟨hd.len, hd.stk, hd.sound, hd.seen, hd.v, fun y y0 y1 y2 => ?_⟩ e hq gs gn hnn
      rcases hd.clo y y0 y1 y2 with h2 | ⟨rfl, h2⟩ | h2
      · exact .inl h2
      · exact .inr (.inl ⟨rfl, hCn sn (fun _ _ h => h) (fun q => by rw [hb] at q; cases q) h2⟩)
      · exact .inr (.inr h2)

theorem reach_l1 {h0 : Heap} {a : AV} {N v : Int} {es : List E} {sa so si : AV} {O J : List (AV × AV)} (ok : NetOk N es) (w : AdjW h0 a N es sa so si O J) (hv : 0 ≤ v ∧ v < N) {s : Nat} (hs : s < 2 ^ 62) {seen : AV} :
    ∀ (m : Nat), m ≤ 1000000 → ∀ (sn : List Bool) (st : List Int) (next : AV) (h : Heap), st.length + sn.count false = m → DInv N es s v sn st (fun _ => False) → Ext h0 h → h0.length + 1 ≤ h.length → Gr h0.length (h0.length + 1) h 1 seen (sn.map encB) → Gr (h0.length + 1) h.length h 1 next (st.map encI) → next ≠ .nils →
      WP (fun p : Nat × Nat => adj_Adj_Reach_l1 tab p.1 p.2 a (I s) seen next h) (ReachQ h0 es s (0 ≤ v ∧ v < N) v) := by
  intro m
  induction m with
  | zero =>
    intro hmb sn st next h hm hd e hq gs gn hnn
    have hlen := hd.len
    have hnb := ok.n1
    have : st = [] := List.eq_nil_of_length_eq_zero (by omega)
    subst this
    refine WP.rnd (fun i' j => adj_Adj_Reach_l1_eq tab i' j a (I s) seen next h) ?_
    simp -implicitDefEqProofs (disch := first | assumption | omega | (simp -implicitDefEqProofs only [List.length_append, List.length_set, List.length_cons, List.length_nil, List.length_map, List.length_replicate, mkObj_eq] <;> omega) | ((repeat (first | exact Ext.refl _ | assumption | apply Ext.app | apply Ext.mk | (refine Ext.setr ?_ (by (first | omega | (simp -implicitDefEqProofs only [List.length_append, List.length_set, List.length_cons, List.length_nil, List.length_map, List.length_replicate, mkObj_eq] <;> omega))) _))); done) | (simp -implicitDefEqProofs only [List.length_append, List.length_set, List.length_cons, List.length_nil, List.length_map, List.length_replicate, mkObj_eq, List.all_cons, List.all_nil, one_int, one_bool, one_str, one_ptr, one_sl, one_nils, one_nilp, one_ifc, one_map, cells_int, cells_bool, cells_str, cells_ptr, cells_sl, cells_nils, cells_nilp, cells_ifc, cells_map, cells_agg, Bool.and_self, Bool.and_true, Bool.true_and, Nat.zero_mul, Nat.one_mul, Nat.mul_one, gn.sl.lenG] <;> omega) | fail) only [oa_some, oh_some, ob_some, cond2_true, cond2_false, chk_true, gd_tt, gd_ft, gd_ff, gd_tf, gd_n, ob_pure1, pick_t, pick_f, pure1_some', sameB_self, Bool.and_true, callVal_fn, List.nil_append, List.append_nil, lss_t, lss_f, leq_t, leq_f, gtr_t, gtr_f, geq_t, geq_f, eql_t, eql_f, neq_t, neq_f, add_i, sub_i, rem_i, quo_w, mul_w, eql_b, neq_b, mm_max, mm_min, fldP_ptr, fldP_fldP, fldA_ptr, nil_ptr, fldA_el, fldA_elf, nil_el, nil_elf, len_sl, len_nil, idx_sl, ld1_ptr, rdAt_row, ldN_ptr, rdNAt_row, stN_ptr, wrAt_row, get_set_ne, get_set_eq, get_app_l, get_app_r, mkObj_eq, newVar_i, un_not, Bool.not_true, Bool.not_false, one_int, one_bool, one_str, one_ptr, one_sl, one_nils, one_nilp, one_ifc, one_map, cells_int, cells_bool, cells_str, cells_ptr, cells_sl, cells_nils, cells_nilp, cells_ifc, cells_map, cells_agg, List.all_cons, List.all_nil, List.getElem?_cons_zero, List.getElem?_cons_succ, List.getD_cons_zero, List.getD_cons_succ, setAll, List.set_cons_zero, List.set_cons_succ, List.drop_zero, List.drop_succ_cons, List.take_succ_cons, List.take_zero, List.length_cons, List.length_nil, List.length_append, List.length_set, Nat.zero_add, Nat.add_zero, Nat.sub_self, Nat.add_sub_cancel_left, Int.toNat_natCast, Nat.mul_one, and_self, if_true, if_false, reduceIte, partL, fldV, buildV_i, fillP_i, fillP_n, Option.map_some, eql_sl_nil, eql_nil_nil, buildSl_i, bsl_i, or_i, and_i, shl_i, shr_i, conv_u64, bit_t, bit_f, ixA_i, Nat.reduceAdd, Nat.reduceMul, gn.sl.lenG]
    refine WP.lv (d := fun k => adj_Adj_Reach_b3 tab k seen h) ?_ fun i j => rfl
    refine WP.congr (fun k => adj_Adj_Reach_b3_eq tab k seen h) ?_
    simp -implicitDefEqProofs (disch := first | assumption | omega | (simp -implicitDefEqProofs only [List.length_append, List.length_set, List.length_cons, List.length_nil, List.length_map, List.length_replicate, mkObj_eq] <;> omega) | ((repeat (first | exact Ext.refl _ | assumption | apply Ext.app | apply Ext.mk | (refine Ext.setr ?_ (by (first | omega | (simp -implicitDefEqProofs only [List.length_append, List.length_set, List.length_cons, List.length_nil, List.length_map, List.length_replicate, mkObj_eq] <;> omega))) _))); done) | (simp -implicitDefEqProofs only [List.length_append, List.length_set, List.length_cons, List.length_nil, List.length_map, List.length_replicate, mkObj_eq, List.all_cons, List.all_nil, one_int, one_bool, one_str, one_ptr, one_sl, one_nils, one_nilp, one_ifc, one_map, cells_int, cells_bool, cells_str, cells_ptr, cells_sl, cells_nils, cells_nilp, cells_ifc, cells_map, cells_agg, Bool.and_self, Bool.and_true, Bool.true_and, Nat.zero_mul, Nat.one_mul, Nat.mul_one, gs.sl.lenG] <;> omega) | fail) only [oa_some, oh_some, ob_some, cond2_true, cond2_false, chk_true, gd_tt, gd_ft, gd_ff, gd_tf, gd_n, ob_pure1, pick_t, pick_f, pure1_some', sameB_self, Bool.and_true, callVal_fn, List.nil_append, List.append_nil, lss_t, lss_f, leq_t, leq_f, gtr_t, gtr_f, geq_t, geq_f, eql_t, eql_f, neq_t, neq_f, add_i, sub_i, rem_i, quo_w, mul_w, eql_b, neq_b, mm_max, mm_min, fldP_ptr, fldP_fldP, fldA_ptr, nil_ptr, fldA_el, fldA_elf, nil_el, nil_elf, len_sl, len_nil, idx_sl, ld1_ptr, rdAt_row, ldN_ptr, rdNAt_row, stN_ptr, wrAt_row, get_set_ne, get_set_eq, get_app_l, get_app_r, mkObj_eq, newVar_i, un_not, Bool.not_true, Bool.not_false, one_int, one_bool, one_str, one_ptr, one_sl, one_nils, one_nilp, one_ifc, one_map, cells_int, cells_bool, cells_str, cells_ptr, cells_sl, cells_nils, cells_nilp, cells_ifc, cells_map, cells_agg, List.all_cons, List.all_nil, List.getElem?_cons_zero, List.getElem?_cons_succ, List.getD_cons_zero, List.getD_cons_succ, setAll, List.set_cons_zero, List.set_cons_succ, List.drop_zero, List.drop_succ_cons, List.take_succ_cons, List.take_zero, List.length_cons, List.length_nil, List.length_append, List.length_set, Nat.zero_add, Nat.add_zero, Nat.sub_self, Nat.add_sub_cancel_left, Int.toNat_natCast, Nat.mul_one, and_self, if_true, if_false, reduceIte, partL, fldV, buildV_i, fillP_i, fillP_n, Option.map_some, eql_sl_nil, eql_nil_nil, buildSl_i, bsl_i, or_i, and_i, shl_i, shr_i, conv_u64, bit_t, bit_f, ixA_i, Nat.reduceAdd, Nat.reduceMul, gs.sl.lenG]
    exact WP.ent (reach_l4 (q := h0.length + 1) (by omega) (by omega) (fun r h' e' g' => ⟨e', _, g'.mono (by omega) (Nat.le_refl _), selTo_sorted _ _, hd.done ok hv⟩) sn.length 0 .nils h (by omega) e hq gs (Gr.nil ..)) fun i => rfl
  | succ m ih =>
    intro hmb sn st next h hm hd e hq gs gn hnn
    have hlen := hd.len
    have hnb := ok.n1
    refine WP.rnd (fun i' j => adj_Adj_Reach_l1_eq tab i' j a (I s) seen next h) ?_
    by_cases hst : st = []
    · subst hst
      simp -implicitDefEqProofs (disch := first | assumption | omega | (simp -implicitDefEqProofs only [List.length_append, List.length_set, List.length_cons, List.length_nil, List.length_map, List.length_replicate, mkObj_eq] <;> omega) | ((repeat (first | exact Ext.refl _ | assumption | apply Ext.app | apply Ext.mk | (refine Ext.setr ?_ (by (first | omega | (simp -implicitDefEqProofs only [List.length_append, List.length_set, List.length_cons, List.length_nil, List.length_map, List.length_replicate, mkObj_eq] <;> omega))) _))); done) | (simp -implicitDefEqProofs only [List.length_append, List.length_set, List.length_cons, List.length_nil, List.length_map, List.length_replicate, mkObj_eq, List.all_cons, List.all_nil, one_int, one_bool, one_str, one_ptr, one_sl, one_nils, one_nilp, one_ifc, one_map, cells_int, cells_bool, cells_str, cells_ptr, cells_sl, cells_nils, cells_nilp, cells_ifc, cells_map, cells_agg, Bool.and_self, Bool.and_true, Bool.true_and, Nat.zero_mul, Nat.one_mul, Nat.mul_one, gn.sl.lenG] <;> omega) | fail) only [oa_some, oh_some, ob_some, cond2_true, cond2_false, chk_true, gd_tt, gd_ft, gd_ff, gd_tf, gd_n, ob_pure1, pick_t, pick_f, pure1_some', sameB_self, Bool.and_true, callVal_fn, List.nil_append, List.append_nil, lss_t, lss_f, leq_t, leq_f, gtr_t, gtr_f, geq_t, geq_f, eql_t, eql_f, neq_t, neq_f, add_i, sub_i, rem_i, quo_w, mul_w, eql_b, neq_b, mm_max, mm_min, fldP_ptr, fldP_fldP, fldA_ptr, nil_ptr, fldA_el, fldA_elf, nil_el, nil_elf, len_sl, len_nil, idx_sl, ld1_ptr, rdAt_row, ldN_ptr, rdNAt_row, stN_ptr, wrAt_row, get_set_ne, get_set_eq, get_app_l, get_app_r, mkObj_eq, newVar_i, un_not, Bool.not_true, Bool.not_false, one_int, one_bool, one_str, one_ptr, one_sl, one_nils, one_nilp, one_ifc, one_map, cells_int, cells_bool, cells_str, cells_ptr, cells_sl, cells_nils, cells_nilp, cells_ifc, cells_map, cells_agg, List.all_cons, List.all_nil, List.getElem?_cons_zero, List.getElem?_cons_succ, List.getD_cons_zero, List.getD_cons_succ, setAll, List.set_cons_zero, List.set_cons_succ, List.drop_zero, List.drop_succ_cons, List.take_succ_cons, List.take_zero, List.length_cons, List.length_nil, List.length_append, List.length_set, Nat.zero_add, Nat.add_zero, Nat.sub_self, Nat.add_sub_cancel_left, Int.toNat_natCast, Nat.mul_one, and_self, if_true, if_false, reduceIte, partL, fldV, buildV_i, fillP_i, fillP_n, Option.map_some, eql_sl_nil, eql_nil_nil, buildSl_i, bsl_i, or_i, and_i, shl_i, shr_i, conv_u64, bit_t, bit_f, ixA_i, Nat.reduceAdd, Nat.reduceMul, gn.sl.lenG]
      refine WP.lv (d := fun k => adj_Adj_Reach_b3 tab k seen h) ?_ fun i j => rfl
      refine WP.congr (fun k => adj_Adj_Reach_b3_eq tab k seen h) ?_
      simp -implicitDefEqProofs (disch := first | assumption | omega | (simp -implicitDefEqProofs only [List.length_append, List.length_set, List.length_cons, List.length_nil, List.length_map, List.length_replicate, mkObj_eq] <;> omega) | ((repeat (first | exact Ext.refl _ | assumption | apply Ext.app | apply Ext.mk | (refine Ext.setr ?_ (by (first | omega | (simp -implicitDefEqProofs only [List.length_append, List.length_set, List.length_cons, List.length_nil, List.length_map, List.length_replicate, mkObj_eq] <;> omega))) _))); done) | (simp -implicitDefEqProofs only [List.length_append, List.length_set, List.length_cons, List.length_nil, List.length_map, List.length_replicate, mkObj_eq, List.all_cons, List.all_nil, one_int, one_bool, one_str, one_ptr, one_sl, one_nils, one_nilp, one_ifc, one_map, cells_int, cells_bool, cells_str, cells_ptr, cells_sl, cells_nils, cells_nilp, cells_ifc, cells_map, cells_agg, Bool.and_self, Bool.and_true, Bool.true_and, Nat.zero_mul, Nat.one_mul, Nat.mul_one, gs.sl.lenG] <;> omega) | fail) only [oa_some, oh_some, ob_some, cond2_true, cond2_false, chk_true, gd_tt, gd_ft, gd_ff, gd_tf, gd_n, ob_pure1, pick_t, pick_f, pure1_some', sameB_self, Bool.and_true, callVal_fn, List.nil_append, List.append_nil, lss_t, lss_f, leq_t, leq_f, gtr_t, gtr_f, geq_t, geq_f, eql_t, eql_f, neq_t, neq_f, add_i, sub_i, rem_i, quo_w, mul_w, eql_b, neq_b, mm_max, mm_min, fldP_ptr, fldP_fldP, fldA_ptr, nil_ptr, fldA_el, fldA_elf, nil_el, nil_elf, len_sl, len_nil, idx_sl, ld1_ptr, rdAt_row, ldN_ptr, rdNAt_row, stN_ptr, wrAt_row, get_set_ne, get_set_eq, get_app_l, get_app_r, mkObj_eq, newVar_i, un_not, Bool.not_true, Bool.not_false, one_int, one_bool, one_str, one_ptr, one_sl, one_nils, one_nilp, one_ifc, one_map, cells_int, cells_bool, cells_str, cells_ptr, cells_sl, cells_nils, cells_nilp, cells_ifc, cells_map, cells_agg, List.all_cons, List.all_nil, List.getElem?_cons_zero, List.getElem?_cons_succ, List.getD_cons_zero, List.getD_cons_succ, setAll, List.set_cons_zero, List.set_cons_succ, List.drop_zero, List.drop_succ_cons, List.take_succ_cons, List.take_zero, List.length_cons, List.length_nil, List.length_append, List.length_set, Nat.zero_add, Nat.add_zero, Nat.sub_self, Nat.add_sub_cancel_left, Int.toNat_natCast, Nat.mul_one, and_self, if_true, if_false, reduceIte, partL, fldV, buildV_i, fillP_i, fillP_n, Option.map_some, eql_sl_nil, eql_nil_nil, buildSl_i, bsl_i, or_i, and_i, shl_i, shr_i, conv_u64, bit_t, bit_f, ixA_i, Nat.reduceAdd, Nat.reduceMul, gs.sl.lenG]
      exact WP.ent (reach_l4 (q := h0.length + 1) (by omega) (by omega) (fun r h' e' g' => ⟨e', _, g'.mono (by omega) (Nat.le_refl _), selTo_sorted _ _, hd.done ok hv⟩) sn.length 0 .nils h (by omega) e hq gs (Gr.nil ..)) fun i => rfl
    · have hpos : 0 < st.length := List.length_pos_iff.2 hst
      have hcl : sn.count false ≤ sn.length := List.count_le_length
      obtain ⟨u, hu⟩ : ∃ u, gi st ((st.length : Int) - 1) = u := ⟨_, rfl⟩
      have hum : u ∈ st := hu ▸ gi_mem (by omega) (by omega)
      have hur := hd.stk u hum
      have hus := hd.seen u hum
      obtain ⟨next', t1, t2, t3⟩ := gn.take (n := (st.length : Int) - 1) (by omega) (by simp; omega) hnn
      rw [← List.map_take] at t2
      have hlo := w.lo
      have hks := w.oo u hur.1 hur.2
      have htl : st.take ((st.length : Int) - 1).toNat ++ [u] = st := by
        rw [show ((st.length : Int) - 1).toNat = st.length - 1 by omega, ← List.dropLast_eq_take]
        have hg : st.getLast hst = u := by
          rw [← hu, List.getLast_eq_getElem, ← gi_nat (by omega)]
          congr 1; omega
        rw [← hg]
        exact List.dropLast_concat_getLast hst
      have hml : (st.take ((st.length : Int) - 1).toNat).length + 1 = st.length := by
        rw [List.length_take]; omega
      simp -implicitDefEqProofs (disch := first | assumption | omega | (simp -implicitDefEqProofs only [List.length_append, List.length_set, List.length_cons, List.length_nil, List.length_map, List.length_replicate, mkObj_eq] <;> omega) | ((repeat (first | exact Ext.refl _ | assumption | apply Ext.app | apply Ext.mk | (refine Ext.setr ?_ (by (first | omega | (simp -implicitDefEqProofs only [List.length_append, List.length_set, List.length_cons, List.length_nil, List.length_map, List.length_replicate, mkObj_eq] <;> omega))) _))); done) | (simp -implicitDefEqProofs only [List.length_append, List.length_set, List.length_cons, List.length_nil, List.length_map, List.length_replicate, mkObj_eq, List.all_cons, List.all_nil, one_int, one_bool, one_str, one_ptr, one_sl, one_nils, one_nilp, one_ifc, one_map, cells_int, cells_bool, cells_str, cells_ptr, cells_sl, cells_nils, cells_nilp, cells_ifc, cells_map, cells_agg, Bool.and_self, Bool.and_true, Bool.true_and, Nat.zero_mul, Nat.one_mul, Nat.mul_one, gn.sl.lenG, gn.sl.idxG, gn.sl.ld0, hu, encI, t1, w.pt.nil, w.pt.fldA0, w.pt.fldAf, w.pt.ldfE, w.so.idxG, w.so.ldf, encP, hks.lenG, List.length_map] <;> omega) | fail) only [oa_some, oh_some, ob_some, cond2_true, cond2_false, chk_true, gd_tt, gd_ft, gd_ff, gd_tf, gd_n, ob_pure1, pick_t, pick_f, pure1_some', sameB_self, Bool.and_true, callVal_fn, List.nil_append, List.append_nil, lss_t, lss_f, leq_t, leq_f, gtr_t, gtr_f, geq_t, geq_f, eql_t, eql_f, neq_t, neq_f, add_i, sub_i, rem_i, quo_w, mul_w, eql_b, neq_b, mm_max, mm_min, fldP_ptr, fldP_fldP, fldA_ptr, nil_ptr, fldA_el, fldA_elf, nil_el, nil_elf, len_sl, len_nil, idx_sl, ld1_ptr, rdAt_row, ldN_ptr, rdNAt_row, stN_ptr, wrAt_row, get_set_ne, get_set_eq, get_app_l, get_app_r, mkObj_eq, newVar_i, un_not, Bool.not_true, Bool.not_false, one_int, one_bool, one_str, one_ptr, one_sl, one_nils, one_nilp, one_ifc, one_map, cells_int, cells_bool, cells_str, cells_ptr, cells_sl, cells_nils, cells_nilp, cells_ifc, cells_map, cells_agg, List.all_cons, List.all_nil, List.getElem?_cons_zero, List.getElem?_cons_succ, List.getD_cons_zero, List.getD_cons_succ, setAll, List.set_cons_zero, List.set_cons_succ, List.drop_zero, List.drop_succ_cons, List.take_succ_cons, List.take_zero, List.length_cons, List.length_nil, List.length_append, List.length_set, Nat.zero_add, Nat.add_zero, Nat.sub_self, Nat.add_sub_cancel_left, Int.toNat_natCast, Nat.mul_one, and_self, if_true, if_false, reduceIte, partL, fldV, buildV_i, fillP_i, fillP_n, Option.map_some, eql_sl_nil, eql_nil_nil, buildSl_i, bsl_i, or_i, and_i, shl_i, shr_i, conv_u64, bit_t, bit_f, ixA_i, Nat.reduceAdd, Nat.reduceMul, gn.sl.lenG, gn.sl.idxG, gn.sl.ld0, hu, encI, t1, w.pt.nil, w.pt.fldA0, w.pt.fldAf, w.pt.ldfE, w.so.idxG, w.so.ldf, encP, hks.lenG, List.length_map]
      refine WP.ent (reach_l2 ok w hv hs hur (m := m) (by omega) (fun sn st next h => ih (by omega) sn st next h) (outL es u).length 0 sn _ next' h (by omega) (by omega) hus ⟨hd.len, ?_, hd.sound, ?_, hd.v, ?_⟩ e hq gs t2 t3) fun i => rfl
      · intro y hy; exact hd.stk y (List.mem_of_mem_take hy)
      · intro y hy; exact hd.seen y (List.mem_of_mem_take hy)
      · intro y y0 y1 y2
        rcases hd.clo y y0 y1 y2 with h2 | h2 | h2
        · rw [← htl] at h2
          rcases List.mem_append.1 h2 with h2 | h2
          · exact .inl h2
          · exact .inr (.inl ⟨List.mem_singleton.1 h2, by intro j j0 j1; omega⟩)
        · exact h2.elim
        · exact .inr (.inr h2)
theorem reach_spec {h : Heap} {a : AV} {N v : Int} {es : List E} (ok : NetOk N es) (w : AdjV h a N es) {s : Nat} (hs : s < 2 ^ 62) :
    Tot tab f_adj_Adj_Reach [a, I v, I s] h (ReachQ h es s (0 ≤ v ∧ v < N) v) := by
  obtain ⟨sa, so, si, O, J, w⟩ := w
  have hlo := w.lo
  have hnb := ok.n1
  refine WP.tot (fun k => (call_adj_Adj_Reach k _ _ _ h).trans (adj_Adj_Reach_eq tab k _ _ _ h)) ?_
  refine WP.call (is_spec w.pt w.so) ?_
  rintro _ h1 ⟨rfl, e⟩
  obtain rfl := e
  by_cases hv : 0 ≤ v ∧ v < N
  · obtain ⟨seen, h1, k1, k2, k3, k4, k5⟩ := mkSl_gr (zero := [AV.bool false]) (sz := 1) (bytes := 1) (n := (O.length : Int)) h (by omega) (by omega) (by omega) rfl rfl
    obtain ⟨h2, m1, m2, m3, m4⟩ := k2.write0 (i := v) (v := .bool true) (by omega) (by simp; omega) rfl rfl
    have hse : (List.replicate (O.length : Int).toNat [AV.bool false]).set v.toNat (AV.bool true).cells = ((List.replicate O.length false).set v.toNat true).map encB := by
      rw [List.map_set, List.map_replicate]; rfl
    rw [hse] at m2
    have hre : List.replicate (O.length : Int).toNat [AV.bool false] = (List.replicate O.length false).map encB := by
      rw [List.map_replicate]; rfl
    rw [hre] at k2
    simp -implicitDefEqProofs (disch := first | assumption | omega | (simp -implicitDefEqProofs only [List.length_append, List.length_set, List.length_cons, List.length_nil, List.length_map, List.length_replicate, mkObj_eq] <;> omega) | ((repeat (first | exact Ext.refl _ | assumption | apply Ext.app | apply Ext.mk | (refine Ext.setr ?_ (by (first | omega | (simp -implicitDefEqProofs only [List.length_append, List.length_set, List.length_cons, List.length_nil, List.length_map, List.length_replicate, mkObj_eq] <;> omega))) _))); done) | (simp -implicitDefEqProofs only [List.length_append, List.length_set, List.length_cons, List.length_nil, List.length_map, List.length_replicate, mkObj_eq, List.all_cons, List.all_nil, one_int, one_bool, one_str, one_ptr, one_sl, one_nils, one_nilp, one_ifc, one_map, cells_int, cells_bool, cells_str, cells_ptr, cells_sl, cells_nils, cells_nilp, cells_ifc, cells_map, cells_agg, Bool.and_self, Bool.and_true, Bool.true_and, Nat.zero_mul, Nat.one_mul, Nat.mul_one, show decide (0 ≤ v ∧ v < (O.length : Int)) = true from decide_eq_true (by omega), w.pt.nil, w.pt.fldA0, w.pt.ldfE, w.so.lenG, k1, k2.sl.idxG, List.length_replicate, m1] <;> omega) | fail) only [oa_some, oh_some, ob_some, cond2_true, cond2_false, chk_true, gd_tt, gd_ft, gd_ff, gd_tf, gd_n, ob_pure1, pick_t, pick_f, pure1_some', sameB_self, Bool.and_true, callVal_fn, List.nil_append, List.append_nil, lss_t, lss_f, leq_t, leq_f, gtr_t, gtr_f, geq_t, geq_f, eql_t, eql_f, neq_t, neq_f, add_i, sub_i, rem_i, quo_w, mul_w, eql_b, neq_b, mm_max, mm_min, fldP_ptr, fldP_fldP, fldA_ptr, nil_ptr, fldA_el, fldA_elf, nil_el, nil_elf, len_sl, len_nil, idx_sl, ld1_ptr, rdAt_row, ldN_ptr, rdNAt_row, stN_ptr, wrAt_row, get_set_ne, get_set_eq, get_app_l, get_app_r, mkObj_eq, newVar_i, un_not, Bool.not_true, Bool.not_false, one_int, one_bool, one_str, one_ptr, one_sl, one_nils, one_nilp, one_ifc, one_map, cells_int, cells_bool, cells_str, cells_ptr, cells_sl, cells_nils, cells_nilp, cells_ifc, cells_map, cells_agg, List.all_cons, List.all_nil, List.getElem?_cons_zero, List.getElem?_cons_succ, List.getD_cons_zero, List.getD_cons_succ, setAll, List.set_cons_zero, List.set_cons_succ, List.drop_zero, List.drop_succ_cons, List.take_succ_cons, List.take_zero, List.length_cons, List.length_nil, List.length_append, List.length_set, Nat.zero_add, Nat.add_zero, Nat.sub_self, Nat.add_sub_cancel_left, Int.toNat_natCast, Nat.mul_one, and_self, if_true, if_false, reduceIte, partL, fldV, buildV_i, fillP_i, fillP_n, Option.map_some, eql_sl_nil, eql_nil_nil, buildSl_i, bsl_i, or_i, and_i, shl_i, shr_i, conv_u64, bit_t, bit_f, ixA_i, Nat.reduceAdd, Nat.reduceMul, show decide (0 ≤ v ∧ v < (O.length : Int)) = true from decide_eq_true (by omega), w.pt.nil, w.pt.fldA0, w.pt.ldfE, w.so.lenG, k1, k2.sl.idxG, List.length_replicate, m1]
    have e2 : Ext h (h2 ++ [.cells ⟨[I v], 0, 0, false⟩]) := (m3.ext k3 (Nat.le_refl _)).app _
    have gl := Gr.lit (h := h2) (sz := 1) (v := [I v]) rfl
    have hg : ∀ u : Int, 0 ≤ u → gi ((List.replicate O.length false).set v.toNat true) u = if u = v then true else gi (List.replicate O.length false) u := fun u hu => gi_set hv.1 (by simp; omega) hu true
    have hf : ∀ u : Int, gi (List.replicate O.length false) u = false := fun u => by
      simp only [gi, List.getD_eq_getElem?_getD, List.getElem?_replicate]
      split <;> rfl
    have hcl : ((List.replicate O.length false).set v.toNat true).count false ≤ O.length := by
      have := List.count_le_length (a := false) (l := (List.replicate O.length false).set v.toNat true)
      simpa using this
    refine WP.ent (reach_l1 ok w hv hs _ ?_ ((List.replicate O.length false).set v.toNat true) [v] (.sl h2.length 0 1 1 none 0) _ rfl ⟨by simp; omega, ?_, ?_, ?_, ?_, ?_⟩ e2 (by simp; omega) ?_ ?_ (by simp)) fun i => rfl
    · simp only [List.length_cons, List.length_nil]; omega
    · intro u hu; rw [List.mem_singleton.1 hu]; exact hv
    · intro u u0 u1 u2
      rw [hg u u0, hf] at u2
      by_cases huv : u = v
      · rw [huv]; exact .refl
      · simp [huv] at u2
    · intro u hu; rw [List.mem_singleton.1 hu, hg v hv.1, if_pos rfl]
    · rw [hg v hv.1, if_pos rfl]
    · intro u u0 u1 u2
      rw [hg u u0, hf] at u2
      by_cases huv : u = v
      · exact .inl (by simp [huv])
      · simp [huv] at u2
    · exact (m2.app _)
    · exact gl.mono (by omega) (by simp [mkObj])
  · simp -implicitDefEqProofs (disch := first | assumption | omega | (simp -implicitDefEqProofs only [List.length_append, List.length_set, List.length_cons, List.length_nil, List.length_map, List.length_replicate, mkObj_eq] <;> omega) | ((repeat (first | exact Ext.refl _ | assumption | apply Ext.app | apply Ext.mk | (refine Ext.setr ?_ (by (first | omega | (simp -implicitDefEqProofs only [List.length_append, List.length_set, List.length_cons, List.length_nil, List.length_map, List.length_replicate, mkObj_eq] <;> omega))) _))); done) | (simp -implicitDefEqProofs only [List.length_append, List.length_set, List.length_cons, List.length_nil, List.length_map, List.length_replicate, mkObj_eq, List.all_cons, List.all_nil, one_int, one_bool, one_str, one_ptr, one_sl, one_nils, one_nilp, one_ifc, one_map, cells_int, cells_bool, cells_str, cells_ptr, cells_sl, cells_nils, cells_nilp, cells_ifc, cells_map, cells_agg, Bool.and_self, Bool.and_true, Bool.true_and, Nat.zero_mul, Nat.one_mul, Nat.mul_one, show decide (0 ≤ v ∧ v < (O.length : Int)) = false from decide_eq_false (by omega)] <;> omega) | fail) only [oa_some, oh_some, ob_some, cond2_true, cond2_false, chk_true, gd_tt, gd_ft, gd_ff, gd_tf, gd_n, ob_pure1, pick_t, pick_f, pure1_some', sameB_self, Bool.and_true, callVal_fn, List.nil_append, List.append_nil, lss_t, lss_f, leq_t, leq_f, gtr_t, gtr_f, geq_t, geq_f, eql_t, eql_f, neq_t, neq_f, add_i, sub_i, rem_i, quo_w, mul_w, eql_b, neq_b, mm_max, mm_min, fldP_ptr, fldP_fldP, fldA_ptr, nil_ptr, fldA_el, fldA_elf, nil_el, nil_elf, len_sl, len_nil, idx_sl, ld1_ptr, rdAt_row, ldN_ptr, rdNAt_row, stN_ptr, wrAt_row, get_set_ne, get_set_eq, get_app_l, get_app_r, mkObj_eq, newVar_i, un_not, Bool.not_true, Bool.not_false, one_int, one_bool, one_str, one_ptr, one_sl, one_nils, one_nilp, one_ifc, one_map, cells_int, cells_bool, cells_str, cells_ptr, cells_sl, cells_nils, cells_nilp, cells_ifc, cells_map, cells_agg, List.all_cons, List.all_nil, List.getElem?_cons_zero, List.getElem?_cons_succ, List.getD_cons_zero, List.getD_cons_succ, setAll, List.set_cons_zero, List.set_cons_succ, List.drop_zero, List.drop_succ_cons, List.take_succ_cons, List.take_zero, List.length_cons, List.length_nil, List.length_append, List.length_set, Nat.zero_add, Nat.add_zero, Nat.sub_self, Nat.add_sub_cancel_left, Int.toNat_natCast, Nat.mul_one, and_self, if_true, if_false, reduceIte, partL, fldV, buildV_i, fillP_i, fillP_n, Option.map_some, eql_sl_nil, eql_nil_nil, buildSl_i, bsl_i, or_i, and_i, shl_i, shr_i, conv_u64, bit_t, bit_f, ixA_i, Nat.reduceAdd, Nat.reduceMul, show decide (0 ≤ v ∧ v < (O.length : Int)) = false from decide_eq_false (by omega)]
    exact WP.ret ⟨Ext.refl _, [], Gr.nil .., List.Pairwise.nil, fun u => by simp; intro q; omega⟩
end Go.Gm.A2
