/- A part of the proof: GmA5D: an abstract machine, what it does, and what the functions of the program come to on it. -/
import Derived.Test.YtdpmglimjmecgaaGmA5C
set_option linter.unusedVariables false
set_option linter.unusedSimpArgs false
namespace Go.Gm.A5
open Go Go.Gm

theorem within4_spec {a n : Int} (hn : 0 < n) (hf : Fit n) (h : Heap) : Tot tab f_milestonelaw4_within [I a, I n] h fun v h' => v = I (a % n) ∧ h = h' := by
  refine WP.tot (fun k => (call_milestonelaw4_within k _ _ h).trans (milestonelaw4_within_eq tab k _ _ h)) ?_
  refine WP.oa (bin_rem a n (by omega)) ?_
  refine WP.oa (bin_lss _ _) ?_
  have hlt := Int.tmod_lt_of_pos a hn
  have hgt := Int.lt_tmod_of_pos a hn
  have h1 := Int.tmod_eq_emod (a := a) (b := n)
  have h2 := Int.emod_nonneg a (by omega : n ≠ 0)
  have h3 := Int.emod_lt_of_pos a hn
  by_cases h0 : a.tmod n < 0
  · simp only [decide_eq_true h0, cond2_true]
    refine WP.oa (bin_add _ _ (by unfold Fit at *; omega)) (WP.ret ⟨?_, rfl⟩)
    congr 1
    split at h1 <;> omega
  · simp only [decide_eq_false h0, cond2_false]
    refine WP.ret ⟨?_, rfl⟩
    congr 1
    split at h1 <;> omega
theorem within5_spec {a n : Int} (hn : 0 < n) (hf : Fit n) (h : Heap) : Tot tab f_milestonelaw5_within [I a, I n] h fun v h' => v = I (a % n) ∧ h = h' := by
  refine WP.tot (fun k => (call_milestonelaw5_within k _ _ h).trans (milestonelaw5_within_eq tab k _ _ h)) ?_
  refine WP.oa (bin_rem a n (by omega)) ?_
  refine WP.oa (bin_lss _ _) ?_
  have hlt := Int.tmod_lt_of_pos a hn
  have hgt := Int.lt_tmod_of_pos a hn
  have h1 := Int.tmod_eq_emod (a := a) (b := n)
  have h2 := Int.emod_nonneg a (by omega : n ≠ 0)
  have h3 := Int.emod_lt_of_pos a hn
  by_cases h0 : a.tmod n < 0
  · simp only [decide_eq_true h0, cond2_true]
    refine WP.oa (bin_add _ _ (by unfold Fit at *; omega)) (WP.ret ⟨?_, rfl⟩)
    congr 1
    split at h1 <;> omega
  · simp only [decide_eq_false h0, cond2_false]
    refine WP.ret ⟨?_, rfl⟩
    congr 1
    split at h1 <;> omega
/-- A word of numbers. -/
def wordL (ns : List Int) (m : Nat) (few : Int) : List Int := (ns.take m).map fun a => a % (1 + few % 5)
theorem wordL_len (ns : List Int) (m : Nat) (few : Int) : (wordL ns m few).length ≤ m := by simp [wordL]; omega
theorem wordL_mem {ns : List Int} {m : Nat} {few c : Int} (h : c ∈ wordL ns m few) : 0 ≤ c ∧ c < 5 := by
  simp only [wordL, List.mem_map] at h
  obtain ⟨a, _, rfl⟩ := h
  have h1 := Int.emod_nonneg a (show (1 + few % 5) ≠ 0 by omega)
  have h2 := Int.emod_lt_of_pos a (show 0 < (1 + few % 5) by omega)
  omega
theorem word_l1 {ns : List Int} {sn : AV} {m : Nat} {few : Int} {h : Heap} (hn : Sl h 1 sn (ns.map encI)) (hm : m ≤ 1000) :
    ∀ (d i : Nat) (s : AV) (H : Heap), i + d = min m ns.length → Ext h H → Gr h.length H.length H 1 s ((wordL ns i few).map encI) →
      WP (fun p : Nat × Nat => milestonelaw5_Word_l1 tab p.1 p.2 sn (I m) (I few) s (I i) H) fun r h' => Ext h h' ∧ Gr h.length h'.length h' 1 r ((wordL ns m few).map encI) := by
  intro d
  induction d with
  | zero =>
    intro i s H h1 ex gr
    refine WP.rnd (fun i' j => milestonelaw5_Word_l1_eq tab i' j sn (I m) (I few) s (I i) H) ?_
    have hn' := hn.ext ex
    have fin : WP (fun _ : Nat × Nat => some (s, H)) fun r h' => Ext h h' ∧ Gr h.length h'.length h' 1 r ((wordL ns m few).map encI) := by
      refine WP.ret ⟨ex, gr.cong ?_⟩
      have : ns.take i = ns.take m := by
        rcases Nat.le_total m ns.length with q | q
        · rw [show i = m by omega]
        · rw [List.take_of_length_le (by omega), List.take_of_length_le (by omega)]
      simp only [wordL, this]
    by_cases hi : i < ns.length
    · obtain rfl : i = m := by omega
      simp -implicitDefEqProofs (disch := first | assumption | omega | (simp -implicitDefEqProofs only [gL] <;> omega) | ((repeat (first | exact Ext.refl _ | assumption | apply Ext.app | apply Ext.mk | (refine Ext.setr ?_ (by (first | omega | (simp -implicitDefEqProofs only [gL] <;> omega))) _))); done) | (simp -implicitDefEqProofs only [gL, gA, hn'.lenG] <;> omega) | fail) only [gB, setAll, partL, fldV, reduceIte, Nat.reduceAdd, Nat.reduceMul, hn'.lenG]
      exact fin
    · simp -implicitDefEqProofs (disch := first | assumption | omega | (simp -implicitDefEqProofs only [gL] <;> omega) | ((repeat (first | exact Ext.refl _ | assumption | apply Ext.app | apply Ext.mk | (refine Ext.setr ?_ (by (first | omega | (simp -implicitDefEqProofs only [gL] <;> omega))) _))); done) | (simp -implicitDefEqProofs only [gL, gA, hn'.lenG] <;> omega) | fail) only [gB, setAll, partL, fldV, reduceIte, Nat.reduceAdd, Nat.reduceMul, hn'.lenG]
      exact fin
  | succ d ih =>
    intro i s H h1 ex gr
    refine WP.rnd (fun i' j => milestonelaw5_Word_l1_eq tab i' j sn (I m) (I few) s (I i) H) ?_
    have hn' := hn.ext ex
    have e0 := Ext.refl H
    have hil : i < ns.length := by omega
    have him : i < m := by omega
    obtain ⟨a, ha⟩ : ∃ a, gi ns i = a := ⟨_, rfl⟩
    have ha2 : ns[i]? = some a := by
      have := gi_some (xs := ns) (i := (i : Int)) (by omega) (by omega)
      rw [ha] at this; exact this
    have hle := ex.len
    simp -implicitDefEqProofs (disch := first | assumption | omega | (simp -implicitDefEqProofs only [gL] <;> omega) | ((repeat (first | exact Ext.refl _ | assumption | apply Ext.app | apply Ext.mk | (refine Ext.setr ?_ (by (first | omega | (simp -implicitDefEqProofs only [gL] <;> omega))) _))); done) | (simp -implicitDefEqProofs only [gL, gA, hn'.lenG, hn'.idxG, hn'.ld0, encI, ha] <;> omega) | fail) only [gB, setAll, partL, fldV, reduceIte, Nat.reduceAdd, Nat.reduceMul, hn'.lenG, hn'.idxG, hn'.ld0, encI, ha]
    refine WP.call (within5_spec (n := 5) (by omega) (by unfold Fit; omega) H) ?_
    rintro _ _ ⟨rfl, rfl⟩
    simp -implicitDefEqProofs (disch := first | assumption | omega | (simp -implicitDefEqProofs only [gL] <;> omega) | ((repeat (first | exact Ext.refl _ | assumption | apply Ext.app | apply Ext.mk | (refine Ext.setr ?_ (by (first | omega | (simp -implicitDefEqProofs only [gL] <;> omega))) _))); done) | (simp -implicitDefEqProofs only [gL, gA, hn'.ld0, encI, ha] <;> omega) | fail) only [gB, setAll, partL, fldV, reduceIte, Nat.reduceAdd, Nat.reduceMul, hn'.ld0, encI, ha]
    refine WP.call (within5_spec (n := 1 + few % 5) (by omega) (by unfold Fit; omega) H) ?_
    rintro _ _ ⟨rfl, rfl⟩
    obtain ⟨s', H', u1, u2, u3⟩ := gr.append1 (bytes := 8) (v := [I (a % (1 + few % 5))]) rfl (by omega) (by omega) (by have := wordL_len ns i few; rw [List.length_map]; omega) hle (Nat.le_refl _)
    rw [mkObj_eq] at u1
    simp -implicitDefEqProofs (disch := first | assumption | omega | (simp -implicitDefEqProofs only [gL] <;> omega) | ((repeat (first | exact Ext.refl _ | assumption | apply Ext.app | apply Ext.mk | (refine Ext.setr ?_ (by (first | omega | (simp -implicitDefEqProofs only [gL] <;> omega))) _))); done) | (simp -implicitDefEqProofs only [gL, gA, u1] <;> omega) | fail) only [gB, setAll, partL, fldV, reduceIte, Nat.reduceAdd, Nat.reduceMul, u1]
    refine ih (i + 1) s' H' (by omega) (u3.ext ex (Nat.le_refl _)) (u2.cong ?_)
    simp only [wordL, List.take_add_one, ha2, Option.toList_some, List.map_append, List.map_cons, List.map_nil]
    rfl
theorem word_spec {ns : List Int} {sn : AV} {m : Nat} {few : Int} {h : Heap} (hn : Sl h 1 sn (ns.map encI)) (hm : m ≤ 1000) :
    Tot tab f_milestonelaw5_Word [sn, I m, I few] h fun r h' => Ext h h' ∧ Gr h.length h'.length h' 1 r ((wordL ns m few).map encI) := by
  refine WP.tot (fun k' => (call_milestonelaw5_Word k' _ _ _ h).trans (milestonelaw5_Word_eq tab k' _ _ _ h)) ?_
  rw [show AV.int .i64 0 = I ((0 : Nat) : Int) from rfl]
  exact WP.ent (word_l1 hn hm (min m ns.length) 0 .nils h (by omega) (Ext.refl _) (Gr.nil ..)) fun i => rfl
end Go.Gm.A5
