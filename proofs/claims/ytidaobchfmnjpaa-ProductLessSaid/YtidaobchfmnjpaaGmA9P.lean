/- A part of the proof (GmA9P): an abstract machine, what it does, and what the functions of the program come to on it. -/
import Derived.Test.YtidaobchfmnjpaaGmP4
import Derived.Test.YtidaobchfmnjpaaGmQ
import Derived.Test.YtidaobchfmnjpaaGmA9T
set_option linter.unusedVariables false
set_option linter.unusedSimpArgs false
set_option linter.unusedSectionVars false
namespace Go.Gm.A9
open Go Go.Gm

theorem within_spec {a n : Int} (hn : 0 < n) (hf : Fit n) (h : Heap) : Tot tab f_milestonelaw1_within [I a, I n] h fun v h' => v = I (a % n) ∧ h = h' := by
  refine WP.tot (fun k => (call_milestonelaw1_within k _ _ h).trans (milestonelaw1_within_eq tab k _ _ h)) ?_
  refine WP.oa (bin_rem a n (by omega)) ?_
  refine WP.oa (bin_lss _ _) ?_
  have hlt := Int.tmod_lt_of_pos a hn
  have hgt := Int.lt_tmod_of_pos a hn
  have h1 := Int.tmod_eq_emod (a := a) (b := n)
  have h2 := Int.emod_nonneg a (by omega : n ≠ 0)
  have h3 := Int.emod_lt_of_pos a hn
  by_cases h0 : a.tmod n < 0
  · simp only [decide_eq_true h0, cond2_true]
    refine WP.oa (bin_add _ _ (by unfold Fit at *; omega)) (WP.ret ⟨?_, rfl⟩)
    congr 1
    split at h1 <;> omega
  · simp only [decide_eq_false h0, cond2_false]
    refine WP.ret ⟨?_, rfl⟩
    congr 1
    split at h1 <;> omega

theorem within7_spec {a n : Int} (hn : 0 < n) (hf : Fit n) (h : Heap) : Tot tab f_milestonelaw7_within [I a, I n] h fun v h' => v = I (a % n) ∧ h = h' := by
  refine WP.tot (fun k => (call_milestonelaw7_within k _ _ h).trans (milestonelaw7_within_eq tab k _ _ h)) ?_
  refine WP.oa (bin_rem a n (by omega)) ?_
  refine WP.oa (bin_lss _ _) ?_
  have hlt := Int.tmod_lt_of_pos a hn
  have hgt := Int.lt_tmod_of_pos a hn
  have h1 := Int.tmod_eq_emod (a := a) (b := n)
  have h2 := Int.emod_nonneg a (by omega : n ≠ 0)
  have h3 := Int.emod_lt_of_pos a hn
  by_cases h0 : a.tmod n < 0
  · simp only [decide_eq_true h0, cond2_true]
    refine WP.oa (bin_add _ _ (by unfold Fit at *; omega)) (WP.ret ⟨?_, rfl⟩)
    congr 1
    split at h1 <;> omega
  · simp only [decide_eq_false h0, cond2_false]
    refine WP.ret ⟨?_, rfl⟩
    congr 1
    split at h1 <;> omega

theorem within9_spec {a n : Int} (hn : 0 < n) (hf : Fit n) (h : Heap) : Tot tab f_milestonelaw9_within [I a, I n] h fun v h' => v = I (a % n) ∧ h = h' := by
  refine WP.tot (fun k => (call_milestonelaw9_within k _ _ h).trans (milestonelaw9_within_eq tab k _ _ h)) ?_
  refine WP.oa (bin_rem a n (by omega)) ?_
  refine WP.oa (bin_lss _ _) ?_
  have hlt := Int.tmod_lt_of_pos a hn
  have hgt := Int.lt_tmod_of_pos a hn
  have h1 := Int.tmod_eq_emod (a := a) (b := n)
  have h2 := Int.emod_nonneg a (by omega : n ≠ 0)
  have h3 := Int.emod_lt_of_pos a hn
  by_cases h0 : a.tmod n < 0
  · simp only [decide_eq_true h0, cond2_true]
    refine WP.oa (bin_add _ _ (by unfold Fit at *; omega)) (WP.ret ⟨?_, rfl⟩)
    congr 1
    split at h1 <;> omega
  · simp only [decide_eq_false h0, cond2_false]
    refine WP.ret ⟨?_, rfl⟩
    congr 1
    split at h1 <;> omega
end Go.Gm.A9
