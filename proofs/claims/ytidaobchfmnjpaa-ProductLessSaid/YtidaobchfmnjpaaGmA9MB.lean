/- A part of the proof (GmA9MB): an abstract machine, what it does, and what the functions of the program come to on it. -/
import Derived.Test.YtidaobchfmnjpaaGmA9MA
set_option linter.unusedVariables false
set_option linter.unusedSimpArgs false
set_option linter.unusedSectionVars false
namespace Go.Gm.A9
open Go Go.Gm
theorem idxA_p {o m : Nat} (hm : m < 5) : idxA 5 1 (.ptr o 0 5 0) (I m) = some (.ptr o m (m + 1) 0) := by
  simp only [idxA, I]
  rw [if_pos ⟨by omega, by omega, by omega⟩]
  simp
theorem stP {h : Heap} {o m : Nat} {cs : List AV} {x : Int} (hr : h[o]? = some (.cells ⟨cs, 0, 0, false⟩)) : stN 1 h (.ptr o m (m + 1) 0) (I x) = some (h.set o (.cells ⟨cs.set m (I x), 0, 0, false⟩)) := by
  have c1 : (I x).cells = [I x] := rfl
  have c2 : (I x).one = true := rfl
  simp only [stN, wrc, hr, c1, List.length_cons, List.length_nil, List.all_cons, List.all_nil, c2, setAll]
  simp
theorem mk_l2 {h0 h2 : Heap} {n i : Nat} {acc2 : Int} {ns : AV} {zs : List Int} {D : List (List Int)} {acc : List Bool} {sD sA : AV} {oD oA on : Nat} {Q : AV → Heap → Prop} (hn : n ≤ 9) (hi : i < n) (hns : Sl h0 1 ns (zs.map encI)) (hon : h0.length ≤ on) (honl : on < h2.length)
    (e2 : Ext h0 h2) (w : ∀ h, FrS (fun o => o = on) h2 h → MK h0 n i D acc sD sA oD oA h)
    (hQ : ∀ h D acc sD sA oD oA, MK h0 n (i + 1) D acc sD sA oD oA h → WP (fun p : Nat × Nat => milestonelaw7_Make_l1 tab p.1 p.2 ns (I acc2) (.ptr h0.length 0 2 0) (.ptr (h0.length + 1) 0 2 0) (I n) (I (i + 1)) h) Q) :
    ∀ (d m : Nat) (h : Heap) (vals : List Int), m + d = 5 → FrS (fun o => o = on) h2 h → vals.length = 5 → (∀ j : Int, 0 ≤ j → j < m → 0 ≤ gi vals j ∧ gi vals j < n) → h[on]? = some (.cells ⟨encR vals, 0, 0, false⟩) →
      WP (fun p : (Nat × Nat) × Nat => milestonelaw7_Make_l2 tab p.1.1 p.1.2 p.2 ns (I acc2) (.ptr h0.length 0 2 0) (.ptr (h0.length + 1) 0 2 0) (I n) (I i) (.ptr on 0 5 0) (I m) h) Q := by
  intro d
  induction d with
  | zero =>
    intro m h vals h1 f lv hv ro
    refine WP.rnd (fun i' j => milestonelaw7_Make_l2_eq tab i'.1 i'.2 j ns (I acc2) (.ptr h0.length 0 2 0) (.ptr (h0.length + 1) 0 2 0) (I n) (I i) (.ptr on 0 5 0) (I m) h) ?_
    obtain rfl : m = 5 := by omega
    simp -implicitDefEqProofs (maxSteps := 1000000) (disch := first | assumption | omega | (simp only [gL] <;> omega) | ((repeat (first | exact Ext.refl _ | assumption | apply Ext.app | apply Ext.mk | (refine Ext.setr ?_ (by (first | omega | (simp only [gL] <;> omega))) _))); done) | (simp only [gL, gA] <;> omega) | fail) only [gB, setAll, partL, fldV, reduceIte, Nat.reduceAdd, Nat.reduceMul]
    exact WP.lv (mk_b3 hn hi hQ (w h f) lv hv ro) fun i j => rfl
  | succ d ih =>
    intro m h vals h1 f lv hv ro
    refine WP.rnd (fun i' j => milestonelaw7_Make_l2_eq tab i'.1 i'.2 j ns (I acc2) (.ptr h0.length 0 2 0) (.ptr (h0.length + 1) 0 2 0) (I n) (I i) (.ptr on 0 5 0) (I m) h) ?_
    have hm5 : m < 5 := by omega
    have e : Ext h0 h := by
      have := w h f
      exact this.ex
    have hw : IntKind.i64.wrap (5 * (i : Int)) = 5 * i := wrap_id (by omega) (by omega)
    have key : ∀ (x : Int), WP (fun p : (Nat × Nat) × Nat => milestonelaw7_Make_l2 tab p.1.1 p.1.2 p.2 ns (I acc2) (.ptr h0.length 0 2 0) (.ptr (h0.length + 1) 0 2 0) (I n) (I i) (.ptr on 0 5 0) (I (m + 1)) (h.set on (.cells ⟨(encR vals).set m (I (x % n)), 0, 0, false⟩))) Q := by
      intro x
      have x0 := Int.emod_nonneg x (show (n : Int) ≠ 0 by omega)
      have x1 := Int.emod_lt_of_pos x (show (0 : Int) < n by omega)
      refine ih (m + 1) _ (vals.set m (x % n)) (by omega) (f.trans ⟨by simp, fun p p1 p2 => get_set_ne fun z => p1 z.symm⟩) (by simpa using lv) (fun j j0 j1 => ?_) ?_
      · obtain ⟨k, rfl⟩ : ∃ k : Nat, j = k := ⟨j.toNat, by omega⟩
        rw [giset2 (by omega)]
        by_cases q : k = m
        · rw [if_pos q]; exact ⟨x0, x1⟩
        · rw [if_neg q]; exact hv k j0 (by omega)
      · rw [get_set_eq (by have := f.len; omega)]
        simp only [encR, List.map_set]
    by_cases c1 : 5 * (i : Int) + m < zs.length
    · obtain ⟨x, hx⟩ : ∃ x, gi zs (5 * (i : Int) + m) = x := ⟨_, rfl⟩
      simp -implicitDefEqProofs (maxSteps := 1000000) (disch := first | assumption | omega | (simp only [gL] <;> omega) | ((repeat (first | exact Ext.refl _ | assumption | apply Ext.app | apply Ext.mk | (refine Ext.setr ?_ (by (first | omega | (simp only [gL] <;> omega))) _))); done) | (simp only [gL, gA, hw, hns.lenG, hns.idxG, hns.ld0, hx, encI] <;> omega) | fail) only [gB, setAll, partL, fldV, reduceIte, Nat.reduceAdd, Nat.reduceMul, hw, hns.lenG, hns.idxG, hns.ld0, hx, encI]
      refine WP.call (within7_spec (by omega) (by unfold Fit; omega) _) ?_
      rintro _ _ ⟨rfl, rfl⟩
      simp -implicitDefEqProofs (maxSteps := 1000000) (disch := first | assumption | omega | (simp only [gL] <;> omega) | ((repeat (first | exact Ext.refl _ | assumption | apply Ext.app | apply Ext.mk | (refine Ext.setr ?_ (by (first | omega | (simp only [gL] <;> omega))) _))); done) | (simp only [gL, gA, idxA_p hm5, stP ro] <;> omega) | fail) only [gB, setAll, partL, fldV, reduceIte, Nat.reduceAdd, Nat.reduceMul, idxA_p hm5, stP ro]
      exact key x
    · simp -implicitDefEqProofs (maxSteps := 1000000) (disch := first | assumption | omega | (simp only [gL] <;> omega) | ((repeat (first | exact Ext.refl _ | assumption | apply Ext.app | apply Ext.mk | (refine Ext.setr ?_ (by (first | omega | (simp only [gL] <;> omega))) _))); done) | (simp only [gL, gA, hw, hns.lenG, add_w] <;> omega) | fail) only [gB, setAll, partL, fldV, reduceIte, Nat.reduceAdd, Nat.reduceMul, hw, hns.lenG, add_w]
      refine WP.call (within7_spec (by omega) (by unfold Fit; omega) _) ?_
      rintro _ _ ⟨rfl, rfl⟩
      simp -implicitDefEqProofs (maxSteps := 1000000) (disch := first | assumption | omega | (simp only [gL] <;> omega) | ((repeat (first | exact Ext.refl _ | assumption | apply Ext.app | apply Ext.mk | (refine Ext.setr ?_ (by (first | omega | (simp only [gL] <;> omega))) _))); done) | (simp only [gL, gA, idxA_p hm5, stP ro] <;> omega) | fail) only [gB, setAll, partL, fldV, reduceIte, Nat.reduceAdd, Nat.reduceMul, idxA_p hm5, stP ro]
      exact key _
theorem mk_l1 {h0 : Heap} {n : Nat} {acc2 : Int} {ns : AV} {zs : List Int} {Q : AV → Heap → Prop} (hn : n ≤ 9) (hns : Sl h0 1 ns (zs.map encI))
    (hQ : ∀ h D acc sD sA oD oA, MK h0 n n D acc sD sA oD oA h → Q (.agg [sD, sA]) (h.set h0.length (.cells ⟨[sD, sA], 0, 0, false⟩))) :
    ∀ (d i : Nat) (h : Heap) (D : List (List Int)) (acc : List Bool) (sD sA : AV) (oD oA : Nat), i + d = n → MK h0 n i D acc sD sA oD oA h →
      WP (fun p : Nat × Nat => milestonelaw7_Make_l1 tab p.1 p.2 ns (I acc2) (.ptr h0.length 0 2 0) (.ptr (h0.length + 1) 0 2 0) (I n) (I i) h) Q := by
  intro d
  induction d with
  | zero =>
    intro i h D acc sD sA oD oA h1 w
    refine WP.rnd (fun i' j => milestonelaw7_Make_l1_eq tab i' j ns (I acc2) (.ptr h0.length 0 2 0) (.ptr (h0.length + 1) 0 2 0) (I n) (I i) h) ?_
    obtain rfl : i = n := by omega
    have r6 := w.r6
    have r7 := w.r7
    have b6 := (List.getElem?_eq_some_iff.1 r6).1
    simp -implicitDefEqProofs (maxSteps := 1000000) (disch := first | assumption | omega | (simp only [gL] <;> omega) | ((repeat (first | exact Ext.refl _ | assumption | apply Ext.app | apply Ext.mk | (refine Ext.setr ?_ (by (first | omega | (simp only [gL] <;> omega))) _))); done) | (simp only [gL, gA, r6, r7, w.gD.sl.one, w.gD.sl.cells, w.gA.sl.one, w.gA.sl.cells] <;> omega) | fail) only [gB, setAll, partL, fldV, reduceIte, Nat.reduceAdd, Nat.reduceMul, r6, r7, w.gD.sl.one, w.gD.sl.cells, w.gA.sl.one, w.gA.sl.cells]
    exact WP.ret (hQ h D acc sD sA oD oA w)
  | succ d ih =>
    intro i h D acc sD sA oD oA h1 w
    refine WP.rnd (fun i' j => milestonelaw7_Make_l1_eq tab i' j ns (I acc2) (.ptr h0.length 0 2 0) (.ptr (h0.length + 1) 0 2 0) (I n) (I i) h) ?_
    simp -implicitDefEqProofs (maxSteps := 1000000) (disch := first | assumption | omega | (simp only [gL] <;> omega) | ((repeat (first | exact Ext.refl _ | assumption | apply Ext.app | apply Ext.mk | (refine Ext.setr ?_ (by (first | omega | (simp only [gL] <;> omega))) _))); done) | (simp only [gL, gA] <;> omega) | fail) only [gB, setAll, partL, fldV, reduceIte, Nat.reduceAdd, Nat.reduceMul]
    obtain ⟨h2, hh2⟩ : ∃ h2, h2 = h ++ [AObj.cells ⟨[AV.int .i64 0, AV.int .i64 0, AV.int .i64 0, AV.int .i64 0, AV.int .i64 0], 0, 0, false⟩] := ⟨_, rfl⟩
    have e2 : Ext h h2 := by rw [hh2]; exact Ext.push _ _
    have l2 : h2.length = h.length + 1 := by rw [hh2]; simp
    have ro : h2[h.length]? = some (.cells ⟨encR [0, 0, 0, 0, 0], 0, 0, false⟩) := by rw [hh2]; simp [encR, I]
    rw [← hh2]
    refine WP.ent (mk_l2 (on := h.length) (h2 := h2) hn (by omega) hns (by have := w.ex.len; omega) (by omega) (w.ex.trans e2) (fun h3 f => w.frs (P := fun o => o = h.length) (⟨by have := e2.len; have := f.len; omega, fun o z1 z2 => by rw [f.get z1 (by omega), hh2, get_app_l z2]⟩) fun o z1 z2 => by omega) (fun h3 D3 acc3 sD3 sA3 oD3 oA3 w3 => ih (i + 1) h3 D3 acc3 sD3 sA3 oD3 oA3 (by omega) w3) 5 0 h2 [0, 0, 0, 0, 0] (by omega) (FrS.refl _ _) rfl (fun j j0 j1 => by omega) ro) fun i => rfl
theorem gr_wide {o lo hi : Nat} {h : Heap} {sz : Nat} {s : AV} {xs : List (List AV)} (a : Gr o (o + 1) h sz s xs) (ho : s ≠ .nils → lo ≤ o ∧ o < hi) : Gr lo hi h sz s xs := by
  by_cases hn : s = .nils
  · subst hn
    have := Gr.isNil a
    subst this
    exact Gr.nil ..
  · exact Gr.mono a (ho hn).1 (ho hn).2
theorem make7_spec {h : Heap} {size acc2 : Int} {ns : AV} {zs : List Int} (hns : Sl h 1 ns (zs.map encI)) :
    Tot tab f_milestonelaw7_Make [I size, ns, I acc2] h fun r h' => Ext h h' ∧ ∃ D acc sD sA, r = .agg [sD, sA] ∧ DOk D acc ∧ D.length ≤ 9 ∧ Gr h.length h'.length h' 5 sD (D.map encR) ∧ Gr h.length h'.length h' 1 sA (acc.map encB) := by
  refine WP.tot (fun k => (call_milestonelaw7_Make k _ _ _ h).trans (milestonelaw7_Make_eq tab k _ _ _ h)) ?_
  simp -implicitDefEqProofs (maxSteps := 1000000) (disch := first | assumption | omega | (simp only [gL] <;> omega) | ((repeat (first | exact Ext.refl _ | assumption | apply Ext.app | apply Ext.mk | (refine Ext.setr ?_ (by (first | omega | (simp only [gL] <;> omega))) _))); done) | (simp only [gL, gA] <;> omega) | fail) only [gB, setAll, partL, fldV, reduceIte, Nat.reduceAdd, Nat.reduceMul]
  refine WP.call (within7_spec (by omega) (by unfold Fit; omega) _) ?_
  rintro _ _ ⟨rfl, rfl⟩
  obtain ⟨n, hn⟩ : ∃ n : Nat, 1 + size % 9 = n := ⟨(1 + size % 9).toNat, by omega⟩
  simp -implicitDefEqProofs (maxSteps := 1000000) (disch := first | assumption | omega | (simp only [gL] <;> omega) | ((repeat (first | exact Ext.refl _ | assumption | apply Ext.app | apply Ext.mk | (refine Ext.setr ?_ (by (first | omega | (simp only [gL] <;> omega))) _))); done) | (simp only [gL, gA, hn] <;> omega) | fail) only [gB, setAll, partL, fldV, reduceIte, Nat.reduceAdd, Nat.reduceMul, hn]
  refine WP.ent (mk_l1 (n := n) (by omega) hns (fun h3 D acc sD sA oD oA w => ?_) n 0 _ [] [] .nils .nils 0 0 (by omega) ⟨?_, ?_, ?_, Gr.nil .., Gr.nil .., fun z => absurd rfl z, fun z => absurd rfl z, fun z => absurd rfl z, rfl, rfl, fun s s0 s1 => by omega, fun s m s0 s1 => by omega⟩) fun i => rfl
  · have f : FrS (fun o => o = h.length) h3 (h3.set h.length (.cells ⟨[sD, sA], 0, 0, false⟩)) := ⟨by simp, fun p p1 p2 => get_set_ne fun z => p1 z.symm⟩
    refine ⟨f.ext w.ex fun o z1 z2 => by omega, D, acc, sD, sA, rfl, ⟨?_, ?_, ?_, fun s s0 s1 => w.row s s0 (by rw [w.lD] at s1; exact s1), fun s m s0 s1 m0 m1 => ?_⟩, by rw [w.lD]; omega, gr_wide (w.gD.frsN f fun z q => by have := (w.pD z).1; omega) fun z => ⟨by have := (w.pD z).1; omega, by have := (w.pD z).2; have := f.len; omega⟩, gr_wide (w.gA.frsN f fun z q => by have := (w.pA z).1; omega) fun z => ⟨by have := (w.pA z).1; omega, by have := (w.pA z).2; have := f.len; omega⟩⟩
    · rw [w.lD]; omega
    · rw [w.lD]; omega
    · rw [w.lD, w.lA]
    · rw [w.lD] at s1 ⊢; exact w.to s m s0 s1 m0 m1
  · ((repeat (first | exact Ext.refl _ | assumption | apply Ext.app | apply Ext.mk | (refine Ext.setr ?_ (by (first | omega | (simp only [gL] <;> omega))) _))))
  · simp
  · simp
end Go.Gm.A9
