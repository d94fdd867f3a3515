/- A part of the proof (GmA9MA): an abstract machine, what it does, and what the functions of the program come to on it. -/
import Derived.Test.YtidaobchfmnjpaaGmA9Z
set_option linter.unusedVariables false
set_option linter.unusedSimpArgs false
set_option linter.unusedSectionVars false
namespace Go.Gm
theorem Gr.frsN {D : Nat → Prop} {o : Nat} {h h' : Heap} {sz : Nat} {s : AV} {xs : List (List AV)} (a : Gr o (o + 1) h sz s xs) (f : FrS D h h') (hd : s ≠ .nils → ¬ D o) : Gr o (o + 1) h' sz s xs := by
  by_cases hn : s = .nils
  · subst hn
    have := Gr.isNil a
    subst this
    exact Gr.nil ..
  · exact Gr.frs a f fun p z1 z2 => by rw [show p = o by omega]; exact hd hn
end Go.Gm
namespace Go.Gm.A9
open Go Go.Gm
/-! ### A machine of numbers -/
theorem add_w (a b : Int) : binV .add .scalar (I a) (I b) = some (I (IntKind.i64.wrap (a + b))) := rfl
theorem shr_ex (a : Int) {m : Int} (h0 : 0 ≤ m) : ∃ w, binV .shr .scalar (I a) (.int .u64 m) = some (I w) := by
  show ∃ w, shiftI .shr .i64 a m = some (I w)
  simp only [shiftI]
  rw [if_neg (by omega)]
  exact ⟨_, rfl⟩
structure MK (h0 : Heap) (n i : Nat) (D : List (List Int)) (acc : List Bool) (sD sA : AV) (oD oA : Nat) (h : Heap) : Prop where
  ex : Ext h0 h
  r6 : h[h0.length]? = some (.cells ⟨[.nils, .nils], 0, 0, false⟩)
  r7 : h[h0.length + 1]? = some (.cells ⟨[sD, sA], 0, 0, false⟩)
  gD : Gr oD (oD + 1) h 5 sD (D.map encR)
  gA : Gr oA (oA + 1) h 1 sA (acc.map encB)
  pD : sD ≠ .nils → h0.length + 2 ≤ oD ∧ oD < h.length
  pA : sA ≠ .nils → h0.length + 2 ≤ oA ∧ oA < h.length
  ne : sD ≠ .nils → sA ≠ .nils → oD ≠ oA
  lD : D.length = i
  lA : acc.length = i
  row : ∀ s : Int, 0 ≤ s → s < i → (gi D s).length = 5
  to : ∀ s m : Int, 0 ≤ s → s < i → 0 ≤ m → m < 5 → 0 ≤ gi (gi D s) m ∧ gi (gi D s) m < n
theorem MK.frs {h0 h h' : Heap} {n i : Nat} {D : List (List Int)} {acc : List Bool} {sD sA : AV} {oD oA : Nat} (w : MK h0 n i D acc sD sA oD oA h) {P : Nat → Prop} (f : FrS P h h') (hp : ∀ o, o < h.length → ¬ P o) : MK h0 n i D acc sD sA oD oA h' := by
  have hl := f.len
  have b6 := (List.getElem?_eq_some_iff.1 w.r6).1
  have b7 := (List.getElem?_eq_some_iff.1 w.r7).1
  exact ⟨f.ext w.ex fun o z1 z2 => hp o (by omega) z2, by rw [f.get (hp _ b6) b6]; exact w.r6, by rw [f.get (hp _ b7) b7]; exact w.r7, w.gD.frsN f fun z => hp _ (w.pD z).2, w.gA.frsN f fun z => hp _ (w.pA z).2, fun z => ⟨(w.pD z).1, by have := (w.pD z).2; omega⟩, fun z => ⟨(w.pA z).1, by have := (w.pA z).2; omega⟩, w.ne, w.lD, w.lA, w.row, w.to⟩
theorem mk_b3 {h0 : Heap} {n i on : Nat} {acc2 : Int} {ns : AV} {D : List (List Int)} {acc : List Bool} {sD sA : AV} {oD oA : Nat} {vals : List Int} {Q : AV → Heap → Prop} (hn : n ≤ 9) (hi : i < n)
    (hQ : ∀ h D acc sD sA oD oA, MK h0 n (i + 1) D acc sD sA oD oA h → WP (fun p : Nat × Nat => milestonelaw7_Make_l1 tab p.1 p.2 ns (I acc2) (.ptr h0.length 0 2 0) (.ptr (h0.length + 1) 0 2 0) (I n) (I (i + 1)) h) Q)
    {h : Heap} (w : MK h0 n i D acc sD sA oD oA h) (hv : vals.length = 5) (hvr : ∀ j : Int, 0 ≤ j → j < 5 → 0 ≤ gi vals j ∧ gi vals j < n) (ro : h[on]? = some (.cells ⟨encR vals, 0, 0, false⟩)) :
    WP (fun p : Nat × Nat => milestonelaw7_Make_b3 tab p.1 p.2 ns (I acc2) (.ptr h0.length 0 2 0) (.ptr (h0.length + 1) 0 2 0) (I n) (I i) (.ptr on 0 5 0) h) Q := by
  refine WP.congr (fun p => milestonelaw7_Make_b3_eq tab p.1 p.2 ns (I acc2) (.ptr h0.length 0 2 0) (.ptr (h0.length + 1) 0 2 0) (I n) (I i) (.ptr on 0 5 0) h) ?_
  obtain ⟨x0, x1, x2, x3, x4, hx⟩ : ∃ x0 x1 x2 x3 x4, vals = [x0, x1, x2, x3, x4] := by
    match vals, hv with
    | [x0, x1, x2, x3, x4], _ => exact ⟨x0, x1, x2, x3, x4, rfl⟩
  have ro' : h[on]? = some (.cells ⟨[I x0, I x1, I x2, I x3, I x4], 0, 0, false⟩) := by rw [ro, hx]; rfl
  have lD := w.lD
  have lA := w.lA
  have b7 := (List.getElem?_eq_some_iff.1 w.r7).1
  have b6 := (List.getElem?_eq_some_iff.1 w.r6).1
  have r7 := w.r7
  -- the row
  obtain ⟨h1, hh1⟩ : ∃ h1, h1 = h ++ [AObj.cells ⟨[I x0, I x1, I x2, I x3, I x4], 0, 0, false⟩] := ⟨_, rfl⟩
  have e1 : Ext h h1 := by rw [hh1]; exact Ext.push _ _
  have l1 : h1.length = h.length + 1 := by rw [hh1]; simp
  have w1 := w.frs (P := fun _ => False) (FrS.ofExt e1) fun _ _ z => z
  have b1 : Sl h1 5 (.sl h.length 0 1 5 none 0) [[I x0, I x1, I x2, I x3, I x4]] := by
    have := (Gr.lit (h := h) (sz := 5) (v := [I x0, I x1, I x2, I x3, I x4]) rfl).sl
    rw [mkObj_eq] at this; rw [hh1]; exact this
  obtain ⟨sD2, h2, oD2, k1, k2, k3, k4⟩ := w1.gD.appP (bytes := 40) (fun z => (w1.pD z).2) b1 (by omega) (by omega) (by simp; omega)
  have hl2 := k4.len
  have hnn : sD2 ≠ .nils := by
    intro z
    rw [z] at k2
    have := k2.isNil
    simp at this
  have k3' := k3 hnn
  have r72 : h2[h0.length + 1]? = some (.cells ⟨[sD, sA], 0, 0, false⟩) := by
    rw [k4.get (fun z => by have := (w.pD z.1).1; omega) (by omega)]; exact w1.r7
  obtain ⟨h3, hh3⟩ : ∃ h3, h3 = h2.set (h0.length + 1) (.cells ⟨[sD2, sA], 0, 0, false⟩) := ⟨_, rfl⟩
  have l3 : h3.length = h2.length := by rw [hh3]; simp
  have r73 : h3[h0.length + 1]? = some (.cells ⟨[sD2, sA], 0, 0, false⟩) := by rw [hh3]; exact get_set_eq (by omega)
  have f3 : FrS (fun o => o = h0.length + 1) h2 h3 := by rw [hh3]; exact ⟨by simp, fun p p1 p2 => get_set_ne fun z => p1 z.symm⟩
  have gA3 : Gr oA (oA + 1) h3 1 sA (acc.map encB) := (w1.gA.frsN k4 fun z q => w.ne q.1 z q.2.symm).frsN f3 fun z => by have := (w.pA z).1; omega
  have gD3 : Gr oD2 (oD2 + 1) h3 5 sD2 (D.map encR ++ [[I x0, I x1, I x2, I x3, I x4]]) := k2.frsN f3 fun z => by
    rcases k3'.1 with ⟨q, z⟩ | q
    · have := (w.pD z).1; omega
    · omega
  have c2 : sD2.one = true := k2.sl.one
  have c2' : sD2.cells = [sD2] := k2.sl.cells
  rw [hh1] at k1
  obtain ⟨wv, hwv⟩ := shr_ex acc2 (m := (i : Int)) (by omega)
  have hcv := conv_u64 (n := (i : Int)) (by omega) (by omega)
  simp -implicitDefEqProofs (maxSteps := 1000000) (disch := first | assumption | omega | (simp only [gL] <;> omega) | ((repeat (first | exact Ext.refl _ | assumption | apply Ext.app | apply Ext.mk | (refine Ext.setr ?_ (by (first | omega | (simp only [gL] <;> omega))) _))); done) | (simp only [gL, gA, r7, ro', k1, r72, c2, c2'] <;> omega) | fail) only [gB, setAll, partL, fldV, reduceIte, Nat.reduceAdd, Nat.reduceMul, r7, ro', k1, r72, c2, c2']
  rw [← hh3]
  simp -implicitDefEqProofs (maxSteps := 1000000) (disch := first | assumption | omega | (simp only [gL] <;> omega) | ((repeat (first | exact Ext.refl _ | assumption | apply Ext.app | apply Ext.mk | (refine Ext.setr ?_ (by (first | omega | (simp only [gL] <;> omega))) _))); done) | (simp only [gL, gA, r73, hcv, hwv] <;> omega) | fail) only [gB, setAll, partL, fldV, reduceIte, Nat.reduceAdd, Nat.reduceMul, r73, hcv, hwv]
  refine WP.call (within7_spec (by omega) (by unfold Fit; omega) _) ?_
  rintro _ _ ⟨rfl, rfl⟩
  obtain ⟨bb, hbb⟩ : ∃ bb : Bool, binV .eql .scalar (I (wv % 2)) (I 1) = some (.bool bb) := by
    by_cases q : wv % 2 = 1
    · exact ⟨true, by rw [q]; rfl⟩
    · exact ⟨false, eql_f q⟩
  obtain ⟨h4, hh4⟩ : ∃ h4, h4 = h3 ++ [AObj.cells ⟨[.bool bb], 0, 0, false⟩] := ⟨_, rfl⟩
  have e4 : Ext h3 h4 := by rw [hh4]; exact Ext.push _ _
  have l4 : h4.length = h3.length + 1 := by rw [hh4]; simp
  have b4 : Sl h4 1 (.sl h3.length 0 1 1 none 0) [[.bool bb]] := by
    have := (Gr.lit (h := h3) (sz := 1) (v := [.bool bb]) rfl).sl
    rw [mkObj_eq] at this; rw [hh4]; exact this
  obtain ⟨sA2, h5, oA2, m1, m2, m3, m4⟩ := (gA3.ext e4).appP (bytes := 1) (fun z => by have := (w.pA z).2; omega) b4 (by omega) (by omega) (by simp; omega)
  have hl5 := m4.len
  have hnA : sA2 ≠ .nils := by
    intro z
    rw [z] at m2
    have := m2.isNil
    simp at this
  have m3' := m3 hnA
  have r75 : h5[h0.length + 1]? = some (.cells ⟨[sD2, sA], 0, 0, false⟩) := by
    rw [m4.get (fun z => by have := (w.pA z.1).1; omega) (by omega)]; exact e4.get r73
  have c3 : sA2.one = true := m2.sl.one
  have c3' : sA2.cells = [sA2] := m2.sl.cells
  rw [hh4] at m1
  simp -implicitDefEqProofs (maxSteps := 1000000) (disch := first | assumption | omega | (simp only [gL] <;> omega) | ((repeat (first | exact Ext.refl _ | assumption | apply Ext.app | apply Ext.mk | (refine Ext.setr ?_ (by (first | omega | (simp only [gL] <;> omega))) _))); done) | (simp only [gL, gA, r73, hbb, m1, r75, c3, c3'] <;> omega) | fail) only [gB, setAll, partL, fldV, reduceIte, Nat.reduceAdd, Nat.reduceMul, r73, hbb, m1, r75, c3, c3']
  obtain ⟨h6, hh6⟩ : ∃ h6, h6 = h5.set (h0.length + 1) (.cells ⟨[sD2, sA2], 0, 0, false⟩) := ⟨_, rfl⟩
  have l6 : h6.length = h5.length := by rw [hh6]; simp
  have f6 : FrS (fun o => o = h0.length + 1) h5 h6 := by rw [hh6]; exact ⟨by simp, fun p p1 p2 => get_set_ne fun z => p1 z.symm⟩
  rw [← hh6]
  refine WP.congr (fun p => milestonelaw7_Make_b4_eq tab p.1 p.2 ns (I acc2) (.ptr h0.length 0 2 0) (.ptr (h0.length + 1) 0 2 0) (I n) (I i) h6) ?_
  simp -implicitDefEqProofs (maxSteps := 1000000) (disch := first | assumption | omega | (simp only [gL] <;> omega) | ((repeat (first | exact Ext.refl _ | assumption | apply Ext.app | apply Ext.mk | (refine Ext.setr ?_ (by (first | omega | (simp only [gL] <;> omega))) _))); done) | (simp only [gL, gA] <;> omega) | fail) only [gB, setAll, partL, fldV, reduceIte, Nat.reduceAdd, Nat.reduceMul]
  have hoD2 : h0.length + 2 ≤ oD2 ∧ oD2 < h2.length := by
    rcases k3'.1 with ⟨q, z⟩ | q
    · have := (w.pD z).1; have := k3'.2; omega
    · have := k3'.2; omega
  have hoA2 : h0.length + 2 ≤ oA2 ∧ oA2 < h5.length := by
    rcases m3'.1 with ⟨q, z⟩ | q
    · have := (w.pA z).1; have := m3'.2; omega
    · have := m3'.2; omega
  have hDA : sA ≠ .nils → oD2 ≠ oA := fun z => by
    have := (w.pA z).2
    rcases k3'.1 with ⟨q, q2⟩ | q
    · rw [q]; exact w.ne q2 z
    · omega
  have e06 : Ext h0 h6 := by
    have z1 : Ext h0 h2 := k4.ext w1.ex fun o q1 q2 => by have := (w.pD q2.1).1; omega
    have z2 : Ext h0 h4 := (f3.ext z1 fun o q1 q2 => by omega).trans e4
    exact f6.ext (m4.ext z2 fun o q1 q2 => by have := (w.pA q2.1).1; omega) fun o q1 q2 => by omega
  have r65 : h6[h0.length]? = some (.cells ⟨[.nils, .nils], 0, 0, false⟩) := by
    rw [f6.get (by omega) (by omega), m4.get (fun z => by have := (w.pA z.1).1; omega) (by omega)]
    refine e4.get ?_
    rw [f3.get (by omega) (by omega), k4.get (fun z => by have := (w.pD z.1).1; omega) (by omega)]
    exact w1.r6
  refine hQ h6 (D ++ [vals]) (acc ++ [bb]) sD2 sA2 oD2 oA2 ⟨e06, r65, by rw [hh6]; exact get_set_eq (by omega), ?_, ?_, fun _ => by omega, fun _ => by omega, fun _ _ => ?_, by simp; omega, by simp; omega, fun s s0 s1 => ?_, fun s m s0 s1 m0 m1 => ?_⟩
  · refine (((gD3.ext e4).frsN m4 fun z q => hDA q.1 q.2).frsN f6 fun z => by omega).cong ?_
    rw [List.map_append, hx]; rfl
  · refine (m2.frsN f6 fun z => by omega).cong ?_
    rw [List.map_append]; rfl
  · rcases m3'.1 with ⟨q, z⟩ | q
    · rw [q]; exact hDA z
    · omega
  · by_cases q : s = i
    · subst q
      rw [gi_nat (by simp; omega)]
      simp [← lD, hv]
    · have h8 : gi (D ++ [vals]) s = gi D s := by
        simp only [gi, List.getD_eq_getElem?_getD]
        rw [List.getElem?_append_left (by omega)]
      rw [h8]; exact w.row s s0 (by omega)
  · by_cases q : s = i
    · subst q
      have h8 : gi (D ++ [vals]) (i : Int) = vals := by
        rw [gi_nat (by simp; omega)]
        simp [← lD]
      rw [h8]; exact hvr m m0 m1
    · have h8 : gi (D ++ [vals]) s = gi D s := by
        simp only [gi, List.getD_eq_getElem?_getD]
        rw [List.getElem?_append_left (by omega)]
      rw [h8]; exact w.to s m s0 (by omega) m0 m1
end Go.Gm.A9
