/- A part of the proof (GmA9M): an abstract machine, what it does, and what the functions of the program come to on it. -/
import Derived.Test.YtidaobchfmnjpaaGmA9N
set_option linter.unusedVariables false
set_option linter.unusedSimpArgs false
set_option linter.unusedSectionVars false
namespace Go.Gm.A9
open Go Go.Gm

/-! ### A network of numbers -/
def mkN (size : Int) : Int := 1 + size % 12
def mkEdge (N modes k : Int) : E :=
  let fr := k % N
  let to := IntKind.i64.wrap (k.tdiv 13) % N
  let md := IntKind.i64.wrap (k.tdiv 170) % 5
  ⟨fr, to, if modes % 3 = 0 then (fr + to) % 2 else if modes % 3 = 1 then IntKind.i64.wrap (md * fr) % 3 else md,
    if k % 31 = 0 then 2147483647 - IntKind.i64.wrap (k.tdiv 31) % 3 else IntKind.i64.wrap (k.tdiv 900) % 9⟩
def mkE (size : Int) (zs : List Int) (modes : Int) : List E := (zs.take 40).map (mkEdge (mkN size) modes)
theorem mkN_range (size : Int) : 1 ≤ mkN size ∧ mkN size ≤ 12 := by unfold mkN; omega
theorem mkE_ok (size : Int) (zs : List Int) (modes : Int) : NetOk (mkN size) (mkE size zs modes) := by
  have hN := mkN_range size
  refine ⟨by omega, by omega, by simp [mkE]; omega, ?_⟩
  intro e he
  simp only [mkE, List.mem_map] at he
  obtain ⟨k, _, rfl⟩ := he
  simp only [mkEdge]
  have h1 := Int.emod_nonneg k (show mkN size ≠ 0 by omega)
  have h2 := Int.emod_lt_of_pos k (show 0 < mkN size by omega)
  have h3 := Int.emod_nonneg (IntKind.i64.wrap (k.tdiv 13)) (show mkN size ≠ 0 by omega)
  have h4 := Int.emod_lt_of_pos (IntKind.i64.wrap (k.tdiv 13)) (show 0 < mkN size by omega)
  refine ⟨h1, h2, h3, h4, ?_⟩
  split
  · omega
  · split <;> omega
theorem mkE_len (size : Int) (zs : List Int) (modes : Int) : (mkE size zs modes).length ≤ 40 := by simp [mkE]; omega

structure MkI (h0 : Heap) (N : Int) (xs : List E) (h : Heap) (s : AV) (hi : Nat) : Prop where
  ext : Ext h0 h
  r6 : h[h0.length]? = some (.cells ⟨[I 0, .nils], 0, 0, false⟩)
  r7 : h[h0.length + 1]? = some (.cells ⟨[I N, s], 0, 0, false⟩)
  gr : Gr (h0.length + 2) hi h 4 s (xs.map encE)
  hin : hi ≤ h.length
  lon : h0.length + 2 ≤ hi

theorem make_b3 {h0 : Heap} {N modes : Int} {ns : AV} {xs : List E} {n : Nat} {Q : AV → Heap → Prop} (hx : xs.length ≤ 1000) (hn : n ≤ 1000) {e : E}
    (ih : ∀ h s, MkI h0 N (xs ++ [e]) h s h.length → WP (fun p : Nat × Nat => milestonelaw1_Make_l1 tab p.1 p.2 ns (I modes) (.ptr h0.length 0 2 0) (.ptr (h0.length + 1) 0 2 0) (I (n + 1)) h) Q)
    {h : Heap} {s : AV} {oe : Nat} (w : MkI h0 N xs h s oe) (he : h[oe]? = some (.cells ⟨encE e, 0, 0, false⟩)) :
    WP (fun p : Nat × Nat => milestonelaw1_Make_b3 tab p.1 p.2 ns (I modes) (.ptr h0.length 0 2 0) (.ptr (h0.length + 1) 0 2 0) (I n) (.ptr oe 0 4 0) h) Q := by
  refine WP.congr (fun p => milestonelaw1_Make_b3_eq tab p.1 p.2 ns (I modes) (.ptr h0.length 0 2 0) (.ptr (h0.length + 1) 0 2 0) (I n) (.ptr oe 0 4 0) h) ?_
  have hlo := w.lon
  have hhi := w.hin
  have hoe : oe < h.length := (List.getElem?_eq_some_iff.1 he).1
  obtain ⟨s', h', k1, k2, k3⟩ := w.gr.append1 (bytes := 32) (v := encE e) rfl (by omega) (by omega) (by simp; omega) (by omega) (by omega)
  have r6' : h'[h0.length]? = some (.cells ⟨[I 0, .nils], 0, 0, false⟩) := by rw [k3.get (by omega) (by omega)]; exact w.r6
  have r7' : h'[h0.length + 1]? = some (.cells ⟨[I N, s], 0, 0, false⟩) := by rw [k3.get (by omega) (by omega)]; exact w.r7
  have hl' := k3.len
  have w7 := w.r7
  rw [mkObj_eq] at k1
  simp only [encE] at he k1
  simp -implicitDefEqProofs (disch := first | assumption | omega | (simp only [gL] <;> omega) | ((repeat (first | exact Ext.refl _ | assumption | apply Ext.app | apply Ext.mk | (refine Ext.setr ?_ (by (first | omega | (simp only [gL] <;> omega))) _))); done) | (simp only [gL, gA, w7, he, k1, r7', k2.sl.one, k2.sl.cells] <;> omega) | fail) only [gB, setAll, partL, fldV, reduceIte, Nat.reduceAdd, Nat.reduceMul, w7, he, k1, r7', k2.sl.one, k2.sl.cells]
  refine ih _ s' ⟨?_, ?_, ?_, ?_, by simp, by simp; omega⟩
  · have := k3.ext w.ext (by omega)
    ((repeat (first | exact Ext.refl _ | assumption | apply Ext.app | apply Ext.mk | (refine Ext.setr ?_ (by (first | omega | (simp only [gL] <;> omega))) _))))
  · rw [get_set_ne (by omega)]; exact r6'
  · rw [get_set_eq (by omega)]
  · refine ((k2.set (by omega) _).mono (Nat.le_refl _) (by simp)).cong ?_
    simp [encE]
theorem make_b2 {h0 : Heap} {N modes k : Int} {ns : AV} {xs : List E} {n : Nat} {Q : AV → Heap → Prop} (hx : xs.length ≤ 1000) (hn : n ≤ 1000) {e : E}
    (ih : ∀ h s, MkI h0 N (xs ++ [{ e with co := if k % 31 = 0 then 2147483647 - IntKind.i64.wrap (k.tdiv 31) % 3 else e.co }]) h s h.length → WP (fun p : Nat × Nat => milestonelaw1_Make_l1 tab p.1 p.2 ns (I modes) (.ptr h0.length 0 2 0) (.ptr (h0.length + 1) 0 2 0) (I (n + 1)) h) Q)
    {h : Heap} {s : AV} {oe : Nat} (w : MkI h0 N xs h s oe) (he : h[oe]? = some (.cells ⟨encE e, 0, 0, false⟩)) :
    WP (fun p : Nat × Nat => milestonelaw1_Make_b2 tab p.1 p.2 ns (I modes) (.ptr h0.length 0 2 0) (.ptr (h0.length + 1) 0 2 0) (I n) (I k) (.ptr oe 0 4 0) h) Q := by
  refine WP.congr (fun p => milestonelaw1_Make_b2_eq tab p.1 p.2 ns (I modes) (.ptr h0.length 0 2 0) (.ptr (h0.length + 1) 0 2 0) (I n) (I k) (.ptr oe 0 4 0) h) ?_
  have hlo := w.lon
  have hhi := w.hin
  have hoe : oe < h.length := (List.getElem?_eq_some_iff.1 he).1
  refine WP.call (within_spec (by omega) (by unfold Fit; omega) h) ?_
  rintro _ h1 ⟨rfl, e1⟩
  obtain rfl := e1
  by_cases h31 : k % 31 = 0
  · simp -implicitDefEqProofs (disch := first | assumption | omega | (simp only [gL] <;> omega) | ((repeat (first | exact Ext.refl _ | assumption | apply Ext.app | apply Ext.mk | (refine Ext.setr ?_ (by (first | omega | (simp only [gL] <;> omega))) _))); done) | (simp only [gL, gA] <;> omega) | fail) only [gB, setAll, partL, fldV, reduceIte, Nat.reduceAdd, Nat.reduceMul]
    refine WP.call (within_spec (by omega) (by unfold Fit; omega) h) ?_
    rintro _ h1 ⟨rfl, e1⟩
    obtain rfl := e1
    simp only [encE] at he
    simp -implicitDefEqProofs (disch := first | assumption | omega | (simp only [gL] <;> omega) | ((repeat (first | exact Ext.refl _ | assumption | apply Ext.app | apply Ext.mk | (refine Ext.setr ?_ (by (first | omega | (simp only [gL] <;> omega))) _))); done) | (simp only [gL, gA, he] <;> omega) | fail) only [gB, setAll, partL, fldV, reduceIte, Nat.reduceAdd, Nat.reduceMul, he]
    refine make_b3 hx hn ih (s := s) ⟨?_, ?_, ?_, w.gr.set (by omega) _, by simp; omega, hlo⟩ ?_
    · have := w.ext
      ((repeat (first | exact Ext.refl _ | assumption | apply Ext.app | apply Ext.mk | (refine Ext.setr ?_ (by (first | omega | (simp only [gL] <;> omega))) _))))
    · rw [get_set_ne (by omega)]; exact w.r6
    · rw [get_set_ne (by omega)]; exact w.r7
    · rw [get_set_eq (by omega)]; simp [encE, h31]
  · simp -implicitDefEqProofs (disch := first | assumption | omega | (simp only [gL] <;> omega) | ((repeat (first | exact Ext.refl _ | assumption | apply Ext.app | apply Ext.mk | (refine Ext.setr ?_ (by (first | omega | (simp only [gL] <;> omega))) _))); done) | (simp only [gL, gA] <;> omega) | fail) only [gB, setAll, partL, fldV, reduceIte, Nat.reduceAdd, Nat.reduceMul]
    refine make_b3 hx hn ih (s := s) w ?_
    rw [he]; simp [encE, h31]

theorem make_l1 {h0 : Heap} {size modes : Int} {ns : AV} {zs : List Int} (hns : Sl h0 1 ns (zs.map encI)) {Q : AV → Heap → Prop}
    (hQ : ∀ h s, MkI h0 (mkN size) (mkE size zs modes) h s h.length → ∀ h', Ext h0 h' → (Gr (h0.length + 2) h.length h' 4 s ((mkE size zs modes).map encE)) → Q (.agg [I (mkN size), s]) h') :
    ∀ (d n : Nat) (h : Heap) (s : AV), n + d = (zs.take 40).length → MkI h0 (mkN size) ((zs.take n).map (mkEdge (mkN size) modes)) h s h.length →
      WP (fun p : Nat × Nat => milestonelaw1_Make_l1 tab p.1 p.2 ns (I modes) (.ptr h0.length 0 2 0) (.ptr (h0.length + 1) 0 2 0) (I n) h) Q := by
  have hN := mkN_range size
  intro d
  induction d with
  | zero =>
    intro n h s h1 w
    refine WP.rnd (fun i' j => milestonelaw1_Make_l1_eq tab i' j ns (I modes) (.ptr h0.length 0 2 0) (.ptr (h0.length + 1) 0 2 0) (I n) h) ?_
    have hl0 := w.ext.len
    have hlo := w.lon
    have r6 := w.r6
    have r7 := w.r7
    have hz : zs.take n = zs.take 40 := by
      rw [List.length_take] at h1
      by_cases hz : zs.length ≤ 40
      · rw [List.take_of_length_le (by omega), List.take_of_length_le (by omega)]
      · rw [show n = 40 by omega]
    have hfin : WP (fun p : Nat × Nat => some (AV.agg [I (mkN size), s], h.set h0.length (.cells ⟨[I (mkN size), s], 0, 0, false⟩))) Q := by
      have w' : MkI h0 (mkN size) (mkE size zs modes) h s h.length := by
        have := w
        rw [hz] at this; exact this
      refine WP.ret (hQ h s w' _ (w.ext.setr (by omega) _) (w'.gr.set (by omega) _))
    rw [List.length_take] at h1
    by_cases hn : n < zs.length
    · simp -implicitDefEqProofs (disch := first | assumption | omega | (simp only [gL] <;> omega) | ((repeat (first | exact Ext.refl _ | assumption | apply Ext.app | apply Ext.mk | (refine Ext.setr ?_ (by (first | omega | (simp only [gL] <;> omega))) _))); done) | (simp only [gL, gA, hns.lenG, r7, r6, w.gr.sl.one] <;> omega) | fail) only [gB, setAll, partL, fldV, reduceIte, Nat.reduceAdd, Nat.reduceMul, hns.lenG, r7, r6, w.gr.sl.one]
      exact hfin
    · simp -implicitDefEqProofs (disch := first | assumption | omega | (simp only [gL] <;> omega) | ((repeat (first | exact Ext.refl _ | assumption | apply Ext.app | apply Ext.mk | (refine Ext.setr ?_ (by (first | omega | (simp only [gL] <;> omega))) _))); done) | (simp only [gL, gA, hns.lenG, r7, r6, w.gr.sl.one] <;> omega) | fail) only [gB, setAll, partL, fldV, reduceIte, Nat.reduceAdd, Nat.reduceMul, hns.lenG, r7, r6, w.gr.sl.one]
      exact hfin
  | succ d ih =>
    intro n h s h1 w
    rw [List.length_take] at h1
    refine WP.rnd (fun i' j => milestonelaw1_Make_l1_eq tab i' j ns (I modes) (.ptr h0.length 0 2 0) (.ptr (h0.length + 1) 0 2 0) (I n) h) ?_
    obtain ⟨k, hk⟩ : ∃ k, gi zs n = k := ⟨_, rfl⟩
    have hl0 := w.ext.len
    have hlo := w.lon
    have r6 := w.r6
    have r7 := w.r7
    have ex := w.ext
    have htk : zs.take (n + 1) = zs.take n ++ [k] := by
      rw [List.take_add_one, show zs[n]? = some k by
        have := gi_some (xs := zs) (i := (n : Int)) (by omega) (by omega)
        rw [hk] at this; simpa using this]
      rfl
    simp -implicitDefEqProofs (disch := first | assumption | omega | (simp only [gL] <;> omega) | ((repeat (first | exact Ext.refl _ | assumption | apply Ext.app | apply Ext.mk | (refine Ext.setr ?_ (by (first | omega | (simp only [gL] <;> omega))) _))); done) | (simp only [gL, gA, hns.lenG, hns.idxG, hns.ld0, hk, encI, r7] <;> omega) | fail) only [gB, setAll, partL, fldV, reduceIte, Nat.reduceAdd, Nat.reduceMul, hns.lenG, hns.idxG, hns.ld0, hk, encI, r7]
    refine WP.call (within_spec (by omega) (by unfold Fit; omega) _) ?_
    rintro _ _ ⟨rfl, rfl⟩
    simp -implicitDefEqProofs (disch := first | assumption | omega | (simp only [gL] <;> omega) | ((repeat (first | exact Ext.refl _ | assumption | apply Ext.app | apply Ext.mk | (refine Ext.setr ?_ (by (first | omega | (simp only [gL] <;> omega))) _))); done) | (simp only [gL, gA, r7] <;> omega) | fail) only [gB, setAll, partL, fldV, reduceIte, Nat.reduceAdd, Nat.reduceMul, r7]
    refine WP.call (within_spec (by omega) (by unfold Fit; omega) _) ?_
    rintro _ _ ⟨rfl, rfl⟩
    refine WP.call (within_spec (by omega) (by unfold Fit; omega) _) ?_
    rintro _ _ ⟨rfl, rfl⟩
    refine WP.call (within_spec (by omega) (by unfold Fit; omega) _) ?_
    rintro _ _ ⟨rfl, rfl⟩
    simp -implicitDefEqProofs (disch := first | assumption | omega | (simp only [gL] <;> omega) | ((repeat (first | exact Ext.refl _ | assumption | apply Ext.app | apply Ext.mk | (refine Ext.setr ?_ (by (first | omega | (simp only [gL] <;> omega))) _))); done) | (simp only [gL, gA] <;> omega) | fail) only [gB, setAll, partL, fldV, reduceIte, Nat.reduceAdd, Nat.reduceMul]
    refine WP.call (within_spec (by omega) (by unfold Fit; omega) _) ?_
    rintro _ _ ⟨rfl, rfl⟩
    have hb : ∀ x y z t : Int, MkI h0 (mkN size) ((zs.take n).map (mkEdge (mkN size) modes)) ((h ++ [AObj.cells ⟨[I 0, I 0, I 0, I 0], 0, 0, false⟩]).set h.length (.cells ⟨encE ⟨x, y, z, t⟩, 0, 0, false⟩)) s h.length := by
      intro x y z t
      refine ⟨by ((repeat (first | exact Ext.refl _ | assumption | apply Ext.app | apply Ext.mk | (refine Ext.setr ?_ (by (first | omega | (simp only [gL] <;> omega))) _)))), ?_, ?_, (w.gr.app _).set (by omega) _, by simp, hlo⟩
      · rw [get_set_ne (by omega), get_app_l (by omega)]; exact r6
      · rw [get_set_ne (by omega), get_app_l (by omega)]; exact r7
    have fin : ∀ (h' : Heap) (e : E), MkI h0 (mkN size) ((zs.take n).map (mkEdge (mkN size) modes)) h' s h.length → h'[h.length]? = some (.cells ⟨encE e, 0, 0, false⟩) →
        { e with co := if k % 31 = 0 then 2147483647 - IntKind.i64.wrap (k.tdiv 31) % 3 else e.co } = mkEdge (mkN size) modes k →
        WP (fun p : Nat × Nat => milestonelaw1_Make_b2 tab p.1 p.2 ns (I modes) (.ptr h0.length 0 2 0) (.ptr (h0.length + 1) 0 2 0) (I n) (I k) (.ptr h.length 0 4 0) h') Q := by
      intro h' e w' he hee
      refine make_b2 (n := n) (xs := (zs.take n).map (mkEdge (mkN size) modes)) (by simp; omega) (by omega) (fun h'' s' w'' => ?_) w' he
      rw [hee] at w''
      refine ih (n + 1) h'' s' (by rw [List.length_take]; omega) ?_
      rw [htk, List.map_append]
      exact w''
    have rd : ∀ x : AObj, ((h ++ [AObj.cells ⟨[I 0, I 0, I 0, I 0], 0, 0, false⟩]).set h.length x)[h.length]? = some x := fun x => get_set_eq (by simp)
    have q1 := Int.emod_nonneg k (show mkN size ≠ 0 by omega)
    have q2 := Int.emod_lt_of_pos k (show 0 < mkN size by omega)
    have q3 := Int.emod_nonneg (IntKind.i64.wrap (k.tdiv 13)) (show mkN size ≠ 0 by omega)
    have q4 := Int.emod_lt_of_pos (IntKind.i64.wrap (k.tdiv 13)) (show 0 < mkN size by omega)
    by_cases hm0 : modes % 3 = 0
    · simp -implicitDefEqProofs (disch := first | assumption | omega | (simp only [gL] <;> omega) | ((repeat (first | exact Ext.refl _ | assumption | apply Ext.app | apply Ext.mk | (refine Ext.setr ?_ (by (first | omega | (simp only [gL] <;> omega))) _))); done) | (simp only [gL, gA] <;> omega) | fail) only [gB, setAll, partL, fldV, reduceIte, Nat.reduceAdd, Nat.reduceMul]
      refine WP.call (within_spec (by omega) (by unfold Fit; omega) _) ?_
      rintro _ _ ⟨rfl, rfl⟩
      simp -implicitDefEqProofs (disch := first | assumption | omega | (simp only [gL] <;> omega) | ((repeat (first | exact Ext.refl _ | assumption | apply Ext.app | apply Ext.mk | (refine Ext.setr ?_ (by (first | omega | (simp only [gL] <;> omega))) _))); done) | (simp only [gL, gA] <;> omega) | fail) only [gB, setAll, partL, fldV, reduceIte, Nat.reduceAdd, Nat.reduceMul]
      refine fin _ ⟨k % mkN size, IntKind.i64.wrap (k.tdiv 13) % mkN size, (k % mkN size + IntKind.i64.wrap (k.tdiv 13) % mkN size) % 2, IntKind.i64.wrap (k.tdiv 900) % 9⟩ ?_ ?_ ?_
      · exact ⟨(hb _ _ _ _).ext.setr (by omega) _, by rw [get_set_ne (by omega)]; exact (hb _ _ _ _).r6, by rw [get_set_ne (by omega)]; exact (hb _ _ _ _).r7, (hb _ _ _ _).gr.set (by omega) _, by simp, hlo⟩
      · rw [get_set_eq (by simp)]; rfl
      · simp [mkEdge, hm0]
    · simp -implicitDefEqProofs (disch := first | assumption | omega | (simp only [gL] <;> omega) | ((repeat (first | exact Ext.refl _ | assumption | apply Ext.app | apply Ext.mk | (refine Ext.setr ?_ (by (first | omega | (simp only [gL] <;> omega))) _))); done) | (simp only [gL, gA] <;> omega) | fail) only [gB, setAll, partL, fldV, reduceIte, Nat.reduceAdd, Nat.reduceMul]
      refine WP.call (within_spec (by omega) (by unfold Fit; omega) _) ?_
      rintro _ _ ⟨rfl, rfl⟩
      by_cases hm1 : modes % 3 = 1
      · simp -implicitDefEqProofs (disch := first | assumption | omega | (simp only [gL] <;> omega) | ((repeat (first | exact Ext.refl _ | assumption | apply Ext.app | apply Ext.mk | (refine Ext.setr ?_ (by (first | omega | (simp only [gL] <;> omega))) _))); done) | (simp only [gL, gA] <;> omega) | fail) only [gB, setAll, partL, fldV, reduceIte, Nat.reduceAdd, Nat.reduceMul]
        refine WP.call (within_spec (by omega) (by unfold Fit; omega) _) ?_
        rintro _ _ ⟨rfl, rfl⟩
        simp -implicitDefEqProofs (disch := first | assumption | omega | (simp only [gL] <;> omega) | ((repeat (first | exact Ext.refl _ | assumption | apply Ext.app | apply Ext.mk | (refine Ext.setr ?_ (by (first | omega | (simp only [gL] <;> omega))) _))); done) | (simp only [gL, gA] <;> omega) | fail) only [gB, setAll, partL, fldV, reduceIte, Nat.reduceAdd, Nat.reduceMul]
        refine fin _ ⟨k % mkN size, IntKind.i64.wrap (k.tdiv 13) % mkN size, IntKind.i64.wrap (IntKind.i64.wrap (k.tdiv 170) % 5 * (k % mkN size)) % 3, IntKind.i64.wrap (k.tdiv 900) % 9⟩ ?_ ?_ ?_
        · exact ⟨(hb _ _ _ _).ext.setr (by omega) _, by rw [get_set_ne (by omega)]; exact (hb _ _ _ _).r6, by rw [get_set_ne (by omega)]; exact (hb _ _ _ _).r7, (hb _ _ _ _).gr.set (by omega) _, by simp, hlo⟩
        · rw [get_set_eq (by simp)]; rfl
        · simp [mkEdge, hm1]
      · simp -implicitDefEqProofs (disch := first | assumption | omega | (simp only [gL] <;> omega) | ((repeat (first | exact Ext.refl _ | assumption | apply Ext.app | apply Ext.mk | (refine Ext.setr ?_ (by (first | omega | (simp only [gL] <;> omega))) _))); done) | (simp only [gL, gA] <;> omega) | fail) only [gB, setAll, partL, fldV, reduceIte, Nat.reduceAdd, Nat.reduceMul]
        refine fin _ ⟨k % mkN size, IntKind.i64.wrap (k.tdiv 13) % mkN size, IntKind.i64.wrap (k.tdiv 170) % 5, IntKind.i64.wrap (k.tdiv 900) % 9⟩ ?_ ?_ ?_
        · exact hb _ _ _ _
        · rw [get_set_eq (by simp)]; rfl
        · simp [mkEdge, hm0, hm1]

theorem make_spec {h : Heap} {size modes : Int} {ns : AV} {zs : List Int} (hns : Sl h 1 ns (zs.map encI)) :
    Tot tab f_milestonelaw1_Make [I size, ns, I modes] h fun r h' => Ext h h' ∧ ∃ s, r = .agg [I (mkN size), s] ∧ Gr h.length h'.length h' 4 s ((mkE size zs modes).map encE) := by
  refine WP.tot (fun k => (call_milestonelaw1_Make k _ _ _ h).trans (milestonelaw1_Make_eq tab k _ _ _ h)) ?_
  have hN := mkN_range size
  simp -implicitDefEqProofs (disch := first | assumption | omega | (simp only [gL] <;> omega) | ((repeat (first | exact Ext.refl _ | assumption | apply Ext.app | apply Ext.mk | (refine Ext.setr ?_ (by (first | omega | (simp only [gL] <;> omega))) _))); done) | (simp only [gL, gA] <;> omega) | fail) only [gB, setAll, partL, fldV, reduceIte, Nat.reduceAdd, Nat.reduceMul]
  refine WP.call (within_spec (by omega) (by unfold Fit; omega) _) ?_
  rintro _ _ ⟨rfl, rfl⟩
  simp -implicitDefEqProofs (disch := first | assumption | omega | (simp only [gL] <;> omega) | ((repeat (first | exact Ext.refl _ | assumption | apply Ext.app | apply Ext.mk | (refine Ext.setr ?_ (by (first | omega | (simp only [gL] <;> omega))) _))); done) | (simp only [gL, gA] <;> omega) | fail) only [gB, setAll, partL, fldV, reduceIte, Nat.reduceAdd, Nat.reduceMul]
  refine WP.ent (make_l1 (size := size) (modes := modes) hns ?_ (zs.take 40).length 0 _ .nils (by omega) ⟨?_, ?_, ?_, Gr.nil .., by simp, by simp⟩) fun i => rfl
  · intro h1 s w h' e g
    exact ⟨e, s, rfl, (g.mono (by omega) (Nat.le_refl _)).low _ (Nat.le_refl _)⟩
  · ((repeat (first | exact Ext.refl _ | assumption | apply Ext.app | apply Ext.mk | (refine Ext.setr ?_ (by (first | omega | (simp only [gL] <;> omega))) _))))
  · rw [get_set_ne (by omega), get_app_l (by simp), get_app_r (by omega)]; simp
  · rw [get_set_eq (by simp)]; rfl
end Go.Gm.A9
