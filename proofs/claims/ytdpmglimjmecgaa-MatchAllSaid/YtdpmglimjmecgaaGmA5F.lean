/- A part of the proof: GmA5F: an abstract machine, what it does, and what the functions of the program come to on it. -/
import Derived.Test.YtdpmglimjmecgaaGmA5E
import Derived.Test.YtdpmglimjmecgaaGmWd
set_option linter.unusedVariables false
set_option linter.unusedSimpArgs false
namespace Go.Gm.A5
open Go Go.Gm

/-- Words in a row of rows (X: rows that are still written to). -/
def WV (h : Heap) (rows : List AV) (ws : List (List Int)) (X : Nat → Prop) : Prop :=
  rows.length = ws.length ∧ ∀ (i : Nat) r w, rows[i]? = some r → ws[i]? = some w → Sl h 1 r (w.map encI) ∧ (r ≠ .nils → ¬ X r.obj)
theorem WV.frs {h h' : Heap} {rows : List AV} {ws : List (List Int)} {X X2 D : Nat → Prop} (a : WV h rows ws X) (f : FrS D h h') (hD : ∀ o, D o → X o) (hX : ∀ o, o < h.length → X2 o → X o) : WV h' rows ws X2 := by
  refine ⟨a.1, fun i r w h1 h2 => ?_⟩
  obtain ⟨k1, k2⟩ := a.2 i r w h1 h2
  exact ⟨Sl.frs k1 f fun q d => k2 q (hD _ d), fun q d => k2 q (hX _ (k1.objLt q) d)⟩
theorem WV.snoc {h : Heap} {rows : List AV} {ws : List (List Int)} {X : Nat → Prop} (a : WV h rows ws X) {r : AV} {w : List Int} (hr : Sl h 1 r (w.map encI)) (hX : r ≠ .nils → ¬ X r.obj) : WV h (rows ++ [r]) (ws ++ [w]) X := by
  refine ⟨by simp [a.1], fun i r' w' h1 h2 => ?_⟩
  have hl := a.1
  by_cases hi : i < rows.length
  · rw [List.getElem?_append_left hi] at h1
    rw [List.getElem?_append_left (by omega)] at h2
    exact a.2 i r' w' h1 h2
  · have : i = rows.length := by
      have := (List.getElem?_eq_some_iff.1 h1).1
      simp at this; omega
    subst this
    rw [List.getElem?_append_right (Nat.le_refl _)] at h1
    rw [hl, List.getElem?_append_right (Nat.le_refl _)] at h2
    simp at h1 h2
    subst h1 h2
    exact ⟨hr, hX⟩
theorem cloneI_spec {h : Heap} {s : AV} {xs : List (List AV)} (hs : Sl h 1 s xs) (hl : xs.length ≤ 10000000) :
    Tot tab f_slices_Clone_int [s] h fun r h' => Ext h h' ∧ Gr h.length h'.length h' 1 r xs := by
  refine WP.tot (fun k => (call_slices_Clone_int k _ h).trans (slices_Clone_int_eq tab k _ h)) ?_
  have hs' := hs
  rcases hs with ⟨rfl, rfl⟩ | ⟨o, off, lim, g, c, rfl, _⟩
  · simp -implicitDefEqProofs (disch := first | assumption | omega | (simp -implicitDefEqProofs only [gL] <;> omega) | ((repeat (first | exact Ext.refl _ | assumption | apply Ext.app | apply Ext.mk | (refine Ext.setr ?_ (by (first | omega | (simp -implicitDefEqProofs only [gL] <;> omega))) _))); done) | (simp -implicitDefEqProofs only [gL, gA] <;> omega) | fail) only [gB, setAll, partL, fldV, reduceIte, Nat.reduceAdd, Nat.reduceMul]
    exact WP.ret ⟨Ext.refl _, Gr.nil ..⟩
  · obtain ⟨s', h', h1, h2, h3⟩ := clone_i (bytes := 8) hs' (by omega) (by omega) (by omega)
    rw [mkObj_eq] at h1
    simp -implicitDefEqProofs (disch := first | assumption | omega | (simp -implicitDefEqProofs only [gL] <;> omega) | ((repeat (first | exact Ext.refl _ | assumption | apply Ext.app | apply Ext.mk | (refine Ext.setr ?_ (by (first | omega | (simp -implicitDefEqProofs only [gL] <;> omega))) _))); done) | (simp -implicitDefEqProofs only [gL, gA, h1] <;> omega) | fail) only [gB, setAll, partL, fldV, reduceIte, Nat.reduceAdd, Nat.reduceMul, h1]
    exact WP.ret ⟨h3, h2⟩
theorem cloneII_spec {h : Heap} {s : AV} {xs : List (List AV)} (hs : Sl h 1 s xs) (hl : xs.length ≤ 5000000) :
    Tot tab f_slices_Clone_int_int [s] h fun r h' => Ext h h' ∧ Gr h.length h'.length h' 1 r xs := by
  refine WP.tot (fun k => (call_slices_Clone_int_int k _ h).trans (slices_Clone_int_int_eq tab k _ h)) ?_
  have hs' := hs
  rcases hs with ⟨rfl, rfl⟩ | ⟨o, off, lim, g, c, rfl, _⟩
  · simp -implicitDefEqProofs (disch := first | assumption | omega | (simp -implicitDefEqProofs only [gL] <;> omega) | ((repeat (first | exact Ext.refl _ | assumption | apply Ext.app | apply Ext.mk | (refine Ext.setr ?_ (by (first | omega | (simp -implicitDefEqProofs only [gL] <;> omega))) _))); done) | (simp -implicitDefEqProofs only [gL, gA] <;> omega) | fail) only [gB, setAll, partL, fldV, reduceIte, Nat.reduceAdd, Nat.reduceMul]
    exact WP.ret ⟨Ext.refl _, Gr.nil ..⟩
  · obtain ⟨s', h', h1, h2, h3⟩ := clone_i (bytes := 24) hs' (by omega) (by omega) (by omega)
    rw [mkObj_eq] at h1
    simp -implicitDefEqProofs (disch := first | assumption | omega | (simp -implicitDefEqProofs only [gL] <;> omega) | ((repeat (first | exact Ext.refl _ | assumption | apply Ext.app | apply Ext.mk | (refine Ext.setr ?_ (by (first | omega | (simp -implicitDefEqProofs only [gL] <;> omega))) _))); done) | (simp -implicitDefEqProofs only [gL, gA, h1] <;> omega) | fail) only [gB, setAll, partL, fldV, reduceIte, Nat.reduceAdd, Nat.reduceMul, h1]
    exact WP.ret ⟨h3, h2⟩
/-- Every mode behind a word. -/
theorem words_l3 {n2 out t13 t14 t16 t17 t18 w : AV} {v : List Int} {Y : Nat → Prop} {Q : AV → Heap → Prop} {H0 : Heap} (hw : Sl H0 1 w (v.map encI)) (hv : v.length ≤ 1000) (hY : ∀ o, Y o → o < H0.length) {lg0 : Nat} {long0 : AV} (hlg0 : long0 ≠ .nils → lg0 < H0.length)
    (hwl : w ≠ .nils → long0 ≠ .nils → w.obj ≠ lg0) {ws0 : List (List Int)} (hws : ws0.length ≤ 100000)
    (hc : ∀ (long : AV) (lg : Nat) (rows : List AV) (H : Heap), Gr lg (lg + 1) H 1 long (rows.map enc1) → (long ≠ .nils → lg < H.length ∧ ((lg = lg0 ∧ long0 ≠ .nils) ∨ H0.length ≤ lg)) → WV H rows (ws0 ++ ([0, 1, 2, 3, 4].map fun (k : Int) => v ++ [k])) (fun o => Y o ∨ (long ≠ .nils ∧ o = lg)) → FrS (fun o => long0 ≠ .nils ∧ o = lg0) H0 H →
      WP (fun p : (Nat × Nat) × Nat => oa (binV .add .scalar t18 (.int .i64 1)) fun t42 => match_Words_l2 tab p.1.1 p.1.2 p.2 n2 out long t13 t14 t16 t17 t42 H) Q) :
    ∀ (d i : Nat) (long : AV) (lg : Nat) (rows : List AV) (H : Heap), i + d = 5 → Gr lg (lg + 1) H 1 long (rows.map enc1) → (long ≠ .nils → lg < H.length ∧ ((lg = lg0 ∧ long0 ≠ .nils) ∨ H0.length ≤ lg)) → WV H rows (ws0 ++ ([0, 1, 2, 3, 4].take i).map fun (k : Int) => v ++ [k]) (fun o => Y o ∨ (long ≠ .nils ∧ o = lg)) → FrS (fun o => long0 ≠ .nils ∧ o = lg0) H0 H →
      WP (fun p : ((Nat × Nat) × Nat) × Nat => match_Words_l3 tab p.1.1.1 p.1.1.2 p.1.2 p.2 n2 out long w t13 t14 t16 t17 t18 (I i) H) Q := by
  intro d
  induction d with
  | zero =>
    intro i long lg rows H h1 gl hl wv fr
    refine WP.rnd (fun i' j => match_Words_l3_eq tab i'.1.1 i'.1.2 i'.2 j n2 out long w t13 t14 t16 t17 t18 (I i) H) ?_
    simp -implicitDefEqProofs (disch := first | assumption | omega | (simp -implicitDefEqProofs only [gL] <;> omega) | ((repeat (first | exact Ext.refl _ | assumption | apply Ext.app | apply Ext.mk | (refine Ext.setr ?_ (by (first | omega | (simp -implicitDefEqProofs only [gL] <;> omega))) _))); done) | (simp -implicitDefEqProofs only [gL, gA] <;> omega) | fail) only [gB, setAll, partL, fldV, reduceIte, Nat.reduceAdd, Nat.reduceMul]
    obtain rfl : i = 5 := by omega
    exact WP.lv (hc long lg rows H gl hl wv fr) fun i j => rfl
  | succ d ih =>
    intro i long lg rows H h1 gl hl wv fr
    refine WP.rnd (fun i' j => match_Words_l3_eq tab i'.1.1 i'.1.2 i'.2 j n2 out long w t13 t14 t16 t17 t18 (I i) H) ?_
    have hw' := Sl.frs hw fr fun q d => hwl q d.1 d.2
    have hfl := fr.len
    simp -implicitDefEqProofs (disch := first | assumption | omega | (simp -implicitDefEqProofs only [gL] <;> omega) | ((repeat (first | exact Ext.refl _ | assumption | apply Ext.app | apply Ext.mk | (refine Ext.setr ?_ (by (first | omega | (simp -implicitDefEqProofs only [gL] <;> omega))) _))); done) | (simp -implicitDefEqProofs only [gL, gA] <;> omega) | fail) only [gB, setAll, partL, fldV, reduceIte, Nat.reduceAdd, Nat.reduceMul]
    refine WP.call (cloneI_spec hw' (by rw [List.length_map]; omega)) ?_
    rintro r H1 ⟨e1, g1⟩
    have hl1 := e1.len
    obtain ⟨s', H2, u1, u2, u3⟩ := g1.append1 (bytes := 8) (v := [I i]) rfl (by omega) (by omega) (by rw [List.length_map]; omega) hl1 (Nat.le_refl _)
    have hl2 := u3.len
    have u1' := u1
    rw [mkObj_eq] at u1'
    have e2 : Ext H H2 := u3.ext e1 (Nat.le_refl _)
    have us := u2.sl.one
    have ucl := u2.sl.cells
    have hrl : rows.length ≤ 100005 := by rw [wv.1]; simp; omega
    have e3 : Ext H (mkObj H2 [s']) := e2.trans (Ext.push H2 _)
    have hl3 : (mkObj H2 [s']).length = H2.length + 1 := by simp [mkObj]
    obtain ⟨long', H4, lg', m1, m2, m3, m4, m5⟩ := Gr.appQ (bytes := 24) (gl.ext e3) (fun q => by have := hl q; omega) (Gr.lit (sz := 1) (v := [s']) rfl).sl (by omega) (by omega) (by rw [List.length_map]; simp; omega)
    have hl4 := m4.len
    have m1' := m1
    rw [mkObj_eq] at m1'
    simp -implicitDefEqProofs (disch := first | assumption | omega | (simp -implicitDefEqProofs only [gL] <;> omega) | ((repeat (first | exact Ext.refl _ | assumption | apply Ext.app | apply Ext.mk | (refine Ext.setr ?_ (by (first | omega | (simp -implicitDefEqProofs only [gL] <;> omega))) _))); done) | (simp -implicitDefEqProofs only [gL, gA, u1', us, ucl, m1'] <;> omega) | fail) only [gB, setAll, partL, fldV, reduceIte, Nat.reduceAdd, Nat.reduceMul, u1', us, ucl, m1']
    have hi5 : i < 5 := by omega
    have htk : ([0, 1, 2, 3, 4] : List Int).take (i + 1) = ([0, 1, 2, 3, 4] : List Int).take i ++ [(i : Int)] := by
      have : i = 0 ∨ i = 1 ∨ i = 2 ∨ i = 3 ∨ i = 4 := by omega
      rcases this with rfl | rfl | rfl | rfl | rfl <;> rfl
    refine ih (i + 1) long' lg' (rows ++ [s']) H4 (by omega) (m2.cong (by simp [enc1])) (fun q => ?_) ?_ ⟨by omega, fun o hD ho => ?_⟩
    · obtain ⟨q1, q2⟩ := m3 q
      refine ⟨q2, ?_⟩
      rcases q1 with ⟨q1, q3⟩ | q1
      · rw [q1]; exact (hl q3).2
      · exact .inr (by omega)
    · rw [htk, List.map_append, ← List.append_assoc]
      have hX2 : ∀ o, o < H.length → (Y o ∨ (long' ≠ .nils ∧ o = lg')) → Y o ∨ (long ≠ .nils ∧ o = lg) := by
        rintro o ho (q | ⟨q1, q2⟩)
        · exact .inl q
        · rcases (m3 q1).1 with ⟨q3, q4⟩ | q3
          · exact .inr ⟨q4, q2.trans q3⟩
          · omega
      have wv3 := wv.frs (D := fun _ => False) (X2 := fun o => Y o ∨ (long ≠ .nils ∧ o = lg)) (FrS.ofExt e3) (fun _ q => q.elim) (fun _ _ q => q)
      have hso : s' ≠ .nils → H.length ≤ s'.obj ∧ s'.obj < H2.length := fun q => ⟨(u2.objIn q).1, u2.sl.objLt q⟩
      refine (wv3.frs m4 (fun o q => .inr q) (fun o ho q => ?_)).snoc (w := v ++ [(i : Int)]) ?_ (fun q q2 => ?_)
      · rcases q with q | ⟨q1, q2⟩
        · exact .inl q
        · rcases (m3 q1).1 with ⟨q3, q4⟩ | q3
          · exact .inr ⟨q4, q2.trans q3⟩
          · omega
      · have := Sl.frs ((u2.sl).ext (Ext.push H2 _)) m4 (fun q d => by have := hso q; have := hl d.1; omega)
        exact this.map (by simp [encI])
      · have a1 := hso q
        rcases q2 with q2 | ⟨q2, q3⟩
        · have := hY _ q2; omega
        · rcases (m3 q2).1 with ⟨q4, q5⟩ | q4
          · have := hl q5; omega
          · omega
    · rw [m4.get (fun q => ?_) (by omega), (ext_iff.1 e3).2 o (by omega), fr.get hD ho]
      have := hl q.1
      rcases this.2 with q3 | q3
      · exact hD ⟨q3.2, q.2.trans q3.1⟩
      · omega
end Go.Gm.A5
