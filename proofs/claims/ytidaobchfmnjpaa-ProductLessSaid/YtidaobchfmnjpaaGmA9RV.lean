/- A part of the proof (GmA9RV): an abstract machine, what it does, and what the functions of the program come to on it. -/
import Derived.Test.YtidaobchfmnjpaaGmA9U
set_option linter.unusedVariables false
set_option linter.unusedSimpArgs false
set_option linter.unusedSectionVars false
namespace Go.Gm.A9
open Go Go.Gm
/-! ### The other way about -/
theorem rev_gi {xs : List Int} {k : Int} (h0 : 0 ≤ k) (h1 : k < xs.length) : gi xs.reverse k = gi xs (xs.length - 1 - k) := by
  obtain ⟨i, rfl⟩ : ∃ i : Nat, k = i := ⟨k.toNat, by omega⟩
  rw [gi_nat (by simpa using h1), List.getElem_reverse]
  have := gi_nat (xs := xs) (n := xs.length - 1 - i) (by omega)
  rw [← this]
  congr 1
  omega
theorem rev_l1 {lo hi : Nat} {hb : Heap} {s : AV} {xs : List Int} (hl : xs.length ≤ 1000000) : ∀ (d : Nat) (i j : Int) (h : Heap) (ys : List Int), j - i < d → 0 ≤ i → i + j = xs.length - 1 → ys.length = xs.length → Fr lo hi hb h → Gr lo hi h 1 s (ys.map encI) →
    (∀ k : Int, 0 ≤ k → k < xs.length → gi ys k = if i ≤ k ∧ k ≤ j then gi xs k else gi xs (xs.length - 1 - k)) →
    WP (fun p : Nat × Nat => slices_Reverse_int_l1 tab p.1 p.2 s (I i) (I j) h) fun r h' => r = .tup [] ∧ Fr lo hi hb h' ∧ Gr lo hi h' 1 s (xs.reverse.map encI) := by
  have fin : ∀ (i j : Int) (ys : List Int), ¬ i < j → 0 ≤ i → i + j = xs.length - 1 → ys.length = xs.length → (∀ k : Int, 0 ≤ k → k < xs.length → gi ys k = if i ≤ k ∧ k ≤ j then gi xs k else gi xs (xs.length - 1 - k)) → ys = xs.reverse := by
    intro i j ys hij h0 hs hy hk
    apply List.ext_getElem (by simpa using hy)
    intro k k1 k2
    have a1 := hk k (by omega) (by omega)
    have a2 := rev_gi (xs := xs) (k := (k : Int)) (by omega) (by omega)
    rw [gi_nat k1] at a1
    rw [gi_nat k2] at a2
    rw [a1, a2]
    split
    · rw [show (xs.length : Int) - 1 - k = k by omega]
    · rfl
  intro d
  induction d with
  | zero =>
    intro i j h ys hd h0 hs hy f g hk
    refine WP.rnd (fun i' j' => slices_Reverse_int_l1_eq tab i' j' s (I i) (I j) h) ?_
    have hij : ¬ i < j := by omega
    simp -implicitDefEqProofs (maxSteps := 1000000) (disch := first | assumption | omega | (simp only [gL] <;> omega) | ((repeat (first | exact Ext.refl _ | assumption | apply Ext.app | apply Ext.mk | (refine Ext.setr ?_ (by (first | omega | (simp only [gL] <;> omega))) _))); done) | (simp only [gL, gA] <;> omega) | fail) only [gB, setAll, partL, fldV, reduceIte, Nat.reduceAdd, Nat.reduceMul]
    exact WP.ret ⟨rfl, f, g.cong (by rw [fin i j ys hij h0 hs hy hk])⟩
  | succ d ih =>
    intro i j h ys hd h0 hs hy f g hk
    refine WP.rnd (fun i' j' => slices_Reverse_int_l1_eq tab i' j' s (I i) (I j) h) ?_
    by_cases hij : i < j
    · obtain ⟨a, ha⟩ : ∃ a, gi ys i = a := ⟨_, rfl⟩
      obtain ⟨b, hb⟩ : ∃ b, gi ys j = b := ⟨_, rfl⟩
      obtain ⟨h2, s2, g2, f2, l2⟩ := g.write0 (i := i) (v := I b) h0 (by rw [List.length_map]; omega) rfl rfl
      obtain ⟨h3, s3, g3, f3, l3⟩ := g2.write0 (i := j) (v := I a) (by omega) (by rw [List.length_set, List.length_map]; omega) rfl rfl
      have gs := g.sl
      simp -implicitDefEqProofs (maxSteps := 1000000) (disch := first | assumption | omega | (simp only [gL] <;> omega) | ((repeat (first | exact Ext.refl _ | assumption | apply Ext.app | apply Ext.mk | (refine Ext.setr ?_ (by (first | omega | (simp only [gL] <;> omega))) _))); done) | (simp only [gL, gA, gs.idxG, gs.ld0, ha, hb, encI, s2, s3] <;> omega) | fail) only [gB, setAll, partL, fldV, reduceIte, Nat.reduceAdd, Nat.reduceMul, gs.idxG, gs.ld0, ha, hb, encI, s2, s3]
      have e1 : ((ys.map encI).set i.toNat (I b).cells).set j.toNat (I a).cells = ((ys.set i.toNat b).set j.toNat a).map encI := by
        rw [List.map_set, List.map_set]; rfl
      rw [e1] at g3
      refine ih (i + 1) (j - 1) h3 _ (by omega) (by omega) (by omega) (by simpa using hy) ((f.trans f2).trans f3) g3 fun k k0 k1 => ?_
      rw [gi_set' (by omega) (by simp; omega) k0, gi_set' h0 (by omega) k0]
      have hi := hk i h0 (by omega)
      have hj := hk j (by omega) (by omega)
      rw [if_pos ⟨by omega, by omega⟩, ha] at hi
      rw [if_pos ⟨by omega, by omega⟩, hb] at hj
      by_cases q1 : k = j
      · rw [if_pos q1, if_neg (by omega), hi]; congr 1; omega
      · rw [if_neg q1]
        by_cases q2 : k = i
        · rw [if_pos q2, if_neg (by omega), hj]; congr 1; omega
        · rw [if_neg q2, hk k k0 k1]
          by_cases q3 : i ≤ k ∧ k ≤ j
          · rw [if_pos q3, if_pos ⟨by omega, by omega⟩]
          · rw [if_neg q3, if_neg (by omega)]
    · simp -implicitDefEqProofs (maxSteps := 1000000) (disch := first | assumption | omega | (simp only [gL] <;> omega) | ((repeat (first | exact Ext.refl _ | assumption | apply Ext.app | apply Ext.mk | (refine Ext.setr ?_ (by (first | omega | (simp only [gL] <;> omega))) _))); done) | (simp only [gL, gA] <;> omega) | fail) only [gB, setAll, partL, fldV, reduceIte, Nat.reduceAdd, Nat.reduceMul]
      exact WP.ret ⟨rfl, f, g.cong (by rw [fin i j ys hij h0 hs hy hk])⟩
theorem rev_spec {lo hi : Nat} {h : Heap} {s : AV} {xs : List Int} (hl : xs.length ≤ 1000000) (g : Gr lo hi h 1 s (xs.map encI)) : Tot tab f_slices_Reverse_int [s] h fun r h' => r = .tup [] ∧ Fr lo hi h h' ∧ Gr lo hi h' 1 s (xs.reverse.map encI) := by
  refine WP.tot (fun k => (call_slices_Reverse_int k _ h).trans (slices_Reverse_int_eq tab k _ h)) ?_
  have gs := g.sl
  simp -implicitDefEqProofs (maxSteps := 1000000) (disch := first | assumption | omega | (simp only [gL] <;> omega) | ((repeat (first | exact Ext.refl _ | assumption | apply Ext.app | apply Ext.mk | (refine Ext.setr ?_ (by (first | omega | (simp only [gL] <;> omega))) _))); done) | (simp only [gL, gA, gs.lenG] <;> omega) | fail) only [gB, setAll, partL, fldV, reduceIte, Nat.reduceAdd, Nat.reduceMul, gs.lenG]
  exact WP.ent (rev_l1 hl (xs.length + 1) 0 (xs.length - 1) h xs (by omega) (by omega) (by omega) rfl (Fr.refl _ _ _) g fun k k0 k1 => by rw [if_pos ⟨by omega, by omega⟩]) fun i => rfl
/-! ### The edges by which a spot was found -/
section
variable {h0 h : Heap} {g : AV} {N : Nat} {es : List E} {D : List (List Int)} {acc : List Bool}
theorem edges_l1 {W : Nat → Prop} {hb : Heap} {os oc oe ov n : Nat} {fh q sc se sf : AV} {cs ds fs : List Int} {M : List (Option Int)} {ls : Int} {A : Nat → List Hop} {st : Nat → Prop} {id0 k : Nat} {rk : Nat → Nat}
    (hn2 : n ≤ 1000000) (hW : ∀ o, W o → o < hb.length) (w0 : SW W hb os g fh q sc se sf oc oe ov n cs ds fs M ls) (di : DI n 2147483647 A st id0 [] (gf cs) (gf M) (gf ds) (gf fs) rk k) {x0 : Nat} {Q : AV → Heap → Prop} {k0 : Nat} (hk0 : k ≤ k0) (hk1 : k0 ≤ 1000000)
    (hQ : ∀ (l : List Nat) (h' : Heap) (out' : AV), Ext hb h' → Gr hb.length h'.length h' 1 out' ((l.reverse.map fun (e : Nat) => (e : Int)).map encI) → l.length ≤ 1000000 → Wk A st x0 l (gf cs x0) → WP (fun i : Nat => product_search_edges_b2 tab i out' h') Q) :
    ∀ (d x : Nat) (h : Heap) (out : AV) (l : List Nat), rk x < d → d + l.length ≤ k0 + 1 → x < n → 0 ≤ gf cs x → Ext hb h → Gr hb.length h.length h 1 out ((l.reverse.map fun (e : Nat) => (e : Int)).map encI) → (∀ l', Wk A st x l' (gf cs x) → Wk A st x0 (l' ++ l) (gf cs x0)) →
      WP (fun p : Nat × Nat => product_search_edges_l1 tab p.1 p.2 (.ptr os 0 7 0) (I x) out h) Q := by
  intro d
  induction d with
  | zero => intro x h out l h1; omega
  | succ d ih =>
    intro x h out l h1 h2 hx hc e gr hw
    refine WP.rnd (fun i j => product_search_edges_l1_eq tab i j (.ptr os 0 7 0) (I x) out h) ?_
    have w := w0.ext e
    have ro := w.row
    have lf := w.lf
    have le := w.le
    have gfs := w.gf.sl
    have ges := w.ge.sl
    rcases di.par x hx (gf cs x) (.inl ⟨hc, rfl⟩) with ⟨p1, p2, p3⟩ | ⟨y, v, y1, y2, y3, y4, y5, y6, y7⟩
    · have p1' : gi fs (x : Int) = -1 := p1
      simp -implicitDefEqProofs (maxSteps := 1000000) (disch := first | assumption | omega | (simp only [gL] <;> omega) | ((repeat (first | exact Ext.refl _ | assumption | apply Ext.app | apply Ext.mk | (refine Ext.setr ?_ (by (first | omega | (simp only [gL] <;> omega))) _))); done) | (simp only [gL, gA, ro, gfs.idxG, gfs.ld0, encI, p1'] <;> omega) | fail) only [gB, setAll, partL, fldV, reduceIte, Nat.reduceAdd, Nat.reduceMul, ro, gfs.idxG, gfs.ld0, encI, p1']
      refine WP.lv (hQ l h out e gr (by omega) ?_) fun i j => rfl
      have := hw [] (by rw [p3]; exact .nil p2)
      simpa using this
    · have y2' : gi fs (x : Int) = y := y2
      obtain ⟨e1, he1⟩ : ∃ e1 : Nat, gi ds (x : Int) = e1 := ⟨(gi ds (x : Int)).toNat, by have : 0 ≤ gi ds (x : Int) := y4; omega⟩
      have hlb := e.len
      obtain ⟨s', h', q1, q2, q3⟩ := Gr.append1 (bytes := 8) gr (v := [I e1]) rfl (by omega) (by omega) (by simp; omega) (by omega) (by omega)
      rw [mkObj_eq] at q1
      have e' : Ext hb h' := q3.ext e (by omega)
      have w' := w0.ext e'
      have ro' := w'.row
      have gfs' := w'.gf.sl
      simp -implicitDefEqProofs (maxSteps := 1000000) (disch := first | assumption | omega | (simp only [gL] <;> omega) | ((repeat (first | exact Ext.refl _ | assumption | apply Ext.app | apply Ext.mk | (refine Ext.setr ?_ (by (first | omega | (simp only [gL] <;> omega))) _))); done) | (simp only [gL, gA, ro, gfs.idxG, gfs.ld0, ges.idxG, ges.ld0, encI, y2', he1, q1, ro', gfs'.idxG, gfs'.ld0] <;> omega) | fail) only [gB, setAll, partL, fldV, reduceIte, Nat.reduceAdd, Nat.reduceMul, ro, gfs.idxG, gfs.ld0, ges.idxG, ges.ld0, encI, y2', he1, q1, ro', gfs'.idxG, gfs'.ld0]
      have hr := y7 hc
      refine ih y h' s' (e1 :: l) (by omega) (by simp; omega) y1 y3 e' (q2.cong (by simp [encI])) fun l' hl' => ?_
      have := hw (l' ++ [e1]) (by
        rw [y6]
        refine .snoc hl' ?_
        have he2 : gf ds x = (e1 : Int) := he1
        rw [he2, Int.toNat_natCast] at y5
        exact y5)
      simpa using this
theorem edges_spec {W : Nat → Prop} {os oc oe ov n : Nat} {fh q sc se sf : AV} {cs ds fs : List Int} {M : List (Option Int)} {ls : Int} {A : Nat → List Hop} {st : Nat → Prop} {id0 k : Nat} {rk : Nat → Nat}
    (hn2 : n ≤ 1000000) (w : SW W h os g fh q sc se sf oc oe ov n cs ds fs M ls) (di : DI n 2147483647 A st id0 [] (gf cs) (gf M) (gf ds) (gf fs) rk k) (hk : k ≤ n) {x : Nat} (hx : x < n) (hc : 0 ≤ gf cs x) :
    Tot tab f_product_search_edges [.ptr os 0 7 0, I x] h fun r h' => Ext h h' ∧ ∃ l : List Nat, Wk A st x l (gf cs x) ∧ l.length ≤ 1000000 ∧ Gr h.length h'.length h' 1 r ((l.map fun (e : Nat) => (e : Int)).map encI) := by
  refine WP.tot (fun k => (call_product_search_edges k _ _ h).trans (product_search_edges_eq tab k _ _ h)) ?_
  have hr := di.rk x hx hc
  refine WP.ent (edges_l1 (x0 := x) (k0 := n) (k := k) hn2 (W := fun o => W o ∧ o < h.length) (fun o z => z.2) (w.mono fun o z1 z2 => ⟨z2, z1⟩) di hk (by omega) (fun l h2 out e2 g2 hl hw => ?_) (rk x + 1) x h .nils [] (by omega) (by simp; omega) hx hc (Ext.refl _) (Gr.nil ..) fun l' hl' => by simpa using hl') fun i => rfl
  refine WP.congr (fun i => product_search_edges_b2_eq tab i out h2) ?_
  refine WP.call (rev_spec (by simpa using hl) g2) ?_
  rintro _ h3 ⟨rfl, f3, g3⟩
  have e3 : Ext h h3 := f3.ext e2 (Nat.le_refl _)
  refine WP.call (clone_spec g3.sl (by simpa using (show l.length ≤ 10000000 by omega))) ?_
  rintro r h4 ⟨e4, g4⟩
  refine WP.ret ⟨e3.trans e4, l, hw, hl, (g4.mono e3.len (Nat.le_refl _)).cong ?_⟩
  rw [← List.map_reverse, List.reverse_reverse]
end
end Go.Gm.A9
