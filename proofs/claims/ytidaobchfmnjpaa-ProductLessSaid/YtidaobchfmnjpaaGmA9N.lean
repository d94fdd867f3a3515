/- A part of the proof (GmA9N): an abstract machine, what it does, and what the functions of the program come to on it. -/
import Derived.Test.YtidaobchfmnjpaaGmA9Q
set_option linter.unusedVariables false
set_option linter.unusedSimpArgs false
set_option linter.unusedSectionVars false
namespace Go.Gm.A9
open Go Go.Gm
theorem gi_set {α : Type} [Inhabited α] {xs : List α} {i j : Int} (h0 : 0 ≤ i) (h1 : i < xs.length) (hj : 0 ≤ j) (x : α) : gi (xs.set i.toNat x) j = if j = i then x else gi xs j := by
  simp only [gi, List.getD_eq_getElem?_getD]
  by_cases h : j = i
  · subst h
    rw [if_pos rfl, List.getElem?_set_self (by omega)]; rfl
  · rw [if_neg h, List.getElem?_set_ne (by omega)]
theorem ints_loop {h : Heap} {a b : AV} {xs ys : List Int} (ha : Sl h 1 a (xs.map encI)) (hb : Sl h 1 b (ys.map encI)) (hn : xs.length ≤ 1000000) (hy : ys.length = xs.length) : ∀ (d : Nat) (i : Int), 0 ≤ i → i + d = xs.length → (∀ k, 0 ≤ k → k < i → gi xs k = gi ys k) →
    WP (fun p : Nat × Nat => milestoneref1_Ints_l1 tab p.1 p.2 a b (I i) h) fun r h' => r = .bool (decide (xs = ys)) ∧ h = h' := by
  intro d
  induction d with
  | zero =>
    intro i h0 h1 h2
    refine WP.rnd (fun i' j => milestoneref1_Ints_l1_eq tab i' j a b (I i) h) ?_
    simp -implicitDefEqProofs (disch := first | assumption | omega | (simp only [gL] <;> omega) | ((repeat (first | exact Ext.refl _ | assumption | apply Ext.app | apply Ext.mk | (refine Ext.setr ?_ (by (first | omega | (simp only [gL] <;> omega))) _))); done) | (simp only [gL, gA, ha.lenG] <;> omega) | fail) only [gB, setAll, partL, fldV, reduceIte, Nat.reduceAdd, Nat.reduceMul, ha.lenG]
    refine WP.ret ⟨?_, rfl⟩
    have : xs = ys := by
      apply List.ext_getElem (by omega)
      intro k k1 k2
      have := h2 k (by omega) (by omega)
      rwa [gi_nat k1, gi_nat k2] at this
    simp [this]
  | succ d ih =>
    intro i h0 h1 h2
    refine WP.rnd (fun i' j => milestoneref1_Ints_l1_eq tab i' j a b (I i) h) ?_
    by_cases hx : gi xs i = gi ys i
    · simp -implicitDefEqProofs (disch := first | assumption | omega | (simp only [gL] <;> omega) | ((repeat (first | exact Ext.refl _ | assumption | apply Ext.app | apply Ext.mk | (refine Ext.setr ?_ (by (first | omega | (simp only [gL] <;> omega))) _))); done) | (simp only [gL, gA, ha.lenG, ha.idxG, ha.ld0, hb.idxG, hb.ld0, encI] <;> omega) | fail) only [gB, setAll, partL, fldV, reduceIte, Nat.reduceAdd, Nat.reduceMul, ha.lenG, ha.idxG, ha.ld0, hb.idxG, hb.ld0, encI]
      refine ih (i + 1) (by omega) (by omega) fun k k0 k1 => ?_
      by_cases hk : k = i
      · subst hk; exact hx
      · exact h2 k k0 (by omega)
    · simp -implicitDefEqProofs (disch := first | assumption | omega | (simp only [gL] <;> omega) | ((repeat (first | exact Ext.refl _ | assumption | apply Ext.app | apply Ext.mk | (refine Ext.setr ?_ (by (first | omega | (simp only [gL] <;> omega))) _))); done) | (simp only [gL, gA, ha.lenG, ha.idxG, ha.ld0, hb.idxG, hb.ld0, encI] <;> omega) | fail) only [gB, setAll, partL, fldV, reduceIte, Nat.reduceAdd, Nat.reduceMul, ha.lenG, ha.idxG, ha.ld0, hb.idxG, hb.ld0, encI]
      have : xs ≠ ys := fun e => hx (by rw [e])
      exact WP.ret ⟨by simp [this], rfl⟩
theorem ints_spec {h : Heap} {a b : AV} {xs ys : List Int} (ha : Sl h 1 a (xs.map encI)) (hb : Sl h 1 b (ys.map encI)) (hn : xs.length ≤ 1000000) :
    Tot tab f_milestoneref1_Ints [a, b] h fun r h' => r = .bool (decide (xs = ys)) ∧ h = h' := by
  refine WP.tot (fun k => (call_milestoneref1_Ints k _ _ h).trans (milestoneref1_Ints_eq tab k _ _ h)) ?_
  by_cases hl : xs.length = ys.length
  · simp -implicitDefEqProofs (disch := first | assumption | omega | (simp only [gL] <;> omega) | ((repeat (first | exact Ext.refl _ | assumption | apply Ext.app | apply Ext.mk | (refine Ext.setr ?_ (by (first | omega | (simp only [gL] <;> omega))) _))); done) | (simp only [gL, gA, ha.lenG, hb.lenG] <;> omega) | fail) only [gB, setAll, partL, fldV, reduceIte, Nat.reduceAdd, Nat.reduceMul, ha.lenG, hb.lenG]
    exact WP.ent (ints_loop ha hb hn hl.symm xs.length 0 (by omega) (by omega) (by omega)) fun i => rfl
  · simp -implicitDefEqProofs (disch := first | assumption | omega | (simp only [gL] <;> omega) | ((repeat (first | exact Ext.refl _ | assumption | apply Ext.app | apply Ext.mk | (refine Ext.setr ?_ (by (first | omega | (simp only [gL] <;> omega))) _))); done) | (simp only [gL, gA, ha.lenG, hb.lenG] <;> omega) | fail) only [gB, setAll, partL, fldV, reduceIte, Nat.reduceAdd, Nat.reduceMul, ha.lenG, hb.lenG]
    have : xs ≠ ys := fun e => hl (by rw [e])
    exact WP.ret ⟨by simp [this], rfl⟩


theorem add_spec {κ : Type} [DecidableEq κ] {W : Nat → Prop} {h : Heap} {A : κ → Prop} {S : κ → AV} {X : κ → List (List AV)} (f : Fam W h 1 A S X) {t1 t2 : κ} (a1 : A t1) (a2 : A t2) (hne : t1 ≠ t2) {q : Nat} (hq : ¬ W q) (hqh : q < h.length) {arr : AV} {L : List (AV × AV)} (g : Gr q (q + 1) h 2 arr (L.map encP))
    {v : Int} (v0 : 0 ≤ v) (v1 : v < L.length) (e1 : (gi L v).1 = S t1) (e2 : (gi L v).2 = S t2) (edge other : Int) (l1 : (X t1).length ≤ 1000000) (l2 : (X t2).length ≤ 1000000) :
    Tot tab f_adj_ends_add [elP 2 arr v, I edge, I other] h fun r h' => ∃ s1 s2, Gr q (q + 1) h' 2 arr ((L.set v.toNat (s1, s2)).map encP) ∧
      Fam (fun o => W o ∨ h.length ≤ o) h' 1 A (fun t => if t = t2 then s2 else if t = t1 then s1 else S t) (fun t => if t = t2 then X t2 ++ [[I other]] else if t = t1 then X t1 ++ [[I edge]] else X t) ∧ FrS (fun o => o = q ∨ W o) h h' := by
  refine WP.tot (fun k => (call_adj_ends_add k _ _ _ h).trans (adj_ends_add_eq tab k _ _ _ h)) ?_
  -- the two new ones
  have b1 : Sl ((h ++ [AObj.cells ⟨[I edge], 0, 0, false⟩]) ++ [AObj.cells ⟨[I other], 0, 0, false⟩]) 1 (.sl h.length 0 1 1 none 0) [[I edge]] := ((Gr.lit (h := h) (sz := 1) (v := [I edge]) rfl).sl).ext (by rw [mkObj_eq]; ((repeat (first | exact Ext.refl _ | assumption | apply Ext.app | apply Ext.mk | (refine Ext.setr ?_ (by (first | omega | (simp only [gL] <;> omega))) _)))))
  have b2 : Sl ((h ++ [AObj.cells ⟨[I edge], 0, 0, false⟩]) ++ [AObj.cells ⟨[I other], 0, 0, false⟩]) 1 (.sl (h.length + 1) 0 1 1 none 0) [[I other]] := by
    have := (Gr.lit (h := h ++ [AObj.cells ⟨[I edge], 0, 0, false⟩]) (sz := 1) (v := [I other]) rfl).sl
    simpa [mkObj_eq] using this
  have ex0 : Ext h (h ++ [AObj.cells ⟨[I edge], 0, 0, false⟩]) := by ((repeat (first | exact Ext.refl _ | assumption | apply Ext.app | apply Ext.mk | (refine Ext.setr ?_ (by (first | omega | (simp only [gL] <;> omega))) _))))
  have ex : Ext h ((h ++ [AObj.cells ⟨[I edge], 0, 0, false⟩]) ++ [AObj.cells ⟨[I other], 0, 0, false⟩]) := by ((repeat (first | exact Ext.refl _ | assumption | apply Ext.app | apply Ext.mk | (refine Ext.setr ?_ (by (first | omega | (simp only [gL] <;> omega))) _))))
  have hl2 : ((h ++ [AObj.cells ⟨[I edge], 0, 0, false⟩]) ++ [AObj.cells ⟨[I other], 0, 0, false⟩]).length = h.length + 2 := by simp
  obtain ⟨h2, hh⟩ : ∃ h2, h2 = ((h ++ [AObj.cells ⟨[I edge], 0, 0, false⟩]) ++ [AObj.cells ⟨[I other], 0, 0, false⟩]) := ⟨_, rfl⟩
  rw [← hh] at b1 b2 ex hl2
  have f2 : Fam (fun o => W o ∧ o < h.length) h2 1 A S X := (f.mono fun o q1 q2 => ⟨q2, q1⟩).frs (D := fun _ => False) (FrS.ofExt ex) (fun _ _ _ q => q)
  obtain ⟨s1, h3, k1, k2, k3, k4⟩ := f2.append (bytes := 8) a1 b1 (by simp) (by omega) (by omega) (by simp; omega)
  have b2' : Sl h3 1 (.sl (h.length + 1) 0 1 1 none 0) [[I other]] := by
    obtain ⟨o, off, lim, gg, c, q1, q2, q3⟩ := b2.resolve_left (by simp)
    injection q1 with p1 p2 p3 p4 p5 p6
    refine .inr ⟨o, off, lim, gg, c, by rw [← p1, ← p2, ← p3, ← p5, ← p6], ?_, q3⟩
    rw [k4.get (by omega) (by omega)]
    exact q2
  obtain ⟨s2, h4, m1, m2, m3, m4⟩ := k3.append (bytes := 8) (t := t2) a2 b2' (by simp) (by omega) (by omega) (by rw [if_neg (fun q => hne q.symm)]; simp; omega)
  simp only [if_neg (show ¬ t2 = t1 from fun q => hne q.symm)] at m1 m3
  have g3 := (g.ext ex).frs k4 (fun o q1 q2 q3 => hq (by rw [show q = o by omega]; exact q3.1))
  have g4 := g3.frs m4 (fun o q1 q2 q3 => by
    rcases q3 with q3 | q3
    · exact hq (by rw [show q = o by omega]; exact q3.1)
    · omega)
  have c1 : s1.cells = [s1] := by
    have := (k3.sl a1).cells
    simpa using this
  have c2 : s2.cells = [s2] := by
    have := (m3.sl a2).cells
    simpa using this
  obtain ⟨h5, n1, n2, n3, n4⟩ := g4.write (i := v) v0 (x := encP (gi L v)) (by simp [gi_some v0 v1]) 0 1 (v := s1) (by rw [c1]; rfl) (by omega) (by rw [c1]; simp [k2])
  rw [c1] at n2
  obtain ⟨h6, r1, r2, r3, r4⟩ := n2.write (i := v) v0 (x := setAll (encP (gi L v)) 0 [s1]) (by rw [List.getElem?_set_self (by simp; omega)]) 1 1 (v := s2) (by rw [c2]; rfl) (by omega) (by rw [c2]; simp [m2])
  rw [c2, List.set_set] at r2
  have g3s := g3.sl
  rw [hh] at k1
  have ldk : ld1 h3 (fldP 1 (elP 2 arr v)) = some (S t2) := by
    have := g3s.ldf 1 (i := v) (Ext.refl _) v0 v1 (by omega)
    simpa [encP, e2] using this
  simp -implicitDefEqProofs (disch := first | assumption | omega | (simp only [gL] <;> omega) | ((repeat (first | exact Ext.refl _ | assumption | apply Ext.app | apply Ext.mk | (refine Ext.setr ?_ (by (first | omega | (simp only [gL] <;> omega))) _))); done) | (simp only [gL, gA, g.sl.ldf, encP, e1, e2, k1, ldk, m1, n1, r1] <;> omega) | fail) only [gB, setAll, partL, fldV, reduceIte, Nat.reduceAdd, Nat.reduceMul, g.sl.ldf, encP, e1, e2, k1, ldk, m1, n1, r1]
  refine WP.ret ⟨s1, s2, ?_, ?_, ?_⟩
  · refine r2.cong ?_
    rw [List.map_set]; rfl
  · have f4 := (m3.frs n3.s (fun o q1 q2 q3 => ?_)).frs r3.s (fun o q1 q2 q3 => ?_)
    · refine (f4.mono fun o q1 q2 => ?_).congr fun t ht => ?_
      · rcases q2 with (q2 | q2) | q2
        · exact .inl q2.1
        · exact .inr (by omega)
        · have := k4.len
          exact .inr (by omega)
      · by_cases x2 : t = t2
        · simp [x2]
        · simp [x2]
    · have : o = q := by omega
      subst this
      rcases q2 with (q2 | q2) | q2
      · exact hq q2.1
      · omega
      · have := k4.len; omega
    · have : o = q := by omega
      subst this
      rcases q2 with (q2 | q2) | q2
      · exact hq q2.1
      · omega
      · have := k4.len; omega
  · have z1 : FrS (fun o => o = q ∨ W o) h h2 := FrS.ofExt ex
    have z2 : FrS (fun o => o = q ∨ W o) h2 h3 := k4.mono fun o q1 q2 => .inr q2.1
    have z3 : FrS (fun o => o = q ∨ W o ∨ h2.length ≤ o) h3 h4 := m4.mono fun o q1 q2 => by
      rcases q2 with q2 | q2
      · exact .inr (.inl q2.1)
      · exact .inr (.inr q2)
    have z4 : FrS (fun o => o = q) h4 h6 := (n3.s.mono fun o q1 q2 => by omega).trans (r3.s.mono fun o q1 q2 => by omega)
    refine ⟨by have := z1.len; have := z2.len; have := z3.len; have := z4.len; omega, fun o q1 q2 => ?_⟩
    have l1 := z1.len
    have l2 := z2.len
    have l3 := z3.len
    rw [z4.get (fun q => q1 (.inl q)) (by omega), z3.get (fun q => ?_) (by omega), z2.get q1 (by omega), z1.get q1 q2]
    rcases q with q | q | q
    · exact q1 (.inl q)
    · exact q1 (.inr q)
    · omega

/-! ### New -/
def Sf (O J : List (AV × AV)) (t : Nat × Nat) : AV := match t with
  | (0, v) => (gi O v).1
  | (1, v) => (gi O v).2
  | (2, v) => (gi J v).1
  | (_, v) => (gi J v).2
def Xf (es : List E) (n : Nat) (t : Nat × Nat) : List Int := match t with
  | (0, v) => idxTo (fun e => e.fr == (v : Int)) es n
  | (1, v) => (idxTo (fun e => e.fr == (v : Int)) es n).map fun k => (gi es k).to
  | (2, v) => idxTo (fun e => e.to == (v : Int)) es n
  | (_, v) => (idxTo (fun e => e.to == (v : Int)) es n).map fun k => (gi es k).fr
theorem Xf_len (es : List E) (n : Nat) (t : Nat × Nat) : (Xf es n t).length ≤ n := by
  obtain ⟨j, v⟩ := t
  match j with
  | 0 => simp only [Xf]; exact idxTo_len ..
  | 1 => simp only [Xf, List.length_map]; exact idxTo_len ..
  | 2 => simp only [Xf]; exact idxTo_len ..
  | j + 3 => simp only [Xf, List.length_map]; exact idxTo_len ..
/-- What is behind so many edges. -/
structure NewI (hb : Heap) (N : Nat) (es : List E) (q1 q2 : Nat) (so si : AV) (n : Nat) (h : Heap) (O J : List (AV × AV)) : Prop where
  fr : FrS (fun o => o = q1 ∨ o = q2 ∨ hb.length ≤ o) hb h
  go : Gr q1 (q1 + 1) h 2 so (O.map encP)
  gj : Gr q2 (q2 + 1) h 2 si (J.map encP)
  lo : O.length = N
  lj : J.length = N
  fam : Fam (fun o => hb.length ≤ o) h 1 (fun t : Nat × Nat => t.1 < 4 ∧ t.2 < N) (Sf O J) fun t => (Xf es n t).map encI

theorem new_loop {hb : Heap} {N : Nat} {es : List E} {q1 q2 qa : Nat} {s s' so si : AV} (ok : NetOk N es) (hq1 : q1 < hb.length) (hq2 : q2 < hb.length) (hqa : qa < hb.length) (hne : q1 ≠ q2) (hna1 : qa ≠ q1) (hna2 : qa ≠ q2)
    (ha : hb[qa]? = some (.cells ⟨[I N, s', so, si], 0, 0, false⟩)) {Q : AV → Heap → Prop} (hs : ∀ h, FrS (fun o => o = q1 ∨ o = q2 ∨ hb.length ≤ o) hb h → Sl h 4 s (es.map encE))
    (hQ : ∀ h O J, NewI hb N es q1 q2 so si es.length h O J → Q (.ptr qa 0 4 0) h) :
    ∀ (d n : Nat) (h : Heap) (O J : List (AV × AV)), n + d = es.length → NewI hb N es q1 q2 so si n h O J →
      WP (fun p : Nat × Nat => adj_New_l1 tab p.1 p.2 (.ptr qa 0 4 0) s (I es.length) (I n) h) Q := by
  intro d
  induction d with
  | zero =>
    intro n h O J h1 w
    refine WP.rnd (fun i' j => adj_New_l1_eq tab i' j (.ptr qa 0 4 0) s (I es.length) (I n) h) ?_
    simp -implicitDefEqProofs (disch := first | assumption | omega | (simp only [gL] <;> omega) | ((repeat (first | exact Ext.refl _ | assumption | apply Ext.app | apply Ext.mk | (refine Ext.setr ?_ (by (first | omega | (simp only [gL] <;> omega))) _))); done) | (simp only [gL, gA] <;> omega) | fail) only [gB, setAll, partL, fldV, reduceIte, Nat.reduceAdd, Nat.reduceMul]
    refine WP.ret (hQ h O J ?_)
    rw [← show n = es.length by omega]; exact w
  | succ d ih =>
    intro n h O J h1 w
    have hln := ok.len
    refine WP.rnd (fun i' j => adj_New_l1_eq tab i' j (.ptr qa 0 4 0) s (I es.length) (I n) h) ?_
    obtain ⟨e, he⟩ : ∃ e, gi es n = e := ⟨_, rfl⟩
    have hed := ok.edge _ (gi_mem (xs := es) (i := (n : Int)) (by omega) (by omega))
    rw [he] at hed
    have hsl := hs h w.fr
    have hwl := w.fr.len
    -- the edge's own place
    obtain ⟨h6, hh6⟩ : ∃ h6, h6 = (h ++ [AObj.cells ⟨[I 0, I 0, I 0, I 0], 0, 0, false⟩]).set h.length (.cells ⟨encE e, 0, 0, false⟩) := ⟨_, rfl⟩
    have ex : Ext h h6 := by rw [hh6]; ((repeat (first | exact Ext.refl _ | assumption | apply Ext.app | apply Ext.mk | (refine Ext.setr ?_ (by (first | omega | (simp only [gL] <;> omega))) _))))
    have hr6 : h6[h.length]? = some (.cells ⟨encE e, 0, 0, false⟩) := by rw [hh6]; simp
    have hl6 : h6.length = h.length + 1 := by rw [hh6]; simp
    have hp6 : At h6 (.ptr qa 0 4 0) [I N, s', so, si] := by
      exact At.row (ex.get (by rw [w.fr.get (by omega) hqa]; exact ha)) (Nat.le_refl _) rfl
    have he6 : At h6 (.ptr h.length 0 4 0) (encE e) := At.row hr6 (Nat.le_refl _) rfl
    have so6 := w.go.ext ex
    have sj6 := w.gj.ext ex
    have f6 : Fam (fun o => hb.length ≤ o ∧ o < h.length) h6 1 (fun t : Nat × Nat => t.1 < 4 ∧ t.2 < N) (Sf O J) fun t => (Xf es n t).map encI :=
      (w.fam.mono fun o q1 q2 => ⟨q2, q1⟩).frs (D := fun _ => False) (FrS.ofExt ex) (fun _ _ _ q => q)
    have hlo := w.lo
    have hlj := w.lj
    have hx0 := Xf_len es n (0, e.fr.toNat)
    have hx1 := Xf_len es n (1, e.fr.toNat)
    have hx2 := Xf_len es n (2, e.to.toNat)
    have hx3 := Xf_len es n (3, e.to.toNat)
    have hfn : ((e.fr.toNat : Nat) : Int) = e.fr := by omega
    have htn : ((e.to.toNat : Nat) : Int) = e.to := by omega
    -- to the first test
    simp -implicitDefEqProofs (disch := first | assumption | omega | (simp only [gL] <;> omega) | ((repeat (first | exact Ext.refl _ | assumption | apply Ext.app | apply Ext.mk | (refine Ext.setr ?_ (by (first | omega | (simp only [gL] <;> omega))) _))); done) | (simp only [gL, gA, hsl.idxG, hsl.ldN, he, encE] <;> omega) | fail) only [gB, setAll, partL, fldV, reduceIte, Nat.reduceAdd, Nat.reduceMul, hsl.idxG, hsl.ldN, he, encE]
    simp only [encE] at hh6
    rw [← hh6]
    refine WP.call (is_spec hp6 so6.sl) ?_
    rintro _ h7 ⟨rfl, e7⟩
    obtain rfl := e7
    simp only [encE] at hr6
    have hra : h6[qa]? = some (.cells ⟨[I N, s', so, si], 0, 0, false⟩) := ex.get (by rw [w.fr.get (by omega) hqa]; exact ha)
    simp -implicitDefEqProofs (disch := first | assumption | omega | (simp only [gL] <;> omega) | ((repeat (first | exact Ext.refl _ | assumption | apply Ext.app | apply Ext.mk | (refine Ext.setr ?_ (by (first | omega | (simp only [gL] <;> omega))) _))); done) | (simp only [gL, gA, show decide (0 ≤ e.fr ∧ e.fr < (O.length : Int)) = true from decide_eq_true (by omega), hr6, hra] <;> omega) | fail) only [gB, setAll, partL, fldV, reduceIte, Nat.reduceAdd, Nat.reduceMul, show decide (0 ≤ e.fr ∧ e.fr < (O.length : Int)) = true from decide_eq_true (by omega), hr6, hra]
    refine WP.call (is_spec hp6 so6.sl) ?_
    rintro _ h7 ⟨rfl, e7⟩
    obtain rfl := e7
    simp -implicitDefEqProofs (disch := first | assumption | omega | (simp only [gL] <;> omega) | ((repeat (first | exact Ext.refl _ | assumption | apply Ext.app | apply Ext.mk | (refine Ext.setr ?_ (by (first | omega | (simp only [gL] <;> omega))) _))); done) | (simp only [gL, gA, show decide (0 ≤ e.to ∧ e.to < (O.length : Int)) = true from decide_eq_true (by omega), hr6, hra, so6.sl.idxG] <;> omega) | fail) only [gB, setAll, partL, fldV, reduceIte, Nat.reduceAdd, Nat.reduceMul, show decide (0 ≤ e.to ∧ e.to < (O.length : Int)) = true from decide_eq_true (by omega), hr6, hra, so6.sl.idxG]
    -- out
    refine WP.call (add_spec f6 (t1 := (0, e.fr.toNat)) (t2 := (1, e.fr.toNat)) ⟨by simp, by simp; omega⟩ ⟨by simp, by simp; omega⟩ (by simp) (by omega) (by omega) so6 hed.1 (by omega) (by simp only [Sf, hfn]) (by simp only [Sf, hfn]) n e.to (by simp; omega) (by simp; omega)) ?_
    rintro r8 h8 ⟨s1, s2, so8, f8, fr8⟩
    have hl8 := fr8.len
    have hr8 : h8[h.length]? = some (.cells ⟨[I e.fr, I e.to, I e.md, I e.co], 0, 0, false⟩) := by rw [fr8.get (by omega) (by omega)]; exact hr6
    have hra8 : h8[qa]? = some (.cells ⟨[I N, s', so, si], 0, 0, false⟩) := by rw [fr8.get (by omega) (by omega)]; exact hra
    have sj8 := sj6.frs fr8 (fun o q1 q2 => by omega)
    simp -implicitDefEqProofs (disch := first | assumption | omega | (simp only [gL] <;> omega) | ((repeat (first | exact Ext.refl _ | assumption | apply Ext.app | apply Ext.mk | (refine Ext.setr ?_ (by (first | omega | (simp only [gL] <;> omega))) _))); done) | (simp only [gL, gA, hr8, hra8, sj8.sl.idxG] <;> omega) | fail) only [gB, setAll, partL, fldV, reduceIte, Nat.reduceAdd, Nat.reduceMul, hr8, hra8, sj8.sl.idxG]
    refine WP.call (add_spec f8 (t1 := (2, e.to.toNat)) (t2 := (3, e.to.toNat)) ⟨by simp, by simp; omega⟩ ⟨by simp, by simp; omega⟩ (by simp) (by omega) (by omega) sj8 hed.2.2.1 (by omega) (by simp [Sf, htn]) (by simp [Sf, htn]) n e.fr (by simp; omega) (by simp; omega)) ?_
    rintro r9 h9 ⟨s3, s4, sj9, f9, fr9⟩
    have hl9 := fr9.len
    have so9 := so8.frs fr9 (fun o q1 q2 => by omega)
    refine ih (n + 1) h9 _ _ (by omega) ⟨?_, so9, sj9, by simp; exact hlo, by simp; exact hlj, ?_⟩
    · have z1 := (w.fr.trans (FrS.ofExt ex)).trans (fr8.mono fun o q1 q2 => by omega)
      exact z1.trans (fr9.mono fun o q1 q2 => by omega)
    · refine (f9.mono fun o q1 q2 => by omega).congr fun t ht => ?_
      have hgo : ∀ v : Nat, v < N → gi (O.set e.fr.toNat (s1, s2)) (v : Int) = if (v : Int) = e.fr then (s1, s2) else gi O v := fun v hv => gi_set hed.1 (by omega) (by omega) _
      have hgj : ∀ v : Nat, v < N → gi (J.set e.to.toNat (s3, s4)) (v : Int) = if (v : Int) = e.to then (s3, s4) else gi J v := fun v hv => gi_set hed.2.2.1 (by omega) (by omega) _
      obtain ⟨j, v⟩ := t
      obtain ⟨hj, hv⟩ := ht
      simp only at hj hv
      have efr : ((v : Int) = e.fr) ↔ v = e.fr.toNat := by omega
      have eto : ((v : Int) = e.to) ↔ v = e.to.toNat := by omega
      have hxs := fun p => idxTo_succ p es n
      match j, hj with
      | 0, _ =>
        simp only [Sf, Xf, hgo v hv, efr, hxs, he, Prod.mk.injEq]
        by_cases hvf : v = e.fr.toNat
        · subst hvf; simp [encI, hfn, Sf, Xf]
        · have : ¬ e.fr = (v : Int) := fun q => hvf (efr.1 q.symm)
          simp [hvf, this, Sf, Xf]
      | 1, _ =>
        simp only [Sf, Xf, hgo v hv, efr, hxs, he, Prod.mk.injEq]
        by_cases hvf : v = e.fr.toNat
        · subst hvf; simp [encI, hfn, Sf, Xf, he]
        · have : ¬ e.fr = (v : Int) := fun q => hvf (efr.1 q.symm)
          simp [hvf, this, Sf, Xf]
      | 2, _ =>
        simp only [Sf, Xf, hgj v hv, eto, hxs, he, Prod.mk.injEq]
        by_cases hvf : v = e.to.toNat
        · subst hvf; simp [encI, htn, Sf, Xf]
        · have : ¬ e.to = (v : Int) := fun q => hvf (eto.1 q.symm)
          simp [hvf, this, Sf, Xf]
      | 3, _ =>
        simp only [Sf, Xf, hgj v hv, eto, hxs, he, Prod.mk.injEq]
        by_cases hvf : v = e.to.toNat
        · subst hvf; simp [encI, htn, Sf, Xf, he]
        · have : ¬ e.to = (v : Int) := fun q => hvf (eto.1 q.symm)
          simp [hvf, this, Sf, Xf]

theorem new_specL {h : Heap} {N : Nat} {s : AV} {es : List E} (ok : NetOk N es) (hs : Sl h 4 s (es.map encE)) :
    Tot tab f_adj_New [.agg [I N, s]] h fun r h' => Ext h h' ∧ (∀ H, (∀ o, h.length ≤ o → o < h'.length → H[o]? = h'[o]?) → AdjV H r N es) ∧ ∃ o, h.length ≤ o ∧ r = .ptr o 0 4 0 := by
  have hnb := ok.n1
  have hln := ok.len
  refine WP.tot (fun k => (call_adj_New k _ h).trans (adj_New_eq tab k _ h)) ?_
  have e1 : Ext h (h ++ [AObj.cells ⟨[I N, s], 0, 0, false⟩]) := by ((repeat (first | exact Ext.refl _ | assumption | apply Ext.app | apply Ext.mk | (refine Ext.setr ?_ (by (first | omega | (simp only [gL] <;> omega))) _))))
  obtain ⟨h1, hh1⟩ : ∃ h1, h1 = h ++ [AObj.cells ⟨[I N, s], 0, 0, false⟩] := ⟨_, rfl⟩
  rw [← hh1] at e1
  have hr1 : h1[h.length]? = some (.cells ⟨[I N, s], 0, 0, false⟩) := by rw [hh1]; simp
  have hl1 : h1.length = h.length + 1 := by rw [hh1]; simp
  have hmx : max (N : Int) 0 = N := by omega
  obtain ⟨so, h2, k1, k2, k3, k4, k5⟩ := mkSl_gr (zero := [AV.nils, .nils]) (sz := 2) (bytes := 48) (n := (N : Int)) h1 (by omega) (by omega) (by omega) rfl rfl
  obtain ⟨si, h3, m1, m2, m3, m4, m5⟩ := mkSl_gr (zero := [AV.nils, .nils]) (sz := 2) (bytes := 48) (n := (N : Int)) h2 (by omega) (by omega) (by omega) rfl rfl
  have hr2 := k3.get hr1
  have hr3 := m3.get hr2
  have e4 : Ext h3 (h3 ++ [AObj.cells ⟨[I 0, .nils, so, si], 0, 0, false⟩]) := by ((repeat (first | exact Ext.refl _ | assumption | apply Ext.app | apply Ext.mk | (refine Ext.setr ?_ (by (first | omega | (simp only [gL] <;> omega))) _))))
  obtain ⟨h4, hh4⟩ : ∃ h4, h4 = h3 ++ [AObj.cells ⟨[I 0, .nils, so, si], 0, 0, false⟩] := ⟨_, rfl⟩
  rw [← hh4] at e4
  have hr4 := e4.get hr3
  have hl4 : h4.length = h3.length + 1 := by rw [hh4]; simp
  have hra : h4[h3.length]? = some (.cells ⟨[I 0, .nils, so, si], 0, 0, false⟩) := by rw [hh4]; simp
  simp -implicitDefEqProofs (disch := first | assumption | omega | (simp only [gL] <;> omega) | ((repeat (first | exact Ext.refl _ | assumption | apply Ext.app | apply Ext.mk | (refine Ext.setr ?_ (by (first | omega | (simp only [gL] <;> omega))) _))); done) | (simp only [gL, gA, hs.one, hs.cells] <;> omega) | fail) only [gB, setAll, partL, fldV, reduceIte, Nat.reduceAdd, Nat.reduceMul, hs.one, hs.cells]
  rw [← hh1]
  simp -implicitDefEqProofs (disch := first | assumption | omega | (simp only [gL] <;> omega) | ((repeat (first | exact Ext.refl _ | assumption | apply Ext.app | apply Ext.mk | (refine Ext.setr ?_ (by (first | omega | (simp only [gL] <;> omega))) _))); done) | (simp only [gL, gA, hr1, hmx, k1, hr2, m1, hr3, k2.sl.one, k2.sl.cells, m2.sl.one, m2.sl.cells] <;> omega) | fail) only [gB, setAll, partL, fldV, reduceIte, Nat.reduceAdd, Nat.reduceMul, hr1, hmx, k1, hr2, m1, hr3, k2.sl.one, k2.sl.cells, m2.sl.one, m2.sl.cells]
  rw [show AV.int .i64 0 = I 0 from rfl, ← hh4]
  refine WP.call (cloneE_spec (hs.ext ((e1.trans k3).trans (m3.trans e4))) (by simp; omega)) ?_
  rintro s' h5 ⟨e5, g5⟩
  have hr5 := e5.get hr4
  have hra5 := e5.get hra
  have hl5 := e5.len
  obtain ⟨h6, hh6⟩ : ∃ h6, h6 = h5.set h3.length (.cells ⟨[I N, s', so, si], 0, 0, false⟩) := ⟨_, rfl⟩
  have hl6 : h6.length = h5.length := by rw [hh6]; simp
  have f6 : FrS (fun o => o = h3.length) h5 h6 := by rw [hh6]; exact ⟨by simp, fun o q1 q2 => List.getElem?_set_ne (fun q => q1 q.symm)⟩
  have e6 : Ext h h6 := f6.ext (((e1.trans k3).trans (m3.trans e4)).trans e5) (fun o q1 q2 => by omega)
  have e25 : Ext h2 h5 := (m3.trans e4).trans e5
  have e35 : Ext h3 h5 := e4.trans e5
  have hr6 : h6[h.length]? = some (.cells ⟨[I N, s], 0, 0, false⟩) := by rw [f6.get (by omega) (by omega)]; exact hr5
  have hra6 : h6[h3.length]? = some (.cells ⟨[I N, s', so, si], 0, 0, false⟩) := by rw [hh6]; exact get_set_eq (by omega)
  have hgg : Gr h4.length h6.length h6 4 s' (es.map encE) := (g5.frs f6 (fun o q1 q2 => by omega)).mono (Nat.le_refl _) (by omega)
  have go6 : Gr h1.length (h1.length + 1) h6 2 so (List.replicate N [AV.nils, .nils]) := (k2.ext e25).frs f6 (fun o q1 q2 => by omega)
  have gi6 : Gr h2.length (h2.length + 1) h6 2 si (List.replicate N [AV.nils, .nils]) := (m2.ext e35).frs f6 (fun o q1 q2 => by omega)
  have hrep : List.replicate N [AV.nils, .nils] = (List.replicate N (AV.nils, AV.nils)).map encP := by rw [List.map_replicate]; rfl
  rw [hrep] at go6 gi6
  simp only [I] at hr5 hra5 hr6 hh6
  simp -implicitDefEqProofs (disch := first | assumption | omega | (simp only [gL] <;> omega) | ((repeat (first | exact Ext.refl _ | assumption | apply Ext.app | apply Ext.mk | (refine Ext.setr ?_ (by (first | omega | (simp only [gL] <;> omega))) _))); done) | (simp only [gL, gA, hr5, hra5, g5.sl.one, g5.sl.cells] <;> omega) | fail) only [gB, setAll, partL, fldV, reduceIte, Nat.reduceAdd, Nat.reduceMul, hr5, hra5, g5.sl.one, g5.sl.cells]
  rw [← hh6]
  simp -implicitDefEqProofs (disch := first | assumption | omega | (simp only [gL] <;> omega) | ((repeat (first | exact Ext.refl _ | assumption | apply Ext.app | apply Ext.mk | (refine Ext.setr ?_ (by (first | omega | (simp only [gL] <;> omega))) _))); done) | (simp only [gL, gA, hr6, hs.lenG] <;> omega) | fail) only [gB, setAll, partL, fldV, reduceIte, Nat.reduceAdd, Nat.reduceMul, hr6, hs.lenG]
  have hgi : ∀ v, 0 ≤ v → v < (N : Int) → gi (List.replicate N (AV.nils, AV.nils)) v = (AV.nils, AV.nils) := fun v v0 v1 => by
    have : v.toNat < N := by omega
    simp [gi, List.getD_eq_getElem?_getD, List.getElem?_replicate, this]
  refine WP.ent (new_loop (q1 := h1.length) (q2 := h2.length) (qa := h3.length) (hb := h6) (s' := s') (so := so) (si := si) ok (by omega) (by omega) (by omega) (by omega) (by omega) (by omega) hra6 (fun H f => hs.ext (f.ext e6 (fun o q1 q2 => by omega))) ?_ es.length 0 h6 _ _ (by omega)
    ⟨FrS.refl _ _, go6, gi6, by simp, by simp, Fam.nil _ _ _ fun t ht => ?_⟩) fun i => rfl
  · intro H O J w
    refine ⟨w.fr.ext e6 (fun o q1 q2 => by omega), fun H2 hag => ⟨s', so, si, O, J, ?_, ?_, (w.go.agree fun o q1 q2 q3 => hag o (by omega) q3).sl, (w.gj.agree fun o q1 q2 q3 => hag o (by omega) q3).sl, by have := w.lo; omega, by have := w.lj; omega, ?_, ?_, ?_, ?_⟩, ⟨h3.length, by omega, rfl⟩⟩
    · exact At.row (by rw [hag _ (by omega) (by have := w.fr.len; omega), w.fr.get (by omega) (by omega)]; exact hra6) (Nat.le_refl _) rfl
    · exact ((hgg.frs w.fr (fun o q1 q2 => by omega)).agree fun o q1 q2 q3 => hag o (by omega) q3).sl
    · intro v v0 v1
      have := w.fam.slA (t := (0, v.toNat)) ⟨by simp, by simp; omega⟩ (fun o q1 q2 => hag o (by omega) q2)
      simpa only [Sf, Xf, outL, inL, show ((v.toNat : Nat) : Int) = v by omega] using this
    · intro v v0 v1
      have := w.fam.slA (t := (1, v.toNat)) ⟨by simp, by simp; omega⟩ (fun o q1 q2 => hag o (by omega) q2)
      simpa only [Sf, Xf, outL, inL, show ((v.toNat : Nat) : Int) = v by omega] using this
    · intro v v0 v1
      have := w.fam.slA (t := (2, v.toNat)) ⟨by simp, by simp; omega⟩ (fun o q1 q2 => hag o (by omega) q2)
      simpa only [Sf, Xf, outL, inL, show ((v.toNat : Nat) : Int) = v by omega] using this
    · intro v v0 v1
      have := w.fam.slA (t := (3, v.toNat)) ⟨by simp, by simp; omega⟩ (fun o q1 q2 => hag o (by omega) q2)
      simpa only [Sf, Xf, outL, inL, show ((v.toNat : Nat) : Int) = v by omega] using this
  · obtain ⟨j, v⟩ := t
    obtain ⟨hj, hv⟩ := ht
    simp only at hj hv
    have hg := hgi v (by omega) (by omega)
    match j, hj with
    | 0, _ => simp [Sf, Xf, hg, idxTo]
    | 1, _ => simp [Sf, Xf, hg, idxTo]
    | 2, _ => simp [Sf, Xf, hg, idxTo]
    | 3, _ => simp [Sf, Xf, hg, idxTo]
theorem new_spec {h : Heap} {N : Nat} {s : AV} {es : List E} (ok : NetOk N es) (hs : Sl h 4 s (es.map encE)) :
    Tot tab f_adj_New [.agg [I N, s]] h fun r h' => Ext h h' ∧ AdjV h' r N es ∧ ∃ o, h.length ≤ o ∧ r = .ptr o 0 4 0 :=
  (new_specL ok hs).mono fun r h' ⟨a, b, c⟩ => ⟨a, b h' (fun _ _ _ => rfl), c⟩
end Go.Gm.A9
