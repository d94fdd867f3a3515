/- A part of the proof (GmA9S): an abstract machine, what it does, and what the functions of the program come to on it. -/
import Derived.Test.YtidaobchfmnjpaaGmA9R
set_option linter.unusedVariables false
set_option linter.unusedSimpArgs false
set_option linter.unusedSectionVars false
namespace Go.Gm.A9
open Go Go.Gm
/-! ### Join -/
def JI (hb : Heap) (q : Nat) (sB : AV) (S : Nat) (X : Nat × Nat → List Int) (h : Heap) : Prop :=
  ∃ B : List (List AV), Gr q (q + 1) h 5 sB (B.map id) ∧ B.length = S ∧ (∀ t : Nat, t < S → (gi B t).length = 5) ∧
    Fam (fun o => hb.length ≤ o) h 1 (fun t : Nat × Nat => t.1 < S ∧ t.2 < 5) (fun t => gi (gi B t.1) t.2) (fun t => (X t).map encI) ∧ FrS (fun o => o = q ∨ hb.length ≤ o) hb h
theorem giset2 {α : Type} [Inhabited α] {xs : List α} {i j : Nat} (hi : i < xs.length) (x : α) : gi (xs.set i x) (j : Int) = if j = i then x else gi xs j := congrFun (gset hi x) j
theorem JI.step {hb h : Heap} {q : Nat} {sB : AV} {S : Nat} {X : Nat × Nat → List Int} (j : JI hb q sB S X h) (hq : q < hb.length) {to m : Nat} (ht : to < S) (hm : m < 5) (v : Int) (hl : (X (to, m)).length ≤ 100000) :
    ∃ p s1 s2 h2 h3, idxS 5 sB (I to) = some (elP 5 sB to) ∧ idxA 5 1 (elP 5 sB to) (I m) = some p ∧ ld1 h p = some s1 ∧ apnd 1 8 s1 (.sl h.length 0 1 1 none 0) (h ++ [AObj.cells ⟨[I v], 0, 0, false⟩]) = some (s2, h2) ∧ stN 1 h2 p s2 = some h3 ∧
      JI hb q sB S (fun t => if t = (to, m) then X t ++ [v] else X t) h3 ∧ FrS (fun o => hb.length ≤ o) h h2 := by
  obtain ⟨B, g, lB, rB, f, fr⟩ := j
  have hlb := fr.len
  obtain ⟨p, p1, p2, p3⟩ := cellA (H := h) g.sl (Ext.refl _) (i := (to : Int)) (j := (m : Int)) (by omega) (by omega) (by omega) (by omega)
  have r5 := rB to ht
  have p2' : ld1 h p = some (gi (gi B to) m) := by
    rw [p2, id, List.getD_eq_getElem?_getD, gi_some (by omega) (by omega)]; rfl
  have b1 : Sl (h ++ [AObj.cells ⟨[I v], 0, 0, false⟩]) 1 (.sl h.length 0 1 1 none 0) [[I v]] := by
    have := (Gr.lit (h := h) (sz := 1) (v := [I v]) rfl).sl
    rwa [mkObj_eq] at this
  have e1 : Ext h (h ++ [AObj.cells ⟨[I v], 0, 0, false⟩]) := Ext.push _ _
  have f' : Fam (fun o => hb.length ≤ o) (h ++ [AObj.cells ⟨[I v], 0, 0, false⟩]) 1 (fun t : Nat × Nat => t.1 < S ∧ t.2 < 5) (fun t => gi (gi B t.1) t.2) (fun t => (X t).map encI) := f.frs (D := fun _ => False) (FrS.ofExt e1) fun _ _ _ z => z
  obtain ⟨s2, h2, k1, k2, k3, k4⟩ := f'.append (bytes := 8) (t := (to, m)) ⟨ht, hm⟩ b1 (by simp) (by omega) (by omega) (by simp; omega)
  have g2 := (g.ext e1).frs k4 fun o z1 z2 => by omega
  have c2 : s2.cells = [s2] := by
    have := (k3.sl (t := (to, m)) ⟨ht, hm⟩).cells
    simpa using this
  obtain ⟨h3, n1, n2, n3, n4⟩ := g2.write (i := (to : Int)) (by omega) (x := gi B to) (by rw [List.map_id, gi_some (by omega) (by omega)]) m 1 (v := s2) (by rw [c2]; rfl) (by omega) (by rw [c2]; simp [k2])
  refine ⟨p, _, s2, h2, h3, g.sl.idxG (by omega) (by omega), p1, p2', k1, ?_, ?_, ?_⟩
  · rw [p3, show ((m : Int)).toNat = m by omega]; exact n1
  · have hlq := k4.len
    have f3 := k3.frs n3.s (fun o z1 z2 z3 => by rcases z2 with z2 | z2 <;> simp only [List.length_append] at * <;> omega)
    refine ⟨B.set to (setAll (gi B to) m [s2]), ?_, by rw [List.length_set]; exact lB, fun t ht' => ?_, ?_, ?_⟩
    · refine n2.cong ?_
      rw [c2, List.map_id, List.map_id, show ((to : Int)).toNat = to by omega]
    · rw [giset2 (by omega)]
      by_cases qt : t = to
      · rw [if_pos qt]; simp [setAll, r5]
      · rw [if_neg qt]; exact rB t ht'
    · refine (f3.mono fun o z1 z2 => ?_).congr fun t ht' => ⟨?_, ?_⟩
      · rcases z2 with z2 | z2
        · exact z2
        · simp only [List.length_append] at z2; omega
      · show gi (gi (B.set to (setAll (gi B to) m [s2])) t.1) t.2 = if t = (to, m) then s2 else gi (gi B t.1) t.2
        rw [giset2 (by omega)]
        obtain ⟨t1, t2⟩ := t
        by_cases qt : t1 = to
        · subst qt
          simp only [if_true, setAll]
          rw [giset2 (by omega)]
          by_cases q2 : t2 = m
          · subst q2; simp
          · rw [if_neg q2, if_neg (by simp [q2])]
        · rw [if_neg qt, if_neg (by simp [qt])]
      · show (if t = (to, m) then X t ++ [v] else X t).map encI = if t = (to, m) then (X (to, m)).map encI ++ [[I v]] else (X t).map encI
        by_cases qt : t = (to, m)
        · subst qt; simp [encI]
        · rw [if_neg qt, if_neg qt]
    · have z1 : FrS (fun o => o = q ∨ hb.length ≤ o) h (h ++ [AObj.cells ⟨[I v], 0, 0, false⟩]) := FrS.ofExt e1
      exact ((fr.trans z1).trans (k4.mono fun o _ z => .inr z)).trans (n3.s.mono fun o _ z => .inl (by omega))
  · exact (FrS.ofExt e1).trans k4
theorem befTo_succ (D : List (List Int)) (t m : Int) (n : Nat) : befTo D t m (n + 1) = befTo D t m n ++ if nx D n m = t then [(n : Int)] else [] := by
  simp only [befTo, List.range_succ, List.filter_append, List.map_append]
  congr 1
  by_cases h : nx D n m = t <;> simp [h]
theorem befTo_len (D : List (List Int)) (t m : Int) (n : Nat) : (befTo D t m n).length ≤ n := by
  simp only [befTo, List.length_map]
  exact Nat.le_trans (List.length_filter_le ..) (by simp)
section
variable {h0 h : Heap} {g : AV} {N : Nat} {es : List E} {D : List (List Int)} {acc : List Bool}
def XX (D : List (List Int)) (n m : Nat) (t : Nat × Nat) : List Int := befTo D t.1 t.2 n ++ if t.2 < m ∧ nx D n t.2 = t.1 then [(n : Int)] else []
theorem ix_row {r : List Int} {m : Nat} (hr : r.length = 5) (hm : m < 5) : ixA 5 1 none (.agg (encR r)) (I m) = some (I (gi r m)) := by
  rw [ixA_i (by omega) (by omega)]
  simp only [partL, encR, List.getElem?_map, Nat.mul_one]
  rw [gi_some (by omega) (by omega)]; rfl
theorem join_l2 {hb : Heap} {q og n : Nat} {sE a sD sA sB t21 t22 : AV} (ok : DOk D acc) (hq : q < hb.length) (hog : og < hb.length) (hne : og ≠ q) (hrow : hb[og]? = some (.cells ⟨[I N, sE, a, sD, sA, sB], 0, 0, false⟩)) (hn : n < D.length) {Q : AV → Heap → Prop}
    (hQ : ∀ h, JI hb q sB D.length (XX D n 5) h → WP (fun p : Nat × Nat => product_join_l1 tab p.1 p.2 (.ptr og 0 6 0) t21 t22 (I (n + 1)) h) Q) :
    ∀ (d m : Nat) (h : Heap), m + d = 5 → JI hb q sB D.length (XX D n m) h →
      WP (fun p : (Nat × Nat) × Nat => product_join_l2 tab p.1.1 p.1.2 p.2 (.ptr og 0 6 0) (I n) t21 t22 (I n) (.agg (encR (gi D n))) (I m) h) Q := by
  have l1 := ok.l1
  intro d
  induction d with
  | zero =>
    intro m h h1 w
    refine WP.rnd (fun i j => product_join_l2_eq tab i.1 i.2 j (.ptr og 0 6 0) (I n) t21 t22 (I n) (.agg (encR (gi D n))) (I m) h) ?_
    obtain rfl : m = 5 := by omega
    simp -implicitDefEqProofs (maxSteps := 1000000) (disch := first | assumption | omega | (simp only [gL] <;> omega) | ((repeat (first | exact Ext.refl _ | assumption | apply Ext.app | apply Ext.mk | (refine Ext.setr ?_ (by (first | omega | (simp only [gL] <;> omega))) _))); done) | (simp only [gL, gA] <;> omega) | fail) only [gB, setAll, partL, fldV, reduceIte, Nat.reduceAdd, Nat.reduceMul]
    exact WP.lv (hQ h w) fun i j => rfl
  | succ d ih =>
    intro m h h1 w
    refine WP.rnd (fun i j => product_join_l2_eq tab i.1 i.2 j (.ptr og 0 6 0) (I n) t21 t22 (I n) (.agg (encR (gi D n))) (I m) h) ?_
    have hr5 := ok.row n (by omega) (by omega)
    obtain ⟨u0, u1⟩ := ok.to n m (by omega) (by omega) (by omega) (by omega)
    obtain ⟨to, hto⟩ : ∃ to : Nat, gi (gi D n) m = to := ⟨(gi (gi D n) m).toNat, by omega⟩
    have htl : to < D.length := by omega
    have hX : (XX D n m (to, m)).length ≤ 100000 := by
      have := befTo_len D to m n
      simp only [XX, List.length_append]
      split <;> simp <;> omega
    obtain ⟨p, s1, s2, h2, h3, k1, k2, k3, k4, k5, k6, k7⟩ := w.step hq htl (m := m) (by omega) n hX
    have fr : FrS (fun o => o = q ∨ hb.length ≤ o) hb h := w.choose_spec.2.2.2.2
    have hlb := fr.len
    have r1 : h[og]? = some (.cells ⟨[I N, sE, a, sD, sA, sB], 0, 0, false⟩) := by rw [fr.get (by omega) hog]; exact hrow
    have r2 : h2[og]? = some (.cells ⟨[I N, sE, a, sD, sA, sB], 0, 0, false⟩) := by rw [k7.get (by omega) (by omega)]; exact r1
    simp -implicitDefEqProofs (maxSteps := 1000000) (disch := first | assumption | omega | (simp only [gL] <;> omega) | ((repeat (first | exact Ext.refl _ | assumption | apply Ext.app | apply Ext.mk | (refine Ext.setr ?_ (by (first | omega | (simp only [gL] <;> omega))) _))); done) | (simp only [gL, gA, ix_row hr5 (show m < 5 by omega), hto, r1, k1, k2, k3, k4, r2, k5] <;> omega) | fail) only [gB, setAll, partL, fldV, reduceIte, Nat.reduceAdd, Nat.reduceMul, ix_row hr5 (show m < 5 by omega), hto, r1, k1, k2, k3, k4, r2, k5]
    refine ih (m + 1) h3 (by omega) ?_
    have : (fun t => if t = (to, m) then XX D n m t ++ [(n : Int)] else XX D n m t) = XX D n (m + 1) := by
      funext t
      obtain ⟨t1, t2⟩ := t
      simp only [XX]
      by_cases q1 : t2 = m
      · subst q1
        by_cases q2 : t1 = to
        · subst q2
          rw [if_pos rfl, if_neg (by omega), if_pos ⟨by omega, hto⟩, List.append_nil]
        · rw [if_neg (by simp [q2]), if_neg (by omega), if_neg]
          rintro ⟨_, z⟩
          rw [nx, hto] at z
          omega
      · rw [if_neg (by simp [q1])]
        congr 1
        by_cases q3 : nx D n t2 = t1
        · by_cases q4 : t2 < m
          · rw [if_pos ⟨q4, q3⟩, if_pos ⟨by omega, q3⟩]
          · rw [if_neg (fun z => q4 z.1), if_neg (fun z => by omega)]
        · rw [if_neg (fun z => q3 z.2), if_neg (fun z => q3 z.2)]
    rw [← this]
    exact k6
theorem XX_five (D : List (List Int)) (n : Nat) (t : Nat × Nat) (h : t.2 < 5) : XX D n 5 t = XX D (n + 1) 0 t := by
  simp only [XX]
  rw [befTo_succ, if_neg (fun z : t.2 < 0 ∧ _ => by omega), List.append_nil]
  congr 1
  by_cases q : nx D n t.2 = t.1
  · rw [if_pos ⟨h, q⟩, if_pos q]
  · rw [if_neg (fun z => q z.2), if_neg q]
theorem JI.congr {hb h : Heap} {q : Nat} {sB : AV} {S : Nat} {X Y : Nat × Nat → List Int} (j : JI hb q sB S X h) (e : ∀ t : Nat × Nat, t.2 < 5 → Y t = X t) : JI hb q sB S Y h := by
  obtain ⟨B, g, lB, rB, f, fr⟩ := j
  exact ⟨B, g, lB, rB, f.congr fun t ht => ⟨rfl, by rw [e t ht.2]⟩, fr⟩
theorem JI.ext {hb h h' : Heap} {q : Nat} {sB : AV} {S : Nat} {X : Nat × Nat → List Int} (j : JI hb q sB S X h) (e : Ext h h') : JI hb q sB S X h' := by
  obtain ⟨B, g, lB, rB, f, fr⟩ := j
  exact ⟨B, g.ext e, lB, rB, f.frs (D := fun _ => False) (FrS.ofExt e) (fun _ _ _ z => z), fr.trans (FrS.ofExt e)⟩
theorem join_l1 {hb : Heap} {q og : Nat} {sE a sD sA sB : AV} (ok : DOk D acc) (hq : q < hb.length) (hog : og < hb.length) (hne : og ≠ q) (hrow : hb[og]? = some (.cells ⟨[I N, sE, a, sD, sA, sB], 0, 0, false⟩))
    (hD : ∀ h, FrS (fun o => o = q ∨ hb.length ≤ o) hb h → Sl h 5 sD (D.map encR)) {Q : AV → Heap → Prop} (hQ : ∀ h, JI hb q sB D.length (XX D D.length 0) h → Q (.ptr og 0 6 0) h) :
    ∀ (d n : Nat) (h : Heap), n + d = D.length → JI hb q sB D.length (XX D n 0) h → WP (fun p : Nat × Nat => product_join_l1 tab p.1 p.2 (.ptr og 0 6 0) sD (I D.length) (I n) h) Q := by
  have l1 := ok.l1
  intro d
  induction d with
  | zero =>
    intro n h h1 w
    refine WP.rnd (fun i j => product_join_l1_eq tab i j (.ptr og 0 6 0) sD (I D.length) (I n) h) ?_
    obtain rfl : n = D.length := by omega
    simp -implicitDefEqProofs (maxSteps := 1000000) (disch := first | assumption | omega | (simp only [gL] <;> omega) | ((repeat (first | exact Ext.refl _ | assumption | apply Ext.app | apply Ext.mk | (refine Ext.setr ?_ (by (first | omega | (simp only [gL] <;> omega))) _))); done) | (simp only [gL, gA] <;> omega) | fail) only [gB, setAll, partL, fldV, reduceIte, Nat.reduceAdd, Nat.reduceMul]
    exact WP.ret (hQ h w)
  | succ d ih =>
    intro n h h1 w
    refine WP.rnd (fun i j => product_join_l1_eq tab i j (.ptr og 0 6 0) sD (I D.length) (I n) h) ?_
    have fr : FrS (fun o => o = q ∨ hb.length ≤ o) hb h := w.choose_spec.2.2.2.2
    have sl := hD h fr
    have hr5 := ok.row n (by omega) (by omega)
    obtain ⟨r, hr⟩ : ∃ r, encR (gi D n) = r := ⟨_, rfl⟩
    obtain ⟨x0, x1, x2, x3, x4, hx⟩ : ∃ x0 x1 x2 x3 x4, gi D n = [x0, x1, x2, x3, x4] := by
      generalize gi D n = l at hr5
      match l, hr5 with
      | [x0, x1, x2, x3, x4], _ => exact ⟨x0, x1, x2, x3, x4, rfl⟩
    simp -implicitDefEqProofs (maxSteps := 1000000) (disch := first | assumption | omega | (simp only [gL] <;> omega) | ((repeat (first | exact Ext.refl _ | assumption | apply Ext.app | apply Ext.mk | (refine Ext.setr ?_ (by (first | omega | (simp only [gL] <;> omega))) _))); done) | (simp only [gL, gA, sl.idxG, sl.ldN, hx, encR, List.map_cons, List.map_nil] <;> omega) | fail) only [gB, setAll, partL, fldV, reduceIte, Nat.reduceAdd, Nat.reduceMul, sl.idxG, sl.ldN, hx, encR, List.map_cons, List.map_nil]
    obtain ⟨h2, hh2⟩ : ∃ h2, h2 = ((h ++ [AObj.cells ⟨[AV.int .i64 0, AV.int .i64 0, AV.int .i64 0, AV.int .i64 0, AV.int .i64 0], 0, 0, false⟩]).set h.length (.cells ⟨[I x0, I x1, I x2, I x3, I x4], 0, 0, false⟩)) := ⟨_, rfl⟩
    have e2 : Ext h h2 := by rw [hh2]; ((repeat (first | exact Ext.refl _ | assumption | apply Ext.app | apply Ext.mk | (refine Ext.setr ?_ (by (first | omega | (simp only [gL] <;> omega))) _))))
    rw [← hh2]
    refine WP.ent (join_l2 ok hq hog hne hrow (n := n) (by omega) (t21 := sD) (t22 := I D.length) (fun h w2 => ?_) 5 0 h2 (by omega) (w.ext e2)) fun i => ?_
    · exact ih (n + 1) h (by omega) (w2.congr fun t ht => (XX_five D n t ht).symm)
    · rw [hx]; rfl
theorem join_spec {sE sD sA : AV} (no : NetOk N es) (hs : Sl h 4 sE (es.map encE)) (ok : DOk D acc) (hD : Sl h 5 sD (D.map encR)) (hA : Sl h 1 sA (acc.map encB)) :
    Tot tab f_product_join [.agg [I N, sE], .agg [sD, sA]] h fun r h' => Ext h h' ∧ GV h' r N es D acc := by
  refine WP.tot (fun k => (call_product_join k _ _ h).trans (product_join_eq tab k _ _ h)) ?_
  obtain ⟨h1, hh1⟩ : ∃ h1, h1 = (h ++ [AObj.cells ⟨[I N, sE], 0, 0, false⟩]) ++ [AObj.cells ⟨[sD, sA], 0, 0, false⟩] := ⟨_, rfl⟩
  have l1 := ok.l1
  have hl1 : h1.length = h.length + 2 := by rw [hh1]; simp
  have e1 : Ext h h1 := by rw [hh1]; ((repeat (first | exact Ext.refl _ | assumption | apply Ext.app | apply Ext.mk | (refine Ext.setr ?_ (by (first | omega | (simp only [gL] <;> omega))) _))))
  have r0 : h1[h.length]? = some (.cells ⟨[I N, sE], 0, 0, false⟩) := by rw [hh1]; simp
  have r1 : h1[h.length + 1]? = some (.cells ⟨[sD, sA], 0, 0, false⟩) := by rw [hh1]; simp
  obtain ⟨sB, h2, k1, k2, k3, k4, k5⟩ := mkSl_gr (zero := [.nils, .nils, .nils, .nils, .nils]) (sz := 5) (bytes := 120) (n := (D.length : Int)) h1 (by omega) (by omega) (by omega) rfl rfl
  have hsD := (hD.ext e1).ext k3
  simp -implicitDefEqProofs (maxSteps := 1000000) (disch := first | assumption | omega | (simp only [gL] <;> omega) | ((repeat (first | exact Ext.refl _ | assumption | apply Ext.app | apply Ext.mk | (refine Ext.setr ?_ (by (first | omega | (simp only [gL] <;> omega))) _))); done) | (simp only [gL, gA, hs.one, hs.cells, hD.one, hD.cells, hA.one, hA.cells, hD.lenG] <;> omega) | fail) only [gB, setAll, partL, fldV, reduceIte, Nat.reduceAdd, Nat.reduceMul, hs.one, hs.cells, hD.one, hD.cells, hA.one, hA.cells, hD.lenG]
  rw [← hh1]
  simp -implicitDefEqProofs (maxSteps := 1000000) (disch := first | assumption | omega | (simp only [gL] <;> omega) | ((repeat (first | exact Ext.refl _ | assumption | apply Ext.app | apply Ext.mk | (refine Ext.setr ?_ (by (first | omega | (simp only [gL] <;> omega))) _))); done) | (simp only [gL, gA, k1] <;> omega) | fail) only [gB, setAll, partL, fldV, reduceIte, Nat.reduceAdd, Nat.reduceMul, k1]
  refine WP.call (new_specL no (hs.ext (e1.trans k3))) ?_
  rintro _ h3 ⟨e3, hadj, oa, hoa, rfl⟩
  have l3 := e3.len
  obtain ⟨h4, hh4⟩ : ∃ h4, h4 = h3 ++ [AObj.cells ⟨[I N, sE, .ptr oa 0 4 0, sD, sA, sB], 0, 0, false⟩] := ⟨_, rfl⟩
  have e4 : Ext h3 h4 := by rw [hh4]; exact Ext.push _ _
  have hl4 : h4.length = h3.length + 1 := by rw [hh4]; simp
  have ro : h4[h3.length]? = some (.cells ⟨[I N, sE, .ptr oa 0 4 0, sD, sA, sB], 0, 0, false⟩) := by rw [hh4]; simp
  have r03 := e3.get (k3.get r0)
  have r13 := e3.get (k3.get r1)
  have r14 := e4.get r13
  have one1 := hs.one
  simp -implicitDefEqProofs (maxSteps := 1000000) (disch := first | assumption | omega | (simp only [gL] <;> omega) | ((repeat (first | exact Ext.refl _ | assumption | apply Ext.app | apply Ext.mk | (refine Ext.setr ?_ (by (first | omega | (simp only [gL] <;> omega))) _))); done) | (simp only [gL, gA, r03, r13, k2.sl.one, k2.sl.cells, hs.one, hs.cells, hD.one, hD.cells, hA.one, hA.cells] <;> omega) | fail) only [gB, setAll, partL, fldV, reduceIte, Nat.reduceAdd, Nat.reduceMul, r03, r13, k2.sl.one, k2.sl.cells, hs.one, hs.cells, hD.one, hD.cells, hA.one, hA.cells]
  rw [← hh4]
  simp -implicitDefEqProofs (maxSteps := 1000000) (disch := first | assumption | omega | (simp only [gL] <;> omega) | ((repeat (first | exact Ext.refl _ | assumption | apply Ext.app | apply Ext.mk | (refine Ext.setr ?_ (by (first | omega | (simp only [gL] <;> omega))) _))); done) | (simp only [gL, gA, r14, hD.lenG] <;> omega) | fail) only [gB, setAll, partL, fldV, reduceIte, Nat.reduceAdd, Nat.reduceMul, r14, hD.lenG]
  have e14 := (e1.trans k3).trans (e3.trans e4)
  refine WP.ent (join_l1 (hb := h4) (q := h1.length) (og := h3.length) (sE := sE) (a := .ptr oa 0 4 0) (sA := sA) (sB := sB) ok (by omega) (by omega) (by omega) ro (fun h' f => hD.ext (f.ext e14 fun o z1 z2 => by omega)) (fun h' w => ?_) D.length 0 h4 (by omega) ?_) fun i => rfl
  · obtain ⟨B, g, lB, rB, f, fr⟩ := w
    have eh : Ext h h' := fr.ext e14 fun o z1 z2 => by omega
    have ho : h'[h3.length]? = some (.cells ⟨[I N, sE, .ptr oa 0 4 0, sD, sA, sB], 0, 0, false⟩) := by rw [fr.get (by omega) (by omega)]; exact ro
    refine ⟨eh, ⟨sE, .ptr oa 0 4 0, sD, sA, sB, B, At.row ho (Nat.le_refl _) rfl, hs.ext eh, hadj h' fun o z1 z2 => ?_, hD.ext eh, hA.ext eh, g.sl, lB, fun t m t0 t1 m0 m1 => ⟨?_, ?_⟩⟩⟩
    · rw [fr.get (by omega) (by omega), hh4, get_app_l z2]
    · have := rB t.toNat (by omega)
      rwa [show ((t.toNat : Nat) : Int) = t by omega] at this
    · have := f.sl (t := (t.toNat, m.toNat)) ⟨by show t.toNat < _; omega, by show m.toNat < 5; omega⟩
      simp only [XX] at this
      rw [if_neg (fun z => by omega), List.append_nil, show ((t.toNat : Nat) : Int) = t by omega, show ((m.toNat : Nat) : Int) = m by omega] at this
      exact this
  · refine ⟨List.replicate D.length [.nils, .nils, .nils, .nils, .nils], ?_, by simp, fun t ht => ?_, Fam.nil _ _ _ fun t ht => ⟨?_, ?_⟩, FrS.refl _ _⟩
    · refine ((k2.ext e3).ext e4).cong ?_
      rw [List.map_id]; simp
    · rw [gi_rep (by omega) (by omega)]; rfl
    · rw [gi_rep (by omega) (by omega)]
      match t.2, ht.2 with
      | 0, _ => rfl
      | 1, _ => rfl
      | 2, _ => rfl
      | 3, _ => rfl
      | 4, _ => rfl
    · simp [XX, befTo]
end
end Go.Gm.A9
