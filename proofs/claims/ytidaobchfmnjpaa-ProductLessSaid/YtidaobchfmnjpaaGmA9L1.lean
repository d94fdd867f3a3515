/- A part of the proof (GmA9L1): an abstract machine, what it does, and what the functions of the program come to on it. -/
import Derived.Test.YtidaobchfmnjpaaGmA9KN
import Derived.Test.YtidaobchfmnjpaaGmA9MB
set_option linter.unusedVariables false
set_option linter.unusedSimpArgs false
set_option linter.unusedSectionVars false
namespace Go.Gm.A9
open Go Go.Gm
/-! ### An edge that costs less -/
theorem mkE_co (size : Int) (zs : List Int) (modes : Int) : COk (mkE size zs modes) := by
  refine ⟨fun e he => ?_⟩
  simp only [mkE, List.mem_map] at he
  obtain ⟨k, _, rfl⟩ := he
  simp only [mkEdge]
  split <;> omega
section
variable {N : Nat} {es es' : List E} {D : List (List Int)} {acc : List Bool}
/-- The same edges, at no more. -/
structure Less (es es' : List E) : Prop where
  len : es'.length = es.length
  fr : ∀ i : Nat, i < es.length → (eg es' i).fr = (eg es i).fr ∧ (eg es' i).to = (eg es i).to ∧ (eg es' i).md = (eg es i).md ∧ (eg es' i).co ≤ (eg es i).co
theorem Less.wk (l : Less es es') (ok : DOk D acc) (no : NetOk N es) (co : COk es) (no' : NetOk N es') {st : Nat → Prop} (hst : ∀ x, st x → x < N * D.length) {x : Nat} {p : List Nat} {c : Int} (h : Wk (hopA es D.length (onL es D)) st x p c) : ∃ p' c', Wk (hopA es' D.length (onL es' D)) st x p' c' ∧ c' ≤ c := by
  induction h with
  | nil h => exact ⟨[], 0, .nil h, Int.le_refl _⟩
  | snoc h1 h2 ih =>
    obtain ⟨p', c', i1, i2⟩ := ih
    have hr := Wk.range (on_gok ok no co) hst h1
    obtain ⟨i, s, i1', s1, rfl, rfl, rfl⟩ := hop_inv ok no hr.1 h2
    obtain ⟨f1, f2, f3, f4⟩ := l.fr i i1'
    have hm := hop_mem ok no' (i := i) (s := s) (by rw [l.len]; exact i1') s1
    have e1 : src es' D.length i s = src es D.length i s := by simp only [src, f1]
    have e2 : dst es' D i s = dst es D i s := by simp only [dst, f2, f3]
    rw [e1, e2] at hm
    exact ⟨_, _, .snoc i1 hm, by omega⟩
theorem Less.wk' (l : Less es es') (ok : DOk D acc) (no : NetOk N es) (no' : NetOk N es') (co' : COk es') {st : Nat → Prop} (hst : ∀ x, st x → x < N * D.length) {x : Nat} {p : List Nat} {c : Int} (h : Wk (hopA es' D.length (onL es' D)) st x p c) : ∃ p' c', Wk (hopA es D.length (onL es D)) st x p' c' := by
  induction h with
  | nil h => exact ⟨[], 0, .nil h⟩
  | snoc h1 h2 ih =>
    obtain ⟨p', c', i1⟩ := ih
    have hr := Wk.range (on_gok ok no' co') hst h1
    obtain ⟨i, s, i1', s1, rfl, rfl, rfl⟩ := hop_inv ok no' hr.1 h2
    have i2 : i < es.length := by rw [← l.len]; exact i1'
    obtain ⟨f1, f2, f3, f4⟩ := l.fr i i2
    have hm := hop_mem ok no (i := i) (s := s) i2 s1
    have e1 : src es' D.length i s = src es D.length i s := by simp only [src, f1]
    have e2 : dst es' D i s = dst es D i s := by simp only [dst, f2, f3]
    rw [← e1, ← e2] at hm
    exact ⟨_, _, .snoc i1 hm⟩
theorem Less.cost (l : Less es es') (ok : DOk D acc) (no : NetOk N es) (co : COk es) (no' : NetOk N es') (co' : COk es') {st : Nat → Prop} (hst : ∀ x, st x → x < N * D.length) {c d : Nat → Int} (hc : LC (N * D.length) (hopA es D.length (onL es D)) st c) (hd : LC (N * D.length) (hopA es' D.length (onL es' D)) st d) :
    ∀ x, x < N * D.length → (c x = -1 ∧ d x = -1) ∨ (0 ≤ c x ∧ 0 ≤ d x ∧ d x ≤ c x) := by
  intro x hx
  rcases hc x hx with ⟨c1, ⟨p, c2⟩, c3⟩ | ⟨c1, c2⟩ <;> rcases hd x hx with ⟨d1, ⟨q, d2⟩, d3⟩ | ⟨d1, d2⟩
  · obtain ⟨p', c', w1, w2⟩ := l.wk ok no co no' hst c2
    have := d3 _ _ w1
    exact .inr ⟨c1, d1, by omega⟩
  · obtain ⟨p', c', w1, w2⟩ := l.wk ok no co no' hst c2
    exact absurd w1 (d2 _ _)
  · obtain ⟨p', c', w1⟩ := l.wk' ok no no' co' hst d2
    exact absurd w1 (c2 _ _)
  · exact .inl ⟨c1, d1⟩
theorem bv_less {c d : Nat → Int} {b : Nat} : ∀ n, (∀ s, s < n → (c (b + s) = -1 ∧ d (b + s) = -1) ∨ (0 ≤ c (b + s) ∧ 0 ≤ d (b + s) ∧ d (b + s) ≤ c (b + s))) → (bv c acc b n = -1 ∧ bv d acc b n = -1) ∨ (0 ≤ bv c acc b n ∧ 0 ≤ bv d acc b n ∧ bv d acc b n ≤ bv c acc b n)
  | 0, _ => .inl ⟨rfl, rfl⟩
  | n + 1, h => by
    have ih := bv_less n fun s hs => h s (by omega)
    have hn := h n (by omega)
    rw [bv, bv]
    generalize bv c acc b n = x at ih
    generalize bv d acc b n = y at ih
    generalize c (b + n) = u at hn
    generalize d (b + n) = v at hn
    by_cases ha : gi acc (n : Int) = true
    · simp only [ha, true_and]
      split <;> split <;> omega
    · simp only [ha, false_and, if_false]
      exact ih
theorem Less.costL (l : Less es es') (ok : DOk D acc) (no : NetOk N es) (co : COk es) (no' : NetOk N es') (co' : COk es') {st : Nat → Prop} (hst : ∀ x, st x → x < N * D.length) {c d : Nat → Int} (hc : LC (N * D.length) (hopA es D.length (onL es D)) st c) (hd : LC (N * D.length) (hopA es' D.length (onL es' D)) st d) {u : Nat} (hu : u < N) :
    (gi (costL N D.length c acc) (u : Int) = -1 ∧ gi (costL N D.length d acc) (u : Int) = -1) ∨ (0 ≤ gi (costL N D.length c acc) (u : Int) ∧ 0 ≤ gi (costL N D.length d acc) (u : Int) ∧ gi (costL N D.length d acc) (u : Int) ≤ gi (costL N D.length c acc) (u : Int)) := by
  rw [costL_gi hu, costL_gi hu]
  exact bv_less D.length fun s hs => l.cost ok no co no' co' hst hc hd _ (spotN hu hs)
theorem Less.set {k : Nat} (hk : k < es.length) {e : E} (h1 : e.fr = (eg es k).fr ∧ e.to = (eg es k).to ∧ e.md = (eg es k).md ∧ e.co ≤ (eg es k).co) : Less es (es.set k e) := by
  refine ⟨by simp, fun i hi => ?_⟩
  have : eg (es.set k e) i = if i = k then e else eg es i := giset2 hk e
  rw [this]
  by_cases q : i = k
  · rw [if_pos q, q]; exact h1
  · rw [if_neg q]; exact ⟨rfl, rfl, rfl, Int.le_refl _⟩
theorem less_l1 {h : Heap} {a b sE : AV} {xs ys : List Int} {on : Nat} (hN : N ≤ 100000) (ha : Sl h 1 a (xs.map encI)) (hb : Sl h 1 b (ys.map encI)) (lx : xs.length = N) (ly : ys.length = N) (hr : h[on]? = some (.cells ⟨[I N, sE], 0, 0, false⟩))
    (hxy : ∀ u : Nat, u < N → (gi xs (u : Int) = -1 ∧ gi ys (u : Int) = -1) ∨ (0 ≤ gi xs (u : Int) ∧ 0 ≤ gi ys (u : Int) ∧ gi ys (u : Int) ≤ gi xs (u : Int))) :
    ∀ (d u : Nat), u + d = N → WP (fun p : Nat × Nat => milestonelaw9_ProductLess_l1 tab p.1 p.2 (.ptr on 0 2 0) a b (I u) h) fun r _ => r = .bool true := by
  intro d
  induction d with
  | zero =>
    intro u h1
    refine WP.rnd (fun i j => milestonelaw9_ProductLess_l1_eq tab i j (.ptr on 0 2 0) a b (I u) h) ?_
    obtain rfl : u = N := by omega
    simp -implicitDefEqProofs (maxSteps := 1000000) (disch := first | assumption | omega | (simp only [gL] <;> omega) | ((repeat (first | exact Ext.refl _ | assumption | apply Ext.app | apply Ext.mk | (refine Ext.setr ?_ (by (first | omega | (simp only [gL] <;> omega))) _))); done) | (simp only [gL, gA, hr] <;> omega) | fail) only [gB, setAll, partL, fldV, reduceIte, Nat.reduceAdd, Nat.reduceMul, hr]
    exact WP.ret rfl
  | succ d ih =>
    intro u h1
    refine WP.rnd (fun i j => milestonelaw9_ProductLess_l1_eq tab i j (.ptr on 0 2 0) a b (I u) h) ?_
    obtain ⟨x, hx⟩ : ∃ x, gi xs (u : Int) = x := ⟨_, rfl⟩
    obtain ⟨y, hy⟩ : ∃ y, gi ys (u : Int) = y := ⟨_, rfl⟩
    have key := hxy u (by omega)
    rw [hx, hy] at key
    rcases key with ⟨k1, k2⟩ | ⟨k1, k2, k3⟩
    · have k3 : x < 0 := by omega
      have k4 : y < 0 := by omega
      have k5 : ¬ x < y := by omega
      simp -implicitDefEqProofs (maxSteps := 1000000) (disch := first | assumption | omega | (simp only [gL] <;> omega) | ((repeat (first | exact Ext.refl _ | assumption | apply Ext.app | apply Ext.mk | (refine Ext.setr ?_ (by (first | omega | (simp only [gL] <;> omega))) _))); done) | (simp only [gL, gA, hr, ha.idxG, ha.ld0, hb.idxG, hb.ld0, hx, hy, encI] <;> omega) | fail) only [gB, setAll, partL, fldV, reduceIte, Nat.reduceAdd, Nat.reduceMul, hr, ha.idxG, ha.ld0, hb.idxG, hb.ld0, hx, hy, encI]
      exact ih (u + 1) (by omega)
    · have k4 : ¬ x < 0 := by omega
      have k5 : ¬ y < 0 := by omega
      have k6 : ¬ x < y := by omega
      simp -implicitDefEqProofs (maxSteps := 1000000) (disch := first | assumption | omega | (simp only [gL] <;> omega) | ((repeat (first | exact Ext.refl _ | assumption | apply Ext.app | apply Ext.mk | (refine Ext.setr ?_ (by (first | omega | (simp only [gL] <;> omega))) _))); done) | (simp only [gL, gA, hr, ha.idxG, ha.ld0, hb.idxG, hb.ld0, hx, hy, encI] <;> omega) | fail) only [gB, setAll, partL, fldV, reduceIte, Nat.reduceAdd, Nat.reduceMul, hr, ha.idxG, ha.ld0, hb.idxG, hb.ld0, hx, hy, encI]
      exact ih (u + 1) (by omega)
theorem less_spec {h : Heap} {size modes states acc5 frm att by' : Int} {ns ms : AV} {zs ws : List Int} (hns : Sl h 1 ns (zs.map encI)) (hms : Sl h 1 ms (ws.map encI)) :
    Tot tab f_milestonelaw9_ProductLess [I size, ns, I modes, I states, ms, I acc5, I frm, I att, I by'] h fun r _ => r = .bool true := by
  refine WP.tot (fun k => (call_milestonelaw9_ProductLess k _ _ _ _ _ _ _ _ _ h).trans (milestonelaw9_ProductLess_eq tab k _ _ _ _ _ _ _ _ _ h)) ?_
  refine WP.call (known_spec h) ?_
  rintro _ h1 ⟨rfl, e1⟩
  simp -implicitDefEqProofs (maxSteps := 1000000) (disch := first | assumption | omega | (simp only [gL] <;> omega) | ((repeat (first | exact Ext.refl _ | assumption | apply Ext.app | apply Ext.mk | (refine Ext.setr ?_ (by (first | omega | (simp only [gL] <;> omega))) _))); done) | (simp only [gL, gA] <;> omega) | fail) only [gB, setAll, partL, fldV, reduceIte, Nat.reduceAdd, Nat.reduceMul]
  refine WP.call (make_spec (hns.ext e1)) ?_
  rintro _ h2 ⟨e2, s, rfl, g2⟩
  refine WP.call (make7_spec (hms.ext (e1.trans e2))) ?_
  rintro _ h3 ⟨e3, D, acc, sD, sA, rfl, ok, lD, yD, yA⟩
  have zD := yD.sl
  have zA := yA.sl
  have no := mkE_ok size zs modes
  have co := mkE_co size zs modes
  have hl := mkE_len size zs modes
  have hN := mkN_range size
  obtain ⟨N, hNN⟩ : ∃ N : Nat, mkN size = N := ⟨(mkN size).toNat, by omega⟩
  rw [hNN] at no hN
  rw [hNN]
  generalize mkE size zs modes = es at no co hl g2
  have gs := g2.sl
  simp -implicitDefEqProofs (maxSteps := 1000000) (disch := first | assumption | omega | (simp only [gL] <;> omega) | ((repeat (first | exact Ext.refl _ | assumption | apply Ext.app | apply Ext.mk | (refine Ext.setr ?_ (by (first | omega | (simp only [gL] <;> omega))) _))); done) | (simp only [gL, gA, gs.one, gs.cells, zD.one, zD.cells, zA.one, zA.cells] <;> omega) | fail) only [gB, setAll, partL, fldV, reduceIte, Nat.reduceAdd, Nat.reduceMul, gs.one, gs.cells, zD.one, zD.cells, zA.one, zA.cells]
  obtain ⟨h4, hh4⟩ : ∃ h4, h4 = (List.set (h3 ++ [AObj.cells ⟨[AV.int .i64 0, .nils], 0, 0, false⟩] ++ [AObj.cells ⟨[.nils, .nils], 0, 0, false⟩]) h3.length (AObj.cells ⟨[I N, s], 0, 0, false⟩)).set (h3.length + 1) (AObj.cells ⟨[sD, sA], 0, 0, false⟩) := ⟨_, rfl⟩
  have e4 : Ext h3 h4 := by rw [hh4]; ((repeat (first | exact Ext.refl _ | assumption | apply Ext.app | apply Ext.mk | (refine Ext.setr ?_ (by (first | omega | (simp only [gL] <;> omega))) _))))
  have rn : h4[h3.length]? = some (.cells ⟨[I N, s], 0, 0, false⟩) := by rw [hh4]; simp -implicitDefEqProofs (maxSteps := 1000000) (disch := first | assumption | omega | (simp only [gL] <;> omega) | ((repeat (first | exact Ext.refl _ | assumption | apply Ext.app | apply Ext.mk | (refine Ext.setr ?_ (by (first | omega | (simp only [gL] <;> omega))) _))); done) | (simp only [gL, gA] <;> omega) | fail) only [gB, setAll, partL, fldV, reduceIte, Nat.reduceAdd, Nat.reduceMul]
  have rd : h4[h3.length + 1]? = some (.cells ⟨[sD, sA], 0, 0, false⟩) := by rw [hh4]; simp -implicitDefEqProofs (maxSteps := 1000000) (disch := first | assumption | omega | (simp only [gL] <;> omega) | ((repeat (first | exact Ext.refl _ | assumption | apply Ext.app | apply Ext.mk | (refine Ext.setr ?_ (by (first | omega | (simp only [gL] <;> omega))) _))); done) | (simp only [gL, gA] <;> omega) | fail) only [gB, setAll, partL, fldV, reduceIte, Nat.reduceAdd, Nat.reduceMul]
  have l4 : h4.length = h3.length + 2 := by rw [hh4]; simp
  have l3 := e3.len
  have l2 := e2.len
  rw [← hh4]
  by_cases h0 : es.length = 0
  · simp -implicitDefEqProofs (maxSteps := 1000000) (disch := first | assumption | omega | (simp only [gL] <;> omega) | ((repeat (first | exact Ext.refl _ | assumption | apply Ext.app | apply Ext.mk | (refine Ext.setr ?_ (by (first | omega | (simp only [gL] <;> omega))) _))); done) | (simp only [gL, gA, gs.lenG] <;> omega) | fail) only [gB, setAll, partL, fldV, reduceIte, Nat.reduceAdd, Nat.reduceMul, gs.lenG]
    exact WP.ret rfl
  · simp -implicitDefEqProofs (maxSteps := 1000000) (disch := first | assumption | omega | (simp only [gL] <;> omega) | ((repeat (first | exact Ext.refl _ | assumption | apply Ext.app | apply Ext.mk | (refine Ext.setr ?_ (by (first | omega | (simp only [gL] <;> omega))) _))); done) | (simp only [gL, gA, gs.lenG] <;> omega) | fail) only [gB, setAll, partL, fldV, reduceIte, Nat.reduceAdd, Nat.reduceMul, gs.lenG]
    refine WP.call (within9_spec (by omega) (by unfold Fit; omega) _) ?_
    rintro _ _ ⟨rfl, rfl⟩
    obtain ⟨v, hv⟩ : ∃ v : Nat, frm % (N : Int) = v := ⟨(frm % (N : Int)).toNat, by have := Int.emod_nonneg frm (show (N : Int) ≠ 0 by omega); omega⟩
    have hvN : v < N := by have := Int.emod_lt_of_pos frm (show (0 : Int) < N by omega); omega
    rw [hv]
    have hn2 : N * D.length ≤ 1000000 := by
      have : N * D.length ≤ 12 * 9 := Nat.mul_le_mul (by omega) lD
      omega
    have g4 := (g2.ext e3).ext e4
    have yD4 := yD.ext e4
    have yA4 := yA.ext e4
    simp -implicitDefEqProofs (maxSteps := 1000000) (disch := first | assumption | omega | (simp only [gL] <;> omega) | ((repeat (first | exact Ext.refl _ | assumption | apply Ext.app | apply Ext.mk | (refine Ext.setr ?_ (by (first | omega | (simp only [gL] <;> omega))) _))); done) | (simp only [gL, gA, rn, rd] <;> omega) | fail) only [gB, setAll, partL, fldV, reduceIte, Nat.reduceAdd, Nat.reduceMul, rn, rd]
    refine WP.call (Costs_spec no co hn2 g4.sl ok yD4.sl yA4.sl hvN) ?_
    rintro r1 h5 ⟨e5, c, lc, g5⟩
    have rn5 := e5.get rn
    have rd5 := e5.get rd
    have l5 := e5.len
    have g45 := g4.ext e5
    have gs5 := g45.sl
    simp -implicitDefEqProofs (maxSteps := 1000000) (disch := first | assumption | omega | (simp only [gL] <;> omega) | ((repeat (first | exact Ext.refl _ | assumption | apply Ext.app | apply Ext.mk | (refine Ext.setr ?_ (by (first | omega | (simp only [gL] <;> omega))) _))); done) | (simp only [gL, gA, rn5, gs.lenG] <;> omega) | fail) only [gB, setAll, partL, fldV, reduceIte, Nat.reduceAdd, Nat.reduceMul, rn5, gs.lenG]
    refine WP.call (within9_spec (by omega) (by unfold Fit; omega) _) ?_
    rintro _ _ ⟨rfl, rfl⟩
    obtain ⟨k, hk⟩ : ∃ k : Nat, att % (es.length : Int) = k := ⟨(att % (es.length : Int)).toNat, by have := Int.emod_nonneg att (show (es.length : Int) ≠ 0 by omega); omega⟩
    have hkl : k < es.length := by have := Int.emod_lt_of_pos att (show (0 : Int) < es.length by omega); omega
    rw [hk]
    obtain ⟨ed, hed⟩ : ∃ ed, gi es (k : Int) = ed := ⟨_, rfl⟩
    have hco := co.c _ (gi_mem (xs := es) (i := (k : Int)) (by omega) (by omega))
    rw [hed] at hco
    simp -implicitDefEqProofs (maxSteps := 1000000) (disch := first | assumption | omega | (simp only [gL] <;> omega) | ((repeat (first | exact Ext.refl _ | assumption | apply Ext.app | apply Ext.mk | (refine Ext.setr ?_ (by (first | omega | (simp only [gL] <;> omega))) _))); done) | (simp only [gL, gA, rn5, gs5.idxG, gs5.ldf, hed, encE] <;> omega) | fail) only [gB, setAll, partL, fldV, reduceIte, Nat.reduceAdd, Nat.reduceMul, rn5, gs5.idxG, gs5.ldf, hed, encE]
    refine WP.call (within9_spec (n := 9) (by omega) (by unfold Fit; omega) _) ?_
    rintro _ _ ⟨rfl, rfl⟩
    obtain ⟨y, hy⟩ : ∃ y, by' % 9 = y := ⟨_, rfl⟩
    have hy0 : 0 ≤ y ∧ y < 9 := by omega
    rw [hy]
    obtain ⟨z, hz⟩ : ∃ z, max 0 (ed.co - y) = z := ⟨_, rfl⟩
    have hz0 : 0 ≤ z ∧ z ≤ ed.co := by omega
    obtain ⟨h6, s6, g6, f6, l6⟩ := g45.write (i := (k : Int)) (by omega) (x := encE ed) (by rw [List.getElem?_map]; simp [← hed, gi_nat hkl, hkl]) 3 1 (v := I z) rfl (by omega) rfl
    have g6' : Gr h1.length h2.length h6 4 s ((es.set k { ed with co := z }).map encE) := by
      refine g6.cong ?_
      rw [List.map_set]; rfl
    have rn6 : h6[h3.length]? = some (.cells ⟨[I N, s], 0, 0, false⟩) := by rw [f6.get (by omega) (by omega)]; exact rn5
    have rd6 : h6[h3.length + 1]? = some (.cells ⟨[sD, sA], 0, 0, false⟩) := by rw [f6.get (by omega) (by omega)]; exact rd5
    have yD6 := (yD4.ext e5).fr f6 (by omega)
    have yA6 := (yA4.ext e5).fr f6 (by omega)
    have g56 := g5.fr f6 (by omega)
    simp -implicitDefEqProofs (maxSteps := 1000000) (disch := first | assumption | omega | (simp only [gL] <;> omega) | ((repeat (first | exact Ext.refl _ | assumption | apply Ext.app | apply Ext.mk | (refine Ext.setr ?_ (by (first | omega | (simp only [gL] <;> omega))) _))); done) | (simp only [gL, gA, rn5, gs5.idxG, gs5.ldf, hed, encE, hz, s6, rn6, rd6] <;> omega) | fail) only [gB, setAll, partL, fldV, reduceIte, Nat.reduceAdd, Nat.reduceMul, rn5, gs5.idxG, gs5.ldf, hed, encE, hz, s6, rn6, rd6]
    have hls : Less es (es.set k { ed with co := z }) := Less.set hkl (by rw [show eg es k = ed from hed]; exact ⟨rfl, rfl, rfl, hz0.2⟩)
    obtain ⟨es', hes'⟩ : ∃ es', es' = es.set k { ed with co := z } := ⟨_, rfl⟩
    rw [← hes'] at hls g6'
    have hmem : ∀ e ∈ es', e ∈ es ∨ e = { ed with co := z } := fun e he => by rw [hes'] at he; exact List.mem_or_eq_of_mem_set he
    have hedm : ed ∈ es := hed ▸ gi_mem (by omega) (by omega)
    have no' : NetOk N es' := ⟨no.n0, no.n1, by rw [hls.len]; exact no.len, fun e he => by
      rcases hmem e he with q | q
      · exact no.edge e q
      · subst q; exact no.edge ed hedm⟩
    have co' : COk es' := ⟨fun e he => by
      rcases hmem e he with q | q
      · exact co.c e q
      · subst q; exact ⟨hz0.1, by show z ≤ _; omega⟩⟩
    refine WP.call (Costs_spec no' co' hn2 g6'.sl ok yD6.sl yA6.sl hvN) ?_
    rintro r2 h7 ⟨e7, d, lc', g7⟩
    have rn7 := e7.get rn6
    have rd7 := e7.get rd6
    have x1 := (g56.ext e7).sl
    have x2 := g7.sl
    have t1 := costL_len N D.length c acc
    have t2 := costL_len N D.length d acc
    simp -implicitDefEqProofs (maxSteps := 1000000) (disch := first | assumption | omega | (simp only [gL] <;> omega) | ((repeat (first | exact Ext.refl _ | assumption | apply Ext.app | apply Ext.mk | (refine Ext.setr ?_ (by (first | omega | (simp only [gL] <;> omega))) _))); done) | (simp only [gL, gA, x1.lenG, x2.lenG, t1, t2, rn7, rd7] <;> omega) | fail) only [gB, setAll, partL, fldV, reduceIte, Nat.reduceAdd, Nat.reduceMul, x1.lenG, x2.lenG, t1, t2, rn7, rd7]
    refine WP.call (rCosts_spec no' co' hn2 (g6'.ext e7).sl ok (yD6.ext e7).sl (yA6.ext e7).sl hvN) ?_
    rintro r3 h8 ⟨e8, d3, _, g8⟩
    have rn8 := e8.get rn7
    have x3 := g8.sl
    have t3 := costL_len N D.length d3 acc
    simp -implicitDefEqProofs (maxSteps := 1000000) (disch := first | assumption | omega | (simp only [gL] <;> omega) | ((repeat (first | exact Ext.refl _ | assumption | apply Ext.app | apply Ext.mk | (refine Ext.setr ?_ (by (first | omega | (simp only [gL] <;> omega))) _))); done) | (simp only [gL, gA, x3.lenG, t3, rn8] <;> omega) | fail) only [gB, setAll, partL, fldV, reduceIte, Nat.reduceAdd, Nat.reduceMul, x3.lenG, t3, rn8]
    refine WP.ent (less_l1 (by omega) (x1.ext e8) (x2.ext e8) t1 t2 rn8 (fun u hu => hls.costL ok no co no' co' (fun x q => by have := spotN (S := D.length) hvN ok.l0; omega) lc lc' hu) N 0 (by omega)) fun i => rfl
end
end Go.Gm.A9
