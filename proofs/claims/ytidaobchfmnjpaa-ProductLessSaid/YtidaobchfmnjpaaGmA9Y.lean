/- A part of the proof (GmA9Y): an abstract machine, what it does, and what the functions of the program come to on it. -/
import Derived.Test.YtidaobchfmnjpaaGmA9X
set_option linter.unusedVariables false
set_option linter.unusedSimpArgs false
set_option linter.unusedSectionVars false
namespace Go.Gm.A9
open Go Go.Gm
section
variable {N : Nat} {es : List E} {D : List (List Int)} {acc : List Bool}
theorem least_l6 {W : Nat → Prop} {hb : Heap} {o3 o4 hcl : Nat} {sE sD sA c7 : AV} {rows : List AV} {st : Nat → Prop} {c0 : Nat → Int} {Q : AV → Heap → Prop}
    (ok : DOk D acc) (no : NetOk N es) (co : COk es) (hn2 : N * D.length ≤ 1000000) (hg : GOk (N * D.length) 2147483647 (hopA es D.length (onL es D))) (hst : ∀ x, st x → x < N * D.length)
    (hW : ∀ o, W o → hb.length ≤ o ∧ o < hcl) (hE : Sl hb 4 sE (es.map encE)) (hD : Sl hb 5 sD (D.map encR)) (r3 : hb[o3]? = some (.cells ⟨[I N, sE], 0, 0, false⟩)) (r4 : hb[o4]? = some (.cells ⟨[sD, sA], 0, 0, false⟩)) (hbe : hb.length ≤ hcl)
    (hQ : ∀ h b c, Ext hb h → hcl ≤ h.length → MatW W 0 c7 N D.length rows c h → PI es D N st b c0 c es.length 0 → WP (fun p : Nat × Nat => milestoneref9_least_l5 tab p.1 p.2 (.ptr o3 0 2 0) (.ptr o4 0 2 0) c7 (.bool b) h) Q) :
    ∀ (d i : Nat) (h : Heap) (b : Bool) (c : Nat → Int), i + d = es.length → Ext hb h → hcl ≤ h.length → MatW W 0 c7 N D.length rows c h → PI es D N st b c0 c i 0 →
      WP (fun p : (Nat × Nat) × Nat => milestoneref9_least_l6 tab p.1.1 p.1.2 p.2 (.ptr o3 0 2 0) (.ptr o4 0 2 0) c7 (.bool b) (I i) h) Q := by
  have hle := no.len
  intro d
  induction d with
  | zero =>
    intro i h b c h1 e hl w p
    refine WP.rnd (fun i' j => milestoneref9_least_l6_eq tab i'.1 i'.2 j (.ptr o3 0 2 0) (.ptr o4 0 2 0) c7 (.bool b) (I i) h) ?_
    obtain rfl : i = es.length := by omega
    have r3' := e.get r3
    simp -implicitDefEqProofs (maxSteps := 1000000) (disch := first | assumption | omega | (simp only [gL] <;> omega) | ((repeat (first | exact Ext.refl _ | assumption | apply Ext.app | apply Ext.mk | (refine Ext.setr ?_ (by (first | omega | (simp only [gL] <;> omega))) _))); done) | (simp only [gL, gA, r3', hE.lenG] <;> omega) | fail) only [gB, setAll, partL, fldV, reduceIte, Nat.reduceAdd, Nat.reduceMul, r3', hE.lenG]
    exact WP.lv (hQ h b c e hl w p) fun i j => rfl
  | succ d ih =>
    intro i h b c h1 e hl w p
    refine WP.rnd (fun i' j => milestoneref9_least_l6_eq tab i'.1 i'.2 j (.ptr o3 0 2 0) (.ptr o4 0 2 0) c7 (.bool b) (I i) h) ?_
    have r3' := e.get r3
    obtain ⟨ed, hed⟩ : ∃ ed, gi es (i : Int) = ed := ⟨_, rfl⟩
    simp -implicitDefEqProofs (maxSteps := 1000000) (disch := first | assumption | omega | (simp only [gL] <;> omega) | ((repeat (first | exact Ext.refl _ | assumption | apply Ext.app | apply Ext.mk | (refine Ext.setr ?_ (by (first | omega | (simp only [gL] <;> omega))) _))); done) | (simp only [gL, gA, r3', hE.lenG, hE.idxG, hE.ldN, hed, encE] <;> omega) | fail) only [gB, setAll, partL, fldV, reduceIte, Nat.reduceAdd, Nat.reduceMul, r3', hE.lenG, hE.idxG, hE.ldN, hed, encE]
    obtain ⟨h2, hh2⟩ : ∃ h2, h2 = ((h ++ [AObj.cells ⟨[AV.int .i64 0, AV.int .i64 0, AV.int .i64 0, AV.int .i64 0], 0, 0, false⟩]).set h.length (.cells ⟨[I ed.fr, I ed.to, I ed.md, I ed.co], 0, 0, false⟩)) := ⟨_, rfl⟩
    have e2 : Ext h h2 := by rw [hh2]; ((repeat (first | exact Ext.refl _ | assumption | apply Ext.app | apply Ext.mk | (refine Ext.setr ?_ (by (first | omega | (simp only [gL] <;> omega))) _))))
    have r2 : h2[h.length]? = some (.cells ⟨[I ed.fr, I ed.to, I ed.md, I ed.co], 0, 0, false⟩) := by rw [hh2]; exact get_set_eq (by simp)
    rw [← hh2]
    have hl2 := e2.len
    refine WP.ent (least_l7 (sE := sE) (c0 := c0) (N := N) (acc := acc) (st := st) (rows := rows) ok no co hn2 hg hst hW hD r4 (i := i) (by omega) (oe := h.length) hl hbe (fun h3 b3 c3 e3 hl3 w3 p3 => ?_) D.length 0 h2 b c (by omega) (e.trans e2) (by omega) (w.ext e2) ?_ p) fun i => rfl
    · refine WP.congr (fun p => milestoneref9_least_b8_eq tab p.1.1 p.1.2 p.2 (.ptr o3 0 2 0) (.ptr o4 0 2 0) c7 (.bool b3) (I i) h3) ?_
      simp -implicitDefEqProofs (maxSteps := 1000000) (disch := first | assumption | omega | (simp only [gL] <;> omega) | ((repeat (first | exact Ext.refl _ | assumption | apply Ext.app | apply Ext.mk | (refine Ext.setr ?_ (by (first | omega | (simp only [gL] <;> omega))) _))); done) | (simp only [gL, gA] <;> omega) | fail) only [gB, setAll, partL, fldV, reduceIte, Nat.reduceAdd, Nat.reduceMul]
      exact ih (i + 1) h3 b3 c3 (by omega) e3 hl3 w3 p3.next
    · show h2[h.length]? = some (.cells ⟨encE (gi es (i : Int)), 0, 0, false⟩)
      rw [hed]; exact r2
theorem least_l5 {W : Nat → Prop} {hb : Heap} {o3 o4 hcl : Nat} {sE sD sA c7 : AV} {rows : List AV} {st : Nat → Prop} {Q : AV → Heap → Prop}
    (ok : DOk D acc) (no : NetOk N es) (co : COk es) (hn2 : N * D.length ≤ 1000000) (hg : GOk (N * D.length) 2147483647 (hopA es D.length (onL es D))) (hst : ∀ x, st x → x < N * D.length)
    (hW : ∀ o, W o → hb.length ≤ o ∧ o < hcl) (hE : Sl hb 4 sE (es.map encE)) (hD : Sl hb 5 sD (D.map encR)) (r3 : hb[o3]? = some (.cells ⟨[I N, sE], 0, 0, false⟩)) (r4 : hb[o4]? = some (.cells ⟨[sD, sA], 0, 0, false⟩)) (hbe : hb.length ≤ hcl)
    (hQ : ∀ h c, Ext hb h → MatW W 0 c7 N D.length rows c h → LC (N * D.length) (hopA es D.length (onL es D)) st c → Q c7 h) :
    ∀ (d : Nat) (h : Heap) (c : Nat → Int), mu (N * D.length) 2147483647 c ≤ d → Ext hb h → hcl ≤ h.length → MatW W 0 c7 N D.length rows c h → RI (N * D.length) 2147483647 (hopA es D.length (onL es D)) st c →
      WP (fun p : Nat × Nat => milestoneref9_least_l5 tab p.1 p.2 (.ptr o3 0 2 0) (.ptr o4 0 2 0) c7 (.bool true) h) Q := by
  intro d
  induction d with
  | zero =>
    intro h c hm e hl w r
    refine WP.rnd (fun i j => milestoneref9_least_l5_eq tab i j (.ptr o3 0 2 0) (.ptr o4 0 2 0) c7 (.bool true) h) ?_
    simp -implicitDefEqProofs (maxSteps := 1000000) (disch := first | assumption | omega | (simp only [gL] <;> omega) | ((repeat (first | exact Ext.refl _ | assumption | apply Ext.app | apply Ext.mk | (refine Ext.setr ?_ (by (first | omega | (simp only [gL] <;> omega))) _))); done) | (simp only [gL, gA] <;> omega) | fail) only [gB, setAll, partL, fldV, reduceIte, Nat.reduceAdd, Nat.reduceMul]
    refine WP.ent (least_l6 (c0 := c) (st := st) (N := N) (acc := acc) (rows := rows) ok no co hn2 hg hst hW hE hD r3 r4 hbe (fun h3 b3 c3 e3 hl3 w3 p3 => ?_) es.length 0 h false c (by omega) e hl w ⟨r, .inl ⟨rfl, rfl, fun i' s' hi _ => by omega, fun s' hs => by omega⟩⟩) fun i => rfl
    cases b3 with
    | false =>
      refine WP.rnd (fun i j => milestoneref9_least_l5_eq tab i j (.ptr o3 0 2 0) (.ptr o4 0 2 0) c7 (.bool false) h3) ?_
      simp -implicitDefEqProofs (maxSteps := 1000000) (disch := first | assumption | omega | (simp only [gL] <;> omega) | ((repeat (first | exact Ext.refl _ | assumption | apply Ext.app | apply Ext.mk | (refine Ext.setr ?_ (by (first | omega | (simp only [gL] <;> omega))) _))); done) | (simp only [gL, gA] <;> omega) | fail) only [gB, setAll, partL, fldV, reduceIte, Nat.reduceAdd, Nat.reduceMul]
      exact WP.ret (hQ h3 c3 e3 w3 (p3.done (b := false) ok no co hg hst))
    | true =>
      have := mu_nonneg (n := N * D.length) (W := 2147483647) (by omega) c3
      rcases p3.p with ⟨z, _⟩ | ⟨_, z⟩
      · cases z
      · omega
  | succ d ih =>
    intro h c hm e hl w r
    refine WP.rnd (fun i j => milestoneref9_least_l5_eq tab i j (.ptr o3 0 2 0) (.ptr o4 0 2 0) c7 (.bool true) h) ?_
    simp -implicitDefEqProofs (maxSteps := 1000000) (disch := first | assumption | omega | (simp only [gL] <;> omega) | ((repeat (first | exact Ext.refl _ | assumption | apply Ext.app | apply Ext.mk | (refine Ext.setr ?_ (by (first | omega | (simp only [gL] <;> omega))) _))); done) | (simp only [gL, gA] <;> omega) | fail) only [gB, setAll, partL, fldV, reduceIte, Nat.reduceAdd, Nat.reduceMul]
    refine WP.ent (least_l6 (c0 := c) (st := st) (N := N) (acc := acc) (rows := rows) ok no co hn2 hg hst hW hE hD r3 r4 hbe (fun h3 b3 c3 e3 hl3 w3 p3 => ?_) es.length 0 h false c (by omega) e hl w ⟨r, .inl ⟨rfl, rfl, fun i' s' hi _ => by omega, fun s' hs => by omega⟩⟩) fun i => rfl
    cases b3 with
    | false =>
      refine WP.rnd (fun i j => milestoneref9_least_l5_eq tab i j (.ptr o3 0 2 0) (.ptr o4 0 2 0) c7 (.bool false) h3) ?_
      simp -implicitDefEqProofs (maxSteps := 1000000) (disch := first | assumption | omega | (simp only [gL] <;> omega) | ((repeat (first | exact Ext.refl _ | assumption | apply Ext.app | apply Ext.mk | (refine Ext.setr ?_ (by (first | omega | (simp only [gL] <;> omega))) _))); done) | (simp only [gL, gA] <;> omega) | fail) only [gB, setAll, partL, fldV, reduceIte, Nat.reduceAdd, Nat.reduceMul]
      exact WP.ret (hQ h3 c3 e3 w3 (p3.done (b := false) ok no co hg hst))
    | true =>
      rcases p3.p with ⟨z, _⟩ | ⟨_, z⟩
      · cases z
      · exact ih h3 c3 (by omega) e3 hl3 w3 p3.r
end
end Go.Gm.A9
