/- A part of the proof (GmA9X): an abstract machine, what it does, and what the functions of the program come to on it. -/
import Derived.Test.YtidaobchfmnjpaaGmA9V
set_option linter.unusedVariables false
set_option linter.unusedSimpArgs false
set_option linter.unusedSectionVars false
namespace Go.Gm.A9
open Go Go.Gm
section
variable {N : Nat} {es : List E} {D : List (List Int)} {acc : List Bool}
theorem least_l7 {W : Nat → Prop} {hb : Heap} {o3 o4 oe hcl i : Nat} {sE sD sA c7 : AV} {rows : List AV} {st : Nat → Prop} {c0 : Nat → Int} {Q : AV → Heap → Prop}
    (ok : DOk D acc) (no : NetOk N es) (co : COk es) (hn2 : N * D.length ≤ 1000000) (hg : GOk (N * D.length) 2147483647 (hopA es D.length (onL es D))) (hst : ∀ x, st x → x < N * D.length)
    (hW : ∀ o, W o → hb.length ≤ o ∧ o < hcl) (hD : Sl hb 5 sD (D.map encR)) (r4 : hb[o4]? = some (.cells ⟨[sD, sA], 0, 0, false⟩)) (hi : i < es.length) (hoe : hcl ≤ oe) (hbe : hb.length ≤ hcl)
    (hQ : ∀ h b c, Ext hb h → hcl ≤ h.length → MatW W 0 c7 N D.length rows c h → PI es D N st b c0 c i D.length → WP (fun p : (Nat × Nat) × Nat => milestoneref9_least_b8 tab p.1.1 p.1.2 p.2 (.ptr o3 0 2 0) (.ptr o4 0 2 0) c7 (.bool b) (I i) h) Q) :
    ∀ (d s : Nat) (h : Heap) (b : Bool) (c : Nat → Int), s + d = D.length → Ext hb h → hcl ≤ h.length → MatW W 0 c7 N D.length rows c h → h[oe]? = some (.cells ⟨encE (eg es i), 0, 0, false⟩) → PI es D N st b c0 c i s →
      WP (fun p : ((Nat × Nat) × Nat) × Nat => milestoneref9_least_l7 tab p.1.1.1 p.1.1.2 p.1.2 p.2 (.ptr o3 0 2 0) (.ptr o4 0 2 0) c7 (.bool b) (I i) (.ptr oe 0 4 0) (I s) h) Q := by
  intro d
  induction d with
  | zero =>
    intro s h b c h1 e hl w re p
    refine WP.rnd (fun i' j => milestoneref9_least_l7_eq tab i'.1.1 i'.1.2 i'.2 j (.ptr o3 0 2 0) (.ptr o4 0 2 0) c7 (.bool b) (I i) (.ptr oe 0 4 0) (I s) h) ?_
    obtain rfl : s = D.length := by omega
    have r4' := e.get r4
    simp -implicitDefEqProofs (maxSteps := 1000000) (disch := first | assumption | omega | (simp only [gL] <;> omega) | ((repeat (first | exact Ext.refl _ | assumption | apply Ext.app | apply Ext.mk | (refine Ext.setr ?_ (by (first | omega | (simp only [gL] <;> omega))) _))); done) | (simp only [gL, gA, r4', hD.lenG] <;> omega) | fail) only [gB, setAll, partL, fldV, reduceIte, Nat.reduceAdd, Nat.reduceMul, r4', hD.lenG]
    exact WP.lv (hQ h b c e hl w p) fun i j => rfl
  | succ d ih =>
    intro s h b c h1 e hl w re p
    refine WP.rnd (fun i' j => milestoneref9_least_l7_eq tab i'.1.1 i'.1.2 i'.2 j (.ptr o3 0 2 0) (.ptr o4 0 2 0) c7 (.bool b) (I i) (.ptr oe 0 4 0) (I s) h) ?_
    have hs : s < D.length := by omega
    have r4' := e.get r4
    have he : 0 ≤ (eg es i).fr ∧ (eg es i).fr < N ∧ 0 ≤ (eg es i).to ∧ (eg es i).to < N ∧ 0 ≤ (eg es i).md ∧ (eg es i).md < 5 := no.edge _ (gi_mem (xs := es) (i := (i : Int)) (by omega) (by omega))
    have ht : 0 ≤ nx D s (eg es i).md ∧ nx D s (eg es i).md < D.length := ok.to s (eg es i).md (by omega) (by omega) he.2.2.2.2.1 he.2.2.2.2.2
    have hco : 0 ≤ (eg es i).co ∧ (eg es i).co ≤ 2147483647 := co.c _ (gi_mem (xs := es) (i := (i : Int)) (by omega) (by omega))
    obtain ⟨pp, p1, p2, -⟩ := cellA (H := h) hD e (i := (s : Int)) (j := (eg es i).md) (by omega) (by omega) he.2.2.2.2.1 he.2.2.2.2.2
    rw [show (encR (gi D s)).getD (eg es i).md.toNat .undef = I (nx D s (eg es i).md) by
      have hr := ok.row s (by omega) (by omega)
      simp only [encR, nx, List.getD_eq_getElem?_getD, List.getElem?_map]
      have := gi_some (xs := gi D s) he.2.2.2.2.1 (by omega)
      rw [this]; rfl] at p2
    have hx1 : src es D.length i s = (eg es i).fr.toNat * D.length + s := rfl
    have hx2 : dst es D i s = (eg es i).to.toNat * D.length + (nx D s (eg es i).md).toNat := rfl
    have hsn : src es D.length i s < N * D.length := by rw [hx1]; exact spotN (by omega) hs
    have hdn : dst es D i s < N * D.length := by rw [hx2]; exact spotN (by omega) (by omega)
    have hW0 : (0 : Int) ≤ 2147483647 := by omega
    have bs := p.r.le hW0 hsn
    have bd := p.r.le hW0 hdn
    have hnn : ((N * D.length : Nat) : Int) * 2147483647 ≤ 1000000 * 2147483647 := by omega
    have kp := p.keep
    have rl := p.relax ok no hg hst hi hs hsn
    simp only [Rx] at kp
    rw [hx1, hx2] at kp rl
    rw [hx1] at bs
    rw [hx2] at bd
    obtain ⟨f, hf⟩ : ∃ f : Nat, (eg es i).fr = f := ⟨(eg es i).fr.toNat, by omega⟩
    obtain ⟨t, hto⟩ : ∃ t : Nat, (eg es i).to = t := ⟨(eg es i).to.toNat, by omega⟩
    obtain ⟨u, hu⟩ : ∃ u : Nat, nx D s (eg es i).md = u := ⟨(nx D s (eg es i).md).toNat, by omega⟩
    obtain ⟨m, hm⟩ : ∃ m : Int, (eg es i).md = m := ⟨_, rfl⟩
    obtain ⟨y, hy⟩ : ∃ y : Int, (eg es i).co = y := ⟨_, rfl⟩
    have ncf : ((f : Nat) : Int).toNat = f := Int.toNat_natCast f
    have nct : ((t : Nat) : Int).toNat = t := Int.toNat_natCast t
    have ncu : ((u : Nat) : Int).toNat = u := Int.toNat_natCast u
    rw [hu] at p2
    rw [hm] at p1
    simp only [hf, hto, hu, hy, ncf, nct, ncu] at kp rl bs bd hco
    simp only [encE, hf, hto, hm, hy] at re
    have hfN : f < N := by omega
    have htN : t < N := by omega
    have huS : u < D.length := by omega
    have lr := w.lr
    have rf := w.row hfN
    have rt := w.row htN
    have gf1 := rowL_gi (c := c) (v := f) hs
    have gt1 := rowL_gi (c := c) (v := t) huS
    obtain ⟨x1, hx1'⟩ : ∃ x1, c (f * D.length + s) = x1 := ⟨_, rfl⟩
    obtain ⟨x2, hx2'⟩ : ∃ x2, c (t * D.length + u) = x2 := ⟨_, rfl⟩
    simp only [hx1', hx2'] at kp rl bs bd gf1 gt1
    by_cases c1 : 0 ≤ x1
    · by_cases c2 : x2 < 0
      · obtain ⟨h', s1, w1, f1⟩ := w.set htN huS (x1 + y)
        simp -implicitDefEqProofs (maxSteps := 1000000) (disch := first | assumption | omega | (simp only [gL] <;> omega) | ((repeat (first | exact Ext.refl _ | assumption | apply Ext.app | apply Ext.mk | (refine Ext.setr ?_ (by (first | omega | (simp only [gL] <;> omega))) _))); done) | (simp only [gL, gA, r4', hD.lenG, hD.idxG, re, p1, p2, w.gc.idxG, w.gc.ld0, lr, rf.idxG, rf.ld0, rt.idxG, rt.ld0, rowL_len, encI, gf1, gt1, s1] <;> omega) | fail) only [gB, setAll, partL, fldV, reduceIte, Nat.reduceAdd, Nat.reduceMul, r4', hD.lenG, hD.idxG, re, p1, p2, w.gc.idxG, w.gc.ld0, lr, rf.idxG, rf.ld0, rt.idxG, rt.ld0, rowL_len, encI, gf1, gt1, s1]
        have e1 : Ext hb h' := f1.ext e fun o z1 z2 => by have := hW o z2; omega
        have hl1 := f1.len
        refine ih (s + 1) h' true _ (by omega) e1 (by omega) w1 ?_ (rl c1 (.inl c2))
        rw [f1.get (fun z => by have := hW _ z; omega) (List.getElem?_eq_some_iff.1 re).1, re]
        simp only [encE, hf, hto, hm, hy]
      · by_cases c3 : x1 + y < x2
        · obtain ⟨h', s1, w1, f1⟩ := w.set htN huS (x1 + y)
          simp -implicitDefEqProofs (maxSteps := 1000000) (disch := first | assumption | omega | (simp only [gL] <;> omega) | ((repeat (first | exact Ext.refl _ | assumption | apply Ext.app | apply Ext.mk | (refine Ext.setr ?_ (by (first | omega | (simp only [gL] <;> omega))) _))); done) | (simp only [gL, gA, r4', hD.lenG, hD.idxG, re, p1, p2, w.gc.idxG, w.gc.ld0, lr, rf.idxG, rf.ld0, rt.idxG, rt.ld0, rowL_len, encI, gf1, gt1, s1] <;> omega) | fail) only [gB, setAll, partL, fldV, reduceIte, Nat.reduceAdd, Nat.reduceMul, r4', hD.lenG, hD.idxG, re, p1, p2, w.gc.idxG, w.gc.ld0, lr, rf.idxG, rf.ld0, rt.idxG, rt.ld0, rowL_len, encI, gf1, gt1, s1]
          have e1 : Ext hb h' := f1.ext e fun o z1 z2 => by have := hW o z2; omega
          have hl1 := f1.len
          refine ih (s + 1) h' true _ (by omega) e1 (by omega) w1 ?_ (rl c1 (.inr c3))
          rw [f1.get (fun z => by have := hW _ z; omega) (List.getElem?_eq_some_iff.1 re).1, re]
          simp only [encE, hf, hto, hm, hy]
        · simp -implicitDefEqProofs (maxSteps := 1000000) (disch := first | assumption | omega | (simp only [gL] <;> omega) | ((repeat (first | exact Ext.refl _ | assumption | apply Ext.app | apply Ext.mk | (refine Ext.setr ?_ (by (first | omega | (simp only [gL] <;> omega))) _))); done) | (simp only [gL, gA, r4', hD.lenG, hD.idxG, re, p1, p2, w.gc.idxG, w.gc.ld0, lr, rf.idxG, rf.ld0, rt.idxG, rt.ld0, rowL_len, encI, gf1, gt1] <;> omega) | fail) only [gB, setAll, partL, fldV, reduceIte, Nat.reduceAdd, Nat.reduceMul, r4', hD.lenG, hD.idxG, re, p1, p2, w.gc.idxG, w.gc.ld0, lr, rf.idxG, rf.ld0, rt.idxG, rt.ld0, rowL_len, encI, gf1, gt1]
          refine ih (s + 1) h b c (by omega) e hl w ?_ (kp fun _ => ⟨by omega, by omega⟩)
          simp only [encE, hf, hto, hm, hy]; exact re
    · simp -implicitDefEqProofs (maxSteps := 1000000) (disch := first | assumption | omega | (simp only [gL] <;> omega) | ((repeat (first | exact Ext.refl _ | assumption | apply Ext.app | apply Ext.mk | (refine Ext.setr ?_ (by (first | omega | (simp only [gL] <;> omega))) _))); done) | (simp only [gL, gA, r4', hD.lenG, hD.idxG, re, p1, p2, w.gc.idxG, w.gc.ld0, lr, rf.idxG, rf.ld0, rt.idxG, rt.ld0, rowL_len, encI, gf1, gt1] <;> omega) | fail) only [gB, setAll, partL, fldV, reduceIte, Nat.reduceAdd, Nat.reduceMul, r4', hD.lenG, hD.idxG, re, p1, p2, w.gc.idxG, w.gc.ld0, lr, rf.idxG, rf.ld0, rt.idxG, rt.ld0, rowL_len, encI, gf1, gt1]
      refine ih (s + 1) h b c (by omega) e hl w ?_ (kp fun z => absurd z c1)
      simp only [encE, hf, hto, hm, hy]; exact re
end
end Go.Gm.A9
