/- A part of the proof (GmA9G): an abstract machine, what it does, and what the functions of the program come to on it. -/
import Derived.Test.YtidaobchfmnjpaaGmA9F
set_option linter.unusedVariables false
set_option linter.unusedSimpArgs false
set_option linter.unusedSectionVars false
namespace Go.Gm.A9
open Go Go.Gm
/-! ### Where a spot leads -/
section
variable {h0 h : Heap} {g : AV} {N : Nat} {es : List E} {D : List (List Int)} {acc : List Bool}
theorem on_l1 (gv : GV h0 g N es D acc) (ok : DOk D acc) (no : NetOk N es) {v s : Int} (s0 : 0 ≤ s) (s1 : s < D.length) {ks : List Int} (hks : ∀ k ∈ ks, 0 ≤ k ∧ k < es.length) (hlk : ks.length ≤ 100000) {x t15 : AV} (hx : At h0 x [I v, I s]) (ht : Sl h0 1 t15 (ks.map encI)) :
    ∀ (d n : Nat) (h : Heap) (out : AV), n + d = ks.length → Ext h0 h → Gr h0.length h.length h 3 out (((ks.take n).map fun k => (((gi es k).to, nx D s (gi es k).md, k) : Tr)).map encT) →
      WP (fun p : Nat × Nat => product_graph_on_l1 tab p.1 p.2 g x out t15 (I ks.length) (I n) h) fun r h' => Ext h0 h' ∧ Gr h0.length h'.length h' 3 r ((ks.map fun k => (((gi es k).to, nx D s (gi es k).md, k) : Tr)).map encT) := by
  obtain ⟨sE, a, sD, sA, sB, B, k1, k2, k3, k4, k5, k6, k7, k8⟩ := gv.ex
  intro d
  induction d with
  | zero =>
    intro n h out h1 e g1
    refine WP.rnd (fun i j => product_graph_on_l1_eq tab i j g x out t15 (I ks.length) (I n) h) ?_
    rw [List.take_of_length_le (by omega)] at g1
    simp -implicitDefEqProofs (disch := first | assumption | omega | (simp only [gL] <;> omega) | ((repeat (first | exact Ext.refl _ | assumption | apply Ext.app | apply Ext.mk | (refine Ext.setr ?_ (by (first | omega | (simp only [gL] <;> omega))) _))); done) | (simp only [gL, gA] <;> omega) | fail) only [gB, setAll, partL, fldV, reduceIte, Nat.reduceAdd, Nat.reduceMul]
    exact WP.ret ⟨e, g1⟩
  | succ d ih =>
    intro n h out h1 e g1
    refine WP.rnd (fun i j => product_graph_on_l1_eq tab i j g x out t15 (I ks.length) (I n) h) ?_
    obtain ⟨k, hk⟩ : ∃ k, gi ks n = k := ⟨_, rfl⟩
    have hkr := hks k (hk ▸ gi_mem (by omega) (by omega))
    have he := no.edge _ (gi_mem (xs := es) hkr.1 hkr.2)
    obtain ⟨ed, hed⟩ : ∃ ed, gi es k = ed := ⟨_, rfl⟩
    rw [hed] at he
    have htk : ks.take (n + 1) = ks.take n ++ [k] := by
      rw [List.take_add_one, show ks[n]? = some k by
        have := gi_some (xs := ks) (i := (n : Int)) (by omega) (by omega)
        rw [hk] at this; simpa using this]
      rfl
    have hlo := e.len
    have hl2 : ((h ++ [AObj.cells ⟨[I 0, I 0, I 0, I 0], 0, 0, false⟩]).set h.length (.cells ⟨[I ed.fr, I ed.to, I ed.md, I ed.co], 0, 0, false⟩)).length = h.length + 1 := by simp
    obtain ⟨h2, hh2⟩ : ∃ h2, h2 = ((h ++ [AObj.cells ⟨[I 0, I 0, I 0, I 0], 0, 0, false⟩]).set h.length (.cells ⟨[I ed.fr, I ed.to, I ed.md, I ed.co], 0, 0, false⟩)) := ⟨_, rfl⟩
    have e2 : Ext h h2 := by rw [hh2]; ((repeat (first | exact Ext.refl _ | assumption | apply Ext.app | apply Ext.mk | (refine Ext.setr ?_ (by (first | omega | (simp only [gL] <;> omega))) _))))
    have r2 : h2[h.length]? = some (.cells ⟨[I ed.fr, I ed.to, I ed.md, I ed.co], 0, 0, false⟩) := by rw [hh2]; exact get_set_eq (by simp)
    rw [← hh2] at hl2
    have e02 := e.trans e2
    obtain ⟨p, p1, p2, -⟩ := cellA (H := h2) k4 e02 s0 s1 he.2.2.2.2.1 he.2.2.2.2.2
    rw [show (encR (gi D s)).getD ed.md.toNat .undef = I (nx D s ed.md) by
      have hr := ok.row s s0 s1
      simp only [encR, nx, List.getD_eq_getElem?_getD, List.getElem?_map]
      have := gi_some (xs := gi D s) he.2.2.2.2.1 (by omega)
      rw [this]; rfl] at p2
    obtain ⟨s', h', q1, q2, q3⟩ := Gr.append1 (bytes := 24) (g1.ext e2) (v := [I ed.to, I (nx D s ed.md), I k]) rfl (by omega) (by omega) (by simp; omega) (by omega) (by omega)
    rw [mkObj_eq] at q1
    simp -implicitDefEqProofs (disch := first | assumption | omega | (simp only [gL] <;> omega) | ((repeat (first | exact Ext.refl _ | assumption | apply Ext.app | apply Ext.mk | (refine Ext.setr ?_ (by (first | omega | (simp only [gL] <;> omega))) _))); done) | (simp only [gL, gA, k1.nil, k1.fldA0, k1.fldAf, k1.ldfE, ht.idxG, ht.ld0, hk, encI, k2.idxG, k2.ldN, hed, encE] <;> omega) | fail) only [gB, setAll, partL, fldV, reduceIte, Nat.reduceAdd, Nat.reduceMul, k1.nil, k1.fldA0, k1.fldAf, k1.ldfE, ht.idxG, ht.ld0, hk, encI, k2.idxG, k2.ldN, hed, encE]
    rw [show AV.int .i64 0 = I 0 from rfl, ← hh2]
    simp -implicitDefEqProofs (disch := first | assumption | omega | (simp only [gL] <;> omega) | ((repeat (first | exact Ext.refl _ | assumption | apply Ext.app | apply Ext.mk | (refine Ext.setr ?_ (by (first | omega | (simp only [gL] <;> omega))) _))); done) | (simp only [gL, gA, k1.nil, k1.fldA0, k1.fldAf, k1.ldfE, r2, hx.fldA0, hx.ldfE, k4.idxG, p1, p2, q1] <;> omega) | fail) only [gB, setAll, partL, fldV, reduceIte, Nat.reduceAdd, Nat.reduceMul, k1.nil, k1.fldA0, k1.fldAf, k1.ldfE, r2, hx.fldA0, hx.ldfE, k4.idxG, p1, p2, q1]
    refine ih (n + 1) h' s' (by omega) (q3.ext e02 (by omega)) ((q2.mono (Nat.le_refl _) (Nat.le_refl _)).cong ?_)
    rw [htk, List.map_append, List.map_append]
    simp [encT, hed]
theorem on_spec (gv : GV h g N es D acc) (ok : DOk D acc) (no : NetOk N es) {v s : Int} (s0 : 0 ≤ s) (s1 : s < D.length) :
    Tot tab f_product_graph_on [g, .agg [I v, I s]] h fun r h' => Ext h h' ∧ Gr h.length h'.length h' 3 r ((onL es D v s).map encT) := by
  obtain ⟨sE, a, sD, sA, sB, B, k1, k2, k3, k4, k5, k6, k7, k8⟩ := gv.ex
  refine WP.tot (fun k => (call_product_graph_on k _ _ h).trans (product_graph_on_eq tab k _ _ h)) ?_
  have e1 : Ext h (h ++ [AObj.cells ⟨[I v, I s], 0, 0, false⟩]) := by ((repeat (first | exact Ext.refl _ | assumption | apply Ext.app | apply Ext.mk | (refine Ext.setr ?_ (by (first | omega | (simp only [gL] <;> omega))) _))))
  simp -implicitDefEqProofs (disch := first | assumption | omega | (simp only [gL] <;> omega) | ((repeat (first | exact Ext.refl _ | assumption | apply Ext.app | apply Ext.mk | (refine Ext.setr ?_ (by (first | omega | (simp only [gL] <;> omega))) _))); done) | (simp only [gL, gA, k1.nil, k1.fldA0, k1.fldAf, k1.ldfE] <;> omega) | fail) only [gB, setAll, partL, fldV, reduceIte, Nat.reduceAdd, Nat.reduceMul, k1.nil, k1.fldA0, k1.fldAf, k1.ldfE]
  refine WP.call (out_spec no (k3.ext e1)) ?_
  rintro r h2 ⟨e2, g2⟩
  have hl2 : (outL es v).length ≤ 100000 := Nat.le_trans (idxTo_len ..) no.len
  have hl := e2.len
  simp only [List.length_append, List.length_cons, List.length_nil] at hl
  have hx : At h2 (.ptr h.length 0 2 0) [I v, I s] := At.row (wg := 0) (g := 0) (ro := false) (e2.get (by simp)) (Nat.le_refl _) rfl
  simp -implicitDefEqProofs (disch := first | assumption | omega | (simp only [gL] <;> omega) | ((repeat (first | exact Ext.refl _ | assumption | apply Ext.app | apply Ext.mk | (refine Ext.setr ?_ (by (first | omega | (simp only [gL] <;> omega))) _))); done) | (simp only [gL, gA, g2.sl.lenG] <;> omega) | fail) only [gB, setAll, partL, fldV, reduceIte, Nat.reduceAdd, Nat.reduceMul, g2.sl.lenG]
  refine WP.ent ((on_l1 (gv.ext (e1.trans e2)) ok no s0 s1 (ks := outL es v) (fun k hk => ⟨(idxTo_mem.1 hk).1, (idxTo_mem.1 hk).2.1⟩) hl2 hx g2.sl (outL es v).length 0 h2 .nils (by omega) (Ext.refl _) (Gr.nil ..)).mono ?_) fun i => rfl
  rintro r h3 ⟨e3, g3⟩
  exact ⟨(e1.trans e2).trans e3, g3.mono (by omega) (Nat.le_refl _)⟩
end
end Go.Gm.A9
