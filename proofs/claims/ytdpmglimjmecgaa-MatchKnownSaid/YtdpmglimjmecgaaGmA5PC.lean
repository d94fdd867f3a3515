/- A part of the proof (GmA5PC): an abstract machine, what it does, and what the functions of the program come to on it. -/
import Derived.Test.YtdpmglimjmecgaaGmA5PB
set_option linter.unusedVariables false
set_option linter.unusedSimpArgs false
namespace Go.Gm.A5
open Go Go.Gm

section
variable {S : ByteArray} {ro : Nat} {f : Nat} {h H : Heap} {d p : Nat} {s : AV} {lg : Nat} {l : List Nd} {css : List (List AV)}
theorem NL.setR (a : NL S ro h H d p s lg l css) {p' d' : Nat} : NL S ro h (H.set ro (RD S p' d')) d' p' s lg l css := by
  have h1 := a.hro
  have h2 := a.fr.len
  have h3 := a.lgl
  refine ⟨a.hro, fr_set a.fr _, List.getElem?_set_self (by omega), by rw [List.getElem?_set_ne (by omega)]; exact a.ht, a.gr.set (by omega) _, by simp; exact a.lgl, a.nn, a.nvs.frs (FrS.set1 H ro _) (fun o q1 q2 q3 => by omega) fun o q1 q2 => by simp; exact q2⟩
/-- One more. -/
theorem NL.add (a : NL S ro h H d p s lg l css) {H2 : Heap} {n : Nd} {q : Nat} {v : AV} (pr : PR S ro H d n q v H2) (hl : css.length ≤ 2000000) :
    ∃ s5 s' H3, v = .agg [I n.kind, I n.st, I n.lo, I n.hi, s5] ∧ s5.one = true ∧ apnd 5 56 s (.sl H2.length 0 1 5 none 0) (H2 ++ [.cells ⟨[I n.kind, I n.st, I n.lo, I n.hi, s5], 0, 0, false⟩]) = some (s', H3) ∧ NL S ro h H3 d q s' lg (l ++ [n]) (css ++ [[I n.kind, I n.st, I n.lo, I n.hi, s5]]) := by
  obtain ⟨f2, r2, c5, rfl, nv⟩ := pr
  obtain ⟨s5, rfl, ho5⟩ := nv.inv
  have h1 := a.hro
  have h2 := a.fr.len
  have h3 := a.lgl
  have h4 := f2.len
  have htl := (List.getElem?_eq_some_iff.1 a.ht).1
  have g2 : Gr lg (lg + 1) H2 5 s css := Gr.frs' a.gr f2 fun _ z => by omega
  have t2 := (f2.get (o := h.length) (by omega) (by omega)).trans a.ht
  have n2 := a.nvs.frs f2 (D' := fun o => h.length < o ∧ o < H.length ∧ o ≠ lg) (fun o q1 q2 q3 => by omega) fun _ _ z => z
  have e3 : Ext H2 (H2 ++ [AObj.cells ⟨[I n.kind, I n.st, I n.lo, I n.hi, s5], 0, 0, false⟩]) := Ext.push _ _
  have hl3 : (H2 ++ [AObj.cells ⟨[I n.kind, I n.st, I n.lo, I n.hi, s5], 0, 0, false⟩]).length = H2.length + 1 := by simp
  obtain ⟨s', H3, lg', m1, m2, m3, m4, m5⟩ := Gr.appQ (bytes := 56) (g2.ext e3) (fun _ => by omega) (Gr.lit (sz := 5) (v := [I n.kind, I n.st, I n.lo, I n.hi, s5]) rfl).sl (by omega) (by omega) (by simp; omega)
  obtain rfl := m5 a.nn
  have hs' : s' ≠ .nils := m2.nnil (by simp)
  have h5 := m4.len
  refine ⟨s5, s', H3, rfl, ho5, m1, a.hro, ⟨by omega, fun o q1 q2 => ?_⟩, (m4.get (by omega) (by omega)).trans (e3.get r2), (m4.get (by omega) (by omega)).trans (e3.get t2), m2, by omega, hs', NVDs.snoc (n := n) (cs := [I n.kind, I n.st, I n.lo, I n.hi, s5]) ?_ ?_⟩
  · rw [m4.get (by omega) (by omega), (ext_iff.1 e3).2 o (by omega), f2.get q1 (by omega), a.fr.get q1 q2]
  · exact (nv.ext e3 (D' := fun o => H.length ≤ o ∧ o < H2.length) fun _ _ z => z).frs m4 (fun o q1 q2 q3 => by omega) fun o q1 q2 => by omega
  · exact (n2.frs (E := fun _ => False) (FrS.ofExt e3) (fun _ _ _ z => z) (D' := fun o => h.length < o ∧ o < H.length ∧ o ≠ lg') fun _ _ z => z).frs m4 (fun o q1 q2 q3 => by omega) fun o q1 q2 => by omega
/-- The first. -/
theorem NL.one {H2 : Heap} {n : Nd} {q : Nat} {v : AV} (hr : h[ro]? = some (RD S p d)) (pr : PR S ro (h ++ [Z5]) d n q v H2) :
    ∃ s5, v = .agg [I n.kind, I n.st, I n.lo, I n.hi, s5] ∧ s5.one = true ∧ NL S ro h (H2 ++ [.cells ⟨[I n.kind, I n.st, I n.lo, I n.hi, s5], 0, 0, false⟩]) d q (.sl H2.length 0 1 5 none 0) H2.length [n] [[I n.kind, I n.st, I n.lo, I n.hi, s5]] := by
  obtain ⟨f2, r2, c5, rfl, nv⟩ := pr
  obtain ⟨s5, rfl, ho5⟩ := nv.inv
  have hro := (List.getElem?_eq_some_iff.1 hr).1
  have e1 : Ext h (h ++ [Z5]) := Ext.push _ _
  have l1 : (h ++ [Z5]).length = h.length + 1 := by simp
  have l2 := f2.len
  have t1 : (h ++ [Z5])[h.length]? = some Z5 := by simp
  have e3 : Ext H2 (H2 ++ [AObj.cells ⟨[I n.kind, I n.st, I n.lo, I n.hi, s5], 0, 0, false⟩]) := Ext.push _ _
  refine ⟨s5, rfl, ho5, hro, ((FrS.ofExt e1).trans f2).trans (FrS.ofExt e3), e3.get r2, e3.get ((f2.get (by omega) (by omega)).trans t1), Gr.lit (sz := 5) rfl, ⟨by omega, by simp⟩, by simp, .cons (nv.ext e3 fun o q1 q2 => ⟨by omega, by simp; omega, by omega⟩) .nil⟩
/-- The list's end: its expression goes to the variable. -/
theorem NL.fin1 (a : NL S ro h H d p s lg l css) {n : Nd} (hl : l = [n]) : ∃ s5, css = [[I n.kind, I n.st, I n.lo, I n.hi, s5]] ∧ s5.one = true ∧ PR S ro h d n p (.agg [I n.kind, I n.st, I n.lo, I n.hi, s5]) (H.set h.length (.cells ⟨[I n.kind, I n.st, I n.lo, I n.hi, s5], 0, 0, false⟩)) := by
  have hn := a.nvs
  rw [hl] at hn
  cases hn with
  | cons x y =>
    cases y
    obtain ⟨s5, rfl, ho5⟩ := x.inv
    exact ⟨s5, rfl, ho5, PR.fin a.hro a.fr a.hr (x.frs (FrS.refl (fun _ => False) _) (fun _ _ _ z => z) fun o q1 q2 => ⟨q2.1, q1⟩)⟩
theorem NL.finL (a : NL S ro h H d p s lg l css) {n : Nd} (hk : n.kids = l) (h1 : n.st = 0) (h2 : n.lo = 0) (h3 : n.hi = 0) : PR S ro h d n p (.agg [I n.kind, I 0, I 0, I 0, s]) (H.set h.length (.cells ⟨[I n.kind, I 0, I 0, I 0, s], 0, 0, false⟩)) := by
  have := a.lgl
  have nv : NVD H (fun o => h.length < o ∧ o < H.length) n [I n.kind, I n.st, I n.lo, I n.hi, s] := .mk a.gr.sl (fun z => by have := a.gr.objIn z; omega) (by rw [hk]; exact a.nvs.frs (FrS.refl (fun _ => False) _) (fun _ _ _ z => z) fun o q1 q2 => ⟨q2.1, q1⟩)
  rw [h1, h2, h3] at nv
  exact PR.fin a.hro a.fr a.hr nv
theorem join_b2 (a : NL S ro h H d p s lg l css) (hl : l ≠ []) : WP (fun i : Nat => milestoneref4_reader_join_b2 tab i (.ptr h.length 0 5 0) s H) (PR S ro h d (finJ l) p) := by
  refine WP.congr (fun i => milestoneref4_reader_join_b2_eq tab i (.ptr h.length 0 5 0) s H) ?_
  have ht := a.ht
  have htl := (List.getElem?_eq_some_iff.1 ht).1
  have sl' : Sl H 5 s (css.map fun x => x) := by rw [List.map_id']; exact a.gr.sl
  have hln := a.nvs.len
  have hso := a.gr.sl.one
  have hsc := a.gr.sl.cells
  match l, hl with
  | [n], _ =>
    obtain ⟨s5, rfl, ho5, res⟩ := a.fin1 rfl
    have e0 := Ext.refl H
    have hg : gi [[I n.kind, I n.st, I n.lo, I n.hi, s5]] (0 : Int) = [I n.kind, I n.st, I n.lo, I n.hi, s5] := rfl
    simp -implicitDefEqProofs (disch := first | assumption | omega | (simp only [gL] <;> omega) | ((repeat (first | exact Ext.refl _ | assumption | apply Ext.app | apply Ext.mk | (refine Ext.setr ?_ (by (first | omega | (simp only [gL] <;> omega))) _))); done) | (simp only [gL, gA, sl'.lenG, sl'.idxG, sl'.ldN, hg, ho5, ht] <;> omega) | fail) only [gB, setAll, partL, fldV, reduceIte, Nat.reduceAdd, Nat.reduceMul, sl'.lenG, sl'.idxG, sl'.ldN, hg, ho5, ht]
    exact WP.ret res
  | n1 :: n2 :: r, _ =>
    have h2 : 2 ≤ css.length := by rw [← hln]; simp
    simp -implicitDefEqProofs (disch := first | assumption | omega | (simp only [gL] <;> omega) | ((repeat (first | exact Ext.refl _ | assumption | apply Ext.app | apply Ext.mk | (refine Ext.setr ?_ (by (first | omega | (simp only [gL] <;> omega))) _))); done) | (simp only [gL, gA, sl'.lenG, hso, hsc, ht] <;> omega) | fail) only [gB, setAll, partL, fldV, reduceIte, Nat.reduceAdd, Nat.reduceMul, sl'.lenG, hso, hsc, ht]
    exact WP.ret (a.finL (n := .join (n1 :: n2 :: r)) rfl rfl rfl rfl)
theorem union_b2 (a : NL S ro h H d p s lg l css) (hl : l ≠ []) : WP (fun i : Nat => milestoneref4_reader_union_b2 tab i (.ptr h.length 0 5 0) s H) (PR S ro h d (finU l) p) := by
  refine WP.congr (fun i => milestoneref4_reader_union_b2_eq tab i (.ptr h.length 0 5 0) s H) ?_
  have ht := a.ht
  have htl := (List.getElem?_eq_some_iff.1 ht).1
  have sl' : Sl H 5 s (css.map fun x => x) := by rw [List.map_id']; exact a.gr.sl
  have hln := a.nvs.len
  have hso := a.gr.sl.one
  have hsc := a.gr.sl.cells
  match l, hl with
  | [n], _ =>
    obtain ⟨s5, rfl, ho5, res⟩ := a.fin1 rfl
    have e0 := Ext.refl H
    have hg : gi [[I n.kind, I n.st, I n.lo, I n.hi, s5]] (0 : Int) = [I n.kind, I n.st, I n.lo, I n.hi, s5] := rfl
    simp -implicitDefEqProofs (disch := first | assumption | omega | (simp only [gL] <;> omega) | ((repeat (first | exact Ext.refl _ | assumption | apply Ext.app | apply Ext.mk | (refine Ext.setr ?_ (by (first | omega | (simp only [gL] <;> omega))) _))); done) | (simp only [gL, gA, sl'.lenG, sl'.idxG, sl'.ldN, hg, ho5, ht] <;> omega) | fail) only [gB, setAll, partL, fldV, reduceIte, Nat.reduceAdd, Nat.reduceMul, sl'.lenG, sl'.idxG, sl'.ldN, hg, ho5, ht]
    exact WP.ret res
  | n1 :: n2 :: r, _ =>
    have h2 : 2 ≤ css.length := by rw [← hln]; simp
    simp -implicitDefEqProofs (disch := first | assumption | omega | (simp only [gL] <;> omega) | ((repeat (first | exact Ext.refl _ | assumption | apply Ext.app | apply Ext.mk | (refine Ext.setr ?_ (by (first | omega | (simp only [gL] <;> omega))) _))); done) | (simp only [gL, gA, sl'.lenG, hso, hsc, ht] <;> omega) | fail) only [gB, setAll, partL, fldV, reduceIte, Nat.reduceAdd, Nat.reduceMul, sl'.lenG, hso, hsc, ht]
    exact WP.ret (a.finL (n := .uni (n1 :: n2 :: r)) rfl rfl rfl rfl)
end
section
variable {S : ByteArray} {ro : Nat} {f : Nat}
theorem jnl_step (hp : PcS S ro f) (ih : JnlS S ro f) : JnlS S ro (f + 1) := by
  intro d p l m q h H s lg css hx hd hl hlf a
  refine WP.rnd (fun i' j => milestoneref4_reader_join_l1_eq tab i' j (.ptr ro 0 4 0) (.ptr h.length 0 5 0) s H) ?_
  rw [prs] at hx
  cases hb : bt S p with
  | none =>
    rw [hb] at hx
    injection hx with hx
    injection hx with hx1 hx2
    subst hx1 hx2
    refine WP.call (next_f a.hr hb) ?_
    rintro _ _ ⟨rfl, rfl⟩
    simp -implicitDefEqProofs (disch := first | assumption | omega | (simp only [gL] <;> omega) | ((repeat (first | exact Ext.refl _ | assumption | apply Ext.app | apply Ext.mk | (refine Ext.setr ?_ (by (first | omega | (simp only [gL] <;> omega))) _))); done) | (simp only [gL, gA, extr_tup] <;> omega) | fail) only [gB, setAll, partL, fldV, reduceIte, Nat.reduceAdd, Nat.reduceMul, extr_tup]
    exact WP.lv (join_b2 a hl) fun i j => rfl
  | some c =>
    rw [hb] at hx
    simp only at hx
    refine WP.call (next_t a.hr hb) ?_
    rintro _ _ ⟨rfl, rfl⟩
    by_cases h124 : c = 124
    · subst h124
      rw [if_pos rfl] at hx
      injection hx with hx
      injection hx with hx1 hx2
      subst hx1 hx2
      have a1 := equ_t (a := 124) (b := 124) rfl
      simp -implicitDefEqProofs (disch := first | assumption | omega | (simp only [gL] <;> omega) | ((repeat (first | exact Ext.refl _ | assumption | apply Ext.app | apply Ext.mk | (refine Ext.setr ?_ (by (first | omega | (simp only [gL] <;> omega))) _))); done) | (simp only [gL, gA, extr_tup, a1] <;> omega) | fail) only [gB, setAll, partL, fldV, reduceIte, Nat.reduceAdd, Nat.reduceMul, extr_tup, a1]
      exact WP.lv (join_b2 a hl) fun i j => rfl
    rw [if_neg h124] at hx
    have a1 := equ_f (a := c) (b := 124) (by omega)
    by_cases h41 : c = 41
    · subst h41
      rw [if_pos rfl] at hx
      injection hx with hx
      injection hx with hx1 hx2
      subst hx1 hx2
      have a2 := equ_t (a := 41) (b := 41) rfl
      simp -implicitDefEqProofs (disch := first | assumption | omega | (simp only [gL] <;> omega) | ((repeat (first | exact Ext.refl _ | assumption | apply Ext.app | apply Ext.mk | (refine Ext.setr ?_ (by (first | omega | (simp only [gL] <;> omega))) _))); done) | (simp only [gL, gA, extr_tup, a1, a2] <;> omega) | fail) only [gB, setAll, partL, fldV, reduceIte, Nat.reduceAdd, Nat.reduceMul, extr_tup, a1, a2]
      exact WP.lv (join_b2 a hl) fun i j => rfl
    rw [if_neg h41] at hx
    have a2 := equ_f (a := c) (b := 41) (by omega)
    cases hy : prs S f d .pc p with
    | none => rw [hy] at hx; cases hx
    | some y =>
    obtain ⟨n, q'⟩ := y
    rw [hy] at hx
    simp only at hx
    simp -implicitDefEqProofs (disch := first | assumption | omega | (simp only [gL] <;> omega) | ((repeat (first | exact Ext.refl _ | assumption | apply Ext.app | apply Ext.mk | (refine Ext.setr ?_ (by (first | omega | (simp only [gL] <;> omega))) _))); done) | (simp only [gL, gA, extr_tup, a1, a2] <;> omega) | fail) only [gB, setAll, partL, fldV, reduceIte, Nat.reduceAdd, Nat.reduceMul, extr_tup, a1, a2]
    refine WP.call (hp d p n q' H hy hd a.hr) ?_
    rintro v H2 hv
    have hln := a.nvs.len
    obtain ⟨s5, s', H3, rfl, ho5, m1, a'⟩ := a.add hv (by omega)
    simp -implicitDefEqProofs (disch := first | assumption | omega | (simp only [gL] <;> omega) | ((repeat (first | exact Ext.refl _ | assumption | apply Ext.app | apply Ext.mk | (refine Ext.setr ?_ (by (first | omega | (simp only [gL] <;> omega))) _))); done) | (simp only [gL, gA, ho5, m1] <;> omega) | fail) only [gB, setAll, partL, fldV, reduceIte, Nat.reduceAdd, Nat.reduceMul, ho5, m1]
    exact ih d q' (l ++ [n]) m q h H3 s' lg _ hx hd (by simp) (by simp; omega) a'
theorem jn_step (hp : PcS S ro f) (hl : JnlS S ro f) (hf : f ≤ 900000) : JnS S ro (f + 1) := by
  intro d p n q h hx hd hr
  refine WP.tot (fun k => (call_milestoneref4_reader_join k _ h).trans (milestoneref4_reader_join_eq tab k _ h)) ?_
  rw [prs] at hx
  cases hy : prs S f d .pc p with
  | none => rw [hy] at hx; cases hx
  | some y =>
  obtain ⟨n1, q1⟩ := y
  rw [hy] at hx
  simp only at hx
  have e1 : Ext h (h ++ [Z5]) := Ext.push _ _
  simp -implicitDefEqProofs (disch := first | assumption | omega | (simp only [gL] <;> omega) | ((repeat (first | exact Ext.refl _ | assumption | apply Ext.app | apply Ext.mk | (refine Ext.setr ?_ (by (first | omega | (simp only [gL] <;> omega))) _))); done) | (simp only [gL, gA] <;> omega) | fail) only [gB, setAll, partL, fldV, reduceIte, Nat.reduceAdd, Nat.reduceMul]
  refine WP.call (hp d p n1 q1 (h ++ [Z5]) hy hd (e1.get hr)) ?_
  rintro v H2 hv
  obtain ⟨s5, rfl, ho5, a⟩ := NL.one hr hv
  simp -implicitDefEqProofs (disch := first | assumption | omega | (simp only [gL] <;> omega) | ((repeat (first | exact Ext.refl _ | assumption | apply Ext.app | apply Ext.mk | (refine Ext.setr ?_ (by (first | omega | (simp only [gL] <;> omega))) _))); done) | (simp only [gL, gA, ho5] <;> omega) | fail) only [gB, setAll, partL, fldV, reduceIte, Nat.reduceAdd, Nat.reduceMul, ho5]
  exact WP.ent (hl d q1 [n1] n q h _ _ _ _ hx hd (by simp) (by simp; omega) a) fun i => rfl
theorem unl_step (hp : JnS S ro f) (ih : UnlS S ro f) (hS : S.size ≤ 200) : UnlS S ro (f + 1) := by
  intro d p l m q h H s lg css hx hd hl hlf a
  refine WP.rnd (fun i' j => milestoneref4_reader_union_l1_eq tab i' j (.ptr ro 0 4 0) (.ptr h.length 0 5 0) s H) ?_
  rw [prs] at hx
  cases hb : bt S p with
  | none =>
    rw [hb] at hx
    injection hx with hx
    injection hx with hx1 hx2
    subst hx1 hx2
    refine WP.call (next_f a.hr hb) ?_
    rintro _ _ ⟨rfl, rfl⟩
    simp -implicitDefEqProofs (disch := first | assumption | omega | (simp only [gL] <;> omega) | ((repeat (first | exact Ext.refl _ | assumption | apply Ext.app | apply Ext.mk | (refine Ext.setr ?_ (by (first | omega | (simp only [gL] <;> omega))) _))); done) | (simp only [gL, gA, extr_tup] <;> omega) | fail) only [gB, setAll, partL, fldV, reduceIte, Nat.reduceAdd, Nat.reduceMul, extr_tup]
    exact WP.lv (union_b2 a hl) fun i j => rfl
  | some c =>
    rw [hb] at hx
    simp only at hx
    have hlt := bt_lt hb
    refine WP.call (next_t a.hr hb) ?_
    rintro _ _ ⟨rfl, rfl⟩
    by_cases h124 : c = 124
    · subst h124
      rw [if_pos rfl] at hx
      have a1 := neu_f (a := 124) (b := 124) rfl
      cases hy : prs S f d .jn (p + 1) with
      | none => rw [hy] at hx; cases hx
      | some y =>
      obtain ⟨n, q'⟩ := y
      rw [hy] at hx
      simp only at hx
      have hr := a.hr
      have aR := a.setR (p' := p + 1) (d' := d)
      obtain ⟨H1, hH1⟩ : ∃ H1, H1 = H.set ro (.cells ⟨[.str S, I ((p : Int) + 1), I d, I 0], 0, 0, false⟩) := ⟨_, rfl⟩
      have hR : H.set ro (RD S (p + 1) d) = H1 := by rw [hH1]; rfl
      rw [hR] at aR
      simp -implicitDefEqProofs (disch := first | assumption | omega | (simp only [gL] <;> omega) | ((repeat (first | exact Ext.refl _ | assumption | apply Ext.app | apply Ext.mk | (refine Ext.setr ?_ (by (first | omega | (simp only [gL] <;> omega))) _))); done) | (simp only [gL, gA, extr_tup, a1, hr] <;> omega) | fail) only [gB, setAll, partL, fldV, reduceIte, Nat.reduceAdd, Nat.reduceMul, extr_tup, a1, hr]
      rw [← hH1]
      refine WP.call (hp d (p + 1) n q' H1 hy hd aR.hr) ?_
      rintro v H2 hv
      have hln := a.nvs.len
      obtain ⟨s5, s', H3, rfl, ho5, m1, a'⟩ := aR.add hv (by omega)
      simp -implicitDefEqProofs (disch := first | assumption | omega | (simp only [gL] <;> omega) | ((repeat (first | exact Ext.refl _ | assumption | apply Ext.app | apply Ext.mk | (refine Ext.setr ?_ (by (first | omega | (simp only [gL] <;> omega))) _))); done) | (simp only [gL, gA, ho5, m1] <;> omega) | fail) only [gB, setAll, partL, fldV, reduceIte, Nat.reduceAdd, Nat.reduceMul, ho5, m1]
      exact ih d q' (l ++ [n]) m q h H3 s' lg _ hx hd (by simp) (by simp; omega) a'
    · rw [if_neg h124] at hx
      injection hx with hx
      injection hx with hx1 hx2
      subst hx1 hx2
      have a1 := neu_t (a := c) (b := 124) (by omega)
      simp -implicitDefEqProofs (disch := first | assumption | omega | (simp only [gL] <;> omega) | ((repeat (first | exact Ext.refl _ | assumption | apply Ext.app | apply Ext.mk | (refine Ext.setr ?_ (by (first | omega | (simp only [gL] <;> omega))) _))); done) | (simp only [gL, gA, extr_tup, a1] <;> omega) | fail) only [gB, setAll, partL, fldV, reduceIte, Nat.reduceAdd, Nat.reduceMul, extr_tup, a1]
      exact WP.lv (union_b2 a hl) fun i j => rfl
theorem un_step (hp : JnS S ro f) (hl : UnlS S ro f) (hf : f ≤ 900000) : UnS S ro (f + 1) := by
  intro d p n q h hx hd hr
  refine WP.tot (fun k => (call_milestoneref4_reader_union k _ h).trans (milestoneref4_reader_union_eq tab k _ h)) ?_
  rw [prs] at hx
  cases hy : prs S f d .jn p with
  | none => rw [hy] at hx; cases hx
  | some y =>
  obtain ⟨n1, q1⟩ := y
  rw [hy] at hx
  simp only at hx
  have e1 : Ext h (h ++ [Z5]) := Ext.push _ _
  simp -implicitDefEqProofs (disch := first | assumption | omega | (simp only [gL] <;> omega) | ((repeat (first | exact Ext.refl _ | assumption | apply Ext.app | apply Ext.mk | (refine Ext.setr ?_ (by (first | omega | (simp only [gL] <;> omega))) _))); done) | (simp only [gL, gA] <;> omega) | fail) only [gB, setAll, partL, fldV, reduceIte, Nat.reduceAdd, Nat.reduceMul]
  refine WP.call (hp d p n1 q1 (h ++ [Z5]) hy hd (e1.get hr)) ?_
  rintro v H2 hv
  obtain ⟨s5, rfl, ho5, a⟩ := NL.one hr hv
  simp -implicitDefEqProofs (disch := first | assumption | omega | (simp only [gL] <;> omega) | ((repeat (first | exact Ext.refl _ | assumption | apply Ext.app | apply Ext.mk | (refine Ext.setr ?_ (by (first | omega | (simp only [gL] <;> omega))) _))); done) | (simp only [gL, gA, ho5] <;> omega) | fail) only [gB, setAll, partL, fldV, reduceIte, Nat.reduceAdd, Nat.reduceMul, ho5]
  exact WP.ent (hl d q1 [n1] n q h _ _ _ _ hx hd (by simp) (by simp; omega) a) fun i => rfl
theorem prs_all (hS : S.size ≤ 200) : ∀ f, f ≤ 900000 → AtS S ro f ∧ PcS S ro f ∧ PclS S ro f ∧ JnS S ro f ∧ JnlS S ro f ∧ UnS S ro f ∧ UnlS S ro f := by
  intro f
  induction f with
  | zero =>
    intro _
    refine ⟨?_, ?_, ?_, ?_, ?_, ?_, ?_⟩
    · intro d p n q h hx; simp [prs] at hx
    · intro d p n q h hx; simp [prs] at hx
    · intro d p n m q h H no c5 hx; simp [prs] at hx
    · intro d p n q h hx; simp [prs] at hx
    · intro d p l m q h H s lg css hx; simp [prs] at hx
    · intro d p n q h hx; simp [prs] at hx
    · intro d p l m q h H s lg css hx; simp [prs] at hx
  | succ f ih =>
    intro hf
    obtain ⟨i1, i2, i3, i4, i5, i6, i7⟩ := ih (by omega)
    exact ⟨at_step i6 hS, pc_step i1 i3, pcl_step i3 hS, jn_step i2 i5 (by omega), jnl_step i2 i5, un_step i4 i7 (by omega), unl_step i4 i7 hS⟩
end
/-- What a text tells. -/
theorem parse_ok {S : ByteArray} {f : Nat} {n : Nd} (hS : S.size ≤ 200) (hf : f ≤ 900000) (hp : prs S f 0 .un 0 = some (n, S.size)) (h : Heap) :
    Tot tab f_milestoneref4_Parse [.str S] h fun v h' => Ext h h' ∧ ∃ c5, v = .tup [.agg c5, I 0, I 0] ∧ NVD h' (fun o => h.length ≤ o ∧ o < h'.length) n c5 := by
  refine WP.tot (fun k => (call_milestoneref4_Parse k _ h).trans (milestoneref4_Parse_eq tab k _ h)) ?_
  have hlb : lenB (.str S) = some (I S.size) := rfl
  have e1 : Ext h ((h ++ [Z5]) ++ [RD S 0 0]) := by ((repeat (first | exact Ext.refl _ | assumption | apply Ext.app | apply Ext.mk | (refine Ext.setr ?_ (by (first | omega | (simp only [gL] <;> omega))) _))))
  have hl1 : ((h ++ [Z5]) ++ [RD S 0 0]).length = h.length + 2 := by simp
  simp -implicitDefEqProofs (disch := first | assumption | omega | (simp only [gL] <;> omega) | ((repeat (first | exact Ext.refl _ | assumption | apply Ext.app | apply Ext.mk | (refine Ext.setr ?_ (by (first | omega | (simp only [gL] <;> omega))) _))); done) | (simp only [gL, gA, hlb] <;> omega) | fail) only [gB, setAll, partL, fldV, reduceIte, Nat.reduceAdd, Nat.reduceMul, hlb]
  have hU := (prs_all (ro := h.length + 1) hS f hf).2.2.2.2.2.1
  refine WP.call (hU 0 0 n S.size ((h ++ [Z5]) ++ [RD S 0 0]) hp (by omega) (by simp)) ?_
  rintro v H2 ⟨f2, r2, c5, rfl, nv⟩
  obtain ⟨s5, rfl, ho5⟩ := nv.inv
  have l2 := f2.len
  have t2 := (f2.get (o := h.length) (by omega) (by omega)).trans (show ((h ++ [Z5]) ++ [RD S 0 0])[h.length]? = some Z5 by simp)
  have e3 : Ext H2 (H2 ++ [AObj.cells ⟨[I n.kind, I n.st, I n.lo, I n.hi, s5], 0, 0, false⟩]) := Ext.push _ _
  have r3 := e3.get r2
  have t3 := e3.get t2
  have x3 : (H2 ++ [AObj.cells ⟨[I n.kind, I n.st, I n.lo, I n.hi, s5], 0, 0, false⟩])[H2.length]? = some (.cells ⟨[I n.kind, I n.st, I n.lo, I n.hi, s5], 0, 0, false⟩) := by simp
  have l3 := e3.len
  have nv3 := nv.ext e3 (D' := fun o => h.length < o ∧ o < H2.length) fun o q1 q2 => by omega
  have f3 : FrS (fun o => o = h.length + 1) ((h ++ [Z5]) ++ [RD S 0 0]) (H2 ++ [AObj.cells ⟨[I n.kind, I n.st, I n.lo, I n.hi, s5], 0, 0, false⟩]) := f2.trans (FrS.ofExt e3)
  simp -implicitDefEqProofs (disch := first | assumption | omega | (simp only [gL] <;> omega) | ((repeat (first | exact Ext.refl _ | assumption | apply Ext.app | apply Ext.mk | (refine Ext.setr ?_ (by (first | omega | (simp only [gL] <;> omega))) _))); done) | (simp only [gL, gA, ho5, set_lastO] <;> omega) | fail) only [gB, setAll, partL, fldV, reduceIte, Nat.reduceAdd, Nat.reduceMul, ho5, set_lastO]
  generalize H2 ++ [AObj.cells ⟨[I n.kind, I n.st, I n.lo, I n.hi, s5], 0, 0, false⟩] = H3 at *
  simp -implicitDefEqProofs (disch := first | assumption | omega | (simp only [gL] <;> omega) | ((repeat (first | exact Ext.refl _ | assumption | apply Ext.app | apply Ext.mk | (refine Ext.setr ?_ (by (first | omega | (simp only [gL] <;> omega))) _))); done) | (simp only [gL, gA, r2, r3, hlb] <;> omega) | fail) only [gB, setAll, partL, fldV, reduceIte, Nat.reduceAdd, Nat.reduceMul, r2, r3, hlb]
  refine WP.congr (fun i => milestoneref4_Parse_b1_eq tab i _ _ _ H3) ?_
  simp -implicitDefEqProofs (disch := first | assumption | omega | (simp only [gL] <;> omega) | ((repeat (first | exact Ext.refl _ | assumption | apply Ext.app | apply Ext.mk | (refine Ext.setr ?_ (by (first | omega | (simp only [gL] <;> omega))) _))); done) | (simp only [gL, gA, r3, x3, ho5, t3] <;> omega) | fail) only [gB, setAll, partL, fldV, reduceIte, Nat.reduceAdd, Nat.reduceMul, r3, x3, ho5, t3]
  have e4 : Ext h H3 := f3.ext e1 fun o q1 q2 => by omega
  refine WP.ret ⟨e4.set (Nat.le_refl _) _, _, rfl, nv3.frs (FrS.set1 H3 h.length _) (fun o q1 q2 q3 => by omega) fun o q1 q2 => by simp; omega⟩
end Go.Gm.A5
