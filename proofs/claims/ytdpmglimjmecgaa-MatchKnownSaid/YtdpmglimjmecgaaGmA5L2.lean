/- A part of the proof (GmA5L2): an abstract machine, what it does, and what the functions of the program come to on it. -/
import Derived.Test.YtdpmglimjmecgaaGmA5P3
set_option linter.unusedVariables false
set_option linter.unusedSimpArgs false
namespace Go.Gm.A5
open Go Go.Gm

theorem bool_eq {b b' : Bool} {p : Prop} (h : b = true ↔ p) (h' : b' = true ↔ p) : b = b' := by
  cases b <;> cases b' <;> simp_all
/-- An expression in a variable. -/
structure NA (h : Heap) (p : AV) (n : Nd) (c5 : List AV) : Prop where
  at_ : At h p c5
  nv : NV h n c5
theorem NA.ext {h h' : Heap} {p : AV} {n : Nd} {c5 : List AV} (a : NA h p n c5) (e : Ext h h') : NA h' p n c5 := ⟨a.at_.ext e, a.nv.keeps (.ofExt e)⟩
theorem NA.ld {h H : Heap} {p : AV} {n : Nd} {c5 : List AV} (a : NA h p n c5) (e : Ext h H) : ldN 5 H p = some (.agg c5) := by
  have := (a.at_.ext e).ldN (n := 5) (by rw [a.nv.len]; exact Nat.le_refl _)
  rwa [List.take_of_length_le (Nat.le_of_eq a.nv.len)] at this
/-- A variable for what a call told. -/
theorem NA.new {h : Heap} {n : Nd} {c5 : List AV} (nv : NV h n c5) : NA (h ++ [AObj.cells ⟨c5, 0, 0, false⟩]) (.ptr h.length 0 5 0) n c5 :=
  ⟨At.row (wg := 0) (g := 0) (ro := false) (by simp) (Nat.le_refl _) nv.len.symm, nv.keeps (.ofExt (Ext.push h _))⟩
section
variable {h : Heap} {p ns raw few : AV} {n : Nd} {c5 : List AV} {nz rz : List Int} {fw : Int}
theorem all_b2 (na : NA h p n c5) (fi : Fine n) (hc : cntN n ≤ 800000) {H : Heap} (e : Ext h H) (hr : Sl h 1 raw (rz.map encI)) (hrl : rz.length ≤ 20) :
    WP (fun i : Nat => milestonelaw5_MatchAll_b2 tab i raw p H) fun r _ => r = .bool true := by
  refine WP.congr (fun i => milestonelaw5_MatchAll_b2_eq tab i raw p H) ?_
  have e0 := Ext.refl H
  have na' := na.ext e
  simp -implicitDefEqProofs (disch := first | assumption | omega | (simp only [gL] <;> omega) | ((repeat (first | exact Ext.refl _ | assumption | apply Ext.app | apply Ext.mk | (refine Ext.setr ?_ (by (first | omega | (simp only [gL] <;> omega))) _))); done) | (simp only [gL, gA, na'.ld] <;> omega) | fail) only [gB, setAll, partL, fldV, reduceIte, Nat.reduceAdd, Nat.reduceMul, na'.ld]
  refine WP.call (match_spec na'.nv fi.1 hc (hr.ext e) (by omega)) ?_
  rintro _ h1 ⟨e1, b, rfl, hb⟩
  have na1 := na'.ext e1
  have e0 := Ext.refl h1
  simp -implicitDefEqProofs (disch := first | assumption | omega | (simp only [gL] <;> omega) | ((repeat (first | exact Ext.refl _ | assumption | apply Ext.app | apply Ext.mk | (refine Ext.setr ?_ (by (first | omega | (simp only [gL] <;> omega))) _))); done) | (simp only [gL, gA, na1.ld] <;> omega) | fail) only [gB, setAll, partL, fldV, reduceIte, Nat.reduceAdd, Nat.reduceMul, na1.ld]
  refine WP.call (rmatch_spec na1.nv fi.1 fi.2 ((hr.ext e).ext e1) (by omega)) ?_
  rintro _ h2 ⟨e2, b2, rfl, hb2⟩
  obtain rfl := bool_eq hb hb2
  have na2 := na1.ext e2
  have e0 := Ext.refl h2
  simp -implicitDefEqProofs (disch := first | assumption | omega | (simp only [gL] <;> omega) | ((repeat (first | exact Ext.refl _ | assumption | apply Ext.app | apply Ext.mk | (refine Ext.setr ?_ (by (first | omega | (simp only [gL] <;> omega))) _))); done) | (simp only [gL, gA, beq_self_eq_true, na2.ld] <;> omega) | fail) only [gB, setAll, partL, fldV, reduceIte, Nat.reduceAdd, Nat.reduceMul, beq_self_eq_true, na2.ld]
  refine WP.call (null_spec na2.nv fi.1 hc) ?_
  rintro _ h3 ⟨e3, b3, rfl, hb3⟩
  have na3 := na2.ext e3
  have e0 := Ext.refl h3
  simp -implicitDefEqProofs (disch := first | assumption | omega | (simp only [gL] <;> omega) | ((repeat (first | exact Ext.refl _ | assumption | apply Ext.app | apply Ext.mk | (refine Ext.setr ?_ (by (first | omega | (simp only [gL] <;> omega))) _))); done) | (simp only [gL, gA, na3.ld] <;> omega) | fail) only [gB, setAll, partL, fldV, reduceIte, Nat.reduceAdd, Nat.reduceMul, na3.ld]
  refine WP.call (nul_spec n fi.1 fi.2 c5 h3 na3.nv) ?_
  rintro _ h4 ⟨e4, b4, rfl, hb4⟩
  obtain rfl := bool_eq hb3 hb4
  simp -implicitDefEqProofs (disch := first | assumption | omega | (simp only [gL] <;> omega) | ((repeat (first | exact Ext.refl _ | assumption | apply Ext.app | apply Ext.mk | (refine Ext.setr ?_ (by (first | omega | (simp only [gL] <;> omega))) _))); done) | (simp only [gL, gA, beq_self_eq_true] <;> omega) | fail) only [gB, setAll, partL, fldV, reduceIte, Nat.reduceAdd, Nat.reduceMul, beq_self_eq_true]
  exact WP.ret rfl
theorem all_l1 (na : NA h p n c5) (fi : Fine n) (hc : cntN n ≤ 800000) (hr : Sl h 1 raw (rz.map encI)) (hrl : rz.length ≤ 20) (hn : Sl h 1 ns (nz.map encI)) :
    ∀ (d i : Nat) (H : Heap), i + d = 9 → Ext h H → WP (fun q : Nat × Nat => milestonelaw5_MatchAll_l1 tab q.1 q.2 ns (I fw) raw p (I i) H) fun r _ => r = .bool true := by
  intro d
  induction d with
  | zero =>
    intro i H hi e
    refine WP.rnd (fun i' j => milestonelaw5_MatchAll_l1_eq tab i' j ns (I fw) raw p (I i) H) ?_
    simp -implicitDefEqProofs (disch := first | assumption | omega | (simp only [gL] <;> omega) | ((repeat (first | exact Ext.refl _ | assumption | apply Ext.app | apply Ext.mk | (refine Ext.setr ?_ (by (first | omega | (simp only [gL] <;> omega))) _))); done) | (simp only [gL, gA] <;> omega) | fail) only [gB, setAll, partL, fldV, reduceIte, Nat.reduceAdd, Nat.reduceMul]
    exact WP.lv (all_b2 na fi hc e hr hrl) fun i j => rfl
  | succ d ih =>
    intro i H hi e
    refine WP.rnd (fun i' j => milestonelaw5_MatchAll_l1_eq tab i' j ns (I fw) raw p (I i) H) ?_
    simp -implicitDefEqProofs (disch := first | assumption | omega | (simp only [gL] <;> omega) | ((repeat (first | exact Ext.refl _ | assumption | apply Ext.app | apply Ext.mk | (refine Ext.setr ?_ (by (first | omega | (simp only [gL] <;> omega))) _))); done) | (simp only [gL, gA] <;> omega) | fail) only [gB, setAll, partL, fldV, reduceIte, Nat.reduceAdd, Nat.reduceMul]
    refine WP.call (word_spec (hn.ext e) (m := i) (by omega)) ?_
    rintro w H1 ⟨e1, gw⟩
    have na1 := na.ext (e.trans e1)
    have e0 := Ext.refl H1
    have hwl := wordL_len nz i fw
    simp -implicitDefEqProofs (disch := first | assumption | omega | (simp only [gL] <;> omega) | ((repeat (first | exact Ext.refl _ | assumption | apply Ext.app | apply Ext.mk | (refine Ext.setr ?_ (by (first | omega | (simp only [gL] <;> omega))) _))); done) | (simp only [gL, gA, na1.ld] <;> omega) | fail) only [gB, setAll, partL, fldV, reduceIte, Nat.reduceAdd, Nat.reduceMul, na1.ld]
    refine WP.call (match_spec na1.nv fi.1 hc gw.sl (by omega)) ?_
    rintro _ h2 ⟨e2, b, rfl, hb⟩
    have na2 := na1.ext e2
    have e0 := Ext.refl h2
    simp -implicitDefEqProofs (disch := first | assumption | omega | (simp only [gL] <;> omega) | ((repeat (first | exact Ext.refl _ | assumption | apply Ext.app | apply Ext.mk | (refine Ext.setr ?_ (by (first | omega | (simp only [gL] <;> omega))) _))); done) | (simp only [gL, gA, na2.ld] <;> omega) | fail) only [gB, setAll, partL, fldV, reduceIte, Nat.reduceAdd, Nat.reduceMul, na2.ld]
    refine WP.call (rmatch_spec na2.nv fi.1 fi.2 (gw.sl.ext e2) (by omega)) ?_
    rintro _ h3 ⟨e3, b2, rfl, hb2⟩
    obtain rfl := bool_eq hb hb2
    simp -implicitDefEqProofs (disch := first | assumption | omega | (simp only [gL] <;> omega) | ((repeat (first | exact Ext.refl _ | assumption | apply Ext.app | apply Ext.mk | (refine Ext.setr ?_ (by (first | omega | (simp only [gL] <;> omega))) _))); done) | (simp only [gL, gA, beq_self_eq_true] <;> omega) | fail) only [gB, setAll, partL, fldV, reduceIte, Nat.reduceAdd, Nat.reduceMul, beq_self_eq_true]
    exact ih (i + 1) h3 (by omega) (e.trans (e1.trans (e2.trans e3)))
theorem all_spec {l : List Rw} {s : AV} {css : List (List AV)} (hs : Sl h 3 s css) (hr : RVs h l css) (hn : Sl h 1 ns (nz.map encI)) (hw : Sl h 1 raw (rz.map encI)) :
    Tot tab f_milestonelaw5_MatchAll [s, ns, I fw, raw] h fun r _ => r = .bool true := by
  refine WP.tot (fun k => (call_milestonelaw5_MatchAll k _ _ _ _ h).trans (milestonelaw5_MatchAll_eq tab k _ _ _ _ h)) ?_
  refine WP.call (known_spec h) ?_
  rintro _ h1 ⟨rfl, e1⟩
  simp -implicitDefEqProofs (disch := first | assumption | omega | (simp only [gL] <;> omega) | ((repeat (first | exact Ext.refl _ | assumption | apply Ext.app | apply Ext.mk | (refine Ext.setr ?_ (by (first | omega | (simp only [gL] <;> omega))) _))); done) | (simp only [gL, gA] <;> omega) | fail) only [gB, setAll, partL, fldV, reduceIte, Nat.reduceAdd, Nat.reduceMul]
  refine WP.call (few_spec (hs.ext e1) (hr.ext e1)) ?_
  rintro _ _ ⟨rfl, rfl⟩
  have hw1 := hw.ext e1
  by_cases hf : szF 7 l ≤ 14
  · rw [decide_eq_true hf]
    by_cases hrl : rz.length ≤ 20
    · simp -implicitDefEqProofs (disch := first | assumption | omega | (simp only [gL] <;> omega) | ((repeat (first | exact Ext.refl _ | assumption | apply Ext.app | apply Ext.mk | (refine Ext.setr ?_ (by (first | omega | (simp only [gL] <;> omega))) _))); done) | (simp only [gL, gA, hw1.lenG] <;> omega) | fail) only [gB, setAll, partL, fldV, reduceIte, Nat.reduceAdd, Nat.reduceMul, hw1.lenG]
      refine WP.call (one_spec4 (hs.ext e1) (hr.ext e1)) ?_
      rintro _ h2 ⟨e2, c5, rfl, nv⟩
      obtain ⟨s5, rfl, ho5⟩ := nv.inv
      simp -implicitDefEqProofs (disch := first | assumption | omega | (simp only [gL] <;> omega) | ((repeat (first | exact Ext.refl _ | assumption | apply Ext.app | apply Ext.mk | (refine Ext.setr ?_ (by (first | omega | (simp only [gL] <;> omega))) _))); done) | (simp only [gL, gA, ho5, set_lastO] <;> omega) | fail) only [gB, setAll, partL, fldV, reduceIte, Nat.reduceAdd, Nat.reduceMul, ho5, set_lastO]
      have e3 : Ext h2 (h2 ++ [AObj.cells ⟨[I (oneN l).kind, I (oneN l).st, I (oneN l).lo, I (oneN l).hi, s5], 0, 0, false⟩]) := Ext.push h2 _
      have ee := e1.trans (e2.trans e3)
      rw [show AV.int .i64 0 = I ((0 : Nat) : Int) from rfl]
      exact WP.ent (all_l1 (NA.new nv.nv) (fine_one l) (by have := cnt_one l hf; omega) (hw.ext ee) hrl (hn.ext ee) 9 0 _ rfl (Ext.refl _)) fun i => rfl
    · simp -implicitDefEqProofs (disch := first | assumption | omega | (simp only [gL] <;> omega) | ((repeat (first | exact Ext.refl _ | assumption | apply Ext.app | apply Ext.mk | (refine Ext.setr ?_ (by (first | omega | (simp only [gL] <;> omega))) _))); done) | (simp only [gL, gA, hw1.lenG] <;> omega) | fail) only [gB, setAll, partL, fldV, reduceIte, Nat.reduceAdd, Nat.reduceMul, hw1.lenG]
      exact WP.ret rfl
  · rw [decide_eq_false hf]
    simp -implicitDefEqProofs (disch := first | assumption | omega | (simp only [gL] <;> omega) | ((repeat (first | exact Ext.refl _ | assumption | apply Ext.app | apply Ext.mk | (refine Ext.setr ?_ (by (first | omega | (simp only [gL] <;> omega))) _))); done) | (simp only [gL, gA] <;> omega) | fail) only [gB, setAll, partL, fldV, reduceIte, Nat.reduceAdd, Nat.reduceMul]
    exact WP.ret rfl
end
end Go.Gm.A5
