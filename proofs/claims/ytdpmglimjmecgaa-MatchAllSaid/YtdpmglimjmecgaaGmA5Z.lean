/- A part of the proof: GmA5Z: an abstract machine, what it does, and what the functions of the program come to on it. -/
import Derived.Test.YtdpmglimjmecgaaGmA5Y
set_option linter.unusedVariables false
set_option linter.unusedSimpArgs false
namespace Go.Gm.A5
open Go Go.Gm

section
variable {w : List Int}
theorem often_spec {n : Nd} (hS : RefS w n) (hw : w.length ≤ 900000) {c5 : List AV} {word fr : AV} {fb : List Bool} {P : Nat → Prop} {h : Heap} (nv : NV h n c5) (hwd : Sl h 1 word (w.map encI)) (hf : Sl h 1 fr (fb.map encB)) (hP : Is w fb P) :
    Tot tab f_milestoneref5_often [.agg c5, word, fr, I 0] h fun r h' => Ext h h' ∧ ∃ bs, Sl h' 1 r (bs.map encB) ∧ Is w bs fun j => ∃ i m, P i ∧ R w n i m ∧ Star (R w n) m j := by
  refine WP.tot (fun k' => (call_milestoneref5_often k' _ _ _ _ h).trans (milestoneref5_often_eq tab k' _ _ _ _ h)) ?_
  have nv' := nv
  obtain ⟨s5, css, rfl, sl5, nvs⟩ := nv.inv
  have ho5 : s5.one = true := sl5.one
  have hfl := hP.1
  obtain ⟨h1, hh1⟩ : ∃ h1, h1 = h ++ [AObj.cells ⟨[I n.kind, I n.st, I n.lo, I n.hi, s5], 0, 0, false⟩] := ⟨_, rfl⟩
  have e1 : Ext h h1 := by rw [hh1]; ((repeat (first | exact Ext.refl _ | assumption | apply Ext.app | apply Ext.mk | (refine Ext.setr ?_ (by (first | omega | (simp -implicitDefEqProofs only [gL] <;> omega))) _))))
  have hx1 : h1[h.length]? = some (.cells ⟨[I n.kind, I n.st, I n.lo, I n.hi, s5], 0, 0, false⟩) := by rw [hh1]; simp
  obtain ⟨s, h', k1, k2, k3, k4, k5⟩ := mkSl_gr (zero := [.bool false]) (sz := 1) (bytes := 1) (n := (fb.length : Int)) h1 (by omega) (by omega) (by omega) rfl rfl
  obtain ⟨n4, hn4⟩ : ∃ n4, n4 = AV.ptr h.length 0 5 0 := ⟨_, rfl⟩
  have at4 : At h1 n4 [I n.kind, I n.st, I n.lo, I n.hi, s5] := by rw [hn4]; exact At.row hx1 (Nat.le_refl _) rfl
  simp -implicitDefEqProofs (disch := first | assumption | omega | (simp -implicitDefEqProofs only [gL] <;> omega) | ((repeat (first | exact Ext.refl _ | assumption | apply Ext.app | apply Ext.mk | (refine Ext.setr ?_ (by (first | omega | (simp -implicitDefEqProofs only [gL] <;> omega))) _))); done) | (simp -implicitDefEqProofs only [gL, gA, ho5, hf.lenG] <;> omega) | fail) only [gB, setAll, partL, fldV, reduceIte, Nat.reduceAdd, Nat.reduceMul, ho5, hf.lenG]
  rw [← hh1, ← hn4, show AV.int .i64 0 = I 0 from rfl]
  simp only [k1, ob_some]
  rw [show I 0 = I ((0 : Nat) : Int) from rfl]
  have k2' : Sl h' 1 s ((List.replicate (w.length + 1) false).map encB) := by
    have := k2.sl
    rw [show ((fb.length : Int)).toNat = w.length + 1 by omega] at this
    rw [List.map_replicate]; exact this
  have hc0 : cntT (List.replicate (w.length + 1) false) = 0 := by simp [cntT]
  have e := e1.trans k3
  refine WP.ent (WP.mono (often_l1 (P := P) hS hw (nv'.keeps (.ofExt e)) (hwd.ext e) (at4.ext k3) (w.length + 1) 0 s fr _ fb (fun _ => False) P h' (by omega) (by omega) (Ext.refl _) k2' (hf.ext e) Is.none hP (fun _ _ q => q.elim) (fun i j q1 q2 => .inr ⟨i, q1, q2⟩) (fun _ q => q.elim) (fun j q => ⟨j, q, .refl _⟩)) ?_) fun i => rfl
  rintro r h2 ⟨e2, q⟩
  exact ⟨e.trans e2, q⟩
theorem rep_l3 {a b : Nat} {c : Nd} (hS : RefS w c) (hw : w.length ≤ 900000) (hb : b ≤ 100) {cc : List AV} {word n3 s5 : AV} {css : List (List AV)} {h : Heap} (nv : NV h c cc) (hcs : Sl h 5 s5 (css.map fun x => x)) (hc0 : css = [cc]) (hwd : Sl h 1 word (w.map encI)) (hn3 : At h n3 [I 9, I 0, I a, I b, s5]) {P : Nat → Prop} :
    ∀ (d t : Nat) (fr all : AV) (fb ab : List Bool) (H : Heap), t + d = b → Ext h H → Sl H 1 fr (fb.map encB) → Sl H 1 all (ab.map encB) → Is w fb (fun j => ∃ i, P i ∧ Pow (R w c) t i j) → Is w ab (fun j => ∃ i t', P i ∧ a ≤ t' ∧ t' ≤ t ∧ Pow (R w c) t' i j) → a ≤ t →
      WP (fun p : Nat × Nat => milestoneref5_repeat_l3 tab p.1 p.2 word fr n3 all (I t) H) fun r h' => Ext h h' ∧ ∃ bs, Sl h' 1 r (bs.map encB) ∧ Is w bs fun j => ∃ i t', P i ∧ a ≤ t' ∧ t' ≤ b ∧ Pow (R w c) t' i j := by
  subst hc0
  intro d
  induction d with
  | zero =>
    intro t fr all fb ab H h1 ex hf ha iF iA hat
    refine WP.rnd (fun i' j => milestoneref5_repeat_l3_eq tab i' j word fr n3 all (I t) H) ?_
    simp -implicitDefEqProofs (disch := first | assumption | omega | (simp -implicitDefEqProofs only [gL] <;> omega) | ((repeat (first | exact Ext.refl _ | assumption | apply Ext.app | apply Ext.mk | (refine Ext.setr ?_ (by (first | omega | (simp -implicitDefEqProofs only [gL] <;> omega))) _))); done) | (simp -implicitDefEqProofs only [gL, gA, hn3.fldA0, hn3.ldfE] <;> omega) | fail) only [gB, setAll, partL, fldV, reduceIte, Nat.reduceAdd, Nat.reduceMul, hn3.fldA0, hn3.ldfE]
    obtain rfl : t = b := by omega
    exact WP.lv (WP.ret ⟨ex, ab, ha, iA⟩) fun i j => rfl
  | succ d ih =>
    intro t fr all fb ab H h1 ex hf ha iF iA hat
    refine WP.rnd (fun i' j => milestoneref5_repeat_l3_eq tab i' j word fr n3 all (I t) H) ?_
    have hcs' := hcs.ext ex
    have e0 := Ext.refl H
    have hgc : gi [cc] (0 : Int) = cc := rfl
    simp -implicitDefEqProofs (disch := first | assumption | omega | (simp -implicitDefEqProofs only [gL] <;> omega) | ((repeat (first | exact Ext.refl _ | assumption | apply Ext.app | apply Ext.mk | (refine Ext.setr ?_ (by (first | omega | (simp -implicitDefEqProofs only [gL] <;> omega))) _))); done) | (simp -implicitDefEqProofs only [gL, gA, hn3.fldA0, hn3.ldfE, hcs'.idxG, hcs'.ldN, hgc] <;> omega) | fail) only [gB, setAll, partL, fldV, reduceIte, Nat.reduceAdd, Nat.reduceMul, hn3.fldA0, hn3.ldfE, hcs'.idxG, hcs'.ldN, hgc]
    refine WP.call (hS cc word fr fb _ H (nv.keeps (.ofExt ex)) (hwd.ext ex) hf iF) ?_
    rintro r H1 ⟨x1, bs, rs, ri⟩
    have ri' : Is w bs (fun j => ∃ i, P i ∧ Pow (R w c) (t + 1) i j) := ri.cong fun j => ⟨fun ⟨m, ⟨i, q1, q2⟩, q3⟩ => ⟨i, q1, m, q2, q3⟩, fun ⟨i, q1, m, q2, q3⟩ => ⟨m, ⟨i, q1, q2⟩, q3⟩⟩
    refine WP.call (both_spec hw (ha.ext x1) rs iA ri') ?_
    rintro _ H2 ⟨x2, out, cu, fl, rfl, os, oi, of⟩
    simp -implicitDefEqProofs (disch := first | assumption | omega | (simp -implicitDefEqProofs only [gL] <;> omega) | ((repeat (first | exact Ext.refl _ | assumption | apply Ext.app | apply Ext.mk | (refine Ext.setr ?_ (by (first | omega | (simp -implicitDefEqProofs only [gL] <;> omega))) _))); done) | (simp -implicitDefEqProofs only [gL, gA, extr_tup] <;> omega) | fail) only [gB, setAll, partL, fldV, reduceIte, Nat.reduceAdd, Nat.reduceMul, extr_tup]
    refine ih (t + 1) r out bs cu H2 (by omega) ((ex.trans x1).trans x2) (rs.ext x2) os ri' (oi.cong fun j => ?_) (by omega)
    constructor
    · rintro (⟨i, t', q1, q2, q3, q4⟩ | ⟨i, q1, q2⟩)
      · exact ⟨i, t', q1, q2, by omega, q4⟩
      · exact ⟨i, t + 1, q1, by omega, by omega, q2⟩
    · rintro ⟨i, t', q1, q2, q3, q4⟩
      by_cases ht : t' = t + 1
      · subst ht; exact .inr ⟨i, q1, q4⟩
      · exact .inl ⟨i, t', q1, q2, by omega, q4⟩
theorem rep_l1 {a b : Nat} {c : Nd} (hS : RefS w c) (hw : w.length ≤ 900000) (ha : a ≤ 100) (hb : b ≤ 100) (hab : a ≤ b) {cc : List AV} {word n3 s5 : AV} {css : List (List AV)} {h : Heap} (nv : NV h c cc) (hcs : Sl h 5 s5 (css.map fun x => x)) (hc0 : css = [cc]) (hwd : Sl h 1 word (w.map encI)) (hn3 : At h n3 [I 9, I 0, I a, I b, s5]) {P : Nat → Prop} :
    ∀ (d t : Nat) (fr : AV) (fb : List Bool) (H : Heap), t + d = a → Ext h H → Sl H 1 fr (fb.map encB) → Is w fb (fun j => ∃ i, P i ∧ Pow (R w c) t i j) →
      WP (fun p : Nat × Nat => milestoneref5_repeat_l1 tab p.1 p.2 word fr n3 (I t) H) fun r h' => Ext h h' ∧ ∃ bs, Sl h' 1 r (bs.map encB) ∧ Is w bs fun j => ∃ i t', P i ∧ a ≤ t' ∧ t' ≤ b ∧ Pow (R w c) t' i j := by
  have hc0' := hc0
  subst hc0
  intro d
  induction d with
  | zero =>
    intro t fr fb H h1 ex hf iF
    refine WP.rnd (fun i' j => milestoneref5_repeat_l1_eq tab i' j word fr n3 (I t) H) ?_
    simp -implicitDefEqProofs (disch := first | assumption | omega | (simp -implicitDefEqProofs only [gL] <;> omega) | ((repeat (first | exact Ext.refl _ | assumption | apply Ext.app | apply Ext.mk | (refine Ext.setr ?_ (by (first | omega | (simp -implicitDefEqProofs only [gL] <;> omega))) _))); done) | (simp -implicitDefEqProofs only [gL, gA, hn3.fldA0, hn3.ldfE] <;> omega) | fail) only [gB, setAll, partL, fldV, reduceIte, Nat.reduceAdd, Nat.reduceMul, hn3.fldA0, hn3.ldfE]
    obtain rfl : t = a := by omega
    refine WP.lv (WP.congr (fun p => milestoneref5_repeat_b2_eq tab _ word fr n3 H) ?_) fun i j => rfl
    simp -implicitDefEqProofs (disch := first | assumption | omega | (simp -implicitDefEqProofs only [gL] <;> omega) | ((repeat (first | exact Ext.refl _ | assumption | apply Ext.app | apply Ext.mk | (refine Ext.setr ?_ (by (first | omega | (simp -implicitDefEqProofs only [gL] <;> omega))) _))); done) | (simp -implicitDefEqProofs only [gL, gA, hn3.fldA0, hn3.ldfE] <;> omega) | fail) only [gB, setAll, partL, fldV, reduceIte, Nat.reduceAdd, Nat.reduceMul, hn3.fldA0, hn3.ldfE]
    exact WP.ent (rep_l3 hS hw hb nv hcs rfl hwd hn3 (b - t) t fr fr fb fb H (by omega) ex hf hf iF (iF.cong fun j => ⟨fun ⟨i, q1, q2⟩ => ⟨i, t, q1, Nat.le_refl _, Nat.le_refl _, q2⟩, fun ⟨i, t', q1, q2, q3, q4⟩ => ⟨i, q1, by
      obtain rfl : t' = t := by omega
      exact q4⟩⟩) (Nat.le_refl _)) fun i => rfl
  | succ d ih =>
    intro t fr fb H h1 ex hf iF
    refine WP.rnd (fun i' j => milestoneref5_repeat_l1_eq tab i' j word fr n3 (I t) H) ?_
    have hcs' := hcs.ext ex
    have e0 := Ext.refl H
    have hgc : gi [cc] (0 : Int) = cc := rfl
    simp -implicitDefEqProofs (disch := first | assumption | omega | (simp -implicitDefEqProofs only [gL] <;> omega) | ((repeat (first | exact Ext.refl _ | assumption | apply Ext.app | apply Ext.mk | (refine Ext.setr ?_ (by (first | omega | (simp -implicitDefEqProofs only [gL] <;> omega))) _))); done) | (simp -implicitDefEqProofs only [gL, gA, hn3.fldA0, hn3.ldfE, hcs'.idxG, hcs'.ldN, hgc] <;> omega) | fail) only [gB, setAll, partL, fldV, reduceIte, Nat.reduceAdd, Nat.reduceMul, hn3.fldA0, hn3.ldfE, hcs'.idxG, hcs'.ldN, hgc]
    refine WP.call (hS cc word fr fb _ H (nv.keeps (.ofExt ex)) (hwd.ext ex) hf iF) ?_
    rintro r H1 ⟨x1, bs, rs, ri⟩
    exact ih (t + 1) r bs H1 (by omega) (ex.trans x1) rs (ri.cong fun j => ⟨fun ⟨m, ⟨i, q1, q2⟩, q3⟩ => ⟨i, q1, m, q2, q3⟩, fun ⟨i, q1, m, q2, q3⟩ => ⟨m, ⟨i, q1, q2⟩, q3⟩⟩)
end
end Go.Gm.A5
