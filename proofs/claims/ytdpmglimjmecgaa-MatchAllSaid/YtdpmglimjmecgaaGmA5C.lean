/- A part of the proof: GmA5C: an abstract machine, what it does, and what the functions of the program come to on it. -/
import Derived.Test.YtdpmglimjmecgaaGmA5B
set_option linter.unusedVariables false
set_option linter.unusedSimpArgs false
namespace Go.Gm.A5
open Go Go.Gm

section
variable {w : List Int}
theorem ref_spec (hw : w.length ≤ 900000) (n : Nd) : Ok n → Wf n → RefS w n := by
  refine Nd.ind (p := fun n => Ok n → Wf n → RefS w n) ?_ n
  intro n ih ok wf c5 word fr fb P h nv hwd hf hP
  refine WP.tot (fun k' => (call_milestoneref5_ends k' _ _ _ h).trans (milestoneref5_ends_eq tab k' _ _ _ h)) ?_
  have nv' := nv
  obtain ⟨s5, css, rfl, sl5, nvs⟩ := nv.inv
  have ho5 : s5.one = true := sl5.one
  have hfl := hP.1
  cases ok with
  | mk o1 o2 o3 o4 o5 =>
  cases wf with
  | mk w1 w2 =>
  have hS : ∀ c ∈ n.kids, RefS w c := fun c hc => ih c hc (o5 c hc) (w2 c hc)
  obtain ⟨h1, hh1⟩ : ∃ h1, h1 = h ++ [AObj.cells ⟨[I n.kind, I n.st, I n.lo, I n.hi, s5], 0, 0, false⟩] := ⟨_, rfl⟩
  have e1 : Ext h h1 := by rw [hh1]; ((repeat (first | exact Ext.refl _ | assumption | apply Ext.app | apply Ext.mk | (refine Ext.setr ?_ (by (first | omega | (simp -implicitDefEqProofs only [gL] <;> omega))) _))))
  have hx1 : h1[h.length]? = some (.cells ⟨[I n.kind, I n.st, I n.lo, I n.hi, s5], 0, 0, false⟩) := by rw [hh1]; simp
  obtain ⟨out, h2, k1, k2, k3, k4, k5⟩ := mkSl_gr (zero := [.bool false]) (sz := 1) (bytes := 1) (n := (fb.length : Int)) h1 (by omega) (by omega) (by omega) rfl rfl
  obtain ⟨n4, hn4⟩ : ∃ n4, n4 = AV.ptr h.length 0 5 0 := ⟨_, rfl⟩
  have at1 : At h1 n4 [I n.kind, I n.st, I n.lo, I n.hi, s5] := by rw [hn4]; exact At.row hx1 (Nat.le_refl _) rfl
  have hn := at1.ext k3
  have k2' : Gr h1.length (h1.length + 1) h2 1 out ((List.replicate (w.length + 1) false).map encB) := by
    rw [show ((fb.length : Int)).toNat = w.length + 1 by omega] at k2
    rw [List.map_replicate]; exact k2
  have e := e1.trans k3
  have hwd2 := hwd.ext e
  have hf2 := hf.ext e
  have sl2 := sl5.ext e
  have sl2' : Sl h2 5 s5 (css.map fun x => x) := by rw [List.map_id']; exact sl2
  have nv2 := nv'.keeps (.ofExt e)
  have nvs2 := NVs.keeps (.ofExt e) nvs
  have e0 := Ext.refl h2
  simp -implicitDefEqProofs (disch := first | assumption | omega | (simp -implicitDefEqProofs only [gL] <;> omega) | ((repeat (first | exact Ext.refl _ | assumption | apply Ext.app | apply Ext.mk | (refine Ext.setr ?_ (by (first | omega | (simp -implicitDefEqProofs only [gL] <;> omega))) _))); done) | (simp -implicitDefEqProofs only [gL, gA, ho5, hf.lenG] <;> omega) | fail) only [gB, setAll, partL, fldV, reduceIte, Nat.reduceAdd, Nat.reduceMul, ho5, hf.lenG]
  rw [← hh1, ← hn4, show AV.int .i64 0 = I 0 from rfl]
  simp only [k1, ob_some]
  have hx2 := k3.get hx1
  have run : ∀ {n : Nd} {r : AV} {H : Heap} {bs : List Bool} {Q : Nat → Prop}, Ext h2 H → Sl H 1 r (bs.map encB) → Is w bs Q → (∀ j, Q j ↔ ∃ i, P i ∧ R w n i j) → WP (fun _ : Nat => some (r, H)) fun r h' => Ext h h' ∧ ∃ bs, Sl h' 1 r (bs.map encB) ∧ Is w bs fun j => ∃ i, P i ∧ R w n i j :=
    fun {n r H bs Q} a b c d => WP.ret ⟨e.trans a, bs, b, c.cong d⟩
  cases n with
  | emp =>
    simp only [Nd.kind, Nd.st, Nd.lo, Nd.hi] at hx2
    simp -implicitDefEqProofs (disch := first | assumption | omega | (simp -implicitDefEqProofs only [gL] <;> omega) | ((repeat (first | exact Ext.refl _ | assumption | apply Ext.app | apply Ext.mk | (refine Ext.setr ?_ (by (first | omega | (simp -implicitDefEqProofs only [gL] <;> omega))) _))); done) | (simp -implicitDefEqProofs only [gL, gA, hx2] <;> omega) | fail) only [gB, setAll, partL, fldV, reduceIte, Nat.reduceAdd, Nat.reduceMul, hx2]
    exact run e0 k2'.sl Is.none fun j => by simp [R]
  | eps =>
    simp only [Nd.kind, Nd.st, Nd.lo, Nd.hi] at hx2
    simp -implicitDefEqProofs (disch := first | assumption | omega | (simp -implicitDefEqProofs only [gL] <;> omega) | ((repeat (first | exact Ext.refl _ | assumption | apply Ext.app | apply Ext.mk | (refine Ext.setr ?_ (by (first | omega | (simp -implicitDefEqProofs only [gL] <;> omega))) _))); done) | (simp -implicitDefEqProofs only [gL, gA, hx2] <;> omega) | fail) only [gB, setAll, partL, fldV, reduceIte, Nat.reduceAdd, Nat.reduceMul, hx2]
    exact run e0 hf2 hP fun j => by simp [R]
  | join l =>
    simp only [Nd.kind, Nd.st, Nd.lo, Nd.hi] at hx2
    simp -implicitDefEqProofs (disch := first | assumption | omega | (simp -implicitDefEqProofs only [gL] <;> omega) | ((repeat (first | exact Ext.refl _ | assumption | apply Ext.app | apply Ext.mk | (refine Ext.setr ?_ (by (first | omega | (simp -implicitDefEqProofs only [gL] <;> omega))) _))); done) | (simp -implicitDefEqProofs only [gL, gA, hx2] <;> omega) | fail) only [gB, setAll, partL, fldV, reduceIte, Nat.reduceAdd, Nat.reduceMul, hx2]
    rw [show I 0 = I ((0 : Nat) : Int) from rfl]
    refine WP.ent (WP.mono (rjoin_l2 (P := P) hS o4 sl2 nvs2 hwd2 hn l.length 0 fr fb h2 (by simp [Nd.kids]) (Ext.refl _) hf2 (hP.cong fun j => by simp [RJ])) ?_) fun i => rfl
    rintro r h3 ⟨e3, bs, q1, q2⟩
    exact ⟨e.trans e3, bs, q1, q2.cong fun j => by simp only [R]; rfl⟩
  | uni l =>
    simp only [Nd.kind, Nd.st, Nd.lo, Nd.hi] at hx2
    simp -implicitDefEqProofs (disch := first | assumption | omega | (simp -implicitDefEqProofs only [gL] <;> omega) | ((repeat (first | exact Ext.refl _ | assumption | apply Ext.app | apply Ext.mk | (refine Ext.setr ?_ (by (first | omega | (simp -implicitDefEqProofs only [gL] <;> omega))) _))); done) | (simp -implicitDefEqProofs only [gL, gA, hx2] <;> omega) | fail) only [gB, setAll, partL, fldV, reduceIte, Nat.reduceAdd, Nat.reduceMul, hx2]
    rw [show I 0 = I ((0 : Nat) : Int) from rfl]
    refine WP.ent (WP.mono (runi_l3 (P := P) hS hw o4 sl2 nvs2 hwd2 hn hf2 hP l.length 0 out _ h2 (by simp [Nd.kids]) (Ext.refl _) k2'.sl (Is.none.cong fun j => by simp [RU])) ?_) fun i => rfl
    rintro r h3 ⟨e3, bs, q1, q2⟩
    exact ⟨e.trans e3, bs, q1, q2.cong fun j => by simp only [R]; rfl⟩
  | star c =>
    simp only [Nd.kind, Nd.st, Nd.lo, Nd.hi] at hx2
    obtain ⟨cc, rfl, nc⟩ := nvs2.one
    have hgc : gi [cc] (0 : Int) = cc := rfl
    simp -implicitDefEqProofs (disch := first | assumption | omega | (simp -implicitDefEqProofs only [gL] <;> omega) | ((repeat (first | exact Ext.refl _ | assumption | apply Ext.app | apply Ext.mk | (refine Ext.setr ?_ (by (first | omega | (simp -implicitDefEqProofs only [gL] <;> omega))) _))); done) | (simp -implicitDefEqProofs only [gL, gA, hx2, sl2'.idxG, sl2'.ldN, hgc] <;> omega) | fail) only [gB, setAll, partL, fldV, reduceIte, Nat.reduceAdd, Nat.reduceMul, hx2, sl2'.idxG, sl2'.ldN, hgc]
    refine WP.call (often_spec (hS c (by simp [Nd.kids])) hw nc hwd2 hf2 hP) ?_
    rintro r H1 ⟨x1, bs, rs, ri⟩
    refine WP.call (both_spec hw (hf2.ext x1) rs hP ri) ?_
    rintro _ H2 ⟨x2, out2, cu, fl, rfl, os, oi, of⟩
    simp -implicitDefEqProofs (disch := first | assumption | omega | (simp -implicitDefEqProofs only [gL] <;> omega) | ((repeat (first | exact Ext.refl _ | assumption | apply Ext.app | apply Ext.mk | (refine Ext.setr ?_ (by (first | omega | (simp -implicitDefEqProofs only [gL] <;> omega))) _))); done) | (simp -implicitDefEqProofs only [gL, gA, extr_tup] <;> omega) | fail) only [gB, setAll, partL, fldV, reduceIte, Nat.reduceAdd, Nat.reduceMul, extr_tup]
    refine run (x1.trans x2) os oi fun j => ?_
    simp only [R]
    constructor
    · rintro (q | ⟨i, m, q1, q2, q3⟩)
      · exact ⟨j, q, .refl j⟩
      · exact ⟨i, q1, .head q2 q3⟩
    · rintro ⟨i, q1, q2⟩
      have : i = j ∨ ∃ m, R w c i m ∧ Star (R w c) m j := by
        clear q1
        induction q2 with
        | refl => exact .inl rfl
        | tail a b ih =>
          rcases ih with rfl | ⟨m, u1, u2⟩
          · exact .inr ⟨_, b, .refl _⟩
          · exact .inr ⟨m, u1, .tail u2 b⟩
      rcases this with rfl | ⟨m, u1, u2⟩
      · exact .inl q1
      · exact .inr ⟨i, m, q1, u1, u2⟩
  | plus c =>
    simp only [Nd.kind, Nd.st, Nd.lo, Nd.hi] at hx2
    obtain ⟨cc, rfl, nc⟩ := nvs2.one
    have hgc : gi [cc] (0 : Int) = cc := rfl
    simp -implicitDefEqProofs (disch := first | assumption | omega | (simp -implicitDefEqProofs only [gL] <;> omega) | ((repeat (first | exact Ext.refl _ | assumption | apply Ext.app | apply Ext.mk | (refine Ext.setr ?_ (by (first | omega | (simp -implicitDefEqProofs only [gL] <;> omega))) _))); done) | (simp -implicitDefEqProofs only [gL, gA, hx2, sl2'.idxG, sl2'.ldN, hgc] <;> omega) | fail) only [gB, setAll, partL, fldV, reduceIte, Nat.reduceAdd, Nat.reduceMul, hx2, sl2'.idxG, sl2'.ldN, hgc]
    refine WP.call (often_spec (hS c (by simp [Nd.kids])) hw nc hwd2 hf2 hP) ?_
    rintro r H1 ⟨x1, bs, rs, ri⟩
    refine run x1 rs ri fun j => ?_
    simp only [R]
    exact ⟨fun ⟨i, m, q1, q2, q3⟩ => ⟨i, q1, m, q2, q3⟩, fun ⟨i, q1, m, q2, q3⟩ => ⟨i, m, q1, q2, q3⟩⟩
  | opt c =>
    simp only [Nd.kind, Nd.st, Nd.lo, Nd.hi] at hx2
    obtain ⟨cc, rfl, nc⟩ := nvs2.one
    have hgc : gi [cc] (0 : Int) = cc := rfl
    simp -implicitDefEqProofs (disch := first | assumption | omega | (simp -implicitDefEqProofs only [gL] <;> omega) | ((repeat (first | exact Ext.refl _ | assumption | apply Ext.app | apply Ext.mk | (refine Ext.setr ?_ (by (first | omega | (simp -implicitDefEqProofs only [gL] <;> omega))) _))); done) | (simp -implicitDefEqProofs only [gL, gA, hx2, sl2'.idxG, sl2'.ldN, hgc] <;> omega) | fail) only [gB, setAll, partL, fldV, reduceIte, Nat.reduceAdd, Nat.reduceMul, hx2, sl2'.idxG, sl2'.ldN, hgc]
    refine WP.call (hS c (by simp [Nd.kids]) cc word fr fb P h2 nc hwd2 hf2 hP) ?_
    rintro r H1 ⟨x1, bs, rs, ri⟩
    refine WP.call (both_spec hw (hf2.ext x1) rs hP ri) ?_
    rintro _ H2 ⟨x2, out2, cu, fl, rfl, os, oi, of⟩
    simp -implicitDefEqProofs (disch := first | assumption | omega | (simp -implicitDefEqProofs only [gL] <;> omega) | ((repeat (first | exact Ext.refl _ | assumption | apply Ext.app | apply Ext.mk | (refine Ext.setr ?_ (by (first | omega | (simp -implicitDefEqProofs only [gL] <;> omega))) _))); done) | (simp -implicitDefEqProofs only [gL, gA, extr_tup] <;> omega) | fail) only [gB, setAll, partL, fldV, reduceIte, Nat.reduceAdd, Nat.reduceMul, extr_tup]
    refine run (x1.trans x2) os oi fun j => ?_
    simp only [R]
    constructor
    · rintro (q | ⟨i, q1, q2⟩)
      · exact ⟨j, q, .inl rfl⟩
      · exact ⟨i, q1, .inr q2⟩
    · rintro ⟨i, q1, rfl | q2⟩
      · exact .inl q1
      · exact .inr ⟨i, q1, q2⟩
  | rep a b c =>
    have hx3 := hx2
    simp only [Nd.kind, Nd.st, Nd.lo, Nd.hi] at hx2 o2 o3 w1
    simp -implicitDefEqProofs (disch := first | assumption | omega | (simp -implicitDefEqProofs only [gL] <;> omega) | ((repeat (first | exact Ext.refl _ | assumption | apply Ext.app | apply Ext.mk | (refine Ext.setr ?_ (by (first | omega | (simp -implicitDefEqProofs only [gL] <;> omega))) _))); done) | (simp -implicitDefEqProofs only [gL, gA, hx2] <;> omega) | fail) only [gB, setAll, partL, fldV, reduceIte, Nat.reduceAdd, Nat.reduceMul, hx2]
    refine WP.call (repeat_spec (hS c (by simp [Nd.kids])) hw o2 o3 w1 nv2 hwd2 hf2 hP) ?_
    rintro r H1 ⟨x1, bs, rs, ri⟩
    refine run x1 rs ri fun j => ?_
    simp only [R]
    exact ⟨fun ⟨i, t, q1, q2, q3, q4⟩ => ⟨i, q1, t, q2, q3, q4⟩, fun ⟨i, q1, t, q2, q3, q4⟩ => ⟨i, t, q1, q2, q3, q4⟩⟩
  | set s =>
    simp only [Nd.kind, Nd.st, Nd.lo, Nd.hi] at hx2 at1 o1
    simp -implicitDefEqProofs (disch := first | assumption | omega | (simp -implicitDefEqProofs only [gL] <;> omega) | ((repeat (first | exact Ext.refl _ | assumption | apply Ext.app | apply Ext.mk | (refine Ext.setr ?_ (by (first | omega | (simp -implicitDefEqProofs only [gL] <;> omega))) _))); done) | (simp -implicitDefEqProofs only [gL, gA, hx2] <;> omega) | fail) only [gB, setAll, partL, fldV, reduceIte, Nat.reduceAdd, Nat.reduceMul, hx2]
    rw [show I 0 = I ((0 : Nat) : Int) from rfl]
    refine WP.ent (WP.mono (rset_l1 (P := P) (lo := h1.length) (hi := h1.length + 1) o1 hw (hwd.ext e1) (hf.ext e1) hP at1 (Nat.le_refl _) w.length 0 _ h2 (by simp) k3 k2' (Is.none.cong fun j => ⟨fun q => q.elim, fun ⟨i', q, _⟩ => by omega⟩)) ?_) fun i => rfl
    rintro r h3 ⟨e3, q⟩
    exact ⟨e1.trans e3, q⟩
theorem one_spec {h : Heap} (hw : w.length ≤ 900000) :
    Tot tab f_milestoneref5_one [I ((w.length : Int) + 1), I 0] h fun r h' => Ext h h' ∧ ∃ bs, Sl h' 1 r (bs.map encB) ∧ Is w bs fun j => j = 0 := by
  refine WP.tot (fun k' => (call_milestoneref5_one k' _ _ h).trans (milestoneref5_one_eq tab k' _ _ h)) ?_
  obtain ⟨out, h2, k1, k2, k3, k4, k5⟩ := mkSl_gr (zero := [.bool false]) (sz := 1) (bytes := 1) (n := (w.length : Int) + 1) h (by omega) (by omega) (by omega) rfl rfl
  have k2' : Gr h.length (h.length + 1) h2 1 out ((List.replicate (w.length + 1) false).map encB) := by
    rw [show (((w.length : Int) + 1)).toNat = w.length + 1 by omega] at k2
    rw [List.map_replicate]; exact k2
  obtain ⟨H, m1, m2, m3, m4⟩ := k2'.write0 (i := (0 : Int)) (by omega) (by rw [List.length_map, List.length_replicate]; omega) (v := .bool true) rfl rfl
  have hg := k2'.sl
  simp -implicitDefEqProofs (disch := first | assumption | omega | (simp -implicitDefEqProofs only [gL] <;> omega) | ((repeat (first | exact Ext.refl _ | assumption | apply Ext.app | apply Ext.mk | (refine Ext.setr ?_ (by (first | omega | (simp -implicitDefEqProofs only [gL] <;> omega))) _))); done) | (simp -implicitDefEqProofs only [gL, gA, k1, hg.idxG, m1] <;> omega) | fail) only [gB, setAll, partL, fldV, reduceIte, Nat.reduceAdd, Nat.reduceMul, k1, hg.idxG, m1]
  refine WP.ret ⟨m3.ext k3 (Nat.le_refl _), (List.replicate (w.length + 1) false).set 0 true, (m2.cong (by rw [List.map_set]; rfl)).sl, (Is.none.set (Nat.zero_le _)).cong fun j => by simp⟩
theorem rmatch_spec {n : Nd} {c5 : List AV} {h : Heap} {word : AV} (nv : NV h n c5) (ok : Ok n) (wf : Wf n) (hwd : Sl h 1 word (w.map encI)) (hw : w.length ≤ 900000) :
    Tot tab f_milestoneref5_Match [.agg c5, word] h fun r h' => Ext h h' ∧ ∃ b, r = .bool b ∧ (b = true ↔ In n w) := by
  refine WP.tot (fun k' => (call_milestoneref5_Match k' _ _ h).trans (milestoneref5_Match_eq tab k' _ _ h)) ?_
  have nv' := nv
  obtain ⟨s5, css, rfl, sl5, nvs⟩ := nv.inv
  have ho5 : s5.one = true := sl5.one
  obtain ⟨h1, hh1⟩ : ∃ h1, h1 = h ++ [AObj.cells ⟨[I n.kind, I n.st, I n.lo, I n.hi, s5], 0, 0, false⟩] := ⟨_, rfl⟩
  have e1 : Ext h h1 := by rw [hh1]; ((repeat (first | exact Ext.refl _ | assumption | apply Ext.app | apply Ext.mk | (refine Ext.setr ?_ (by (first | omega | (simp -implicitDefEqProofs only [gL] <;> omega))) _))))
  have hx1 : h1[h.length]? = some (.cells ⟨[I n.kind, I n.st, I n.lo, I n.hi, s5], 0, 0, false⟩) := by rw [hh1]; simp
  simp -implicitDefEqProofs (disch := first | assumption | omega | (simp -implicitDefEqProofs only [gL] <;> omega) | ((repeat (first | exact Ext.refl _ | assumption | apply Ext.app | apply Ext.mk | (refine Ext.setr ?_ (by (first | omega | (simp -implicitDefEqProofs only [gL] <;> omega))) _))); done) | (simp -implicitDefEqProofs only [gL, gA, ho5, hwd.lenG] <;> omega) | fail) only [gB, setAll, partL, fldV, reduceIte, Nat.reduceAdd, Nat.reduceMul, ho5, hwd.lenG]
  rw [← hh1, show AV.int .i64 0 = I 0 from rfl]
  refine WP.call (one_spec hw) ?_
  rintro fr h2 ⟨e2, fb, fs, fi⟩
  have hx2 := e2.get hx1
  simp -implicitDefEqProofs (disch := first | assumption | omega | (simp -implicitDefEqProofs only [gL] <;> omega) | ((repeat (first | exact Ext.refl _ | assumption | apply Ext.app | apply Ext.mk | (refine Ext.setr ?_ (by (first | omega | (simp -implicitDefEqProofs only [gL] <;> omega))) _))); done) | (simp -implicitDefEqProofs only [gL, gA, hx2] <;> omega) | fail) only [gB, setAll, partL, fldV, reduceIte, Nat.reduceAdd, Nat.reduceMul, hx2]
  have e := e1.trans e2
  refine WP.call (ref_spec hw n ok wf _ word fr fb _ h2 (nv'.keeps (.ofExt e)) (hwd.ext e) fs fi) ?_
  rintro r h3 ⟨e3, bs, rs, ri⟩
  have hbl := ri.1
  have e0 := Ext.refl h3
  obtain ⟨b, hb⟩ : ∃ b, gi bs (w.length : Int) = b := ⟨_, rfl⟩
  simp -implicitDefEqProofs (disch := first | assumption | omega | (simp -implicitDefEqProofs only [gL] <;> omega) | ((repeat (first | exact Ext.refl _ | assumption | apply Ext.app | apply Ext.mk | (refine Ext.setr ?_ (by (first | omega | (simp -implicitDefEqProofs only [gL] <;> omega))) _))); done) | (simp -implicitDefEqProofs only [gL, gA, rs.idxG, rs.ld0, encB, hb] <;> omega) | fail) only [gB, setAll, partL, fldV, reduceIte, Nat.reduceAdd, Nat.reduceMul, rs.idxG, rs.ld0, encB, hb]
  refine WP.ret ⟨e.trans e3, b, rfl, ?_⟩
  rw [← hb]
  refine (ri.2 w.length).trans ?_
  simp [In]
end
end Go.Gm.A5
