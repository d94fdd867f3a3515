/- A part of the proof: GmA5B: an abstract machine, what it does, and what the functions of the program come to on it. -/
import Derived.Test.YtdpmglimjmecgaaGmA5Z
set_option linter.unusedVariables false
set_option linter.unusedSimpArgs false
namespace Go.Gm.A5
open Go Go.Gm

section
variable {w : List Int}
theorem NVs.one {h : Heap} {c : Nd} {css : List (List AV)} (a : NVs h [c] css) : ∃ cc, css = [cc] ∧ NV h c cc := by
  cases a with
  | cons x y => cases y; exact ⟨_, rfl, x⟩
theorem repeat_spec {a b : Nat} {c : Nd} (hS : RefS w c) (hw : w.length ≤ 900000) (ha : a ≤ 100) (hb : b ≤ 100) (hab : a ≤ b) {c5 : List AV} {word fr : AV} {fb : List Bool} {P : Nat → Prop} {h : Heap} (nv : NV h (.rep a b c) c5) (hwd : Sl h 1 word (w.map encI)) (hf : Sl h 1 fr (fb.map encB)) (hP : Is w fb P) :
    Tot tab f_milestoneref5_repeat [.agg c5, word, fr] h fun r h' => Ext h h' ∧ ∃ bs, Sl h' 1 r (bs.map encB) ∧ Is w bs fun j => ∃ i t', P i ∧ a ≤ t' ∧ t' ≤ b ∧ Pow (R w c) t' i j := by
  refine WP.tot (fun k' => (call_milestoneref5_repeat k' _ _ _ h).trans (milestoneref5_repeat_eq tab k' _ _ _ h)) ?_
  obtain ⟨s5, css, rfl, sl5, nvs⟩ := nv.inv
  obtain ⟨cc, rfl, nc⟩ := nvs.one
  have ho5 : s5.one = true := sl5.one
  obtain ⟨h1, hh1⟩ : ∃ h1, h1 = h ++ [AObj.cells ⟨[I 9, I 0, I a, I b, s5], 0, 0, false⟩] := ⟨_, rfl⟩
  have e1 : Ext h h1 := by rw [hh1]; ((repeat (first | exact Ext.refl _ | assumption | apply Ext.app | apply Ext.mk | (refine Ext.setr ?_ (by (first | omega | (simp -implicitDefEqProofs only [gL] <;> omega))) _))))
  have hx1 : h1[h.length]? = some (.cells ⟨[I 9, I 0, I a, I b, s5], 0, 0, false⟩) := by rw [hh1]; simp
  obtain ⟨n4, hn4⟩ : ∃ n4, n4 = AV.ptr h.length 0 5 0 := ⟨_, rfl⟩
  have at4 : At h1 n4 [I 9, I 0, I a, I b, s5] := by rw [hn4]; exact At.row hx1 (Nat.le_refl _) rfl
  simp only [Nd.kind, Nd.st, Nd.lo, Nd.hi, show I ((0 : Nat) : Int) = I 0 from rfl]
  simp -implicitDefEqProofs (disch := first | assumption | omega | (simp -implicitDefEqProofs only [gL] <;> omega) | ((repeat (first | exact Ext.refl _ | assumption | apply Ext.app | apply Ext.mk | (refine Ext.setr ?_ (by (first | omega | (simp -implicitDefEqProofs only [gL] <;> omega))) _))); done) | (simp -implicitDefEqProofs only [gL, gA, ho5] <;> omega) | fail) only [gB, setAll, partL, fldV, reduceIte, Nat.reduceAdd, Nat.reduceMul, ho5]
  rw [← hh1, ← hn4, show AV.int .i64 0 = I ((0 : Nat) : Int) from rfl]
  refine WP.ent (WP.mono (rep_l1 (P := P) hS hw ha hb hab (nc.keeps (.ofExt e1)) (by rw [List.map_id']; exact sl5.ext e1) rfl (hwd.ext e1) at4 a 0 fr fb h1 (by omega) (Ext.refl _) (hf.ext e1) (hP.cong fun j => ⟨fun q => ⟨j, q, rfl⟩, fun ⟨i, q1, q2⟩ => by cases q2; exact q1⟩)) ?_) fun i => rfl
  rintro r h2 ⟨e2, q⟩
  exact ⟨e1.trans e2, q⟩

theorem rset_l1 {s : Nat} (hs : s < 2 ^ 62) (hw : w.length ≤ 900000) {word fr n3 out s5 : AV} {fb : List Bool} {P : Nat → Prop} {h : Heap} {lo hi : Nat} (hwd : Sl h 1 word (w.map encI)) (hf : Sl h 1 fr (fb.map encB)) (hP : Is w fb P) (hn3 : At h n3 [I 1, I s, I 0, I 0, s5]) (hlo : h.length ≤ lo) :
    ∀ (d i : Nat) (cur : List Bool) (H : Heap), i + d = w.length → Ext h H → Gr lo hi H 1 out (cur.map encB) → Is w cur (fun j => ∃ i', i' < i ∧ P i' ∧ hit w s i' ∧ j = i' + 1) →
      WP (fun p : Nat × Nat => milestoneref5_ends_l1 tab p.1 p.2 word fr n3 out (I i) H) fun r h' => Ext h h' ∧ ∃ bs, Sl h' 1 r (bs.map encB) ∧ Is w bs fun j => ∃ i, P i ∧ R w (.set s) i j := by
  intro d
  induction d with
  | zero =>
    intro i cur H h1 ex gr is
    refine WP.rnd (fun i' j => milestoneref5_ends_l1_eq tab i' j word fr n3 out (I i) H) ?_
    have hwd' := hwd.ext ex
    simp -implicitDefEqProofs (disch := first | assumption | omega | (simp -implicitDefEqProofs only [gL] <;> omega) | ((repeat (first | exact Ext.refl _ | assumption | apply Ext.app | apply Ext.mk | (refine Ext.setr ?_ (by (first | omega | (simp -implicitDefEqProofs only [gL] <;> omega))) _))); done) | (simp -implicitDefEqProofs only [gL, gA, hwd'.lenG] <;> omega) | fail) only [gB, setAll, partL, fldV, reduceIte, Nat.reduceAdd, Nat.reduceMul, hwd'.lenG]
    refine WP.lv (WP.ret ⟨ex, cur, gr.sl, is.cong fun j => ?_⟩) fun i j => rfl
    simp only [R]
    refine ⟨fun ⟨i', _, q⟩ => ⟨i', q⟩, fun ⟨i', q⟩ => ⟨i', ?_, q⟩⟩
    obtain ⟨_, ⟨c, q2, _⟩, _⟩ := q
    have := (List.getElem?_eq_some_iff.1 q2).1
    omega
  | succ d ih =>
    intro i cur H h1 ex gr is
    refine WP.rnd (fun i' j => milestoneref5_ends_l1_eq tab i' j word fr n3 out (I i) H) ?_
    have hwd' := hwd.ext ex
    have hf' := hf.ext ex
    have e0 := Ext.refl H
    have hfl := hP.1
    have hcl := is.1
    have hg := gr.sl
    obtain ⟨v, hv⟩ : ∃ v, gi fb i = v := ⟨_, rfl⟩
    have hvP : v = true ↔ P i := by rw [← hv]; exact hP.2 i
    obtain ⟨c, hc⟩ : ∃ c, gi w i = c := ⟨_, rfl⟩
    have hwc : w[i]? = some c := by
      have := gi_some (xs := w) (i := (i : Int)) (by omega) (by omega)
      rw [hc] at this; exact this
    have done : ∀ (u : Bool), (u = true ↔ P i ∧ hit w s i) → ∃ H', stN 1 H (elP 1 out ((i : Int) + 1)) (.bool u) = some H' ∧ WP (fun p : Nat × Nat => milestoneref5_ends_l1 tab p.1 p.2 word fr n3 out (I ((i : Int) + 1)) H') fun r h' => Ext h h' ∧ ∃ bs, Sl h' 1 r (bs.map encB) ∧ Is w bs fun j => ∃ i, P i ∧ R w (.set s) i j := by
      intro u hu
      obtain ⟨H', k1, k2, k3, k4⟩ := gr.write0 (i := (i : Int) + 1) (by omega) (by rw [List.length_map]; omega) (v := .bool u) rfl rfl
      refine ⟨H', k1, ih (i + 1) (cur.set (i + 1) u) H' (by omega) (k3.ext ex hlo) (k2.cong (by rw [List.map_set]; rfl)) ⟨by simpa using hcl, fun j => ?_⟩⟩
      rw [List.getD_eq_getElem?_getD]
      have hj2 := is.2 j
      rw [List.getD_eq_getElem?_getD] at hj2
      by_cases hj : j = i + 1
      · subst hj
        rw [List.getElem?_set_self (by omega)]
        simp only [Option.getD_some, hu]
        constructor
        · rintro ⟨q1, q2⟩; exact ⟨i, by omega, q1, q2, rfl⟩
        · rintro ⟨i', _, q1, q2, q3⟩
          obtain rfl : i' = i := by omega
          exact ⟨q1, q2⟩
      · rw [List.getElem?_set_ne (Ne.symm hj), hj2]
        constructor
        · rintro ⟨i', q0, q⟩; exact ⟨i', by omega, q⟩
        · rintro ⟨i', q0, q⟩; exact ⟨i', by have := q.2.2; omega, q⟩
    cases v with
    | false =>
      obtain ⟨H', k1, k2⟩ := done false ⟨fun q => (by cases q), fun q => by have := hvP.2 q.1; cases this⟩
      simp -implicitDefEqProofs (disch := first | assumption | omega | (simp -implicitDefEqProofs only [gL] <;> omega) | ((repeat (first | exact Ext.refl _ | assumption | apply Ext.app | apply Ext.mk | (refine Ext.setr ?_ (by (first | omega | (simp -implicitDefEqProofs only [gL] <;> omega))) _))); done) | (simp -implicitDefEqProofs only [gL, gA, hwd'.lenG, hf'.idxG, hf'.ld0, encB, hv, hg.idxG, k1] <;> omega) | fail) only [gB, setAll, partL, fldV, reduceIte, Nat.reduceAdd, Nat.reduceMul, hwd'.lenG, hf'.idxG, hf'.ld0, encB, hv, hg.idxG, k1]
      exact k2
    | true =>
      by_cases c0 : 0 ≤ c
      · by_cases c5 : c < 5
        · have hand : binV .and .scalar (I (s >>> c.toNat : Nat)) (I 1) = _ := and_i (a := s >>> c.toNat) (b := 1) (Nat.lt_of_le_of_lt (Nat.shiftRight_le ..) hs) (by omega)
          cases hb : s.testBit c.toNat with
          | true =>
            obtain ⟨H', k1, k2⟩ := done true ⟨fun _ => ⟨hvP.1 rfl, c, hwc, c0, c5, hb⟩, fun _ => rfl⟩
            simp -implicitDefEqProofs (disch := first | assumption | omega | (simp -implicitDefEqProofs only [gL] <;> omega) | ((repeat (first | exact Ext.refl _ | assumption | apply Ext.app | apply Ext.mk | (refine Ext.setr ?_ (by (first | omega | (simp -implicitDefEqProofs only [gL] <;> omega))) _))); done) | (simp -implicitDefEqProofs only [gL, gA, hwd'.lenG, hf'.idxG, hf'.ld0, encB, hv, hg.idxG, k1, hwd'.idxG, hwd'.ld0, encI, hc, hn3.fldA0, hn3.ldfE, hand, hb] <;> omega) | fail) only [gB, setAll, partL, fldV, reduceIte, Nat.reduceAdd, Nat.reduceMul, hwd'.lenG, hf'.idxG, hf'.ld0, encB, hv, hg.idxG, k1, hwd'.idxG, hwd'.ld0, encI, hc, hn3.fldA0, hn3.ldfE, hand, hb]
            exact k2
          | false =>
            obtain ⟨H', k1, k2⟩ := done false ⟨fun q => (by cases q), fun ⟨_, c', q1, q2, q3, q4⟩ => by rw [hwc] at q1; injection q1 with q1; subst q1; rw [hb] at q4; cases q4⟩
            simp -implicitDefEqProofs (disch := first | assumption | omega | (simp -implicitDefEqProofs only [gL] <;> omega) | ((repeat (first | exact Ext.refl _ | assumption | apply Ext.app | apply Ext.mk | (refine Ext.setr ?_ (by (first | omega | (simp -implicitDefEqProofs only [gL] <;> omega))) _))); done) | (simp -implicitDefEqProofs only [gL, gA, hwd'.lenG, hf'.idxG, hf'.ld0, encB, hv, hg.idxG, k1, hwd'.idxG, hwd'.ld0, encI, hc, hn3.fldA0, hn3.ldfE, hand, hb] <;> omega) | fail) only [gB, setAll, partL, fldV, reduceIte, Nat.reduceAdd, Nat.reduceMul, hwd'.lenG, hf'.idxG, hf'.ld0, encB, hv, hg.idxG, k1, hwd'.idxG, hwd'.ld0, encI, hc, hn3.fldA0, hn3.ldfE, hand, hb]
            exact k2
        · obtain ⟨H', k1, k2⟩ := done false ⟨fun q => (by cases q), fun ⟨_, c', q1, q2, q3, q4⟩ => by rw [hwc] at q1; injection q1 with q1; subst q1; omega⟩
          simp -implicitDefEqProofs (disch := first | assumption | omega | (simp -implicitDefEqProofs only [gL] <;> omega) | ((repeat (first | exact Ext.refl _ | assumption | apply Ext.app | apply Ext.mk | (refine Ext.setr ?_ (by (first | omega | (simp -implicitDefEqProofs only [gL] <;> omega))) _))); done) | (simp -implicitDefEqProofs only [gL, gA, hwd'.lenG, hf'.idxG, hf'.ld0, encB, hv, hg.idxG, k1, hwd'.idxG, hwd'.ld0, encI, hc] <;> omega) | fail) only [gB, setAll, partL, fldV, reduceIte, Nat.reduceAdd, Nat.reduceMul, hwd'.lenG, hf'.idxG, hf'.ld0, encB, hv, hg.idxG, k1, hwd'.idxG, hwd'.ld0, encI, hc]
          exact k2
      · obtain ⟨H', k1, k2⟩ := done false ⟨fun q => (by cases q), fun ⟨_, c', q1, q2, q3, q4⟩ => by rw [hwc] at q1; injection q1 with q1; subst q1; omega⟩
        simp -implicitDefEqProofs (disch := first | assumption | omega | (simp -implicitDefEqProofs only [gL] <;> omega) | ((repeat (first | exact Ext.refl _ | assumption | apply Ext.app | apply Ext.mk | (refine Ext.setr ?_ (by (first | omega | (simp -implicitDefEqProofs only [gL] <;> omega))) _))); done) | (simp -implicitDefEqProofs only [gL, gA, hwd'.lenG, hf'.idxG, hf'.ld0, encB, hv, hg.idxG, k1, hwd'.idxG, hwd'.ld0, encI, hc] <;> omega) | fail) only [gB, setAll, partL, fldV, reduceIte, Nat.reduceAdd, Nat.reduceMul, hwd'.lenG, hf'.idxG, hf'.ld0, encB, hv, hg.idxG, k1, hwd'.idxG, hwd'.ld0, encI, hc]
        exact k2
theorem rjoin_l2 {l : List Nd} (hS : ∀ c ∈ l, RefS w c) (hl : l.length ≤ 1000) {word n3 s5 : AV} {css : List (List AV)} {h : Heap} (hcs : Sl h 5 s5 css) (nvs : NVs h l css) (hwd : Sl h 1 word (w.map encI)) {q1 q2 q3 q4 : AV} (hn3 : At h n3 [q1, q2, q3, q4, s5]) {P : Nat → Prop} :
    ∀ (d t : Nat) (out : AV) (ob : List Bool) (H : Heap), t + d = l.length → Ext h H → Sl H 1 out (ob.map encB) → Is w ob (fun j => ∃ i, P i ∧ RJ w (l.take t) i j) →
      WP (fun p : Nat × Nat => milestoneref5_ends_l2 tab p.1 p.2 word n3 out (I t) H) fun r h' => Ext h h' ∧ ∃ bs, Sl h' 1 r (bs.map encB) ∧ Is w bs fun j => ∃ i, P i ∧ RJ w l i j := by
  have hcl := nvs.length
  have hcs0 : Sl h 5 s5 (css.map fun x => x) := by rw [List.map_id']; exact hcs
  intro d
  induction d with
  | zero =>
    intro t out ob H h1 ex ho io
    refine WP.rnd (fun i' j => milestoneref5_ends_l2_eq tab i' j word n3 out (I t) H) ?_
    have hcs' := hcs0.ext ex
    simp -implicitDefEqProofs (disch := first | assumption | omega | (simp -implicitDefEqProofs only [gL] <;> omega) | ((repeat (first | exact Ext.refl _ | assumption | apply Ext.app | apply Ext.mk | (refine Ext.setr ?_ (by (first | omega | (simp -implicitDefEqProofs only [gL] <;> omega))) _))); done) | (simp -implicitDefEqProofs only [gL, gA, hn3.fldA0, hn3.ldfE, hcs'.lenG] <;> omega) | fail) only [gB, setAll, partL, fldV, reduceIte, Nat.reduceAdd, Nat.reduceMul, hn3.fldA0, hn3.ldfE, hcs'.lenG]
    exact WP.lv (WP.ret ⟨ex, ob, ho, io.cong fun j => by rw [List.take_of_length_le (by omega)]⟩) fun i j => rfl
  | succ d ih =>
    intro t out ob H h1 ex ho io
    refine WP.rnd (fun i' j => milestoneref5_ends_l2_eq tab i' j word n3 out (I t) H) ?_
    have hcs' := hcs0.ext ex
    have e0 := Ext.refl H
    have hlt : l[t]? = some (l[t]'(by omega)) := List.getElem?_eq_getElem (by omega)
    obtain ⟨cc, a1, a2⟩ := nvs.get hlt
    have hgc : gi css (t : Int) = cc := gi_map a1
    simp -implicitDefEqProofs (disch := first | assumption | omega | (simp -implicitDefEqProofs only [gL] <;> omega) | ((repeat (first | exact Ext.refl _ | assumption | apply Ext.app | apply Ext.mk | (refine Ext.setr ?_ (by (first | omega | (simp -implicitDefEqProofs only [gL] <;> omega))) _))); done) | (simp -implicitDefEqProofs only [gL, gA, hn3.fldA0, hn3.ldfE, hcs'.lenG, hcs'.idxG, hcs'.ldN, hgc] <;> omega) | fail) only [gB, setAll, partL, fldV, reduceIte, Nat.reduceAdd, Nat.reduceMul, hn3.fldA0, hn3.ldfE, hcs'.lenG, hcs'.idxG, hcs'.ldN, hgc]
    refine WP.call (hS _ (List.getElem_mem (by omega)) cc word out ob _ H (a2.keeps (.ofExt ex)) (hwd.ext ex) ho io) ?_
    rintro r H1 ⟨x1, bs, rs, ri⟩
    refine ih (t + 1) r bs H1 (by omega) (ex.trans x1) rs (ri.cong fun j => ?_)
    rw [List.take_add_one, hlt]
    simp only [Option.toList_some, RJ_snoc]
    exact ⟨fun ⟨m, ⟨i, q1, q2⟩, q3⟩ => ⟨i, q1, m, q2, q3⟩, fun ⟨i, q1, m, q2, q3⟩ => ⟨m, ⟨i, q1, q2⟩, q3⟩⟩
theorem runi_l3 {l : List Nd} (hS : ∀ c ∈ l, RefS w c) (hw : w.length ≤ 900000) (hl : l.length ≤ 1000) {word fr n3 s5 : AV} {fb : List Bool} {css : List (List AV)} {h : Heap} (hcs : Sl h 5 s5 css) (nvs : NVs h l css) (hwd : Sl h 1 word (w.map encI)) {q1 q2 q3 q4 : AV} (hn3 : At h n3 [q1, q2, q3, q4, s5]) {P : Nat → Prop} (hf : Sl h 1 fr (fb.map encB)) (hP : Is w fb P) :
    ∀ (d t : Nat) (out : AV) (ob : List Bool) (H : Heap), t + d = l.length → Ext h H → Sl H 1 out (ob.map encB) → Is w ob (fun j => ∃ i, P i ∧ RU w (l.take t) i j) →
      WP (fun p : Nat × Nat => milestoneref5_ends_l3 tab p.1 p.2 word fr n3 out (I t) H) fun r h' => Ext h h' ∧ ∃ bs, Sl h' 1 r (bs.map encB) ∧ Is w bs fun j => ∃ i, P i ∧ RU w l i j := by
  have hcl := nvs.length
  have hcs0 : Sl h 5 s5 (css.map fun x => x) := by rw [List.map_id']; exact hcs
  intro d
  induction d with
  | zero =>
    intro t out ob H h1 ex ho io
    refine WP.rnd (fun i' j => milestoneref5_ends_l3_eq tab i' j word fr n3 out (I t) H) ?_
    have hcs' := hcs0.ext ex
    simp -implicitDefEqProofs (disch := first | assumption | omega | (simp -implicitDefEqProofs only [gL] <;> omega) | ((repeat (first | exact Ext.refl _ | assumption | apply Ext.app | apply Ext.mk | (refine Ext.setr ?_ (by (first | omega | (simp -implicitDefEqProofs only [gL] <;> omega))) _))); done) | (simp -implicitDefEqProofs only [gL, gA, hn3.fldA0, hn3.ldfE, hcs'.lenG] <;> omega) | fail) only [gB, setAll, partL, fldV, reduceIte, Nat.reduceAdd, Nat.reduceMul, hn3.fldA0, hn3.ldfE, hcs'.lenG]
    exact WP.lv (WP.ret ⟨ex, ob, ho, io.cong fun j => by rw [List.take_of_length_le (by omega)]⟩) fun i j => rfl
  | succ d ih =>
    intro t out ob H h1 ex ho io
    refine WP.rnd (fun i' j => milestoneref5_ends_l3_eq tab i' j word fr n3 out (I t) H) ?_
    have hcs' := hcs0.ext ex
    have e0 := Ext.refl H
    have hlt : l[t]? = some (l[t]'(by omega)) := List.getElem?_eq_getElem (by omega)
    obtain ⟨cc, a1, a2⟩ := nvs.get hlt
    have hgc : gi css (t : Int) = cc := gi_map a1
    simp -implicitDefEqProofs (disch := first | assumption | omega | (simp -implicitDefEqProofs only [gL] <;> omega) | ((repeat (first | exact Ext.refl _ | assumption | apply Ext.app | apply Ext.mk | (refine Ext.setr ?_ (by (first | omega | (simp -implicitDefEqProofs only [gL] <;> omega))) _))); done) | (simp -implicitDefEqProofs only [gL, gA, hn3.fldA0, hn3.ldfE, hcs'.lenG, hcs'.idxG, hcs'.ldN, hgc] <;> omega) | fail) only [gB, setAll, partL, fldV, reduceIte, Nat.reduceAdd, Nat.reduceMul, hn3.fldA0, hn3.ldfE, hcs'.lenG, hcs'.idxG, hcs'.ldN, hgc]
    refine WP.call (hS _ (List.getElem_mem (by omega)) cc word fr fb _ H (a2.keeps (.ofExt ex)) (hwd.ext ex) (hf.ext ex) hP) ?_
    rintro r H1 ⟨x1, bs, rs, ri⟩
    refine WP.call (both_spec hw (ho.ext x1) rs io ri) ?_
    rintro _ H2 ⟨x2, out2, cu, fl, rfl, os, oi, of⟩
    simp -implicitDefEqProofs (disch := first | assumption | omega | (simp -implicitDefEqProofs only [gL] <;> omega) | ((repeat (first | exact Ext.refl _ | assumption | apply Ext.app | apply Ext.mk | (refine Ext.setr ?_ (by (first | omega | (simp -implicitDefEqProofs only [gL] <;> omega))) _))); done) | (simp -implicitDefEqProofs only [gL, gA, extr_tup] <;> omega) | fail) only [gB, setAll, partL, fldV, reduceIte, Nat.reduceAdd, Nat.reduceMul, extr_tup]
    refine ih (t + 1) out2 cu H2 (by omega) ((ex.trans x1).trans x2) os (oi.cong fun j => ?_)
    rw [List.take_add_one, hlt]
    simp only [RU_iff, List.mem_append, Option.toList_some, List.mem_singleton]
    constructor
    · rintro (⟨i, b1, c, b2, b3⟩ | ⟨i, b1, b2⟩)
      · exact ⟨i, b1, c, .inl b2, b3⟩
      · exact ⟨i, b1, _, .inr rfl, b2⟩
    · rintro ⟨i, b1, c, b2 | b2, b3⟩
      · exact .inl ⟨i, b1, c, b2, b3⟩
      · subst b2; exact .inr ⟨i, b1, b3⟩
end
end Go.Gm.A5
