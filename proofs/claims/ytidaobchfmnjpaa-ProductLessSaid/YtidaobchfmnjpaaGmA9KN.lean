/- A part of the proof (GmA9KN): an abstract machine, what it does, and what the functions of the program come to on it. -/
import Derived.Test.YtidaobchfmnjpaaGmA9RT
set_option linter.unusedVariables false
set_option linter.unusedSimpArgs false
set_option linter.unusedSectionVars false
namespace Go.Gm.A9
open Go Go.Gm
/-! ### The chapter's example -/
def kE : List E := [⟨0, 1, 0, 4⟩]
def kD : List (List Int) := [[0, 0, 0, 0, 0]]
theorem kA0 : hopA kE 1 (onL kE kD) 0 = [(1, 0, 4)] := by decide
theorem kA1 : hopA kE 1 (onL kE kD) 1 = [] := by decide
theorem kNet : NetOk (2 : Nat) kE := ⟨by omega, by omega, by simp [kE], fun e he => by simp [kE] at he; subst he; simp⟩
theorem kCo : COk kE := ⟨fun e he => by simp [kE] at he; subst he; simp⟩
theorem kDok : DOk kD [true] := by
  refine ⟨by simp [kD], by simp [kD], by simp [kD], fun s s0 s1 => ?_, fun s m s0 s1 m0 m1 => ?_⟩
  · simp [kD] at s1
    obtain rfl : s = 0 := by omega
    rfl
  · simp [kD] at s1
    obtain rfl : s = 0 := by omega
    have : m = 0 ∨ m = 1 ∨ m = 2 ∨ m = 3 ∨ m = 4 := by omega
    rcases this with rfl | rfl | rfl | rfl | rfl <;> decide
abbrev kA := hopA kE 1 (onL kE kD)
theorem kHop {x y e : Nat} {w : Int} (hx : x < 2) (h : (y, e, w) ∈ kA x) : x = 0 ∧ y = 1 ∧ e = 0 ∧ w = 4 := by
  have : x = 0 ∨ x = 1 := by omega
  rcases this with rfl | rfl
  · rw [kA, kA0] at h; simp at h; exact ⟨rfl, h.1, h.2.1, h.2.2⟩
  · rw [kA, kA1] at h; simp at h
theorem kRange {st : Nat → Prop} (hs : ∀ x, st x → x < 2) {x : Nat} {l : List Nat} {c : Int} (h : Wk kA st x l c) : x < 2 ∧ 0 ≤ c :=
  Wk.range (n := 2) (W := 2147483647) (⟨by omega, fun x hx y e w h => by obtain ⟨rfl, rfl, rfl, rfl⟩ := kHop hx h; omega⟩) hs h
theorem kOne {l : List Nat} {c : Int} (h : Wk kA (fun x => x = 1 * 1) 1 l c) : (l = [] ∧ c = 0) ∨ 4 ≤ c := by
  cases h with
  | nil _ => exact .inl ⟨rfl, rfl⟩
  | snoc h1 h2 =>
    have hr := kRange (fun x z => by omega) h1
    obtain ⟨rfl, _, rfl, rfl⟩ := kHop hr.1 h2
    right; omega
theorem kZero {l : List Nat} {c : Int} (h : Wk kA (fun x => x = 0 * 1) 0 l c) : l = [] ∧ c = 0 := by
  cases h with
  | nil _ => exact ⟨rfl, rfl⟩
  | snoc h1 h2 =>
    have hr := kRange (fun x z => by omega) h1
    obtain ⟨rfl, q, _⟩ := kHop hr.1 h2
    cases q
theorem kFour {l : List Nat} {c : Int} (h : Wk kA (fun x => x = 0 * 1) 1 l c) : l = [0] ∧ c = 4 := by
  cases h with
  | nil h => simp at h
  | snoc h1 h2 =>
    have hr := kRange (fun x z => by omega) h1
    obtain ⟨rfl, _, rfl, rfl⟩ := kHop hr.1 h2
    obtain ⟨rfl, rfl⟩ := kZero h1
    exact ⟨rfl, rfl⟩
theorem kBv {c : Nat → Int} {b : Nat} (hc : 0 ≤ c b) : bv c [true] b 1 = c b := if_pos ⟨rfl, hc, .inl (show (-1 : Int) < 0 by decide)⟩
theorem kLc1 {c : Nat → Int} (lc : LC 2 kA (fun x => x = 1 * 1) c) : c 1 = 0 := by
  rcases lc 1 (by omega) with ⟨h1, ⟨l, h2⟩, h3⟩ | ⟨h1, h2⟩
  · have := h3 [] 0 (.nil rfl)
    omega
  · exact absurd (Wk.nil (A := kA) (st := fun x => x = 1 * 1) (x := 1) rfl) (h2 _ _)
theorem kLc4 {c : Nat → Int} (lc : LC 2 kA (fun x => x = 0 * 1) c) : c 1 = 4 := by
  have hw : Wk kA (fun x => x = 0 * 1) 1 ([] ++ [0]) (0 + 4) := .snoc (.nil rfl) (by rw [kA, kA0]; simp)
  rcases lc 1 (by omega) with ⟨h1, ⟨l, h2⟩, h3⟩ | ⟨h1, h2⟩
  · exact (kFour h2).2
  · exact absurd hw (h2 _ _)
section
variable {h : Heap} {sE sD sA : AV}
theorem kRoute1 (hs : Sl h 4 sE (kE.map encE)) (hD : Sl h 5 sD (kD.map encR)) (hA : Sl h 1 sA ([true].map encB)) : Tot tab f_product_Route [.agg [I 2, sE], .agg [sD, sA], I 1, I 1] h fun r h' => Ext h h' ∧ ∃ sl, r = .tup [.agg [I 0, sl], .bool true] ∧ Sl h' 1 sl [] := by
  refine (Route_spec (N := 2) (v := 1) (u := 1) kNet kCo (by simp [kD]) hs kDok hD hA (by omega) (by omega)).mono ?_
  rintro r h' ⟨e, c, lc, rq⟩
  have h1 : c 1 = 0 := kLc1 lc
  have h2 : bv c [true] (1 * kD.length) kD.length = 0 := by
    show bv c [true] 1 1 = 0
    rw [kBv (by omega), h1]
  refine ⟨e, ?_⟩
  rcases rq with ⟨q, _⟩ | ⟨_, q, l, sl, q1, q2, q3, q4, q5, q6, q7⟩
  · omega
  · rw [h2] at q4 q6
    have hq : q = 0 := by simp [kD] at q1; omega
    subst hq
    have : l = [] := by
      rcases kOne (l := l) (c := 0) q4 with ⟨z, _⟩ | z
      · exact z
      · omega
    subst this
    exact ⟨sl, q6, q7.sl⟩
theorem kRoute4 (hs : Sl h 4 sE (kE.map encE)) (hD : Sl h 5 sD (kD.map encR)) (hA : Sl h 1 sA ([true].map encB)) : Tot tab f_product_Route [.agg [I 2, sE], .agg [sD, sA], I 0, I 1] h fun r h' => Ext h h' ∧ ∃ sl, r = .tup [.agg [I 4, sl], .bool true] ∧ Sl h' 1 sl [[I 0]] := by
  refine (Route_spec (N := 2) (v := 0) (u := 1) kNet kCo (by simp [kD]) hs kDok hD hA (by omega) (by omega)).mono ?_
  rintro r h' ⟨e, c, lc, rq⟩
  have h1 : c 1 = 4 := kLc4 lc
  have h2 : bv c [true] (1 * kD.length) kD.length = 4 := by
    show bv c [true] 1 1 = 4
    rw [kBv (by omega), h1]
  refine ⟨e, ?_⟩
  rcases rq with ⟨q, _⟩ | ⟨_, q, l, sl, q1, q2, q3, q4, q5, q6, q7⟩
  · omega
  · rw [h2] at q4 q6
    have hq : q = 0 := by simp [kD] at q1; omega
    subst hq
    obtain ⟨rfl, _⟩ := kFour (l := l) (c := 4) q4
    exact ⟨sl, q6, q7.sl⟩
theorem kCosts (hs : Sl h 4 sE (kE.map encE)) (hD : Sl h 5 sD (kD.map encR)) (hA : Sl h 1 sA ([true].map encB)) : Tot tab f_product_Costs [.agg [I 2, sE], .agg [sD, sA], I 0] h fun r h' => Ext h h' ∧ ∃ x, Sl h' 1 r ([x, (4 : Int)].map encI) := by
  refine (Costs_spec (N := 2) (v := 0) kNet kCo (by simp [kD]) hs kDok hD hA (by omega)).mono ?_
  rintro r h' ⟨e, c, lc, g⟩
  have h1 : c 1 = 4 := kLc4 lc
  have h2 : costL 2 kD.length c [true] = [bv c [true] 0 1, 4] := by
    show [bv c [true] (0 * 1) 1, bv c [true] (1 * 1) 1] = _
    rw [show 0 * 1 = 0 from rfl, show 1 * 1 = 1 from rfl, kBv (b := 1) (by omega), h1]
  rw [h2] at g
  exact ⟨e, _, g.sl⟩
theorem sl_row {h : Heap} {o sz : Nat} {v : List AV} (hr : h[o]? = some (.cells ⟨v, 0, 0, false⟩)) (hv : v.length = sz) : Sl h sz (.sl o 0 1 sz none 0) [v] :=
  .inr ⟨o, 0, none, 0, _, rfl, hr, Nat.le_refl _, by simp [List.take_of_length_le (Nat.le_of_eq hv)], by simp [hv]⟩
end
theorem known_spec (h : Heap) : Tot tab f_milestonelaw9_known [] h fun r h' => r = .bool true ∧ Ext h h' := by
  refine WP.tot (fun k => (call_milestonelaw9_known k h).trans (milestonelaw9_known_eq tab k h)) ?_
  simp -implicitDefEqProofs (maxSteps := 1000000) (disch := first | assumption | omega | (simp only [gL] <;> omega) | ((repeat (first | exact Ext.refl _ | assumption | apply Ext.app | apply Ext.mk | (refine Ext.setr ?_ (by (first | omega | (simp only [gL] <;> omega))) _))); done) | (simp only [gL, gA] <;> omega) | fail) only [gB, setAll, partL, fldV, reduceIte, Nat.reduceAdd, Nat.reduceMul]
  obtain ⟨h1, hh1⟩ : ∃ h1, h1 = (List.set (List.set (h ++ [AObj.cells ⟨[AV.int .i64 0, AV.int .i64 1, AV.int .i64 0, AV.int .i64 4], 0, 0, false⟩] ++ [AObj.cells ⟨[AV.int .i64 0, .nils], 0, 0, false⟩]) (h.length + 1) (AObj.cells ⟨[AV.int .i64 2, AV.sl h.length 0 1 4 none 0], 0, 0, false⟩) ++
      [AObj.cells ⟨[AV.int .i64 0, AV.int .i64 0, AV.int .i64 0, AV.int .i64 0, AV.int .i64 0], 0, 0, false⟩] ++ [AObj.cells ⟨[AV.bool true], 0, 0, false⟩] ++ [AObj.cells ⟨[.nils, .nils], 0, 0, false⟩])
      (h.length + 1 + 1 + 1 + 1) (AObj.cells ⟨[AV.sl (h.length + 1 + 1) 0 1 5 none 0, AV.sl (h.length + 1 + 1 + 1) 0 1 1 none 0], 0, 0, false⟩)) := ⟨_, rfl⟩
  have e1 : Ext h h1 := by rw [hh1]; ((repeat (first | exact Ext.refl _ | assumption | apply Ext.app | apply Ext.mk | (refine Ext.setr ?_ (by (first | omega | (simp only [gL] <;> omega))) _))))
  have r0 : h1[h.length]? = some (.cells ⟨encE ⟨0, 1, 0, 4⟩, 0, 0, false⟩) := by rw [hh1]; simp -implicitDefEqProofs (maxSteps := 1000000) (disch := first | assumption | omega | (simp only [gL] <;> omega) | ((repeat (first | exact Ext.refl _ | assumption | apply Ext.app | apply Ext.mk | (refine Ext.setr ?_ (by (first | omega | (simp only [gL] <;> omega))) _))); done) | (simp only [gL, gA] <;> omega) | fail) only [gB, setAll, partL, fldV, reduceIte, Nat.reduceAdd, Nat.reduceMul]; try rfl
  have r1 : h1[h.length + 1]? = some (.cells ⟨[I 2, AV.sl h.length 0 1 4 none 0], 0, 0, false⟩) := by rw [hh1]; simp -implicitDefEqProofs (maxSteps := 1000000) (disch := first | assumption | omega | (simp only [gL] <;> omega) | ((repeat (first | exact Ext.refl _ | assumption | apply Ext.app | apply Ext.mk | (refine Ext.setr ?_ (by (first | omega | (simp only [gL] <;> omega))) _))); done) | (simp only [gL, gA] <;> omega) | fail) only [gB, setAll, partL, fldV, reduceIte, Nat.reduceAdd, Nat.reduceMul]; try rfl
  have r2 : h1[h.length + 1 + 1]? = some (.cells ⟨encR [0, 0, 0, 0, 0], 0, 0, false⟩) := by rw [hh1]; simp -implicitDefEqProofs (maxSteps := 1000000) (disch := first | assumption | omega | (simp only [gL] <;> omega) | ((repeat (first | exact Ext.refl _ | assumption | apply Ext.app | apply Ext.mk | (refine Ext.setr ?_ (by (first | omega | (simp only [gL] <;> omega))) _))); done) | (simp only [gL, gA] <;> omega) | fail) only [gB, setAll, partL, fldV, reduceIte, Nat.reduceAdd, Nat.reduceMul]; try rfl
  have r3 : h1[h.length + 1 + 1 + 1]? = some (.cells ⟨encB true, 0, 0, false⟩) := by rw [hh1]; simp -implicitDefEqProofs (maxSteps := 1000000) (disch := first | assumption | omega | (simp only [gL] <;> omega) | ((repeat (first | exact Ext.refl _ | assumption | apply Ext.app | apply Ext.mk | (refine Ext.setr ?_ (by (first | omega | (simp only [gL] <;> omega))) _))); done) | (simp only [gL, gA] <;> omega) | fail) only [gB, setAll, partL, fldV, reduceIte, Nat.reduceAdd, Nat.reduceMul]; try rfl
  have r4 : h1[h.length + 1 + 1 + 1 + 1]? = some (.cells ⟨[AV.sl (h.length + 1 + 1) 0 1 5 none 0, AV.sl (h.length + 1 + 1 + 1) 0 1 1 none 0], 0, 0, false⟩) := by rw [hh1]; simp -implicitDefEqProofs (maxSteps := 1000000) (disch := first | assumption | omega | (simp only [gL] <;> omega) | ((repeat (first | exact Ext.refl _ | assumption | apply Ext.app | apply Ext.mk | (refine Ext.setr ?_ (by (first | omega | (simp only [gL] <;> omega))) _))); done) | (simp only [gL, gA] <;> omega) | fail) only [gB, setAll, partL, fldV, reduceIte, Nat.reduceAdd, Nat.reduceMul]; try rfl
  have hs : Sl h1 4 (.sl h.length 0 1 4 none 0) (kE.map encE) := sl_row r0 rfl
  have hD : Sl h1 5 (.sl (h.length + 1 + 1) 0 1 5 none 0) (kD.map encR) := sl_row r2 rfl
  have hA : Sl h1 1 (.sl (h.length + 1 + 1 + 1) 0 1 1 none 0) ([true].map encB) := sl_row r3 rfl
  rw [← hh1]
  refine WP.call (kRoute1 hs hD hA) ?_
  rintro _ h2 ⟨e2, s2, rfl, z2⟩
  have r12 := e2.get r1
  have r42 := e2.get r4
  have b1 := (List.getElem?_eq_some_iff.1 r12).1
  have b4 := (List.getElem?_eq_some_iff.1 r42).1
  simp -implicitDefEqProofs (maxSteps := 1000000) (disch := first | assumption | omega | (simp only [gL] <;> omega) | ((repeat (first | exact Ext.refl _ | assumption | apply Ext.app | apply Ext.mk | (refine Ext.setr ?_ (by (first | omega | (simp only [gL] <;> omega))) _))); done) | (simp only [gL, gA, extr_0, extr_1, z2.one, z2.cells, r12, r42] <;> omega) | fail) only [gB, setAll, partL, fldV, reduceIte, Nat.reduceAdd, Nat.reduceMul, extr_0, extr_1, z2.one, z2.cells, r12, r42]
  obtain ⟨h3, hh3⟩ : ∃ h3, h3 = ((h2 ++ [AObj.cells ⟨[AV.int .i64 0, .nils], 0, 0, false⟩]).set h2.length (.cells ⟨[I 0, s2], 0, 0, false⟩)) := ⟨_, rfl⟩
  have e3 : Ext h2 h3 := by rw [hh3]; ((repeat (first | exact Ext.refl _ | assumption | apply Ext.app | apply Ext.mk | (refine Ext.setr ?_ (by (first | omega | (simp only [gL] <;> omega))) _))))
  have q3 : h3[h2.length]? = some (.cells ⟨[I 0, s2], 0, 0, false⟩) := by rw [hh3]; exact get_set_eq (by simp)
  have e13 := e2.trans e3
  rw [← hh3]
  refine WP.call (kRoute4 (hs.ext e13) (hD.ext e13) (hA.ext e13)) ?_
  rintro _ h4 ⟨e4, s4, rfl, z4⟩
  have r14 := (e3.trans e4).get r12
  have r44 := (e3.trans e4).get r42
  have q34 := e4.get q3
  have c1 := (List.getElem?_eq_some_iff.1 r14).1
  have c4 := (List.getElem?_eq_some_iff.1 r44).1
  have cq := (List.getElem?_eq_some_iff.1 q34).1
  simp -implicitDefEqProofs (maxSteps := 1000000) (disch := first | assumption | omega | (simp only [gL] <;> omega) | ((repeat (first | exact Ext.refl _ | assumption | apply Ext.app | apply Ext.mk | (refine Ext.setr ?_ (by (first | omega | (simp only [gL] <;> omega))) _))); done) | (simp only [gL, gA, extr_0, extr_1, z4.one, z4.cells, r14, r44] <;> omega) | fail) only [gB, setAll, partL, fldV, reduceIte, Nat.reduceAdd, Nat.reduceMul, extr_0, extr_1, z4.one, z4.cells, r14, r44]
  obtain ⟨h5, hh5⟩ : ∃ h5, h5 = ((h4 ++ [AObj.cells ⟨[AV.int .i64 0, .nils], 0, 0, false⟩]).set h4.length (.cells ⟨[I 4, s4], 0, 0, false⟩)) := ⟨_, rfl⟩
  have e5 : Ext h4 h5 := by rw [hh5]; ((repeat (first | exact Ext.refl _ | assumption | apply Ext.app | apply Ext.mk | (refine Ext.setr ?_ (by (first | omega | (simp only [gL] <;> omega))) _))))
  have q5 : h5[h4.length]? = some (.cells ⟨[I 4, s4], 0, 0, false⟩) := by rw [hh5]; exact get_set_eq (by simp)
  have e15 := (e13.trans e4).trans e5
  rw [← hh5]
  refine WP.call (kCosts (hs.ext e15) (hD.ext e15) (hA.ext e15)) ?_
  rintro r h6 ⟨e6, x, z6⟩
  have q36 := (e5.trans e6).get q34
  have q56 := e6.get q5
  have l2 := z2.len
  have l4 := z4.len
  simp only [List.length_nil, List.length_cons] at l2 l4
  have g1 : gi [x, (4 : Int)] 1 = 4 := rfl
  simp -implicitDefEqProofs (maxSteps := 1000000) (disch := first | assumption | omega | (simp only [gL] <;> omega) | ((repeat (first | exact Ext.refl _ | assumption | apply Ext.app | apply Ext.mk | (refine Ext.setr ?_ (by (first | omega | (simp only [gL] <;> omega))) _))); done) | (simp only [gL, gA, extr_0, extr_1, q36, q56, l2, l4, z6.lenG, z6.idxG, z6.ld0, g1, encI] <;> omega) | fail) only [gB, setAll, partL, fldV, reduceIte, Nat.reduceAdd, Nat.reduceMul, extr_0, extr_1, q36, q56, l2, l4, z6.lenG, z6.idxG, z6.ld0, g1, encI]
  exact WP.ret ⟨rfl, (e1.trans e15).trans e6⟩
end Go.Gm.A9
