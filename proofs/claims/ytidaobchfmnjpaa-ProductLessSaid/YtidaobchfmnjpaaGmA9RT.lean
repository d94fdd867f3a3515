/- A part of the proof (GmA9RT): an abstract machine, what it does, and what the functions of the program come to on it. -/
import Derived.Test.YtidaobchfmnjpaaGmA9RV
set_option linter.unusedVariables false
set_option linter.unusedSimpArgs false
set_option linter.unusedSectionVars false
namespace Go.Gm.A9
open Go Go.Gm
/-! ### A way of the least cost -/
section
variable {h : Heap} {N : Nat} {es : List E} {D : List (List Int)} {acc : List Bool}
/-- What a route answers. -/
def RouteQ (N : Nat) (es : List E) (D : List (List Int)) (acc : List Bool) (v u : Nat) (c : Nat → Int) (lo : Nat) (r : AV) (h' : Heap) : Prop :=
  (bv c acc (u * D.length) D.length < 0 ∧ r = .tup [.agg [I 0, .nils], .bool false]) ∨
  (0 ≤ bv c acc (u * D.length) D.length ∧ ∃ (q : Nat) (l : List Nat) (sl : AV), q < D.length ∧ gi acc (q : Int) = true ∧ bv c acc (u * D.length) D.length = c (u * D.length + q) ∧ Wk (hopA es D.length (onL es D)) (fun x => x = v * D.length) (u * D.length + q) l (bv c acc (u * D.length) D.length) ∧
    l.length ≤ 1000000 ∧ r = .tup [.agg [I (bv c acc (u * D.length) D.length), sl], .bool true] ∧ Gr lo h'.length h' 1 sl ((l.map fun (e : Nat) => (e : Int)).map encI))
theorem Route_spec {sE sD sA : AV} (no : NetOk N es) (co : COk es) (hn2 : N * D.length ≤ 1000000) (hs : Sl h 4 sE (es.map encE)) (ok : DOk D acc) (hD : Sl h 5 sD (D.map encR)) (hA : Sl h 1 sA (acc.map encB)) {v u : Nat} (hv : v < N) (hu : u < N) :
    Tot tab f_product_Route [.agg [I N, sE], .agg [sD, sA], I v, I u] h fun r h' => Ext h h' ∧ ∃ c, LC (N * D.length) (hopA es D.length (onL es D)) (fun x => x = v * D.length) c ∧ RouteQ N es D acc v u c h.length r h' := by
  refine WP.tot (fun k => (call_product_Route k _ _ _ _ h).trans (product_Route_eq tab k _ _ _ _ h)) ?_
  have hN : N ≤ 100000 := by have := no.n1; omega
  obtain ⟨h1, hh1⟩ : ∃ h1, h1 = ((h ++ [AObj.cells ⟨[I N, sE], 0, 0, false⟩]) ++ [AObj.cells ⟨[sD, sA], 0, 0, false⟩]) ++ [AObj.cells ⟨[AV.int .i64 0, .nils], 0, 0, false⟩] := ⟨_, rfl⟩
  have e1 : Ext h h1 := by rw [hh1]; ((repeat (first | exact Ext.refl _ | assumption | apply Ext.app | apply Ext.mk | (refine Ext.setr ?_ (by (first | omega | (simp only [gL] <;> omega))) _))))
  have hl1 : h1.length = h.length + 3 := by rw [hh1]; simp
  have r8 : h1[h.length + 1 + 1]? = some (.cells ⟨[I 0, .nils], 0, 0, false⟩) := by rw [hh1, get_app_r (by simp)]; simp [I]
  simp -implicitDefEqProofs (maxSteps := 1000000) (disch := first | assumption | omega | (simp only [gL] <;> omega) | ((repeat (first | exact Ext.refl _ | assumption | apply Ext.app | apply Ext.mk | (refine Ext.setr ?_ (by (first | omega | (simp only [gL] <;> omega))) _))); done) | (simp only [gL, gA, hs.one, hs.cells, hD.one, hD.cells, hA.one, hA.cells] <;> omega) | fail) only [gB, setAll, partL, fldV, reduceIte, Nat.reduceAdd, Nat.reduceMul, hs.one, hs.cells, hD.one, hD.cells, hA.one, hA.cells]
  rw [← hh1]
  refine WP.call (join_spec no (hs.ext e1) ok (hD.ext e1) (hA.ext e1)) ?_
  rintro g h2 ⟨e2, gv⟩
  obtain ⟨h3, hh3⟩ : ∃ h3, h3 = h2 ++ [AObj.cells ⟨[I v, AV.int .i64 0], 0, 0, false⟩] := ⟨_, rfl⟩
  have e3 : Ext h2 h3 := by rw [hh3]; exact Ext.push _ _
  have ha : Sl h3 2 (.sl h2.length 0 1 2 none 0) ([((v : Int), (0 : Int))].map encP2) := by
    have := (Gr.lit (h := h2) (sz := 2) (v := [I v, I 0]) rfl).sl
    rw [mkObj_eq] at this
    rw [hh3]; exact this
  rw [show AV.int .i64 0 = I 0 from rfl] at hh3
  rw [← hh3]
  have gv3 := gv.ext e3
  refine WP.call (begin_spec (n := N * D.length) gv3 ok hN rfl hn2 ha (fun a z => ?_) (by simp) (hopA es D.length (onL es D))) ?_
  · obtain rfl := List.mem_singleton.1 z
    have := ok.l0
    exact ⟨by show (0 : Int) ≤ v; omega, by show (v : Int) < N; omega, Int.le_refl _, by show (0 : Int) < D.length; omega⟩
  rintro _ h4 ⟨e4, os, q, sc, se, sf, oc, oe, ov, cs, ds, fs, M, rfl, w4, d4, u4⟩
  have hst : atSt D.length [((v : Int), (0 : Int))] = fun x => x = v * D.length := by
    funext x; exact propext at_one
  rw [hst] at d4
  have hstn : ∀ x, x = v * D.length → x < N * D.length := fun x z => by
    have := spotN (S := D.length) hv ok.l0
    omega
  refine WP.call (all_spec e4 (fun o z => z) gv3 ok co hN rfl hn2 (on_hops gv3 ok no) hstn w4 d4 u4) ?_
  rintro _ h5 ⟨rfl, f5, id2, k2, ls2, rk2, cs2, ds2, fs2, M2, w5, d5, m5, u5⟩
  have e35 : Ext h3 h5 := f5.ext e4 fun o z1 z2 => by omega
  have lc := DI.lc ((on_hops gv3 ok no).gok co) hstn d5 m5
  refine WP.call (best_spec (gv3.ext e35) ok hN rfl hn2 hu w5) ?_
  rintro _ h6 ⟨e6, out, rfl, b⟩
  have e06 := (((e1.trans e2).trans e3).trans e35).trans e6
  have r86 := (((e2.trans e3).trans e35).trans e6).get r8
  have b86 := (List.getElem?_eq_some_iff.1 r86).1
  obtain ⟨bn1, bn2, bn3⟩ := b.neg
  by_cases ho : out < 0
  · simp -implicitDefEqProofs (maxSteps := 1000000) (disch := first | assumption | omega | (simp only [gL] <;> omega) | ((repeat (first | exact Ext.refl _ | assumption | apply Ext.app | apply Ext.mk | (refine Ext.setr ?_ (by (first | omega | (simp only [gL] <;> omega))) _))); done) | (simp only [gL, gA, r86] <;> omega) | fail) only [gB, setAll, partL, fldV, reduceIte, Nat.reduceAdd, Nat.reduceMul, r86]
    refine WP.ret ⟨e06.setr (by omega) _, gf cs2, lc, .inl ⟨bn1.1 ho, rfl⟩⟩
  · have w6 := w5.ext e6
    have ro6 := w6.row
    have lc6 := w6.lc
    rcases b with ⟨b1, _⟩ | ⟨qq, q1, rfl, q3, q4, q5⟩
    · omega
    have hx : u * D.length + qq < N * D.length := spotN hu q1
    have hun := un_nonneg (N * D.length) (gf cs2)
    have gcs := w6.gc.sl
    have hgc : gi cs2 ((u * D.length + qq : Nat) : Int) = bv (gf cs2) acc (u * D.length) D.length := q5.symm
    obtain ⟨x, hxx⟩ : ∃ x, u * D.length + qq = x := ⟨_, rfl⟩
    rw [hxx] at hx hgc q4 q5 ho ⊢
    simp -implicitDefEqProofs (maxSteps := 1000000) (disch := first | assumption | omega | (simp only [gL] <;> omega) | ((repeat (first | exact Ext.refl _ | assumption | apply Ext.app | apply Ext.mk | (refine Ext.setr ?_ (by (first | omega | (simp only [gL] <;> omega))) _))); done) | (simp only [gL, gA, ro6, gcs.idxG, gcs.ld0, encI, hgc] <;> omega) | fail) only [gB, setAll, partL, fldV, reduceIte, Nat.reduceAdd, Nat.reduceMul, ro6, gcs.idxG, gcs.ld0, encI, hgc]
    refine WP.call (edges_spec hn2 w6 d5 (by omega) hx q4) ?_
    rintro sl h7 ⟨e7, l, hw, hl, g7⟩
    have w7 := w6.ext e7
    have ro7 := w7.row
    have gcs7 := w7.gc.sl
    have r87 := e7.get r86
    have b87 := (List.getElem?_eq_some_iff.1 r87).1
    simp -implicitDefEqProofs (maxSteps := 1000000) (disch := first | assumption | omega | (simp only [gL] <;> omega) | ((repeat (first | exact Ext.refl _ | assumption | apply Ext.app | apply Ext.mk | (refine Ext.setr ?_ (by (first | omega | (simp only [gL] <;> omega))) _))); done) | (simp only [gL, gA, ro7, gcs7.ld0, encI, hgc, g7.sl.one, g7.sl.cells, r87] <;> omega) | fail) only [gB, setAll, partL, fldV, reduceIte, Nat.reduceAdd, Nat.reduceMul, ro7, gcs7.ld0, encI, hgc, g7.sl.one, g7.sl.cells, r87]
    refine WP.ret ⟨(e06.trans e7).setr (by omega) _, gf cs2, lc, .inr ⟨by rw [q5]; exact q4, qq, l, sl, q1, q3, ?_, ?_, hl, rfl, ?_⟩⟩
    · rw [hxx]; exact q5
    · rw [hxx, q5]; exact hw
    · have h67 := e06.len
      exact (g7.set (by omega) _).mono h67 (by simp)
end
end Go.Gm.A9
