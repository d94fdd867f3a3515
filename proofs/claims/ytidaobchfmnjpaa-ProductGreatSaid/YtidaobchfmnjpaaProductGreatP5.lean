/- A part of the proof: an abstract machine, what it does, and what the functions of the program come to on it (GmA9Q, GmA9N, GmA9M, GmA9A, GmA9B, GmA9C, GmA9D, GmA9E, GmDj, GmRl, GmA9F, GmA9G, GmA9H). -/
import Derived.Test.YtidaobchfmnjpaaProductGreatP4
set_option linter.unusedVariables false
set_option linter.unusedSimpArgs false
set_option linter.unusedSectionVars false
namespace Go.Gm.A9
open Go Go.Gm

structure E where
  fr : Int
  to : Int
  md : Int
  co : Int
  deriving Inhabited
def encE (e : E) : List AV := [I e.fr, I e.to, I e.md, I e.co]
def encI (n : Int) : List AV := [I n]
def encB (b : Bool) : List AV := [.bool b]
def encP (p : AV × AV) : List AV := [p.1, p.2]

/-- A network that may be. -/
structure NetOk (N : Int) (es : List E) : Prop where
  n0 : 0 ≤ N
  n1 : N ≤ 100000
  len : es.length ≤ 100000
  edge : ∀ e ∈ es, 0 ≤ e.fr ∧ e.fr < N ∧ 0 ≤ e.to ∧ e.to < N ∧ 0 ≤ e.md ∧ e.md < 5

def idxTo (p : E → Bool) (es : List E) (n : Nat) : List Int := ((List.range n).filter fun (i : Nat) => p (gi es i)).map fun (i : Nat) => (i : Int)
theorem idxTo_succ (p : E → Bool) (es : List E) (n : Nat) : idxTo p es (n + 1) = idxTo p es n ++ if p (gi es n) then [(n : Int)] else [] := by
  simp only [idxTo, List.range_succ, List.filter_append, List.map_append]
  congr 1
  by_cases h : p (gi es n) <;> simp [h]
theorem idxTo_len (p : E → Bool) (es : List E) (n : Nat) : (idxTo p es n).length ≤ n := by
  simp only [idxTo, List.length_map]
  exact Nat.le_trans (List.length_filter_le ..) (by simp)
theorem idxTo_mem {p : E → Bool} {es : List E} {n : Nat} {k : Int} : k ∈ idxTo p es n ↔ 0 ≤ k ∧ k < n ∧ p (gi es k) = true := by
  simp only [idxTo, List.mem_map, List.mem_filter, List.mem_range]
  constructor
  · rintro ⟨a, ⟨h1, h2⟩, rfl⟩
    exact ⟨by omega, by omega, h2⟩
  · rintro ⟨h1, h2, h3⟩
    exact ⟨k.toNat, ⟨by omega, by rw [show ((k.toNat : Nat) : Int) = k by omega]; exact h3⟩, by omega⟩
def outL (es : List E) (v : Int) : List Int := idxTo (fun e => e.fr == v) es es.length
def inL (es : List E) (v : Int) : List Int := idxTo (fun e => e.to == v) es es.length
theorem outL_out {N : Int} {es : List E} (ok : NetOk N es) {v : Int} (hv : ¬ (0 ≤ v ∧ v < N)) : outL es v = [] := by
  rw [List.eq_nil_iff_forall_not_mem]
  intro k hk
  rw [outL, idxTo_mem] at hk
  have := ok.edge _ (gi_mem hk.1 hk.2.1)
  have h3 := hk.2.2
  simp only [beq_iff_eq] at h3
  omega
theorem inL_out {N : Int} {es : List E} (ok : NetOk N es) {v : Int} (hv : ¬ (0 ≤ v ∧ v < N)) : inL es v = [] := by
  rw [List.eq_nil_iff_forall_not_mem]
  intro k hk
  rw [inL, idxTo_mem] at hk
  have := ok.edge _ (gi_mem hk.1 hk.2.1)
  have h3 := hk.2.2
  simp only [beq_iff_eq] at h3
  omega

/-- The network by its vertices. -/
structure AdjW (h : Heap) (a : AV) (N : Int) (es : List E) (s so si : AV) (O J : List (AV × AV)) : Prop where
  pt : At h a [I N, s, so, si]
  ed : Sl h 4 s (es.map encE)
  so : Sl h 2 so (O.map encP)
  si : Sl h 2 si (J.map encP)
  lo : (O.length : Int) = N
  lj : (J.length : Int) = N
  oe : ∀ v, 0 ≤ v → v < N → Sl h 1 (gi O v).1 ((outL es v).map encI)
  oo : ∀ v, 0 ≤ v → v < N → Sl h 1 (gi O v).2 (((outL es v).map fun k => (gi es k).to).map encI)
  ie : ∀ v, 0 ≤ v → v < N → Sl h 1 (gi J v).1 ((inL es v).map encI)
  io : ∀ v, 0 ≤ v → v < N → Sl h 1 (gi J v).2 (((inL es v).map fun k => (gi es k).fr).map encI)
def AdjV (h : Heap) (a : AV) (N : Int) (es : List E) : Prop := ∃ s so si O J, AdjW h a N es s so si O J
theorem AdjW.ext {h h' : Heap} {a : AV} {N : Int} {es : List E} {s so si : AV} {O J : List (AV × AV)} (w : AdjW h a N es s so si O J) (e : Ext h h') : AdjW h' a N es s so si O J :=
  ⟨w.pt.ext e, w.ed.ext e, w.so.ext e, w.si.ext e, w.lo, w.lj, fun v h0 h1 => (w.oe v h0 h1).ext e, fun v h0 h1 => (w.oo v h0 h1).ext e, fun v h0 h1 => (w.ie v h0 h1).ext e, fun v h0 h1 => (w.io v h0 h1).ext e⟩
theorem AdjV.ext {h h' : Heap} {a : AV} {N : Int} {es : List E} (w : AdjV h a N es) (e : Ext h h') : AdjV h' a N es := by
  obtain ⟨s, so, si, O, J, w⟩ := w
  exact ⟨s, so, si, O, J, w.ext e⟩

theorem is_spec {h : Heap} {a s so si : AV} {N v : Int} (ha : At h a [I N, s, so, si]) {O : List (AV × AV)} (hO : Sl h 2 so (O.map encP)) :
    Tot tab f_adj_Adj_is [a, I v] h fun r h' => r = .bool (decide (0 ≤ v ∧ v < O.length)) ∧ h = h' := by
  refine WP.tot (fun k => (call_adj_Adj_is k _ _ h).trans (adj_Adj_is_eq tab k _ _ h)) ?_
  by_cases h0 : 0 ≤ v
  · by_cases h1 : v < O.length
    · simp -implicitDefEqProofs (disch := first | assumption | omega | (simp only [gL] <;> omega) | ((repeat (first | exact Ext.refl _ | assumption | apply Ext.app | apply Ext.mk | (refine Ext.setr ?_ (by (first | omega | (simp only [gL] <;> omega))) _))); done) | (simp only [gL, gA, ha.nil, ha.fldA0, ha.ldfE, hO.lenG] <;> omega) | fail) only [gB, setAll, partL, fldV, reduceIte, Nat.reduceAdd, Nat.reduceMul, ha.nil, ha.fldA0, ha.ldfE, hO.lenG]
      exact WP.ret ⟨by simp [h0, h1], rfl⟩
    · simp -implicitDefEqProofs (disch := first | assumption | omega | (simp only [gL] <;> omega) | ((repeat (first | exact Ext.refl _ | assumption | apply Ext.app | apply Ext.mk | (refine Ext.setr ?_ (by (first | omega | (simp only [gL] <;> omega))) _))); done) | (simp only [gL, gA, ha.nil, ha.fldA0, ha.ldfE, hO.lenG] <;> omega) | fail) only [gB, setAll, partL, fldV, reduceIte, Nat.reduceAdd, Nat.reduceMul, ha.nil, ha.fldA0, ha.ldfE, hO.lenG]
      exact WP.ret ⟨by simp [h0, h1], rfl⟩
  · simp -implicitDefEqProofs (disch := first | assumption | omega | (simp only [gL] <;> omega) | ((repeat (first | exact Ext.refl _ | assumption | apply Ext.app | apply Ext.mk | (refine Ext.setr ?_ (by (first | omega | (simp only [gL] <;> omega))) _))); done) | (simp only [gL, gA] <;> omega) | fail) only [gB, setAll, partL, fldV, reduceIte, Nat.reduceAdd, Nat.reduceMul]
    exact WP.ret ⟨by simp [h0], rfl⟩

theorem clone_spec {h : Heap} {s : AV} {xs : List (List AV)} (hs : Sl h 1 s xs) (hl : xs.length ≤ 10000000) :
    Tot tab f_slices_Clone_int [s] h fun r h' => Ext h h' ∧ Gr h.length h'.length h' 1 r xs := by
  refine WP.tot (fun k => (call_slices_Clone_int k _ h).trans (slices_Clone_int_eq tab k _ h)) ?_
  have hs' := hs
  rcases hs with ⟨rfl, rfl⟩ | ⟨o, off, lim, g, c, rfl, _⟩
  · simp -implicitDefEqProofs (disch := first | assumption | omega | (simp only [gL] <;> omega) | ((repeat (first | exact Ext.refl _ | assumption | apply Ext.app | apply Ext.mk | (refine Ext.setr ?_ (by (first | omega | (simp only [gL] <;> omega))) _))); done) | (simp only [gL, gA] <;> omega) | fail) only [gB, setAll, partL, fldV, reduceIte, Nat.reduceAdd, Nat.reduceMul]
    exact WP.ret ⟨Ext.refl _, Gr.nil ..⟩
  · obtain ⟨s', h', h1, h2, h3⟩ := clone_i (bytes := 8) hs' (by omega) (by omega) (by omega)
    rw [mkObj_eq] at h1
    simp -implicitDefEqProofs (disch := first | assumption | omega | (simp only [gL] <;> omega) | ((repeat (first | exact Ext.refl _ | assumption | apply Ext.app | apply Ext.mk | (refine Ext.setr ?_ (by (first | omega | (simp only [gL] <;> omega))) _))); done) | (simp only [gL, gA, h1] <;> omega) | fail) only [gB, setAll, partL, fldV, reduceIte, Nat.reduceAdd, Nat.reduceMul, h1]
    exact WP.ret ⟨h3, h2⟩
theorem cloneE_spec {h : Heap} {s : AV} {xs : List (List AV)} (hs : Sl h 4 s xs) (hl : xs.length ≤ 10000000) :
    Tot tab f_slices_Clone_api_Edge [s] h fun r h' => Ext h h' ∧ Gr h.length h'.length h' 4 r xs := by
  refine WP.tot (fun k => (call_slices_Clone_api_Edge k _ h).trans (slices_Clone_api_Edge_eq tab k _ h)) ?_
  have hs' := hs
  rcases hs with ⟨rfl, rfl⟩ | ⟨o, off, lim, g, c, rfl, _⟩
  · simp -implicitDefEqProofs (disch := first | assumption | omega | (simp only [gL] <;> omega) | ((repeat (first | exact Ext.refl _ | assumption | apply Ext.app | apply Ext.mk | (refine Ext.setr ?_ (by (first | omega | (simp only [gL] <;> omega))) _))); done) | (simp only [gL, gA] <;> omega) | fail) only [gB, setAll, partL, fldV, reduceIte, Nat.reduceAdd, Nat.reduceMul]
    exact WP.ret ⟨Ext.refl _, Gr.nil ..⟩
  · obtain ⟨s', h', h1, h2, h3⟩ := clone_i (bytes := 32) hs' (by omega) (by omega) (by omega)
    rw [mkObj_eq] at h1
    simp -implicitDefEqProofs (disch := first | assumption | omega | (simp only [gL] <;> omega) | ((repeat (first | exact Ext.refl _ | assumption | apply Ext.app | apply Ext.mk | (refine Ext.setr ?_ (by (first | omega | (simp only [gL] <;> omega))) _))); done) | (simp only [gL, gA, h1] <;> omega) | fail) only [gB, setAll, partL, fldV, reduceIte, Nat.reduceAdd, Nat.reduceMul, h1]
    exact WP.ret ⟨h3, h2⟩
theorem list_spec {h : Heap} {s1 s2 : AV} {xs : List (List AV)} (hs : Sl h 1 s1 xs) (h2 : s2.one = true) (hl : xs.length ≤ 10000000) :
    Tot tab f_adj_ends_list [.agg [s1, s2]] h fun r h' => Ext h h' ∧ Gr h.length h'.length h' 1 r xs := by
  refine WP.tot (fun k => (call_adj_ends_list k _ h).trans (adj_ends_list_eq tab k _ h)) ?_
  have e : Ext h (mkObj h [s1, s2]) := Ext.push h _
  obtain ⟨s', h3, h4⟩ := (hs.ext e).cut
  rw [mkObj_eq] at h4 e
  simp -implicitDefEqProofs (disch := first | assumption | omega | (simp only [gL] <;> omega) | ((repeat (first | exact Ext.refl _ | assumption | apply Ext.app | apply Ext.mk | (refine Ext.setr ?_ (by (first | omega | (simp only [gL] <;> omega))) _))); done) | (simp only [gL, gA, hs.one, h2, hs.len, h3] <;> omega) | fail) only [gB, setAll, partL, fldV, reduceIte, Nat.reduceAdd, Nat.reduceMul, hs.one, h2, hs.len, h3]
  refine WP.call (clone_spec h4 hl) ?_
  rintro r h' ⟨e1, g1⟩
  exact WP.ret ⟨e.trans e1, g1.mono (Ext.len e) (Nat.le_refl _)⟩
theorem side_spec {h : Heap} {a : AV} {N v : Int} {es : List E} {s so si : AV} {O J : List (AV × AV)} (w : AdjW h a N es s so si O J) {l : AV} {L : List (AV × AV)} (hl : Sl h 2 l (L.map encP)) (hL : (L.length : Int) = N)
    (h1 : ∀ v, 0 ≤ v → v < N → (gi L v).1.one = true ∧ (gi L v).2.one = true) :
    Tot tab f_adj_Adj_side [a, l, I v] h fun r h' => Ext h h' ∧ r = if 0 ≤ v ∧ v < N then .agg [(gi L v).1, (gi L v).2] else .agg [.nils, .nils] := by
  refine WP.tot (fun k => (call_adj_Adj_side k _ _ _ h).trans (adj_Adj_side_eq tab k _ _ _ h)) ?_
  simp -implicitDefEqProofs (disch := first | assumption | omega | (simp only [gL] <;> omega) | ((repeat (first | exact Ext.refl _ | assumption | apply Ext.app | apply Ext.mk | (refine Ext.setr ?_ (by (first | omega | (simp only [gL] <;> omega))) _))); done) | (simp only [gL, gA] <;> omega) | fail) only [gB, setAll, partL, fldV, reduceIte, Nat.reduceAdd, Nat.reduceMul]
  have e : Ext h (mkObj h [.nils, .nils]) := Ext.push h _
  rw [mkObj_eq] at e
  refine WP.call (is_spec (w.pt.ext e) (w.so.ext e)) ?_
  rintro _ _ ⟨rfl, rfl⟩
  have hlo := w.lo
  by_cases hv : 0 ≤ v ∧ v < N
  · rw [if_pos hv]
    obtain ⟨k1, k2⟩ := h1 v hv.1 hv.2
    simp -implicitDefEqProofs (disch := first | assumption | omega | (simp only [gL] <;> omega) | ((repeat (first | exact Ext.refl _ | assumption | apply Ext.app | apply Ext.mk | (refine Ext.setr ?_ (by (first | omega | (simp only [gL] <;> omega))) _))); done) | (simp only [gL, gA, show decide (0 ≤ v ∧ v < (O.length : Int)) = true from decide_eq_true (by omega), hl.idxG, hl.ldN, encP, k1, k2] <;> omega) | fail) only [gB, setAll, partL, fldV, reduceIte, Nat.reduceAdd, Nat.reduceMul, show decide (0 ≤ v ∧ v < (O.length : Int)) = true from decide_eq_true (by omega), hl.idxG, hl.ldN, encP, k1, k2]
    exact WP.ret ⟨by ((repeat (first | exact Ext.refl _ | assumption | apply Ext.app | apply Ext.mk | (refine Ext.setr ?_ (by (first | omega | (simp only [gL] <;> omega))) _)))), rfl⟩
  · rw [if_neg hv]
    simp -implicitDefEqProofs (disch := first | assumption | omega | (simp only [gL] <;> omega) | ((repeat (first | exact Ext.refl _ | assumption | apply Ext.app | apply Ext.mk | (refine Ext.setr ?_ (by (first | omega | (simp only [gL] <;> omega))) _))); done) | (simp only [gL, gA, show decide (0 ≤ v ∧ v < (O.length : Int)) = false from decide_eq_false (by omega)] <;> omega) | fail) only [gB, setAll, partL, fldV, reduceIte, Nat.reduceAdd, Nat.reduceMul, show decide (0 ≤ v ∧ v < (O.length : Int)) = false from decide_eq_false (by omega)]
    exact WP.ret ⟨by ((repeat (first | exact Ext.refl _ | assumption | apply Ext.app | apply Ext.mk | (refine Ext.setr ?_ (by (first | omega | (simp only [gL] <;> omega))) _)))), rfl⟩
theorem out_spec {h : Heap} {a : AV} {N v : Int} {es : List E} (ok : NetOk N es) (w : AdjV h a N es) :
    Tot tab f_adj_Adj_Out [a, I v] h fun r h' => Ext h h' ∧ Gr h.length h'.length h' 1 r ((outL es v).map encI) := by
  obtain ⟨s, so, si, O, J, w⟩ := w
  refine WP.tot (fun k => (call_adj_Adj_Out k _ _ h).trans (adj_Adj_Out_eq tab k _ _ h)) ?_
  simp -implicitDefEqProofs (disch := first | assumption | omega | (simp only [gL] <;> omega) | ((repeat (first | exact Ext.refl _ | assumption | apply Ext.app | apply Ext.mk | (refine Ext.setr ?_ (by (first | omega | (simp only [gL] <;> omega))) _))); done) | (simp only [gL, gA, w.pt.nil, w.pt.fldA0, w.pt.ldfE] <;> omega) | fail) only [gB, setAll, partL, fldV, reduceIte, Nat.reduceAdd, Nat.reduceMul, w.pt.nil, w.pt.fldA0, w.pt.ldfE]
  refine WP.call (side_spec w w.so w.lo fun v h0 h1 => ⟨(w.oe v h0 h1).one, (w.oo v h0 h1).one⟩) ?_
  rintro r h1 ⟨e1, rfl⟩
  have hl : (outL es v).length ≤ 100000 := Nat.le_trans (idxTo_len ..) ok.len
  by_cases hv : 0 ≤ v ∧ v < N
  · rw [if_pos hv]
    refine WP.call (list_spec ((w.oe v hv.1 hv.2).ext e1) (w.oo v hv.1 hv.2).one (by simp; omega)) ?_
    rintro r h' ⟨e2, g⟩
    exact WP.ret ⟨e1.trans e2, g.mono e1.len (Nat.le_refl _)⟩
  · rw [if_neg hv, outL_out ok hv]
    refine WP.call (list_spec (xs := []) (.inl ⟨rfl, rfl⟩) rfl (by simp)) ?_
    rintro r h' ⟨e2, g⟩
    exact WP.ret ⟨e1.trans e2, g.mono e1.len (Nat.le_refl _)⟩
theorem in_spec {h : Heap} {a : AV} {N v : Int} {es : List E} (ok : NetOk N es) (w : AdjV h a N es) :
    Tot tab f_adj_Adj_In [a, I v] h fun r h' => Ext h h' ∧ Gr h.length h'.length h' 1 r ((inL es v).map encI) := by
  obtain ⟨s, so, si, O, J, w⟩ := w
  refine WP.tot (fun k => (call_adj_Adj_In k _ _ h).trans (adj_Adj_In_eq tab k _ _ h)) ?_
  simp -implicitDefEqProofs (disch := first | assumption | omega | (simp only [gL] <;> omega) | ((repeat (first | exact Ext.refl _ | assumption | apply Ext.app | apply Ext.mk | (refine Ext.setr ?_ (by (first | omega | (simp only [gL] <;> omega))) _))); done) | (simp only [gL, gA, w.pt.nil, w.pt.fldA0, w.pt.ldfE] <;> omega) | fail) only [gB, setAll, partL, fldV, reduceIte, Nat.reduceAdd, Nat.reduceMul, w.pt.nil, w.pt.fldA0, w.pt.ldfE]
  refine WP.call (side_spec w w.si w.lj fun v h0 h1 => ⟨(w.ie v h0 h1).one, (w.io v h0 h1).one⟩) ?_
  rintro r h1 ⟨e1, rfl⟩
  have hl : (inL es v).length ≤ 100000 := Nat.le_trans (idxTo_len ..) ok.len
  by_cases hv : 0 ≤ v ∧ v < N
  · rw [if_pos hv]
    refine WP.call (list_spec ((w.ie v hv.1 hv.2).ext e1) (w.io v hv.1 hv.2).one (by simp; omega)) ?_
    rintro r h' ⟨e2, g⟩
    exact WP.ret ⟨e1.trans e2, g.mono e1.len (Nat.le_refl _)⟩
  · rw [if_neg hv, inL_out ok hv]
    refine WP.call (list_spec (xs := []) (.inl ⟨rfl, rfl⟩) rfl (by simp)) ?_
    rintro r h' ⟨e2, g⟩
    exact WP.ret ⟨e1.trans e2, g.mono e1.len (Nat.le_refl _)⟩
end Go.Gm.A9

set_option linter.unusedVariables false
set_option linter.unusedSimpArgs false
set_option linter.unusedSectionVars false
namespace Go.Gm.A9
open Go Go.Gm
theorem gi_set {α : Type} [Inhabited α] {xs : List α} {i j : Int} (h0 : 0 ≤ i) (h1 : i < xs.length) (hj : 0 ≤ j) (x : α) : gi (xs.set i.toNat x) j = if j = i then x else gi xs j := by
  simp only [gi, List.getD_eq_getElem?_getD]
  by_cases h : j = i
  · subst h
    rw [if_pos rfl, List.getElem?_set_self (by omega)]; rfl
  · rw [if_neg h, List.getElem?_set_ne (by omega)]
theorem add_spec {κ : Type} [DecidableEq κ] {W : Nat → Prop} {h : Heap} {A : κ → Prop} {S : κ → AV} {X : κ → List (List AV)} (f : Fam W h 1 A S X) {t1 t2 : κ} (a1 : A t1) (a2 : A t2) (hne : t1 ≠ t2) {q : Nat} (hq : ¬ W q) (hqh : q < h.length) {arr : AV} {L : List (AV × AV)} (g : Gr q (q + 1) h 2 arr (L.map encP))
    {v : Int} (v0 : 0 ≤ v) (v1 : v < L.length) (e1 : (gi L v).1 = S t1) (e2 : (gi L v).2 = S t2) (edge other : Int) (l1 : (X t1).length ≤ 1000000) (l2 : (X t2).length ≤ 1000000) :
    Tot tab f_adj_ends_add [elP 2 arr v, I edge, I other] h fun r h' => ∃ s1 s2, Gr q (q + 1) h' 2 arr ((L.set v.toNat (s1, s2)).map encP) ∧
      Fam (fun o => W o ∨ h.length ≤ o) h' 1 A (fun t => if t = t2 then s2 else if t = t1 then s1 else S t) (fun t => if t = t2 then X t2 ++ [[I other]] else if t = t1 then X t1 ++ [[I edge]] else X t) ∧ FrS (fun o => o = q ∨ W o) h h' := by
  refine WP.tot (fun k => (call_adj_ends_add k _ _ _ h).trans (adj_ends_add_eq tab k _ _ _ h)) ?_
  -- the two new ones
  have b1 : Sl ((h ++ [AObj.cells ⟨[I edge], 0, 0, false⟩]) ++ [AObj.cells ⟨[I other], 0, 0, false⟩]) 1 (.sl h.length 0 1 1 none 0) [[I edge]] := ((Gr.lit (h := h) (sz := 1) (v := [I edge]) rfl).sl).ext (by rw [mkObj_eq]; ((repeat (first | exact Ext.refl _ | assumption | apply Ext.app | apply Ext.mk | (refine Ext.setr ?_ (by (first | omega | (simp only [gL] <;> omega))) _)))))
  have b2 : Sl ((h ++ [AObj.cells ⟨[I edge], 0, 0, false⟩]) ++ [AObj.cells ⟨[I other], 0, 0, false⟩]) 1 (.sl (h.length + 1) 0 1 1 none 0) [[I other]] := by
    have := (Gr.lit (h := h ++ [AObj.cells ⟨[I edge], 0, 0, false⟩]) (sz := 1) (v := [I other]) rfl).sl
    simpa [mkObj_eq] using this
  have ex0 : Ext h (h ++ [AObj.cells ⟨[I edge], 0, 0, false⟩]) := by ((repeat (first | exact Ext.refl _ | assumption | apply Ext.app | apply Ext.mk | (refine Ext.setr ?_ (by (first | omega | (simp only [gL] <;> omega))) _))))
  have ex : Ext h ((h ++ [AObj.cells ⟨[I edge], 0, 0, false⟩]) ++ [AObj.cells ⟨[I other], 0, 0, false⟩]) := by ((repeat (first | exact Ext.refl _ | assumption | apply Ext.app | apply Ext.mk | (refine Ext.setr ?_ (by (first | omega | (simp only [gL] <;> omega))) _))))
  have hl2 : ((h ++ [AObj.cells ⟨[I edge], 0, 0, false⟩]) ++ [AObj.cells ⟨[I other], 0, 0, false⟩]).length = h.length + 2 := by simp
  obtain ⟨h2, hh⟩ : ∃ h2, h2 = ((h ++ [AObj.cells ⟨[I edge], 0, 0, false⟩]) ++ [AObj.cells ⟨[I other], 0, 0, false⟩]) := ⟨_, rfl⟩
  rw [← hh] at b1 b2 ex hl2
  have f2 : Fam (fun o => W o ∧ o < h.length) h2 1 A S X := (f.mono fun o q1 q2 => ⟨q2, q1⟩).frs (D := fun _ => False) (FrS.ofExt ex) (fun _ _ _ q => q)
  obtain ⟨s1, h3, k1, k2, k3, k4⟩ := f2.append (bytes := 8) a1 b1 (by simp) (by omega) (by omega) (by simp; omega)
  have b2' : Sl h3 1 (.sl (h.length + 1) 0 1 1 none 0) [[I other]] := by
    obtain ⟨o, off, lim, gg, c, q1, q2, q3⟩ := b2.resolve_left (by simp)
    injection q1 with p1 p2 p3 p4 p5 p6
    refine .inr ⟨o, off, lim, gg, c, by rw [← p1, ← p2, ← p3, ← p5, ← p6], ?_, q3⟩
    rw [k4.get (by omega) (by omega)]
    exact q2
  obtain ⟨s2, h4, m1, m2, m3, m4⟩ := k3.append (bytes := 8) (t := t2) a2 b2' (by simp) (by omega) (by omega) (by rw [if_neg (fun q => hne q.symm)]; simp; omega)
  simp only [if_neg (show ¬ t2 = t1 from fun q => hne q.symm)] at m1 m3
  have g3 := (g.ext ex).frs k4 (fun o q1 q2 q3 => hq (by rw [show q = o by omega]; exact q3.1))
  have g4 := g3.frs m4 (fun o q1 q2 q3 => by
    rcases q3 with q3 | q3
    · exact hq (by rw [show q = o by omega]; exact q3.1)
    · omega)
  have c1 : s1.cells = [s1] := by
    have := (k3.sl a1).cells
    simpa using this
  have c2 : s2.cells = [s2] := by
    have := (m3.sl a2).cells
    simpa using this
  obtain ⟨h5, n1, n2, n3, n4⟩ := g4.write (i := v) v0 (x := encP (gi L v)) (by simp [gi_some v0 v1]) 0 1 (v := s1) (by rw [c1]; rfl) (by omega) (by rw [c1]; simp [k2])
  rw [c1] at n2
  obtain ⟨h6, r1, r2, r3, r4⟩ := n2.write (i := v) v0 (x := setAll (encP (gi L v)) 0 [s1]) (by rw [List.getElem?_set_self (by simp; omega)]) 1 1 (v := s2) (by rw [c2]; rfl) (by omega) (by rw [c2]; simp [m2])
  rw [c2, List.set_set] at r2
  have g3s := g3.sl
  rw [hh] at k1
  have ldk : ld1 h3 (fldP 1 (elP 2 arr v)) = some (S t2) := by
    have := g3s.ldf 1 (i := v) (Ext.refl _) v0 v1 (by omega)
    simpa [encP, e2] using this
  simp -implicitDefEqProofs (disch := first | assumption | omega | (simp only [gL] <;> omega) | ((repeat (first | exact Ext.refl _ | assumption | apply Ext.app | apply Ext.mk | (refine Ext.setr ?_ (by (first | omega | (simp only [gL] <;> omega))) _))); done) | (simp only [gL, gA, g.sl.ldf, encP, e1, e2, k1, ldk, m1, n1, r1] <;> omega) | fail) only [gB, setAll, partL, fldV, reduceIte, Nat.reduceAdd, Nat.reduceMul, g.sl.ldf, encP, e1, e2, k1, ldk, m1, n1, r1]
  refine WP.ret ⟨s1, s2, ?_, ?_, ?_⟩
  · refine r2.cong ?_
    rw [List.map_set]; rfl
  · have f4 := (m3.frs n3.s (fun o q1 q2 q3 => ?_)).frs r3.s (fun o q1 q2 q3 => ?_)
    · refine (f4.mono fun o q1 q2 => ?_).congr fun t ht => ?_
      · rcases q2 with (q2 | q2) | q2
        · exact .inl q2.1
        · exact .inr (by omega)
        · have := k4.len
          exact .inr (by omega)
      · by_cases x2 : t = t2
        · simp [x2]
        · simp [x2]
    · have : o = q := by omega
      subst this
      rcases q2 with (q2 | q2) | q2
      · exact hq q2.1
      · omega
      · have := k4.len; omega
    · have : o = q := by omega
      subst this
      rcases q2 with (q2 | q2) | q2
      · exact hq q2.1
      · omega
      · have := k4.len; omega
  · have z1 : FrS (fun o => o = q ∨ W o) h h2 := FrS.ofExt ex
    have z2 : FrS (fun o => o = q ∨ W o) h2 h3 := k4.mono fun o q1 q2 => .inr q2.1
    have z3 : FrS (fun o => o = q ∨ W o ∨ h2.length ≤ o) h3 h4 := m4.mono fun o q1 q2 => by
      rcases q2 with q2 | q2
      · exact .inr (.inl q2.1)
      · exact .inr (.inr q2)
    have z4 : FrS (fun o => o = q) h4 h6 := (n3.s.mono fun o q1 q2 => by omega).trans (r3.s.mono fun o q1 q2 => by omega)
    refine ⟨by have := z1.len; have := z2.len; have := z3.len; have := z4.len; omega, fun o q1 q2 => ?_⟩
    have l1 := z1.len
    have l2 := z2.len
    have l3 := z3.len
    rw [z4.get (fun q => q1 (.inl q)) (by omega), z3.get (fun q => ?_) (by omega), z2.get q1 (by omega), z1.get q1 q2]
    rcases q with q | q | q
    · exact q1 (.inl q)
    · exact q1 (.inr q)
    · omega

def Sf (O J : List (AV × AV)) (t : Nat × Nat) : AV := match t with
  | (0, v) => (gi O v).1
  | (1, v) => (gi O v).2
  | (2, v) => (gi J v).1
  | (_, v) => (gi J v).2
def Xf (es : List E) (n : Nat) (t : Nat × Nat) : List Int := match t with
  | (0, v) => idxTo (fun e => e.fr == (v : Int)) es n
  | (1, v) => (idxTo (fun e => e.fr == (v : Int)) es n).map fun k => (gi es k).to
  | (2, v) => idxTo (fun e => e.to == (v : Int)) es n
  | (_, v) => (idxTo (fun e => e.to == (v : Int)) es n).map fun k => (gi es k).fr
theorem Xf_len (es : List E) (n : Nat) (t : Nat × Nat) : (Xf es n t).length ≤ n := by
  obtain ⟨j, v⟩ := t
  match j with
  | 0 => simp only [Xf]; exact idxTo_len ..
  | 1 => simp only [Xf, List.length_map]; exact idxTo_len ..
  | 2 => simp only [Xf]; exact idxTo_len ..
  | j + 3 => simp only [Xf, List.length_map]; exact idxTo_len ..
/-- What is behind so many edges. -/
structure NewI (hb : Heap) (N : Nat) (es : List E) (q1 q2 : Nat) (so si : AV) (n : Nat) (h : Heap) (O J : List (AV × AV)) : Prop where
  fr : FrS (fun o => o = q1 ∨ o = q2 ∨ hb.length ≤ o) hb h
  go : Gr q1 (q1 + 1) h 2 so (O.map encP)
  gj : Gr q2 (q2 + 1) h 2 si (J.map encP)
  lo : O.length = N
  lj : J.length = N
  fam : Fam (fun o => hb.length ≤ o) h 1 (fun t : Nat × Nat => t.1 < 4 ∧ t.2 < N) (Sf O J) fun t => (Xf es n t).map encI

theorem new_loop {hb : Heap} {N : Nat} {es : List E} {q1 q2 qa : Nat} {s s' so si : AV} (ok : NetOk N es) (hq1 : q1 < hb.length) (hq2 : q2 < hb.length) (hqa : qa < hb.length) (hne : q1 ≠ q2) (hna1 : qa ≠ q1) (hna2 : qa ≠ q2)
    (ha : hb[qa]? = some (.cells ⟨[I N, s', so, si], 0, 0, false⟩)) {Q : AV → Heap → Prop} (hs : ∀ h, FrS (fun o => o = q1 ∨ o = q2 ∨ hb.length ≤ o) hb h → Sl h 4 s (es.map encE))
    (hQ : ∀ h O J, NewI hb N es q1 q2 so si es.length h O J → Q (.ptr qa 0 4 0) h) :
    ∀ (d n : Nat) (h : Heap) (O J : List (AV × AV)), n + d = es.length → NewI hb N es q1 q2 so si n h O J →
      WP (fun p : Nat × Nat => adj_New_l1 tab p.1 p.2 (.ptr qa 0 4 0) s (I es.length) (I n) h) Q := by
  intro d
  induction d with
  | zero =>
    intro n h O J h1 w
    refine WP.rnd (fun i' j => adj_New_l1_eq tab i' j (.ptr qa 0 4 0) s (I es.length) (I n) h) ?_
    simp -implicitDefEqProofs (disch := first | assumption | omega | (simp only [gL] <;> omega) | ((repeat (first | exact Ext.refl _ | assumption | apply Ext.app | apply Ext.mk | (refine Ext.setr ?_ (by (first | omega | (simp only [gL] <;> omega))) _))); done) | (simp only [gL, gA] <;> omega) | fail) only [gB, setAll, partL, fldV, reduceIte, Nat.reduceAdd, Nat.reduceMul]
    refine WP.ret (hQ h O J ?_)
    rw [← show n = es.length by omega]; exact w
  | succ d ih =>
    intro n h O J h1 w
    have hln := ok.len
    refine WP.rnd (fun i' j => adj_New_l1_eq tab i' j (.ptr qa 0 4 0) s (I es.length) (I n) h) ?_
    obtain ⟨e, he⟩ : ∃ e, gi es n = e := ⟨_, rfl⟩
    have hed := ok.edge _ (gi_mem (xs := es) (i := (n : Int)) (by omega) (by omega))
    rw [he] at hed
    have hsl := hs h w.fr
    have hwl := w.fr.len
    -- the edge's own place
    obtain ⟨h6, hh6⟩ : ∃ h6, h6 = (h ++ [AObj.cells ⟨[I 0, I 0, I 0, I 0], 0, 0, false⟩]).set h.length (.cells ⟨encE e, 0, 0, false⟩) := ⟨_, rfl⟩
    have ex : Ext h h6 := by rw [hh6]; ((repeat (first | exact Ext.refl _ | assumption | apply Ext.app | apply Ext.mk | (refine Ext.setr ?_ (by (first | omega | (simp only [gL] <;> omega))) _))))
    have hr6 : h6[h.length]? = some (.cells ⟨encE e, 0, 0, false⟩) := by rw [hh6]; simp
    have hl6 : h6.length = h.length + 1 := by rw [hh6]; simp
    have hp6 : At h6 (.ptr qa 0 4 0) [I N, s', so, si] := by
      exact At.row (ex.get (by rw [w.fr.get (by omega) hqa]; exact ha)) (Nat.le_refl _) rfl
    have he6 : At h6 (.ptr h.length 0 4 0) (encE e) := At.row hr6 (Nat.le_refl _) rfl
    have so6 := w.go.ext ex
    have sj6 := w.gj.ext ex
    have f6 : Fam (fun o => hb.length ≤ o ∧ o < h.length) h6 1 (fun t : Nat × Nat => t.1 < 4 ∧ t.2 < N) (Sf O J) fun t => (Xf es n t).map encI :=
      (w.fam.mono fun o q1 q2 => ⟨q2, q1⟩).frs (D := fun _ => False) (FrS.ofExt ex) (fun _ _ _ q => q)
    have hlo := w.lo
    have hlj := w.lj
    have hx0 := Xf_len es n (0, e.fr.toNat)
    have hx1 := Xf_len es n (1, e.fr.toNat)
    have hx2 := Xf_len es n (2, e.to.toNat)
    have hx3 := Xf_len es n (3, e.to.toNat)
    have hfn : ((e.fr.toNat : Nat) : Int) = e.fr := by omega
    have htn : ((e.to.toNat : Nat) : Int) = e.to := by omega
    -- to the first test
    simp -implicitDefEqProofs (disch := first | assumption | omega | (simp only [gL] <;> omega) | ((repeat (first | exact Ext.refl _ | assumption | apply Ext.app | apply Ext.mk | (refine Ext.setr ?_ (by (first | omega | (simp only [gL] <;> omega))) _))); done) | (simp only [gL, gA, hsl.idxG, hsl.ldN, he, encE] <;> omega) | fail) only [gB, setAll, partL, fldV, reduceIte, Nat.reduceAdd, Nat.reduceMul, hsl.idxG, hsl.ldN, he, encE]
    simp only [encE] at hh6
    rw [← hh6]
    refine WP.call (is_spec hp6 so6.sl) ?_
    rintro _ h7 ⟨rfl, e7⟩
    obtain rfl := e7
    simp only [encE] at hr6
    have hra : h6[qa]? = some (.cells ⟨[I N, s', so, si], 0, 0, false⟩) := ex.get (by rw [w.fr.get (by omega) hqa]; exact ha)
    simp -implicitDefEqProofs (disch := first | assumption | omega | (simp only [gL] <;> omega) | ((repeat (first | exact Ext.refl _ | assumption | apply Ext.app | apply Ext.mk | (refine Ext.setr ?_ (by (first | omega | (simp only [gL] <;> omega))) _))); done) | (simp only [gL, gA, show decide (0 ≤ e.fr ∧ e.fr < (O.length : Int)) = true from decide_eq_true (by omega), hr6, hra] <;> omega) | fail) only [gB, setAll, partL, fldV, reduceIte, Nat.reduceAdd, Nat.reduceMul, show decide (0 ≤ e.fr ∧ e.fr < (O.length : Int)) = true from decide_eq_true (by omega), hr6, hra]
    refine WP.call (is_spec hp6 so6.sl) ?_
    rintro _ h7 ⟨rfl, e7⟩
    obtain rfl := e7
    simp -implicitDefEqProofs (disch := first | assumption | omega | (simp only [gL] <;> omega) | ((repeat (first | exact Ext.refl _ | assumption | apply Ext.app | apply Ext.mk | (refine Ext.setr ?_ (by (first | omega | (simp only [gL] <;> omega))) _))); done) | (simp only [gL, gA, show decide (0 ≤ e.to ∧ e.to < (O.length : Int)) = true from decide_eq_true (by omega), hr6, hra, so6.sl.idxG] <;> omega) | fail) only [gB, setAll, partL, fldV, reduceIte, Nat.reduceAdd, Nat.reduceMul, show decide (0 ≤ e.to ∧ e.to < (O.length : Int)) = true from decide_eq_true (by omega), hr6, hra, so6.sl.idxG]
    -- out
    refine WP.call (add_spec f6 (t1 := (0, e.fr.toNat)) (t2 := (1, e.fr.toNat)) ⟨by simp, by simp; omega⟩ ⟨by simp, by simp; omega⟩ (by simp) (by omega) (by omega) so6 hed.1 (by omega) (by simp only [Sf, hfn]) (by simp only [Sf, hfn]) n e.to (by simp; omega) (by simp; omega)) ?_
    rintro r8 h8 ⟨s1, s2, so8, f8, fr8⟩
    have hl8 := fr8.len
    have hr8 : h8[h.length]? = some (.cells ⟨[I e.fr, I e.to, I e.md, I e.co], 0, 0, false⟩) := by rw [fr8.get (by omega) (by omega)]; exact hr6
    have hra8 : h8[qa]? = some (.cells ⟨[I N, s', so, si], 0, 0, false⟩) := by rw [fr8.get (by omega) (by omega)]; exact hra
    have sj8 := sj6.frs fr8 (fun o q1 q2 => by omega)
    simp -implicitDefEqProofs (disch := first | assumption | omega | (simp only [gL] <;> omega) | ((repeat (first | exact Ext.refl _ | assumption | apply Ext.app | apply Ext.mk | (refine Ext.setr ?_ (by (first | omega | (simp only [gL] <;> omega))) _))); done) | (simp only [gL, gA, hr8, hra8, sj8.sl.idxG] <;> omega) | fail) only [gB, setAll, partL, fldV, reduceIte, Nat.reduceAdd, Nat.reduceMul, hr8, hra8, sj8.sl.idxG]
    refine WP.call (add_spec f8 (t1 := (2, e.to.toNat)) (t2 := (3, e.to.toNat)) ⟨by simp, by simp; omega⟩ ⟨by simp, by simp; omega⟩ (by simp) (by omega) (by omega) sj8 hed.2.2.1 (by omega) (by simp [Sf, htn]) (by simp [Sf, htn]) n e.fr (by simp; omega) (by simp; omega)) ?_
    rintro r9 h9 ⟨s3, s4, sj9, f9, fr9⟩
    have hl9 := fr9.len
    have so9 := so8.frs fr9 (fun o q1 q2 => by omega)
    refine ih (n + 1) h9 _ _ (by omega) ⟨?_, so9, sj9, by simp; exact hlo, by simp; exact hlj, ?_⟩
    · have z1 := (w.fr.trans (FrS.ofExt ex)).trans (fr8.mono fun o q1 q2 => by omega)
      exact z1.trans (fr9.mono fun o q1 q2 => by omega)
    · refine (f9.mono fun o q1 q2 => by omega).congr fun t ht => ?_
      have hgo : ∀ v : Nat, v < N → gi (O.set e.fr.toNat (s1, s2)) (v : Int) = if (v : Int) = e.fr then (s1, s2) else gi O v := fun v hv => gi_set hed.1 (by omega) (by omega) _
      have hgj : ∀ v : Nat, v < N → gi (J.set e.to.toNat (s3, s4)) (v : Int) = if (v : Int) = e.to then (s3, s4) else gi J v := fun v hv => gi_set hed.2.2.1 (by omega) (by omega) _
      obtain ⟨j, v⟩ := t
      obtain ⟨hj, hv⟩ := ht
      simp only at hj hv
      have efr : ((v : Int) = e.fr) ↔ v = e.fr.toNat := by omega
      have eto : ((v : Int) = e.to) ↔ v = e.to.toNat := by omega
      have hxs := fun p => idxTo_succ p es n
      match j, hj with
      | 0, _ =>
        simp only [Sf, Xf, hgo v hv, efr, hxs, he, Prod.mk.injEq]
        by_cases hvf : v = e.fr.toNat
        · subst hvf; simp [encI, hfn, Sf, Xf]
        · have : ¬ e.fr = (v : Int) := fun q => hvf (efr.1 q.symm)
          simp [hvf, this, Sf, Xf]
      | 1, _ =>
        simp only [Sf, Xf, hgo v hv, efr, hxs, he, Prod.mk.injEq]
        by_cases hvf : v = e.fr.toNat
        · subst hvf; simp [encI, hfn, Sf, Xf, he]
        · have : ¬ e.fr = (v : Int) := fun q => hvf (efr.1 q.symm)
          simp [hvf, this, Sf, Xf]
      | 2, _ =>
        simp only [Sf, Xf, hgj v hv, eto, hxs, he, Prod.mk.injEq]
        by_cases hvf : v = e.to.toNat
        · subst hvf; simp [encI, htn, Sf, Xf]
        · have : ¬ e.to = (v : Int) := fun q => hvf (eto.1 q.symm)
          simp [hvf, this, Sf, Xf]
      | 3, _ =>
        simp only [Sf, Xf, hgj v hv, eto, hxs, he, Prod.mk.injEq]
        by_cases hvf : v = e.to.toNat
        · subst hvf; simp [encI, htn, Sf, Xf, he]
        · have : ¬ e.to = (v : Int) := fun q => hvf (eto.1 q.symm)
          simp [hvf, this, Sf, Xf]

theorem new_specL {h : Heap} {N : Nat} {s : AV} {es : List E} (ok : NetOk N es) (hs : Sl h 4 s (es.map encE)) :
    Tot tab f_adj_New [.agg [I N, s]] h fun r h' => Ext h h' ∧ (∀ H, (∀ o, h.length ≤ o → o < h'.length → H[o]? = h'[o]?) → AdjV H r N es) ∧ ∃ o, h.length ≤ o ∧ r = .ptr o 0 4 0 := by
  have hnb := ok.n1
  have hln := ok.len
  refine WP.tot (fun k => (call_adj_New k _ h).trans (adj_New_eq tab k _ h)) ?_
  have e1 : Ext h (h ++ [AObj.cells ⟨[I N, s], 0, 0, false⟩]) := by ((repeat (first | exact Ext.refl _ | assumption | apply Ext.app | apply Ext.mk | (refine Ext.setr ?_ (by (first | omega | (simp only [gL] <;> omega))) _))))
  obtain ⟨h1, hh1⟩ : ∃ h1, h1 = h ++ [AObj.cells ⟨[I N, s], 0, 0, false⟩] := ⟨_, rfl⟩
  rw [← hh1] at e1
  have hr1 : h1[h.length]? = some (.cells ⟨[I N, s], 0, 0, false⟩) := by rw [hh1]; simp
  have hl1 : h1.length = h.length + 1 := by rw [hh1]; simp
  have hmx : max (N : Int) 0 = N := by omega
  obtain ⟨so, h2, k1, k2, k3, k4, k5⟩ := mkSl_gr (zero := [AV.nils, .nils]) (sz := 2) (bytes := 48) (n := (N : Int)) h1 (by omega) (by omega) (by omega) rfl rfl
  obtain ⟨si, h3, m1, m2, m3, m4, m5⟩ := mkSl_gr (zero := [AV.nils, .nils]) (sz := 2) (bytes := 48) (n := (N : Int)) h2 (by omega) (by omega) (by omega) rfl rfl
  have hr2 := k3.get hr1
  have hr3 := m3.get hr2
  have e4 : Ext h3 (h3 ++ [AObj.cells ⟨[I 0, .nils, so, si], 0, 0, false⟩]) := by ((repeat (first | exact Ext.refl _ | assumption | apply Ext.app | apply Ext.mk | (refine Ext.setr ?_ (by (first | omega | (simp only [gL] <;> omega))) _))))
  obtain ⟨h4, hh4⟩ : ∃ h4, h4 = h3 ++ [AObj.cells ⟨[I 0, .nils, so, si], 0, 0, false⟩] := ⟨_, rfl⟩
  rw [← hh4] at e4
  have hr4 := e4.get hr3
  have hl4 : h4.length = h3.length + 1 := by rw [hh4]; simp
  have hra : h4[h3.length]? = some (.cells ⟨[I 0, .nils, so, si], 0, 0, false⟩) := by rw [hh4]; simp
  simp -implicitDefEqProofs (disch := first | assumption | omega | (simp only [gL] <;> omega) | ((repeat (first | exact Ext.refl _ | assumption | apply Ext.app | apply Ext.mk | (refine Ext.setr ?_ (by (first | omega | (simp only [gL] <;> omega))) _))); done) | (simp only [gL, gA, hs.one, hs.cells] <;> omega) | fail) only [gB, setAll, partL, fldV, reduceIte, Nat.reduceAdd, Nat.reduceMul, hs.one, hs.cells]
  rw [← hh1]
  simp -implicitDefEqProofs (disch := first | assumption | omega | (simp only [gL] <;> omega) | ((repeat (first | exact Ext.refl _ | assumption | apply Ext.app | apply Ext.mk | (refine Ext.setr ?_ (by (first | omega | (simp only [gL] <;> omega))) _))); done) | (simp only [gL, gA, hr1, hmx, k1, hr2, m1, hr3, k2.sl.one, k2.sl.cells, m2.sl.one, m2.sl.cells] <;> omega) | fail) only [gB, setAll, partL, fldV, reduceIte, Nat.reduceAdd, Nat.reduceMul, hr1, hmx, k1, hr2, m1, hr3, k2.sl.one, k2.sl.cells, m2.sl.one, m2.sl.cells]
  rw [show AV.int .i64 0 = I 0 from rfl, ← hh4]
  refine WP.call (cloneE_spec (hs.ext ((e1.trans k3).trans (m3.trans e4))) (by simp; omega)) ?_
  rintro s' h5 ⟨e5, g5⟩
  have hr5 := e5.get hr4
  have hra5 := e5.get hra
  have hl5 := e5.len
  obtain ⟨h6, hh6⟩ : ∃ h6, h6 = h5.set h3.length (.cells ⟨[I N, s', so, si], 0, 0, false⟩) := ⟨_, rfl⟩
  have hl6 : h6.length = h5.length := by rw [hh6]; simp
  have f6 : FrS (fun o => o = h3.length) h5 h6 := by rw [hh6]; exact ⟨by simp, fun o q1 q2 => List.getElem?_set_ne (fun q => q1 q.symm)⟩
  have e6 : Ext h h6 := f6.ext (((e1.trans k3).trans (m3.trans e4)).trans e5) (fun o q1 q2 => by omega)
  have e25 : Ext h2 h5 := (m3.trans e4).trans e5
  have e35 : Ext h3 h5 := e4.trans e5
  have hr6 : h6[h.length]? = some (.cells ⟨[I N, s], 0, 0, false⟩) := by rw [f6.get (by omega) (by omega)]; exact hr5
  have hra6 : h6[h3.length]? = some (.cells ⟨[I N, s', so, si], 0, 0, false⟩) := by rw [hh6]; exact get_set_eq (by omega)
  have hgg : Gr h4.length h6.length h6 4 s' (es.map encE) := (g5.frs f6 (fun o q1 q2 => by omega)).mono (Nat.le_refl _) (by omega)
  have go6 : Gr h1.length (h1.length + 1) h6 2 so (List.replicate N [AV.nils, .nils]) := (k2.ext e25).frs f6 (fun o q1 q2 => by omega)
  have gi6 : Gr h2.length (h2.length + 1) h6 2 si (List.replicate N [AV.nils, .nils]) := (m2.ext e35).frs f6 (fun o q1 q2 => by omega)
  have hrep : List.replicate N [AV.nils, .nils] = (List.replicate N (AV.nils, AV.nils)).map encP := by rw [List.map_replicate]; rfl
  rw [hrep] at go6 gi6
  simp only [I] at hr5 hra5 hr6 hh6
  simp -implicitDefEqProofs (disch := first | assumption | omega | (simp only [gL] <;> omega) | ((repeat (first | exact Ext.refl _ | assumption | apply Ext.app | apply Ext.mk | (refine Ext.setr ?_ (by (first | omega | (simp only [gL] <;> omega))) _))); done) | (simp only [gL, gA, hr5, hra5, g5.sl.one, g5.sl.cells] <;> omega) | fail) only [gB, setAll, partL, fldV, reduceIte, Nat.reduceAdd, Nat.reduceMul, hr5, hra5, g5.sl.one, g5.sl.cells]
  rw [← hh6]
  simp -implicitDefEqProofs (disch := first | assumption | omega | (simp only [gL] <;> omega) | ((repeat (first | exact Ext.refl _ | assumption | apply Ext.app | apply Ext.mk | (refine Ext.setr ?_ (by (first | omega | (simp only [gL] <;> omega))) _))); done) | (simp only [gL, gA, hr6, hs.lenG] <;> omega) | fail) only [gB, setAll, partL, fldV, reduceIte, Nat.reduceAdd, Nat.reduceMul, hr6, hs.lenG]
  have hgi : ∀ v, 0 ≤ v → v < (N : Int) → gi (List.replicate N (AV.nils, AV.nils)) v = (AV.nils, AV.nils) := fun v v0 v1 => by
    have : v.toNat < N := by omega
    simp [gi, List.getD_eq_getElem?_getD, List.getElem?_replicate, this]
  refine WP.ent (new_loop (q1 := h1.length) (q2 := h2.length) (qa := h3.length) (hb := h6) (s' := s') (so := so) (si := si) ok (by omega) (by omega) (by omega) (by omega) (by omega) (by omega) hra6 (fun H f => hs.ext (f.ext e6 (fun o q1 q2 => by omega))) ?_ es.length 0 h6 _ _ (by omega)
    ⟨FrS.refl _ _, go6, gi6, by simp, by simp, Fam.nil _ _ _ fun t ht => ?_⟩) fun i => rfl
  · intro H O J w
    refine ⟨w.fr.ext e6 (fun o q1 q2 => by omega), fun H2 hag => ⟨s', so, si, O, J, ?_, ?_, (w.go.agree fun o q1 q2 q3 => hag o (by omega) q3).sl, (w.gj.agree fun o q1 q2 q3 => hag o (by omega) q3).sl, by have := w.lo; omega, by have := w.lj; omega, ?_, ?_, ?_, ?_⟩, ⟨h3.length, by omega, rfl⟩⟩
    · exact At.row (by rw [hag _ (by omega) (by have := w.fr.len; omega), w.fr.get (by omega) (by omega)]; exact hra6) (Nat.le_refl _) rfl
    · exact ((hgg.frs w.fr (fun o q1 q2 => by omega)).agree fun o q1 q2 q3 => hag o (by omega) q3).sl
    · intro v v0 v1
      have := w.fam.slA (t := (0, v.toNat)) ⟨by simp, by simp; omega⟩ (fun o q1 q2 => hag o (by omega) q2)
      simpa only [Sf, Xf, outL, inL, show ((v.toNat : Nat) : Int) = v by omega] using this
    · intro v v0 v1
      have := w.fam.slA (t := (1, v.toNat)) ⟨by simp, by simp; omega⟩ (fun o q1 q2 => hag o (by omega) q2)
      simpa only [Sf, Xf, outL, inL, show ((v.toNat : Nat) : Int) = v by omega] using this
    · intro v v0 v1
      have := w.fam.slA (t := (2, v.toNat)) ⟨by simp, by simp; omega⟩ (fun o q1 q2 => hag o (by omega) q2)
      simpa only [Sf, Xf, outL, inL, show ((v.toNat : Nat) : Int) = v by omega] using this
    · intro v v0 v1
      have := w.fam.slA (t := (3, v.toNat)) ⟨by simp, by simp; omega⟩ (fun o q1 q2 => hag o (by omega) q2)
      simpa only [Sf, Xf, outL, inL, show ((v.toNat : Nat) : Int) = v by omega] using this
  · obtain ⟨j, v⟩ := t
    obtain ⟨hj, hv⟩ := ht
    simp only at hj hv
    have hg := hgi v (by omega) (by omega)
    match j, hj with
    | 0, _ => simp [Sf, Xf, hg, idxTo]
    | 1, _ => simp [Sf, Xf, hg, idxTo]
    | 2, _ => simp [Sf, Xf, hg, idxTo]
    | 3, _ => simp [Sf, Xf, hg, idxTo]
end Go.Gm.A9

set_option linter.unusedVariables false
set_option linter.unusedSimpArgs false
set_option linter.unusedSectionVars false
namespace Go.Gm.A9
open Go Go.Gm

structure MkI (h0 : Heap) (N : Int) (xs : List E) (h : Heap) (s : AV) (hi : Nat) : Prop where
  ext : Ext h0 h
  r6 : h[h0.length]? = some (.cells ⟨[I 0, .nils], 0, 0, false⟩)
  r7 : h[h0.length + 1]? = some (.cells ⟨[I N, s], 0, 0, false⟩)
  gr : Gr (h0.length + 2) hi h 4 s (xs.map encE)
  hin : hi ≤ h.length
  lon : h0.length + 2 ≤ hi

end Go.Gm.A9

set_option linter.unusedVariables false
set_option linter.unusedSimpArgs false
set_option linter.unusedSectionVars false
namespace Go.Gm.A9
open Go Go.Gm
abbrev tyIt : TypeId := 113
abbrev tyHp : TypeId := 123

def encIt (x : Int × Int) : List AV := [I x.1, I x.2]

theorem meth_Len (call : CallF) (o off hi g : Nat) (args : List AV) (h : Heap) : callMeth tab call "Len" (.ifc tyHp (.ptr o off hi g)) args h = call f_queue_heaped_Len (.ptr o off hi g :: args) h := rfl
theorem meth_Less (call : CallF) (o off hi g : Nat) (args : List AV) (h : Heap) : callMeth tab call "Less" (.ifc tyHp (.ptr o off hi g)) args h = call f_queue_heaped_Less (.ptr o off hi g :: args) h := rfl
theorem meth_Swap (call : CallF) (o off hi g : Nat) (args : List AV) (h : Heap) : callMeth tab call "Swap" (.ifc tyHp (.ptr o off hi g)) args h = call f_queue_heaped_Swap (.ptr o off hi g :: args) h := rfl
theorem meth_Push (call : CallF) (o off hi g : Nat) (args : List AV) (h : Heap) : callMeth tab call "Push" (.ifc tyHp (.ptr o off hi g)) args h = call f_queue_heaped_Push (.ptr o off hi g :: args) h := rfl
theorem meth_Pop (call : CallF) (o off hi g : Nat) (args : List AV) (h : Heap) : callMeth tab call "Pop" (.ifc tyHp (.ptr o off hi g)) args h = call f_queue_heaped_Pop (.ptr o off hi g :: args) h := rfl
theorem meth_place (call : CallF) (o off hi g : Nat) (args : List AV) (h : Heap) : callMeth tab call "milestone/queue.place" (.ifc tyHp (.ptr o off hi g)) args h = call f_queue_heaped_place (.ptr o off hi g :: args) h := rfl
theorem tAssert_t (t : TypeId) (z v : AV) : tAssert t z true (.ifc t v) = some (.tup [v, .bool true]) := by simp [tAssert]
theorem extr_0 (a : AV) (l : List AV) : extr 0 (.tup (a :: l)) = some a := rfl
theorem extr_1 (a b : AV) (l : List AV) : extr 1 (.tup (a :: b :: l)) = some b := rfl
theorem extr_2 (a b c : AV) (l : List AV) : extr 2 (.tup (a :: b :: c :: l)) = some c := rfl

/-- Items that wait, and where each stands: in rows of their own. -/
structure QW (W : Nat → Prop) (h : Heap) (oq : Nat) (xs : List (Int × Int)) (at' : List Int) (s1 s2 : AV) (o1 o2 : Nat) : Prop where
  row : h[oq]? = some (.cells ⟨[s1, s2], 0, 0, false⟩)
  g1 : Gr o1 (o1 + 1) h 2 s1 (xs.map encIt)
  n1 : s1 ≠ .nils → W o1 ∧ o1 ≠ oq ∧ o1 ≠ o2 ∧ o1 < h.length
  g2 : Gr o2 (o2 + 1) h 1 s2 (at'.map encI)
  w2 : W o2
  d2 : o2 ≠ oq
  l2 : o2 < h.length
  wq : W oq
  len : xs.length ≤ 10000000
  lat : at'.length ≤ 10000000
def QS (W : Nat → Prop) (h : Heap) (oq : Nat) (xs : List (Int × Int)) (at' : List Int) : Prop := ∃ s1 s2 o1 o2, QW W h oq xs at' s1 s2 o1 o2
section
variable {W : Nat → Prop} {h h' : Heap} {oq : Nat} {xs : List (Int × Int)} {at' : List Int} {s1 s2 : AV} {o1 o2 : Nat}
theorem QW.ext (q : QW W h oq xs at' s1 s2 o1 o2) (e : Ext h h') : QW W h' oq xs at' s1 s2 o1 o2 :=
  ⟨e.get q.row, q.g1.ext e, fun n => let ⟨a, b, c, d⟩ := q.n1 n; ⟨a, b, c, Nat.lt_of_lt_of_le d e.len⟩, q.g2.ext e, q.w2, q.d2, Nat.lt_of_lt_of_le q.l2 e.len, q.wq, q.len, q.lat⟩
theorem QS.ext (q : QS W h oq xs at') (e : Ext h h') : QS W h' oq xs at' := let ⟨s1, s2, o1, o2, q⟩ := q; ⟨s1, s2, o1, o2, q.ext e⟩
theorem QS.mono {W' : Nat → Prop} (q : QS W h oq xs at') (hw : ∀ o, o < h.length → W o → W' o) : QS W' h oq xs at' := by
  obtain ⟨s1, s2, o1, o2, q⟩ := q
  have hq := (List.getElem?_eq_some_iff.1 q.row).1
  exact ⟨s1, s2, o1, o2, q.row, q.g1, fun n => let ⟨a, b, c, d⟩ := q.n1 n; ⟨hw _ d a, b, c, d⟩, q.g2, hw _ q.l2 q.w2, q.d2, q.l2, hw _ hq q.wq, q.len, q.lat⟩
/-- Elsewhere things may turn. -/
theorem QS.frs {D : Nat → Prop} (q : QS W h oq xs at') (f : FrS D h h') (hd : ∀ o, o < h.length → W o → ¬ D o) : QS W h' oq xs at' := by
  obtain ⟨s1, s2, o1, o2, q⟩ := q
  have hq := (List.getElem?_eq_some_iff.1 q.row).1
  refine ⟨s1, s2, o1, o2, by rw [f.get (hd _ hq q.wq) hq]; exact q.row, ?_, fun n => let ⟨a, b, c, d⟩ := q.n1 n; ⟨a, b, c, Nat.lt_of_lt_of_le d f.len⟩, q.g2.frs f fun o k1 k2 => ?_, q.w2, q.d2, Nat.lt_of_lt_of_le q.l2 f.len, q.wq, q.len, q.lat⟩
  · by_cases hn : s1 = .nils
    · rcases q.g1 with k | ⟨o, g, wg, cs, _, _, k, _⟩
      · exact .inl k
      · rw [hn] at k; cases k
    · obtain ⟨a, b, c, d⟩ := q.n1 hn
      exact q.g1.frs f fun o k1 k2 => by
        obtain rfl : o = o1 := by omega
        exact hd _ d a
  · obtain rfl : o = o2 := by omega
    exact hd _ q.l2 q.w2

theorem Len_spec (q : QS W h oq xs at') : Tot tab f_queue_heaped_Len [.ptr oq 0 2 0] h fun r h' => r = I xs.length ∧ h = h' := by
  obtain ⟨s1, s2, o1, o2, q⟩ := q
  refine WP.tot (fun k => (call_queue_heaped_Len k _ h).trans (queue_heaped_Len_eq tab k _ h)) ?_
  simp -implicitDefEqProofs (disch := first | assumption | omega | (simp only [gL] <;> omega) | ((repeat (first | exact Ext.refl _ | assumption | apply Ext.app | apply Ext.mk | (refine Ext.setr ?_ (by (first | omega | (simp only [gL] <;> omega))) _))); done) | (simp only [gL, gA, q.row, q.g1.sl.lenG] <;> omega) | fail) only [gB, setAll, partL, fldV, reduceIte, Nat.reduceAdd, Nat.reduceMul, q.row, q.g1.sl.lenG]
  exact WP.ret ⟨rfl, rfl⟩
theorem place_spec (q : QS W h oq xs at') (id : Int) : Tot tab f_queue_heaped_place [.ptr oq 0 2 0, I id] h fun r h' => r = I (if 0 ≤ id ∧ id < at'.length then gi at' id else -1) ∧ h = h' := by
  obtain ⟨s1, s2, o1, o2, q⟩ := q
  refine WP.tot (fun k => (call_queue_heaped_place k _ _ h).trans (queue_heaped_place_eq tab k _ _ h)) ?_
  by_cases h0 : 0 ≤ id
  · by_cases h1 : id < at'.length
    · simp -implicitDefEqProofs (disch := first | assumption | omega | (simp only [gL] <;> omega) | ((repeat (first | exact Ext.refl _ | assumption | apply Ext.app | apply Ext.mk | (refine Ext.setr ?_ (by (first | omega | (simp only [gL] <;> omega))) _))); done) | (simp only [gL, gA, q.row, q.g2.sl.lenG, q.g2.sl.idxG, q.g2.sl.ld0, encI] <;> omega) | fail) only [gB, setAll, partL, fldV, reduceIte, Nat.reduceAdd, Nat.reduceMul, q.row, q.g2.sl.lenG, q.g2.sl.idxG, q.g2.sl.ld0, encI]
      exact WP.ret ⟨by rw [if_pos ⟨h0, h1⟩], rfl⟩
    · simp -implicitDefEqProofs (disch := first | assumption | omega | (simp only [gL] <;> omega) | ((repeat (first | exact Ext.refl _ | assumption | apply Ext.app | apply Ext.mk | (refine Ext.setr ?_ (by (first | omega | (simp only [gL] <;> omega))) _))); done) | (simp only [gL, gA, q.row, q.g2.sl.lenG] <;> omega) | fail) only [gB, setAll, partL, fldV, reduceIte, Nat.reduceAdd, Nat.reduceMul, q.row, q.g2.sl.lenG]
      exact WP.ret ⟨by rw [if_neg (fun q => h1 q.2)], rfl⟩
  · simp -implicitDefEqProofs (disch := first | assumption | omega | (simp only [gL] <;> omega) | ((repeat (first | exact Ext.refl _ | assumption | apply Ext.app | apply Ext.mk | (refine Ext.setr ?_ (by (first | omega | (simp only [gL] <;> omega))) _))); done) | (simp only [gL, gA] <;> omega) | fail) only [gB, setAll, partL, fldV, reduceIte, Nat.reduceAdd, Nat.reduceMul]
    exact WP.ret ⟨by rw [if_neg (fun q => h0 q.1)], rfl⟩
theorem before_spec (x y : Int × Int) (h : Heap) : Tot tab f_queue_item_before [.agg (encIt x), .agg (encIt y)] h fun r h' => r = .bool (decide (ltI x y)) ∧ Ext h h' := by
  refine WP.tot (fun k => (call_queue_item_before k _ _ h).trans (queue_item_before_eq tab k _ _ h)) ?_
  simp only [encIt]
  by_cases h1 : x.2 = y.2
  · by_cases h2 : x.1 < y.1
    · simp -implicitDefEqProofs (disch := first | assumption | omega | (simp only [gL] <;> omega) | ((repeat (first | exact Ext.refl _ | assumption | apply Ext.app | apply Ext.mk | (refine Ext.setr ?_ (by (first | omega | (simp only [gL] <;> omega))) _))); done) | (simp only [gL, gA] <;> omega) | fail) only [gB, setAll, partL, fldV, reduceIte, Nat.reduceAdd, Nat.reduceMul]
      exact WP.ret ⟨by simp [ltI, h1, h2], by ((repeat (first | exact Ext.refl _ | assumption | apply Ext.app | apply Ext.mk | (refine Ext.setr ?_ (by (first | omega | (simp only [gL] <;> omega))) _))))⟩
    · simp -implicitDefEqProofs (disch := first | assumption | omega | (simp only [gL] <;> omega) | ((repeat (first | exact Ext.refl _ | assumption | apply Ext.app | apply Ext.mk | (refine Ext.setr ?_ (by (first | omega | (simp only [gL] <;> omega))) _))); done) | (simp only [gL, gA] <;> omega) | fail) only [gB, setAll, partL, fldV, reduceIte, Nat.reduceAdd, Nat.reduceMul]
      exact WP.ret ⟨by simp [ltI, h1, h2], by ((repeat (first | exact Ext.refl _ | assumption | apply Ext.app | apply Ext.mk | (refine Ext.setr ?_ (by (first | omega | (simp only [gL] <;> omega))) _))))⟩
  · by_cases h2 : x.2 < y.2
    · simp -implicitDefEqProofs (disch := first | assumption | omega | (simp only [gL] <;> omega) | ((repeat (first | exact Ext.refl _ | assumption | apply Ext.app | apply Ext.mk | (refine Ext.setr ?_ (by (first | omega | (simp only [gL] <;> omega))) _))); done) | (simp only [gL, gA] <;> omega) | fail) only [gB, setAll, partL, fldV, reduceIte, Nat.reduceAdd, Nat.reduceMul]
      exact WP.ret ⟨by simp [ltI, h1, h2], by ((repeat (first | exact Ext.refl _ | assumption | apply Ext.app | apply Ext.mk | (refine Ext.setr ?_ (by (first | omega | (simp only [gL] <;> omega))) _))))⟩
    · simp -implicitDefEqProofs (disch := first | assumption | omega | (simp only [gL] <;> omega) | ((repeat (first | exact Ext.refl _ | assumption | apply Ext.app | apply Ext.mk | (refine Ext.setr ?_ (by (first | omega | (simp only [gL] <;> omega))) _))); done) | (simp only [gL, gA] <;> omega) | fail) only [gB, setAll, partL, fldV, reduceIte, Nat.reduceAdd, Nat.reduceMul]
      exact WP.ret ⟨by simp [ltI, h1, h2], by ((repeat (first | exact Ext.refl _ | assumption | apply Ext.app | apply Ext.mk | (refine Ext.setr ?_ (by (first | omega | (simp only [gL] <;> omega))) _))))⟩
theorem Less_spec (q : QS W h oq xs at') {i j : Int} (i0 : 0 ≤ i) (i1 : i < xs.length) (j0 : 0 ≤ j) (j1 : j < xs.length) : Tot tab f_queue_heaped_Less [.ptr oq 0 2 0, I i, I j] h fun r h' => r = .bool (decide (ltI (gi xs i) (gi xs j))) ∧ Ext h h' := by
  obtain ⟨s1, s2, o1, o2, q⟩ := q
  refine WP.tot (fun k => (call_queue_heaped_Less k _ _ _ h).trans (queue_heaped_Less_eq tab k _ _ _ h)) ?_
  simp -implicitDefEqProofs (disch := first | assumption | omega | (simp only [gL] <;> omega) | ((repeat (first | exact Ext.refl _ | assumption | apply Ext.app | apply Ext.mk | (refine Ext.setr ?_ (by (first | omega | (simp only [gL] <;> omega))) _))); done) | (simp only [gL, gA, q.row, q.g1.sl.idxG, q.g1.sl.ldN] <;> omega) | fail) only [gB, setAll, partL, fldV, reduceIte, Nat.reduceAdd, Nat.reduceMul, q.row, q.g1.sl.idxG, q.g1.sl.ldN]
  refine WP.call (before_spec _ _ _) ?_
  rintro _ h' ⟨rfl, e⟩
  exact WP.ret ⟨rfl, e⟩
theorem encIt_cells (x : Int × Int) : (AV.agg (encIt x)).cells = encIt x := rfl
theorem Swap_spec (q : QS W h oq xs at') {i j : Int} (i0 : 0 ≤ i) (i1 : i < xs.length) (j0 : 0 ≤ j) (j1 : j < xs.length) (ai : 0 ≤ (gi xs i).1 ∧ (gi xs i).1 < at'.length) (aj : 0 ≤ (gi xs j).1 ∧ (gi xs j).1 < at'.length) :
    Tot tab f_queue_heaped_Swap [.ptr oq 0 2 0, I i, I j] h fun r h' => QS W h' oq (sw xs i j) ((at'.set (gi xs j).1.toNat i).set (gi xs i).1.toNat j) ∧ FrS W h h' := by
  obtain ⟨s1, s2, o1, o2, q⟩ := q
  refine WP.tot (fun k => (call_queue_heaped_Swap k _ _ _ h).trans (queue_heaped_Swap_eq tab k _ _ _ h)) ?_
  have hq := (List.getElem?_eq_some_iff.1 q.row).1
  have hn : s1 ≠ .nils := q.g1.nnil (by intro hx; rw [List.map_eq_nil_iff] at hx; rw [hx] at i1; simp at i1; omega)
  obtain ⟨w1, d1, d12, l1⟩ := q.n1 hn
  obtain ⟨h1, k1, k2, k3, k4⟩ := q.g1.write0 (i := i) (v := .agg (encIt (gi xs j))) i0 (by simp; omega) rfl rfl
  rw [encIt_cells, ← List.map_set] at k2
  obtain ⟨h2, m1, m2, m3, m4⟩ := k2.write0 (i := j) (v := .agg (encIt (gi xs i))) j0 (by simp; omega) rfl rfl
  rw [encIt_cells, ← List.map_set] at m2
  have m2' : Gr o1 (o1 + 1) h2 2 s1 ((sw xs i j).map encIt) := m2
  have row1 : h1[oq]? = some (.cells ⟨[s1, s2], 0, 0, false⟩) := by rw [k3.get (by omega) hq]; exact q.row
  have row2 : h2[oq]? = some (.cells ⟨[s1, s2], 0, 0, false⟩) := by rw [m3.get (by omega) (by omega)]; exact row1
  have g22 : Gr o2 (o2 + 1) h2 1 s2 (at'.map encI) := (q.g2.fr k3 (by omega)).fr m3 (by omega)
  have hl := sw_len xs i j
  have gi1 : gi (sw xs i j) i = gi xs j := by
    rw [gi_sw i0 i1 j0 j1 i0]
    by_cases hij : i = j
    · rw [if_pos hij, hij]
    · rw [if_neg hij, if_pos rfl]
  have gj1 : gi (sw xs i j) j = gi xs i := by rw [gi_sw i0 i1 j0 j1 j0, if_pos rfl]
  obtain ⟨h3, p1, p2, p3, p4⟩ := g22.write0 (i := (gi xs j).1) (v := I i) aj.1 (by simp; omega) rfl rfl
  have row3 : h3[oq]? = some (.cells ⟨[s1, s2], 0, 0, false⟩) := by rw [p3.get (by have := q.d2; omega) (by omega)]; exact row2
  obtain ⟨h4, r1, r2, r3, r4⟩ := p2.write0 (i := (gi xs i).1) (v := I j) ai.1 (by simp; omega) rfl rfl
  have row4 : h4[oq]? = some (.cells ⟨[s1, s2], 0, 0, false⟩) := by rw [r3.get (by have := q.d2; omega) (by omega)]; exact row3
  simp only [encIt] at k1 m1
  simp -implicitDefEqProofs (disch := first | assumption | omega | (simp only [gL] <;> omega) | ((repeat (first | exact Ext.refl _ | assumption | apply Ext.app | apply Ext.mk | (refine Ext.setr ?_ (by (first | omega | (simp only [gL] <;> omega))) _))); done) | (simp only [gL, gA, q.row, q.g1.sl.idxG, q.g1.sl.ldN, k1, m1, row2, g22.sl.idxG, m2'.sl.idxG, m2'.sl.ldf, encIt, gi1, gj1, p1, r1, row1, row3] <;> omega) | fail) only [gB, setAll, partL, fldV, reduceIte, Nat.reduceAdd, Nat.reduceMul, q.row, q.g1.sl.idxG, q.g1.sl.ldN, k1, m1, row2, g22.sl.idxG, m2'.sl.idxG, m2'.sl.ldf, encIt, gi1, gj1, p1, r1, row1, row3]
  have hd2 := q.d2
  refine WP.ret ⟨⟨s1, s2, o1, o2, row4, (m2'.fr p3 (by omega)).fr r3 (by omega), fun _ => ⟨w1, d1, d12, by omega⟩, r2.cong ?_, q.w2, q.d2, by have := q.l2; omega, q.wq, by rw [hl]; exact q.len, by simp; exact q.lat⟩, ?_⟩
  · rw [cells_int, cells_int, List.map_set, List.map_set]; rfl
  · have f1 : FrS W h h2 := (k3.trans m3).s.mono fun o _ k => by
      obtain rfl : o = o1 := by omega
      exact w1
    exact f1.trans ((p3.trans r3).s.mono fun o _ k => by
      obtain rfl : o = o2 := by omega
      exact q.w2)
theorem Push_spec (q : QS W h oq xs at') {id key : Int} (h0 : 0 ≤ id) (h1 : id < at'.length) (hlen : xs.length + 1 ≤ 10000000) :
    Tot tab f_queue_heaped_Push [.ptr oq 0 2 0, .ifc tyIt (.agg (encIt (id, key)))] h fun r h' => QS (fun o => W o ∨ h.length ≤ o) h' oq (xs ++ [(id, key)]) (at'.set id.toNat xs.length) ∧ FrS W h h' := by
  obtain ⟨s1, s2, o1, o2, q⟩ := q
  refine WP.tot (fun k => (call_queue_heaped_Push k _ _ h).trans (queue_heaped_Push_eq tab k _ _ h)) ?_
  have hq := (List.getElem?_eq_some_iff.1 q.row).1
  have hd2 := q.d2
  have hl2 := q.l2
  have hql := q.len
  have hqa := q.lat
  obtain ⟨hA, hhA⟩ : ∃ hA, hA = (h ++ [AObj.cells ⟨[I 0, I 0], 0, 0, false⟩]).set h.length (.cells ⟨[I id, I key], 0, 0, false⟩) := ⟨_, rfl⟩
  have eA : Ext h hA := by rw [hhA]; ((repeat (first | exact Ext.refl _ | assumption | apply Ext.app | apply Ext.mk | (refine Ext.setr ?_ (by (first | omega | (simp only [gL] <;> omega))) _))))
  have hlA : hA.length = h.length + 1 := by rw [hhA]; simp
  have rA : hA[h.length]? = some (.cells ⟨[I id, I key], 0, 0, false⟩) := by rw [hhA]; exact get_set_eq (by simp)
  have rowA := eA.get q.row
  have g2A := q.g2.ext eA
  obtain ⟨hB, p1, p2, p3, p4⟩ := g2A.write0 (i := id) (v := I xs.length) h0 (by simp; omega) rfl rfl
  have rowB : hB[oq]? = some (.cells ⟨[s1, s2], 0, 0, false⟩) := by rw [p3.get (by omega) (by omega)]; exact rowA
  have rB : hB[h.length]? = some (.cells ⟨[I id, I key], 0, 0, false⟩) := by rw [p3.get (by omega) (by omega)]; exact rA
  have g1B : Gr o1 (o1 + 1) hB 2 s1 (xs.map encIt) := by
    by_cases hn : s1 = .nils
    · subst hn
      rw [q.g1.isNil]; exact .inl ⟨rfl, rfl⟩
    · have := q.n1 hn
      exact (q.g1.ext eA).fr p3 (by omega)
  have eC : Ext hB (mkObj hB (encIt (id, key))) := Ext.push _ _
  obtain ⟨s3, hD, o3, m1, m2, m3, m4⟩ := (g1B.ext eC).appP (bytes := 16) (fun hn => by have := q.n1 hn; simp [mkObj]; omega) ((Gr.lit (h := hB) (sz := 2) (v := encIt (id, key)) rfl).sl) (by omega) (by omega) (by simp; omega)
  have hn3 : s3 ≠ .nils := m2.nnil (by simp)
  obtain ⟨m5, m6⟩ := m3 hn3
  have hlC : (mkObj hB (encIt (id, key))).length = h.length + 2 := by simp [mkObj]; omega
  have hlD := m4.len
  have rowD : hD[oq]? = some (.cells ⟨[s1, s2], 0, 0, false⟩) := by
    rw [m4.get (fun z => by have := q.n1 z.1; omega) (by omega)]; exact eC.get rowB
  have g2D : Gr o2 (o2 + 1) hD 1 s2 ((at'.map encI).set id.toNat (I xs.length).cells) := (p2.ext eC).frs m4 fun o k1 k2 z => by have := q.n1 z.1; omega
  rw [mkObj_eq] at m1
  simp only [encIt] at m1
  simp -implicitDefEqProofs (disch := first | assumption | omega | (simp only [gL] <;> omega) | ((repeat (first | exact Ext.refl _ | assumption | apply Ext.app | apply Ext.mk | (refine Ext.setr ?_ (by (first | omega | (simp only [gL] <;> omega))) _))); done) | (simp only [gL, gA, tAssert_t, extr_0, extr_1, encIt] <;> omega) | fail) only [gB, setAll, partL, fldV, reduceIte, Nat.reduceAdd, Nat.reduceMul, tAssert_t, extr_0, extr_1, encIt]
  rw [show AV.int .i64 0 = I 0 from rfl, ← hhA]
  simp -implicitDefEqProofs (disch := first | assumption | omega | (simp only [gL] <;> omega) | ((repeat (first | exact Ext.refl _ | assumption | apply Ext.app | apply Ext.mk | (refine Ext.setr ?_ (by (first | omega | (simp only [gL] <;> omega))) _))); done) | (simp only [gL, gA, q.row, rowA, rA, q.g1.sl.lenG, g2A.sl.idxG, p1, rowB, rB, m1, rowD, m2.sl.one, m2.sl.cells] <;> omega) | fail) only [gB, setAll, partL, fldV, reduceIte, Nat.reduceAdd, Nat.reduceMul, q.row, rowA, rA, q.g1.sl.lenG, g2A.sl.idxG, p1, rowB, rB, m1, rowD, m2.sl.one, m2.sl.cells]
  have ho3q : oq ≠ o3 := by
    rcases m5 with ⟨rfl, z⟩ | z
    · exact (q.n1 z).2.1.symm
    · omega
  have ho32 : o3 ≠ o2 := by
    rcases m5 with ⟨rfl, z⟩ | z
    · exact (q.n1 z).2.2.1
    · omega
  refine WP.ret ⟨⟨s3, s2, o3, o2, ?_, ?_, fun _ => ⟨?_, ho3q.symm, ho32, by simp; omega⟩, ?_, .inl q.w2, q.d2, by simp; omega, .inl q.wq, by simp; omega, by simp; exact q.lat⟩, ?_⟩
  · rw [get_set_eq (by omega)]
  · refine (m2.set (by omega) _).cong (by simp)
  · rcases m5 with ⟨rfl, z⟩ | z
    · exact .inl (q.n1 z).1
    · exact .inr (by omega)
  · refine (g2D.set (by omega) _).cong ?_
    rw [cells_int, List.map_set]; rfl
  · have f1 : FrS W h hB := (FrS.ofExt eA).trans (p3.s.mono fun o _ k => by
      obtain rfl : o = o2 := by omega
      exact q.w2)
    have f2 : FrS W hB hD := (FrS.ofExt eC).trans (m4.mono fun o _ k => by
      rw [k.2]; exact (q.n1 k.1).1)
    refine (f1.trans f2).trans ⟨by simp, fun o k1 k2 => List.getElem?_set_ne (fun z => ?_)⟩
    exact k1 (z ▸ q.wq)
theorem HPop_spec (q : QS W h oq xs at') {n : Nat} (hn : xs.length = n + 1) (an : 0 ≤ (gi xs n).1 ∧ (gi xs n).1 < at'.length) :
    Tot tab f_queue_heaped_Pop [.ptr oq 0 2 0] h fun r h' => r = .ifc tyIt (.agg (encIt (gi xs n))) ∧ QS W h' oq (xs.take n) (at'.set (gi xs n).1.toNat (-1)) ∧ FrS W h h' := by
  obtain ⟨s1, s2, o1, o2, q⟩ := q
  refine WP.tot (fun k => (call_queue_heaped_Pop k _ h).trans (queue_heaped_Pop_eq tab k _ h)) ?_
  have hq := (List.getElem?_eq_some_iff.1 q.row).1
  have hd2 := q.d2
  have hl2 := q.l2
  have hql := q.len
  have hqa := q.lat
  have hnn : s1 ≠ .nils := q.g1.nnil (by intro hx; rw [List.map_eq_nil_iff] at hx; rw [hx] at hn; simp at hn)
  obtain ⟨w1, d1, d12, l1⟩ := q.n1 hnn
  obtain ⟨x, hx⟩ : ∃ x, gi xs n = x := ⟨_, rfl⟩
  rw [hx] at an ⊢
  obtain ⟨hA, hhA⟩ : ∃ hA, hA = (h ++ [AObj.cells ⟨[I 0, I 0], 0, 0, false⟩]).set h.length (.cells ⟨[I x.1, I x.2], 0, 0, false⟩) := ⟨_, rfl⟩
  have eA : Ext h hA := by rw [hhA]; ((repeat (first | exact Ext.refl _ | assumption | apply Ext.app | apply Ext.mk | (refine Ext.setr ?_ (by (first | omega | (simp only [gL] <;> omega))) _))))
  have hlA : hA.length = h.length + 1 := by rw [hhA]; simp
  have rA : hA[h.length]? = some (.cells ⟨[I x.1, I x.2], 0, 0, false⟩) := by rw [hhA]; exact get_set_eq (by simp)
  have rowA := eA.get q.row
  have g1A := q.g1.ext eA
  have g2A := q.g2.ext eA
  obtain ⟨s3, t1, t2, t3⟩ := g1A.take (n := (n : Int)) (by omega) (by simp; omega) hnn
  obtain ⟨hB, hhB⟩ : ∃ hB, hB = hA.set oq (.cells ⟨[s3, s2], 0, 0, false⟩) := ⟨_, rfl⟩
  have hlB : hB.length = hA.length := by rw [hhB]; simp
  have rowB : hB[oq]? = some (.cells ⟨[s3, s2], 0, 0, false⟩) := by rw [hhB]; exact get_set_eq (by omega)
  have rB : hB[h.length]? = some (.cells ⟨[I x.1, I x.2], 0, 0, false⟩) := by rw [hhB, get_set_ne (by omega)]; exact rA
  have g1B : Gr o1 (o1 + 1) hB 2 s3 ((xs.map encIt).take (n : Int).toNat) := by rw [hhB]; exact t2.set (by omega) _
  have g2B : Gr o2 (o2 + 1) hB 1 s2 (at'.map encI) := by rw [hhB]; exact g2A.set (by omega) _
  obtain ⟨hC, p1, p2, p3, p4⟩ := g2B.write0 (i := x.1) (v := I (-1)) an.1 (by simp; omega) rfl rfl
  have rC : hC[h.length]? = some (.cells ⟨[I x.1, I x.2], 0, 0, false⟩) := by rw [p3.get (by omega) (by omega)]; exact rB
  have rowC : hC[oq]? = some (.cells ⟨[s3, s2], 0, 0, false⟩) := by rw [p3.get (by omega) (by omega)]; exact rowB
  have hn1 : ((xs.length : Nat) : Int) - 1 = n := by omega
  simp -implicitDefEqProofs (disch := first | assumption | omega | (simp only [gL] <;> omega) | ((repeat (first | exact Ext.refl _ | assumption | apply Ext.app | apply Ext.mk | (refine Ext.setr ?_ (by (first | omega | (simp only [gL] <;> omega))) _))); done) | (simp only [gL, gA, q.row, q.g1.sl.lenG, hn1, q.g1.sl.idxG, q.g1.sl.ldN, hx, encIt] <;> omega) | fail) only [gB, setAll, partL, fldV, reduceIte, Nat.reduceAdd, Nat.reduceMul, q.row, q.g1.sl.lenG, hn1, q.g1.sl.idxG, q.g1.sl.ldN, hx, encIt]
  rw [show AV.int .i64 0 = I 0 from rfl, ← hhA]
  simp -implicitDefEqProofs (disch := first | assumption | omega | (simp only [gL] <;> omega) | ((repeat (first | exact Ext.refl _ | assumption | apply Ext.app | apply Ext.mk | (refine Ext.setr ?_ (by (first | omega | (simp only [gL] <;> omega))) _))); done) | (simp only [gL, gA, q.row, rowA, t1, t2.sl.one, t2.sl.cells] <;> omega) | fail) only [gB, setAll, partL, fldV, reduceIte, Nat.reduceAdd, Nat.reduceMul, q.row, rowA, t1, t2.sl.one, t2.sl.cells]
  rw [← hhB]
  simp -implicitDefEqProofs (disch := first | assumption | omega | (simp only [gL] <;> omega) | ((repeat (first | exact Ext.refl _ | assumption | apply Ext.app | apply Ext.mk | (refine Ext.setr ?_ (by (first | omega | (simp only [gL] <;> omega))) _))); done) | (simp only [gL, gA, rA, rowB, rB, g2B.sl.idxG, p1, rC] <;> omega) | fail) only [gB, setAll, partL, fldV, reduceIte, Nat.reduceAdd, Nat.reduceMul, rA, rowB, rB, g2B.sl.idxG, p1, rC]
  refine WP.ret ⟨rfl, ⟨s3, s2, o1, o2, rowC, ?_, fun _ => ⟨w1, d1, d12, by omega⟩, ?_, q.w2, q.d2, by omega, q.wq, by have := q.len; simp; omega, by simp; exact q.lat⟩, ?_⟩
  · refine (g1B.fr p3 (by omega)).cong ?_
    rw [Int.toNat_natCast, List.map_take]
  · refine p2.cong ?_
    rw [cells_int, List.map_set]; rfl
  · have f1 : FrS W hA hB := by
      rw [hhB]
      exact ⟨by simp, fun o k1 k2 => List.getElem?_set_ne (fun z => by subst z; exact k1 q.wq)⟩
    exact ((FrS.ofExt eA).trans f1).trans (p3.s.mono fun o _ k => by
      obtain rfl : o = o2 := by omega
      exact q.w2)
end
end Go.Gm.A9

set_option linter.unusedVariables false
set_option linter.unusedSimpArgs false
set_option linter.unusedSectionVars false
namespace Go.Gm.A9
open Go Go.Gm
section
variable {W : Nat → Prop} {oq : Nat} {N : Nat} {M : List (Option Int)}

theorem QS.len {h : Heap} {xs : List (Int × Int)} {at' : List Int} (q : QS W h oq xs at') : xs.length ≤ 10000000 := by
  obtain ⟨s1, s2, o1, o2, q⟩ := q; exact q.len
theorem swapR {h : Heap} {xs : List (Int × Int)} {at' : List Int} (q : QS W h oq xs at') (r : Rep N xs at' M) {i j : Int} (i0 : 0 ≤ i) (i1 : i < xs.length) (j0 : 0 ≤ j) (j1 : j < xs.length) :
    Tot tab f_queue_heaped_Swap [.ptr oq 0 2 0, I i, I j] h fun _ h' => ∃ at2, QS W h' oq (sw xs i j) at2 ∧ Rep N (sw xs i j) at2 M ∧ FrS W h h' := by
  have ai := r.a i i0 i1
  have aj := r.a j j0 j1
  have la := r.la
  exact (Swap_spec q i0 i1 j0 j1 ⟨ai.1, by omega⟩ ⟨aj.1, by omega⟩).mono fun _ h' ⟨a, b⟩ => ⟨_, a, r.swap i0 i1 j0 j1, b⟩

theorem up_loop {h0 : Heap} {L : Nat} : ∀ (d : Nat) (j : Int) (h : Heap) (xs : List (Int × Int)) (at' : List Int), j ≤ d → 0 ≤ j → j < L → xs.length = L → QS W h oq xs at' → Rep N xs at' M → UpI L xs j → FrS W h0 h →
    WP (fun p : Nat × Nat => container_heap_up_l1 tab p.1 p.2 (.ifc tyHp (.ptr oq 0 2 0)) (I j) h) fun _ h' => ∃ xs2 at2, QS W h' oq xs2 at2 ∧ Rep N xs2 at2 M ∧ Hp L xs2 ∧ xs2.length = L ∧ FrS W h0 h' := by
  intro d
  induction d with
  | zero =>
    intro j h xs at' hd j0 j1 hl q r u fr
    refine WP.rnd (fun i' j' => container_heap_up_l1_eq tab i' j' (.ifc tyHp (.ptr oq 0 2 0)) (I j) h) ?_
    obtain rfl : j = 0 := by omega
    have hw : IntKind.i64.wrap (((0 : Int) - 1).tdiv 2) = 0 := by decide
    simp -implicitDefEqProofs (disch := first | assumption | omega | (simp only [gL] <;> omega) | ((repeat (first | exact Ext.refl _ | assumption | apply Ext.app | apply Ext.mk | (refine Ext.setr ?_ (by (first | omega | (simp only [gL] <;> omega))) _))); done) | (simp only [gL, gA, hw] <;> omega) | fail) only [gB, setAll, partL, fldV, reduceIte, Nat.reduceAdd, Nat.reduceMul, hw]
    exact WP.ret ⟨xs, at', q, r, u.done (.inl rfl), hl, fr⟩
  | succ d ih =>
    intro j h xs at' hd j0 j1 hl q r u fr
    refine WP.rnd (fun i' j' => container_heap_up_l1_eq tab i' j' (.ifc tyHp (.ptr oq 0 2 0)) (I j) h) ?_
    by_cases hj : j = 0
    · subst hj
      have hw : IntKind.i64.wrap (((0 : Int) - 1).tdiv 2) = 0 := by decide
      simp -implicitDefEqProofs (disch := first | assumption | omega | (simp only [gL] <;> omega) | ((repeat (first | exact Ext.refl _ | assumption | apply Ext.app | apply Ext.mk | (refine Ext.setr ?_ (by (first | omega | (simp only [gL] <;> omega))) _))); done) | (simp only [gL, gA, hw] <;> omega) | fail) only [gB, setAll, partL, fldV, reduceIte, Nat.reduceAdd, Nat.reduceMul, hw]
      exact WP.ret ⟨xs, at', q, r, u.done (.inl rfl), hl, fr⟩
    · have hlen := q.len
      have hp := par_lt (i := j) (by omega)
      have hw : IntKind.i64.wrap ((j - 1).tdiv 2) = par j := by
        rw [Int.tdiv_eq_ediv_of_nonneg (by omega)]
        exact wrap_id (by omega) (by omega)
      simp -implicitDefEqProofs (disch := first | assumption | omega | (simp only [gL] <;> omega) | ((repeat (first | exact Ext.refl _ | assumption | apply Ext.app | apply Ext.mk | (refine Ext.setr ?_ (by (first | omega | (simp only [gL] <;> omega))) _))); done) | (simp only [gL, gA, hw, meth_Less] <;> omega) | fail) only [gB, setAll, partL, fldV, reduceIte, Nat.reduceAdd, Nat.reduceMul, hw, meth_Less]
      refine WP.call (Less_spec q j0 (by omega) hp.1 (by omega)) ?_
      rintro _ h1 ⟨rfl, e1⟩
      have fr1 := fr.trans (FrS.ofExt (D := W) e1)
      by_cases hlt : ltI (gi xs j) (gi xs (par j))
      · simp -implicitDefEqProofs (disch := first | assumption | omega | (simp only [gL] <;> omega) | ((repeat (first | exact Ext.refl _ | assumption | apply Ext.app | apply Ext.mk | (refine Ext.setr ?_ (by (first | omega | (simp only [gL] <;> omega))) _))); done) | (simp only [gL, gA, decide_eq_true hlt, meth_Swap] <;> omega) | fail) only [gB, setAll, partL, fldV, reduceIte, Nat.reduceAdd, Nat.reduceMul, decide_eq_true hlt, meth_Swap]
        refine WP.call (swapR (q.ext e1) r hp.1 (by omega) j0 (by omega)) ?_
        rintro _ h2 ⟨at2, q2, r2, f2⟩
        exact ih (par j) h2 (sw xs (par j) j) at2 (by omega) hp.1 (by omega) (by rw [sw_len]; exact hl) q2 r2 (u.swap (by omega) j1 (by omega) hlt) (fr1.trans f2)
      · simp -implicitDefEqProofs (disch := first | assumption | omega | (simp only [gL] <;> omega) | ((repeat (first | exact Ext.refl _ | assumption | apply Ext.app | apply Ext.mk | (refine Ext.setr ?_ (by (first | omega | (simp only [gL] <;> omega))) _))); done) | (simp only [gL, gA, decide_eq_false hlt] <;> omega) | fail) only [gB, setAll, partL, fldV, reduceIte, Nat.reduceAdd, Nat.reduceMul, decide_eq_false hlt]
        exact WP.ret ⟨xs, at', q.ext e1, r, u.done (.inr hlt), hl, fr1⟩
theorem up_spec {h : Heap} {xs : List (Int × Int)} {at' : List Int} {j : Int} (j0 : 0 ≤ j) (j1 : j < xs.length) (q : QS W h oq xs at') (r : Rep N xs at' M) (u : UpI xs.length xs j) :
    Tot tab f_container_heap_up [.ifc tyHp (.ptr oq 0 2 0), I j] h fun _ h' => ∃ xs2 at2, QS W h' oq xs2 at2 ∧ Rep N xs2 at2 M ∧ Hp xs.length xs2 ∧ xs2.length = xs.length ∧ FrS W h h' :=
  WP.tot (fun k => (call_container_heap_up k _ _ h).trans (container_heap_up_eq tab k _ _ h)) (WP.ent (up_loop j.toNat j h xs at' (by omega) j0 j1 rfl q r u (FrS.refl _ _)) fun i => rfl)

theorem down_loop {h0 : Heap} {L n : Nat} {i0 : Int} {rt : Int × Int} (hn : n ≤ L) : ∀ (d : Nat) (i : Int) (h : Heap) (xs : List (Int × Int)) (at' : List Int), (n : Int) - i ≤ d → 0 ≤ i → i ≤ n → xs.length = L → QS W h oq xs at' → Rep N xs at' M → DnI n xs i → (∀ p : Int, n ≤ p → p < L → gi xs p = rt) → FrS W h0 h →
    WP (fun p : Nat × Nat => container_heap_down_l1 tab p.1 p.2 (.ifc tyHp (.ptr oq 0 2 0)) (I i0) (I n) (I i) h) fun r h' => (∃ b, r = .bool b) ∧ ∃ xs2 at2, QS W h' oq xs2 at2 ∧ Rep N xs2 at2 M ∧ Hp n xs2 ∧ xs2.length = L ∧ (∀ p : Int, n ≤ p → p < L → gi xs2 p = rt) ∧ FrS W h0 h' := by
  have fin : ∀ (i : Int) (h : Heap) (xs : List (Int × Int)) (at' : List Int), xs.length = L → QS W h oq xs at' → Rep N xs at' M → Hp n xs → (∀ p : Int, n ≤ p → p < L → gi xs p = rt) → FrS W h0 h →
      WP (fun k : Nat => container_heap_down_b2 tab k (I i0) (I i) h) fun r h' => (∃ b, r = .bool b) ∧ ∃ xs2 at2, QS W h' oq xs2 at2 ∧ Rep N xs2 at2 M ∧ Hp n xs2 ∧ xs2.length = L ∧ (∀ p : Int, n ≤ p → p < L → gi xs2 p = rt) ∧ FrS W h0 h' := by
    intro i h xs at' hl q r hp hrt fr
    refine WP.congr (fun k => container_heap_down_b2_eq tab k (I i0) (I i) h) ?_
    refine WP.oa (bin_gtr _ _) ?_
    exact WP.ret ⟨⟨_, rfl⟩, xs, at', q, r, hp, hl, hrt, fr⟩
  intro d
  induction d with
  | zero =>
    intro i h xs at' hd hi0 hin hl q r u hrt fr
    refine WP.rnd (fun i' j' => container_heap_down_l1_eq tab i' j' (.ifc tyHp (.ptr oq 0 2 0)) (I i0) (I n) (I i) h) ?_
    have hlen := q.len
    have hw : IntKind.i64.wrap (2 * i) = 2 * i := wrap_id (by omega) (by omega)
    simp -implicitDefEqProofs (disch := first | assumption | omega | (simp only [gL] <;> omega) | ((repeat (first | exact Ext.refl _ | assumption | apply Ext.app | apply Ext.mk | (refine Ext.setr ?_ (by (first | omega | (simp only [gL] <;> omega))) _))); done) | (simp only [gL, gA, hw] <;> omega) | fail) only [gB, setAll, partL, fldV, reduceIte, Nat.reduceAdd, Nat.reduceMul, hw]
    exact WP.lv (fin i h xs at' hl q r (u.done fun c c0 c1 hc => by unfold par at hc; omega) hrt fr) fun i j => rfl
  | succ d ih =>
    intro i h xs at' hd hi0 hin hl q r u hrt fr
    refine WP.rnd (fun i' j' => container_heap_down_l1_eq tab i' j' (.ifc tyHp (.ptr oq 0 2 0)) (I i0) (I n) (I i) h) ?_
    have hlen := q.len
    have hw : IntKind.i64.wrap (2 * i) = 2 * i := wrap_id (by omega) (by omega)
    by_cases hc1 : 2 * i + 1 < n
    · -- the lesser child
      have part : ∀ (j : Int) (h : Heap), par j = i → 0 < j → j < n → (∀ c : Int, 0 < c → c < n → par c = i → ¬ ltI (gi xs c) (gi xs j)) → QS W h oq xs at' → FrS W h0 h →
          WP (fun p : Nat × Nat => container_heap_down_b3 tab p.1 p.2 (.ifc tyHp (.ptr oq 0 2 0)) (I i0) (I n) (I i) (I j) h) fun r h' => (∃ b, r = .bool b) ∧ ∃ xs2 at2, QS W h' oq xs2 at2 ∧ Rep N xs2 at2 M ∧ Hp n xs2 ∧ xs2.length = L ∧ (∀ p : Int, n ≤ p → p < L → gi xs2 p = rt) ∧ FrS W h0 h' := by
        intro j h hj j0 j1 hs q fr
        have hpj := par_lt j0
        refine WP.congr (fun p => container_heap_down_b3_eq tab p.1 p.2 (.ifc tyHp (.ptr oq 0 2 0)) (I i0) (I n) (I i) (I j) h) ?_
        simp -implicitDefEqProofs (disch := first | assumption | omega | (simp only [gL] <;> omega) | ((repeat (first | exact Ext.refl _ | assumption | apply Ext.app | apply Ext.mk | (refine Ext.setr ?_ (by (first | omega | (simp only [gL] <;> omega))) _))); done) | (simp only [gL, gA, meth_Less] <;> omega) | fail) only [gB, setAll, partL, fldV, reduceIte, Nat.reduceAdd, Nat.reduceMul, meth_Less]
        refine WP.call (Less_spec q (i := j) (j := i) (by omega) (by omega) hi0 (by omega)) ?_
        rintro _ h1 ⟨rfl, e1⟩
        have fr1 := fr.trans (FrS.ofExt (D := W) e1)
        by_cases hlt : ltI (gi xs j) (gi xs i)
        · simp -implicitDefEqProofs (disch := first | assumption | omega | (simp only [gL] <;> omega) | ((repeat (first | exact Ext.refl _ | assumption | apply Ext.app | apply Ext.mk | (refine Ext.setr ?_ (by (first | omega | (simp only [gL] <;> omega))) _))); done) | (simp only [gL, gA, decide_eq_true hlt, meth_Swap] <;> omega) | fail) only [gB, setAll, partL, fldV, reduceIte, Nat.reduceAdd, Nat.reduceMul, decide_eq_true hlt, meth_Swap]
          refine WP.call (swapR (q.ext e1) r hi0 (by omega) (by omega) (by omega)) ?_
          rintro _ h2 ⟨at2, q2, r2, f2⟩
          refine ih j h2 (sw xs i j) at2 (by omega) (by omega) (by omega) (by rw [sw_len]; exact hl) q2 r2 (u.swap hi0 hj j0 j1 (by omega) hlt hs) (fun p p0 p1 => ?_) (fr1.trans f2)
          rw [gi_sw hi0 (by omega) (by omega) (by omega) (by omega), if_neg (by omega), if_neg (by omega)]
          exact hrt p p0 p1
        · simp -implicitDefEqProofs (disch := first | assumption | omega | (simp only [gL] <;> omega) | ((repeat (first | exact Ext.refl _ | assumption | apply Ext.app | apply Ext.mk | (refine Ext.setr ?_ (by (first | omega | (simp only [gL] <;> omega))) _))); done) | (simp only [gL, gA, decide_eq_false hlt] <;> omega) | fail) only [gB, setAll, partL, fldV, reduceIte, Nat.reduceAdd, Nat.reduceMul, decide_eq_false hlt]
          refine WP.lv (fin i h1 xs at' hl (q.ext e1) r (u.done fun c c0 c1 hc => ?_) hrt fr1) fun i j => rfl
          have := hs c c0 c1 hc
          unfold ltI at *; omega
      have hpar : ∀ c, par c = i → c = 2 * i + 1 ∨ c = 2 * i + 1 + 1 := fun c hc => by unfold par at hc; omega
      by_cases hc2 : 2 * i + 1 + 1 < n
      · simp -implicitDefEqProofs (disch := first | assumption | omega | (simp only [gL] <;> omega) | ((repeat (first | exact Ext.refl _ | assumption | apply Ext.app | apply Ext.mk | (refine Ext.setr ?_ (by (first | omega | (simp only [gL] <;> omega))) _))); done) | (simp only [gL, gA, hw, meth_Less] <;> omega) | fail) only [gB, setAll, partL, fldV, reduceIte, Nat.reduceAdd, Nat.reduceMul, hw, meth_Less]
        refine WP.call (Less_spec q (i := 2 * i + 1 + 1) (j := 2 * i + 1) (by omega) (by omega) (by omega) (by omega)) ?_
        rintro _ h1 ⟨rfl, e1⟩
        have fr1 := fr.trans (FrS.ofExt (D := W) e1)
        by_cases hlt : ltI (gi xs (2 * i + 1 + 1)) (gi xs (2 * i + 1))
        · simp -implicitDefEqProofs (disch := first | assumption | omega | (simp only [gL] <;> omega) | ((repeat (first | exact Ext.refl _ | assumption | apply Ext.app | apply Ext.mk | (refine Ext.setr ?_ (by (first | omega | (simp only [gL] <;> omega))) _))); done) | (simp only [gL, gA, decide_eq_true hlt] <;> omega) | fail) only [gB, setAll, partL, fldV, reduceIte, Nat.reduceAdd, Nat.reduceMul, decide_eq_true hlt]
          refine part (2 * i + 1 + 1) h1 (by unfold par; omega) (by omega) hc2 (fun c c0 c1 hc => ?_) (q.ext e1) fr1
          rcases hpar c hc with rfl | rfl <;> (unfold ltI at *; omega)
        · simp -implicitDefEqProofs (disch := first | assumption | omega | (simp only [gL] <;> omega) | ((repeat (first | exact Ext.refl _ | assumption | apply Ext.app | apply Ext.mk | (refine Ext.setr ?_ (by (first | omega | (simp only [gL] <;> omega))) _))); done) | (simp only [gL, gA, decide_eq_false hlt] <;> omega) | fail) only [gB, setAll, partL, fldV, reduceIte, Nat.reduceAdd, Nat.reduceMul, decide_eq_false hlt]
          refine part (2 * i + 1) h1 (by unfold par; omega) (by omega) hc1 (fun c c0 c1 hc => ?_) (q.ext e1) fr1
          rcases hpar c hc with rfl | rfl <;> (unfold ltI at *; omega)
      · simp -implicitDefEqProofs (disch := first | assumption | omega | (simp only [gL] <;> omega) | ((repeat (first | exact Ext.refl _ | assumption | apply Ext.app | apply Ext.mk | (refine Ext.setr ?_ (by (first | omega | (simp only [gL] <;> omega))) _))); done) | (simp only [gL, gA, hw] <;> omega) | fail) only [gB, setAll, partL, fldV, reduceIte, Nat.reduceAdd, Nat.reduceMul, hw]
        refine part (2 * i + 1) h (by unfold par; omega) (by omega) hc1 (fun c c0 c1 hc => ?_) q fr
        rcases hpar c hc with rfl | rfl
        · unfold ltI; omega
        · omega
    · simp -implicitDefEqProofs (disch := first | assumption | omega | (simp only [gL] <;> omega) | ((repeat (first | exact Ext.refl _ | assumption | apply Ext.app | apply Ext.mk | (refine Ext.setr ?_ (by (first | omega | (simp only [gL] <;> omega))) _))); done) | (simp only [gL, gA, hw] <;> omega) | fail) only [gB, setAll, partL, fldV, reduceIte, Nat.reduceAdd, Nat.reduceMul, hw]
      exact WP.lv (fin i h xs at' hl q r (u.done fun c c0 c1 hc => by unfold par at hc; omega) hrt fr) fun i j => rfl
theorem down_spec {h : Heap} {xs : List (Int × Int)} {at' : List Int} {n : Nat} {i : Int} {rt : Int × Int} (hn : n ≤ xs.length) (i0 : 0 ≤ i) (i1 : i ≤ n) (q : QS W h oq xs at') (r : Rep N xs at' M) (u : DnI n xs i) (hrt : ∀ p : Int, n ≤ p → p < xs.length → gi xs p = rt) :
    Tot tab f_container_heap_down [.ifc tyHp (.ptr oq 0 2 0), I i, I n] h fun r h' => (∃ b, r = .bool b) ∧ ∃ xs2 at2, QS W h' oq xs2 at2 ∧ Rep N xs2 at2 M ∧ Hp n xs2 ∧ xs2.length = xs.length ∧ (∀ p : Int, n ≤ p → p < xs.length → gi xs2 p = rt) ∧ FrS W h h' :=
  WP.tot (fun k => (call_container_heap_down k _ _ _ h).trans (container_heap_down_eq tab k _ _ _ h)) (WP.ent (down_loop hn ((n : Int) - i).toNat i h xs at' (by omega) i0 i1 rfl q r u hrt (FrS.refl _ _)) fun i => rfl)
/-- None of the children is less: it stays. -/
theorem down_stay {h : Heap} {xs : List (Int × Int)} {at' : List Int} {i : Int} (i0 : 0 ≤ i) (i1 : i < xs.length) (q : QS W h oq xs at') (hc : ∀ c, 0 < c → c < (xs.length : Int) → par c = i → ¬ ltI (gi xs c) (gi xs i)) :
    Tot tab f_container_heap_down [.ifc tyHp (.ptr oq 0 2 0), I i, I xs.length] h fun r h' => r = .bool false ∧ Ext h h' := by
  refine WP.tot (fun k => (call_container_heap_down k _ _ _ h).trans (container_heap_down_eq tab k _ _ _ h)) ?_
  have hlen := q.len
  have hw : IntKind.i64.wrap (2 * i) = 2 * i := wrap_id (by omega) (by omega)
  refine WP.ent (c2 := fun p => container_heap_down_l1 tab p.1 p.2 (.ifc tyHp (.ptr oq 0 2 0)) (I i) (I xs.length) (I i) h) ?_ fun i => rfl
  refine WP.rnd (fun i' j' => container_heap_down_l1_eq tab i' j' (.ifc tyHp (.ptr oq 0 2 0)) (I i) (I xs.length) (I i) h) ?_
  have fin : ∀ h', Ext h h' → WP (fun k : Nat => container_heap_down_b2 tab k (I i) (I i) h') fun r h' => r = .bool false ∧ Ext h h' := by
    intro h' e
    refine WP.congr (fun k => container_heap_down_b2_eq tab k (I i) (I i) h') ?_
    simp -implicitDefEqProofs (disch := first | assumption | omega | (simp only [gL] <;> omega) | ((repeat (first | exact Ext.refl _ | assumption | apply Ext.app | apply Ext.mk | (refine Ext.setr ?_ (by (first | omega | (simp only [gL] <;> omega))) _))); done) | (simp only [gL, gA] <;> omega) | fail) only [gB, setAll, partL, fldV, reduceIte, Nat.reduceAdd, Nat.reduceMul]
    exact WP.ret ⟨rfl, e⟩
  by_cases hc1 : 2 * i + 1 < xs.length
  · have part : ∀ (j : Int) (h' : Heap), par j = i → 0 < j → j < xs.length → Ext h h' →
        WP (fun p : Nat × Nat => container_heap_down_b3 tab p.1 p.2 (.ifc tyHp (.ptr oq 0 2 0)) (I i) (I xs.length) (I i) (I j) h') fun r h' => r = .bool false ∧ Ext h h' := by
      intro j h' hj j0 j1 e
      refine WP.congr (fun p => container_heap_down_b3_eq tab p.1 p.2 (.ifc tyHp (.ptr oq 0 2 0)) (I i) (I xs.length) (I i) (I j) h') ?_
      simp -implicitDefEqProofs (disch := first | assumption | omega | (simp only [gL] <;> omega) | ((repeat (first | exact Ext.refl _ | assumption | apply Ext.app | apply Ext.mk | (refine Ext.setr ?_ (by (first | omega | (simp only [gL] <;> omega))) _))); done) | (simp only [gL, gA, meth_Less] <;> omega) | fail) only [gB, setAll, partL, fldV, reduceIte, Nat.reduceAdd, Nat.reduceMul, meth_Less]
      refine WP.call (Less_spec (q.ext e) (i := j) (j := i) (by omega) (by omega) i0 (by omega)) ?_
      rintro _ h1 ⟨rfl, e1⟩
      simp -implicitDefEqProofs (disch := first | assumption | omega | (simp only [gL] <;> omega) | ((repeat (first | exact Ext.refl _ | assumption | apply Ext.app | apply Ext.mk | (refine Ext.setr ?_ (by (first | omega | (simp only [gL] <;> omega))) _))); done) | (simp only [gL, gA, decide_eq_false (hc j j0 j1 hj)] <;> omega) | fail) only [gB, setAll, partL, fldV, reduceIte, Nat.reduceAdd, Nat.reduceMul, decide_eq_false (hc j j0 j1 hj)]
      exact WP.lv (fin h1 (e.trans e1)) fun i j => rfl
    by_cases hc2 : 2 * i + 1 + 1 < xs.length
    · simp -implicitDefEqProofs (disch := first | assumption | omega | (simp only [gL] <;> omega) | ((repeat (first | exact Ext.refl _ | assumption | apply Ext.app | apply Ext.mk | (refine Ext.setr ?_ (by (first | omega | (simp only [gL] <;> omega))) _))); done) | (simp only [gL, gA, hw, meth_Less] <;> omega) | fail) only [gB, setAll, partL, fldV, reduceIte, Nat.reduceAdd, Nat.reduceMul, hw, meth_Less]
      refine WP.call (Less_spec q (i := 2 * i + 1 + 1) (j := 2 * i + 1) (by omega) (by omega) (by omega) (by omega)) ?_
      rintro _ h1 ⟨rfl, e1⟩
      by_cases hlt : ltI (gi xs (2 * i + 1 + 1)) (gi xs (2 * i + 1))
      · simp -implicitDefEqProofs (disch := first | assumption | omega | (simp only [gL] <;> omega) | ((repeat (first | exact Ext.refl _ | assumption | apply Ext.app | apply Ext.mk | (refine Ext.setr ?_ (by (first | omega | (simp only [gL] <;> omega))) _))); done) | (simp only [gL, gA, decide_eq_true hlt] <;> omega) | fail) only [gB, setAll, partL, fldV, reduceIte, Nat.reduceAdd, Nat.reduceMul, decide_eq_true hlt]
        exact part (2 * i + 1 + 1) h1 (by unfold par; omega) (by omega) hc2 e1
      · simp -implicitDefEqProofs (disch := first | assumption | omega | (simp only [gL] <;> omega) | ((repeat (first | exact Ext.refl _ | assumption | apply Ext.app | apply Ext.mk | (refine Ext.setr ?_ (by (first | omega | (simp only [gL] <;> omega))) _))); done) | (simp only [gL, gA, decide_eq_false hlt] <;> omega) | fail) only [gB, setAll, partL, fldV, reduceIte, Nat.reduceAdd, Nat.reduceMul, decide_eq_false hlt]
        exact part (2 * i + 1) h1 (by unfold par; omega) (by omega) hc1 e1
    · simp -implicitDefEqProofs (disch := first | assumption | omega | (simp only [gL] <;> omega) | ((repeat (first | exact Ext.refl _ | assumption | apply Ext.app | apply Ext.mk | (refine Ext.setr ?_ (by (first | omega | (simp only [gL] <;> omega))) _))); done) | (simp only [gL, gA, hw] <;> omega) | fail) only [gB, setAll, partL, fldV, reduceIte, Nat.reduceAdd, Nat.reduceMul, hw]
      exact part (2 * i + 1) h (by unfold par; omega) (by omega) hc1 (Ext.refl _)
  · simp -implicitDefEqProofs (disch := first | assumption | omega | (simp only [gL] <;> omega) | ((repeat (first | exact Ext.refl _ | assumption | apply Ext.app | apply Ext.mk | (refine Ext.setr ?_ (by (first | omega | (simp only [gL] <;> omega))) _))); done) | (simp only [gL, gA, hw] <;> omega) | fail) only [gB, setAll, partL, fldV, reduceIte, Nat.reduceAdd, Nat.reduceMul, hw]
    exact WP.lv (fin h (Ext.refl _)) fun i j => rfl
end
end Go.Gm.A9

set_option linter.unusedVariables false
set_option linter.unusedSimpArgs false
set_option linter.unusedSectionVars false
namespace Go.Gm.A9
open Go Go.Gm

def cnt (M : List (Option Int)) : Nat := M.countP (·.isSome)
theorem cnt_le (M : List (Option Int)) : cnt M ≤ M.length := List.countP_le_length
theorem cnt_set {M : List (Option Int)} {i : Int} (h0 : 0 ≤ i) (h1 : i < M.length) (x : Option Int) : cnt (M.set i.toNat x) + (if (gi M i).isSome then 1 else 0) = cnt M + (if x.isSome then 1 else 0) := by
  have hi : i.toNat < M.length := by omega
  have hx : M[i.toNat] = gi M i := by
    have := gi_some h0 h1
    rw [List.getElem?_eq_getElem hi] at this
    injection this
  have h2 := List.countP_set (p := fun y : Option Int => y.isSome) (a := x) hi
  rw [hx] at h2
  have h3 : (gi M i).isSome = true → 0 < cnt M := fun q => List.countP_pos_iff.2 ⟨gi M i, gi_mem h0 h1, q⟩
  unfold cnt at *
  rw [h2]
  by_cases h4 : (gi M i).isSome = true
  · have := h3 h4
    simp only [h4, if_true]
    omega
  · simp only [if_neg h4]
    omega

def putM (N : Nat) (M : List (Option Int)) (id key : Int) : List (Option Int) × Bool :=
  if 0 ≤ id ∧ id < N then match gi M id with
    | none => (M.set id.toNat (some key), true)
    | some k => if k ≤ key then (M, false) else (M.set id.toNat (some key), true)
  else (M, false)
def keyM (N : Nat) (M : List (Option Int)) (id : Int) : Option Int := if 0 ≤ id ∧ id < N then gi M id else none
structure IsMin (N : Nat) (M : List (Option Int)) (id key : Int) : Prop where
  i0 : 0 ≤ id
  i1 : id < N
  k : gi M id = some key
  m : ∀ id' k' : Int, 0 ≤ id' → id' < N → gi M id' = some k' → ¬ ltI (id', k') (id, key)
theorem IsMin.uniq {N : Nat} {M : List (Option Int)} {a b c d : Int} (h : IsMin N M a b) (k : IsMin N M c d) : a = c ∧ b = d := by
  have h1 := h.m c d k.i0 k.i1 k.k
  have h2 := k.m a b h.i0 h.i1 h.k
  simp only [ltI] at h1 h2
  omega
def QV (W : Nat → Prop) (h : Heap) (q : AV) (N : Nat) (M : List (Option Int)) : Prop :=
  ∃ oq xs at', q = .ptr oq 0 2 0 ∧ QS W h oq xs at' ∧ Rep N xs at' M ∧ Hp xs.length xs ∧ xs.length = cnt M
section
variable {W : Nat → Prop} {h h' : Heap} {q : AV} {N : Nat} {M : List (Option Int)}
theorem QV.ext (v : QV W h q N M) (e : Ext h h') : QV W h' q N M := let ⟨oq, xs, a, h1, h2, h3⟩ := v; ⟨oq, xs, a, h1, h2.ext e, h3⟩
theorem QV.mono {W' : Nat → Prop} (v : QV W h q N M) (hw : ∀ o, o < h.length → W o → W' o) : QV W' h q N M := let ⟨oq, xs, a, h1, h2, h3⟩ := v; ⟨oq, xs, a, h1, h2.mono hw, h3⟩
theorem QV.frs {D : Nat → Prop} (v : QV W h q N M) (f : FrS D h h') (hd : ∀ o, o < h.length → W o → ¬ D o) : QV W h' q N M := let ⟨oq, xs, a, h1, h2, h3⟩ := v; ⟨oq, xs, a, h1, h2.frs f hd, h3⟩
theorem QV.lm (v : QV W h q N M) : M.length = N := let ⟨oq, xs, a, h1, h2, h3, _⟩ := v; h3.lm
theorem line_spec (oq : Nat) (h : Heap) : Tot tab f_queue_Queue_line [.ptr oq 0 2 0] h fun r h' => r = .ifc tyHp (.ptr oq 0 2 0) ∧ h = h' := by
  refine WP.tot (fun k => (call_queue_Queue_line k _ h).trans (queue_Queue_line_eq tab k _ h)) ?_
  simp -implicitDefEqProofs (disch := first | assumption | omega | (simp only [gL] <;> omega) | ((repeat (first | exact Ext.refl _ | assumption | apply Ext.app | apply Ext.mk | (refine Ext.setr ?_ (by (first | omega | (simp only [gL] <;> omega))) _))); done) | (simp only [gL, gA] <;> omega) | fail) only [gB, setAll, partL, fldV, reduceIte, Nat.reduceAdd, Nat.reduceMul]
  exact WP.ret ⟨rfl, rfl⟩
theorem qKey_spec (v : QV W h q N M) (id : Int) : Tot tab f_queue_Queue_Key [q, I id] h fun r h' => (r = match keyM N M id with | some k => .tup [I k, .bool true] | none => .tup [I 0, .bool false]) ∧ h = h' := by
  obtain ⟨oq, xs, a, rfl, qs, r, hp, hc⟩ := v
  refine WP.tot (fun k => (call_queue_Queue_Key k _ _ h).trans (queue_Queue_Key_eq tab k _ _ h)) ?_
  refine WP.call (line_spec oq h) ?_
  rintro _ _ ⟨rfl, rfl⟩
  simp -implicitDefEqProofs (disch := first | assumption | omega | (simp only [gL] <;> omega) | ((repeat (first | exact Ext.refl _ | assumption | apply Ext.app | apply Ext.mk | (refine Ext.setr ?_ (by (first | omega | (simp only [gL] <;> omega))) _))); done) | (simp only [gL, gA, meth_place] <;> omega) | fail) only [gB, setAll, partL, fldV, reduceIte, Nat.reduceAdd, Nat.reduceMul, meth_place]
  refine WP.call (place_spec qs id) ?_
  rintro _ _ ⟨rfl, rfl⟩
  have la := r.la
  by_cases hid : 0 ≤ id ∧ id < N
  · rw [if_pos (by omega), keyM, if_pos hid]
    rcases r.b id hid.1 hid.2 with ⟨h1, h2⟩ | ⟨h1, h2, h3, h4⟩
    · rw [h1, h2]
      simp -implicitDefEqProofs (disch := first | assumption | omega | (simp only [gL] <;> omega) | ((repeat (first | exact Ext.refl _ | assumption | apply Ext.app | apply Ext.mk | (refine Ext.setr ?_ (by (first | omega | (simp only [gL] <;> omega))) _))); done) | (simp only [gL, gA] <;> omega) | fail) only [gB, setAll, partL, fldV, reduceIte, Nat.reduceAdd, Nat.reduceMul]
      exact WP.ret ⟨rfl, rfl⟩
    · rw [h4]
      obtain ⟨s1, s2, o1, o2, qs⟩ := qs
      simp -implicitDefEqProofs (disch := first | assumption | omega | (simp only [gL] <;> omega) | ((repeat (first | exact Ext.refl _ | assumption | apply Ext.app | apply Ext.mk | (refine Ext.setr ?_ (by (first | omega | (simp only [gL] <;> omega))) _))); done) | (simp only [gL, gA, qs.row, qs.g1.sl.idxG, qs.g1.sl.ldf, encIt] <;> omega) | fail) only [gB, setAll, partL, fldV, reduceIte, Nat.reduceAdd, Nat.reduceMul, qs.row, qs.g1.sl.idxG, qs.g1.sl.ldf, encIt]
      exact WP.ret ⟨rfl, rfl⟩
  · rw [if_neg (by omega), keyM, if_neg hid]
    simp -implicitDefEqProofs (disch := first | assumption | omega | (simp only [gL] <;> omega) | ((repeat (first | exact Ext.refl _ | assumption | apply Ext.app | apply Ext.mk | (refine Ext.setr ?_ (by (first | omega | (simp only [gL] <;> omega))) _))); done) | (simp only [gL, gA] <;> omega) | fail) only [gB, setAll, partL, fldV, reduceIte, Nat.reduceAdd, Nat.reduceMul]
    exact WP.ret ⟨rfl, rfl⟩
theorem hPush_spec {oq : Nat} {xs : List (Int × Int)} {at' : List Int} (qs : QS W h oq xs at') (r : Rep N xs at' M) (hp : Hp xs.length xs) {id key : Int} (h0 : 0 ≤ id) (h1 : id < N) (hn : gi at' id = -1) (hlen : xs.length + 1 ≤ 10000000) :
    Tot tab f_container_heap_Push [.ifc tyHp (.ptr oq 0 2 0), .ifc tyIt (.agg (encIt (id, key)))] h fun _ h' => ∃ xs2 at2, QS (fun o => W o ∨ h.length ≤ o) h' oq xs2 at2 ∧ Rep N xs2 at2 (M.set id.toNat (some key)) ∧ Hp xs2.length xs2 ∧ xs2.length = xs.length + 1 ∧ FrS W h h' := by
  refine WP.tot (fun k => (call_container_heap_Push k _ _ h).trans (container_heap_Push_eq tab k _ _ h)) ?_
  have la := r.la
  simp -implicitDefEqProofs (disch := first | assumption | omega | (simp only [gL] <;> omega) | ((repeat (first | exact Ext.refl _ | assumption | apply Ext.app | apply Ext.mk | (refine Ext.setr ?_ (by (first | omega | (simp only [gL] <;> omega))) _))); done) | (simp only [gL, gA, meth_Push] <;> omega) | fail) only [gB, setAll, partL, fldV, reduceIte, Nat.reduceAdd, Nat.reduceMul, meth_Push]
  refine WP.call (Push_spec qs h0 (by omega) hlen) ?_
  rintro _ h2 ⟨q2, f2⟩
  simp -implicitDefEqProofs (disch := first | assumption | omega | (simp only [gL] <;> omega) | ((repeat (first | exact Ext.refl _ | assumption | apply Ext.app | apply Ext.mk | (refine Ext.setr ?_ (by (first | omega | (simp only [gL] <;> omega))) _))); done) | (simp only [gL, gA, meth_Len] <;> omega) | fail) only [gB, setAll, partL, fldV, reduceIte, Nat.reduceAdd, Nat.reduceMul, meth_Len]
  refine WP.call (Len_spec q2) ?_
  rintro _ _ ⟨rfl, rfl⟩
  have hl : (xs ++ [(id, key)]).length = xs.length + 1 := by simp
  have r2 := r.push (key := key) h0 h1 hn
  have hj : ((xs ++ [(id, key)]).length : Int) - 1 = xs.length := by omega
  simp only [hl] at hj ⊢
  simp -implicitDefEqProofs (disch := first | assumption | omega | (simp only [gL] <;> omega) | ((repeat (first | exact Ext.refl _ | assumption | apply Ext.app | apply Ext.mk | (refine Ext.setr ?_ (by (first | omega | (simp only [gL] <;> omega))) _))); done) | (simp only [gL, gA, hj] <;> omega) | fail) only [gB, setAll, partL, fldV, reduceIte, Nat.reduceAdd, Nat.reduceMul, hj]
  refine WP.call (up_spec (j := xs.length) (by omega) (by omega) q2 r2 (by rw [hl]; exact hp.push rfl _)) ?_
  rintro _ h3 ⟨xs2, at2, q3, r3, hp3, hl3, f3⟩
  rw [hl] at hl3 hp3
  refine WP.ret ⟨xs2, at2, q3, r3, by rw [hl3]; exact hp3, hl3, ⟨by have := f2.len; have := f3.len; omega, fun o k1 k2 => ?_⟩⟩
  have := f2.len
  rw [f3.get (fun z => by rcases z with z | z; exact k1 z; omega) (by omega), f2.get k1 k2]
theorem hPop_spec {oq : Nat} {xs : List (Int × Int)} {at' : List Int} {n : Nat} (qs : QS W h oq xs at') (r : Rep N xs at' M) (hp : Hp xs.length xs) (hn : xs.length = n + 1) :
    Tot tab f_container_heap_Pop [.ifc tyHp (.ptr oq 0 2 0)] h fun v h' => v = .ifc tyIt (.agg (encIt (gi xs 0))) ∧ ∃ xs2 at2, QS W h' oq xs2 at2 ∧ Rep N xs2 at2 (M.set (gi xs 0).1.toNat none) ∧ Hp xs2.length xs2 ∧ xs2.length = n ∧ FrS W h h' := by
  refine WP.tot (fun k => (call_container_heap_Pop k _ h).trans (container_heap_Pop_eq tab k _ h)) ?_
  have hlen := qs.len
  simp -implicitDefEqProofs (disch := first | assumption | omega | (simp only [gL] <;> omega) | ((repeat (first | exact Ext.refl _ | assumption | apply Ext.app | apply Ext.mk | (refine Ext.setr ?_ (by (first | omega | (simp only [gL] <;> omega))) _))); done) | (simp only [gL, gA, meth_Len] <;> omega) | fail) only [gB, setAll, partL, fldV, reduceIte, Nat.reduceAdd, Nat.reduceMul, meth_Len]
  refine WP.call (Len_spec qs) ?_
  rintro _ _ ⟨rfl, rfl⟩
  have hj : (xs.length : Int) - 1 = n := by omega
  simp -implicitDefEqProofs (disch := first | assumption | omega | (simp only [gL] <;> omega) | ((repeat (first | exact Ext.refl _ | assumption | apply Ext.app | apply Ext.mk | (refine Ext.setr ?_ (by (first | omega | (simp only [gL] <;> omega))) _))); done) | (simp only [gL, gA, hj, meth_Swap] <;> omega) | fail) only [gB, setAll, partL, fldV, reduceIte, Nat.reduceAdd, Nat.reduceMul, hj, meth_Swap]
  refine WP.call (swapR qs r (i := 0) (j := (n : Int)) (by omega) (by omega) (by omega) (by omega)) ?_
  rintro _ h2 ⟨at2, q2, r2, f2⟩
  rw [hn] at hp
  refine WP.call (down_spec (n := n) (i := 0) (rt := gi xs 0) (by rw [sw_len]; omega) (by omega) (by omega) q2 r2 (hp.begin hn) (fun p p0 p1 => ?_)) ?_
  · rw [sw_len] at p1
    rw [gi_sw (by omega) (by omega) (by omega) (by omega) (by omega), if_pos (by omega)]
  rintro _ h3 ⟨⟨b, rfl⟩, xs3, at3, q3, r3, hp3, hl3, hr3, f3⟩
  rw [sw_len] at hl3 hr3
  have hr3n := hr3 n (Int.le_refl _) (by omega)
  have an := r3.a n (by omega) (by omega)
  have la3 := r3.la
  simp -implicitDefEqProofs (disch := first | assumption | omega | (simp only [gL] <;> omega) | ((repeat (first | exact Ext.refl _ | assumption | apply Ext.app | apply Ext.mk | (refine Ext.setr ?_ (by (first | omega | (simp only [gL] <;> omega))) _))); done) | (simp only [gL, gA, meth_Pop] <;> omega) | fail) only [gB, setAll, partL, fldV, reduceIte, Nat.reduceAdd, Nat.reduceMul, meth_Pop]
  refine WP.call (HPop_spec q3 (n := n) (by omega) ⟨an.1, by omega⟩) ?_
  rintro _ h4 ⟨rfl, q4, f4⟩
  have r4 := r3.pop (n := n) (by omega)
  rw [hr3n] at q4 r4 ⊢
  have hl4 : (xs3.take n).length = n := by simp; omega
  refine WP.ret ⟨rfl, xs3.take n, _, q4, r4, ?_, hl4, (f2.trans f3).trans f4⟩
  rw [hl4]
  intro i i0 i1
  have := par_lt i0
  rw [gi_take' (by omega) (by omega), gi_take' (by omega) (by omega)]
  exact hp3 i i0 i1
theorem hFix_spec {oq : Nat} {xs : List (Int × Int)} {at' : List Int} {i : Int} (qs : QS W h oq xs at') (r : Rep N xs at' M) (i0 : 0 ≤ i) (i1 : i < xs.length) (u : UpI xs.length xs i) (hc : ∀ c, 0 < c → c < (xs.length : Int) → par c = i → ¬ ltI (gi xs c) (gi xs i)) :
    Tot tab f_container_heap_Fix [.ifc tyHp (.ptr oq 0 2 0), I i] h fun v h' => ∃ xs2 at2, QS W h' oq xs2 at2 ∧ Rep N xs2 at2 M ∧ Hp xs2.length xs2 ∧ xs2.length = xs.length ∧ FrS W h h' := by
  refine WP.tot (fun k => (call_container_heap_Fix k _ _ h).trans (container_heap_Fix_eq tab k _ _ h)) ?_
  simp -implicitDefEqProofs (disch := first | assumption | omega | (simp only [gL] <;> omega) | ((repeat (first | exact Ext.refl _ | assumption | apply Ext.app | apply Ext.mk | (refine Ext.setr ?_ (by (first | omega | (simp only [gL] <;> omega))) _))); done) | (simp only [gL, gA, meth_Len] <;> omega) | fail) only [gB, setAll, partL, fldV, reduceIte, Nat.reduceAdd, Nat.reduceMul, meth_Len]
  refine WP.call (Len_spec qs) ?_
  rintro _ _ ⟨rfl, rfl⟩
  refine WP.call (down_stay i0 i1 qs hc) ?_
  rintro _ h2 ⟨rfl, e2⟩
  simp -implicitDefEqProofs (disch := first | assumption | omega | (simp only [gL] <;> omega) | ((repeat (first | exact Ext.refl _ | assumption | apply Ext.app | apply Ext.mk | (refine Ext.setr ?_ (by (first | omega | (simp only [gL] <;> omega))) _))); done) | (simp only [gL, gA] <;> omega) | fail) only [gB, setAll, partL, fldV, reduceIte, Nat.reduceAdd, Nat.reduceMul]
  refine WP.call (up_spec i0 i1 (qs.ext e2) r u) ?_
  rintro _ h3 ⟨xs3, at3, q3, r3, hp3, hl3, f3⟩
  exact WP.ret ⟨xs3, at3, q3, r3, by rw [hl3]; exact hp3, hl3, (FrS.ofExt e2).trans f3⟩
theorem qPut_spec (v : QV W h q N M) (hN : N ≤ 1000000) (id key : Int) : Tot tab f_queue_Queue_Put [q, I id, I key] h fun r h' => r = .bool (putM N M id key).2 ∧ QV (fun o => W o ∨ h.length ≤ o) h' q N (putM N M id key).1 ∧ FrS W h h' := by
  have vv := v
  obtain ⟨oq, xs, a, rfl, qs, r, hp, hc⟩ := v
  refine WP.tot (fun k => (call_queue_Queue_Put k _ _ _ h).trans (queue_Queue_Put_eq tab k _ _ _ h)) ?_
  have la := r.la
  have lm := r.lm
  have hcl := cnt_le M
  have hmono : ∀ o, o < h.length → W o → W o ∨ h.length ≤ o := fun o _ z => .inl z
  by_cases h0 : 0 ≤ id
  · by_cases h1 : id < N
    · have hif : 0 ≤ id ∧ id < (N : Int) := ⟨h0, h1⟩
      have hgo : WP (fun k : Nat => ob (evalFn tab k f_queue_Queue_line [.ptr oq 0 2 0] h) fun t22_19 h_20 =>
          ob (callMeth tab (evalFn tab k) "milestone/queue.place" t22_19 [I id] h_20) fun t25_21 h_22 =>
          oa (binV .lss .scalar t25_21 (.int .i64 0)) fun t27_23 =>
          cond2 t27_23
            (oa (buildV [.int .i64 0, .int .i64 0] [(0, 1, I id), (1, 1, I key)]) fun t31_24 =>
              ob (evalFn tab k f_container_heap_Push [t22_19, (.ifc tyIt t31_24)] h_22) fun t33_25 h_26 => some ((.bool true), h_26))
            (oa (nilCk (.ptr oq 0 2 0)) fun t35_27 => oa (fldA 0 t35_27) fun t36_28 => oa (fldA 0 t36_28) fun t37_29 => oa (ld1 h_22 t37_29) fun t38_30 => oa (idxS 2 t38_30 t25_21) fun t40_31 => oa (fldA 1 t40_31) fun t41_32 => oa (ld1 h_22 t41_32) fun t42_33 =>
              oa (binV .leq .scalar t42_33 (I key)) fun t44_34 =>
              cond2 t44_34 (some ((.bool false), h_22))
                (oa (nilCk (.ptr oq 0 2 0)) fun t46_35 => oa (fldA 0 t46_35) fun t47_36 => oa (fldA 0 t47_36) fun t48_37 => oa (ld1 h_22 t48_37) fun t49_38 => oa (idxS 2 t49_38 t25_21) fun t52_39 => oa (fldA 1 t52_39) fun t53_40 =>
                  oh (stN 1 h_22 t53_40 (I key)) fun h_41 => ob (evalFn tab k f_container_heap_Fix [t22_19, t25_21] h_41) fun t56_42 h_43 => some ((.bool true), h_43))))
          fun r h' => r = .bool (putM N M id key).2 ∧ QV (fun o => W o ∨ h.length ≤ o) h' (.ptr oq 0 2 0) N (putM N M id key).1 ∧ FrS W h h' := by
        refine WP.call (line_spec oq h) ?_
        rintro _ _ ⟨rfl, rfl⟩
        simp -implicitDefEqProofs (disch := first | assumption | omega | (simp only [gL] <;> omega) | ((repeat (first | exact Ext.refl _ | assumption | apply Ext.app | apply Ext.mk | (refine Ext.setr ?_ (by (first | omega | (simp only [gL] <;> omega))) _))); done) | (simp only [gL, gA, meth_place] <;> omega) | fail) only [gB, setAll, partL, fldV, reduceIte, Nat.reduceAdd, Nat.reduceMul, meth_place]
        refine WP.call (place_spec qs id) ?_
        rintro _ _ ⟨rfl, rfl⟩
        rw [if_pos (by omega)]
        rcases r.b id h0 h1 with ⟨k1, k2⟩ | ⟨k1, k2, k3, k4⟩
        · have hpm : putM N M id key = (M.set id.toNat (some key), true) := by simp only [putM, if_pos hif, k2]
          have hcs := cnt_set (M := M) (i := id) h0 (by omega) (some key)
          rw [k2] at hcs
          simp at hcs
          rw [hpm, k1]
          simp -implicitDefEqProofs (disch := first | assumption | omega | (simp only [gL] <;> omega) | ((repeat (first | exact Ext.refl _ | assumption | apply Ext.app | apply Ext.mk | (refine Ext.setr ?_ (by (first | omega | (simp only [gL] <;> omega))) _))); done) | (simp only [gL, gA] <;> omega) | fail) only [gB, setAll, partL, fldV, reduceIte, Nat.reduceAdd, Nat.reduceMul]
          refine WP.call (hPush_spec qs r hp (key := key) h0 h1 k1 (by omega)) ?_
          rintro _ h3 ⟨xs3, at3, q3, r3, hp3, hl3, f3⟩
          exact WP.ret ⟨rfl, ⟨oq, xs3, at3, rfl, q3, r3, hp3, by omega⟩, f3⟩
        · obtain ⟨s1, s2, o1, o2, qw⟩ := qs
          by_cases hle : (gi xs (gi a id)).2 ≤ key
          · have hpm : putM N M id key = (M, false) := by simp only [putM, if_pos hif, k4, if_pos hle]
            rw [hpm]
            simp -implicitDefEqProofs (disch := first | assumption | omega | (simp only [gL] <;> omega) | ((repeat (first | exact Ext.refl _ | assumption | apply Ext.app | apply Ext.mk | (refine Ext.setr ?_ (by (first | omega | (simp only [gL] <;> omega))) _))); done) | (simp only [gL, gA, qw.row, qw.g1.sl.idxG, qw.g1.sl.ldf, encIt] <;> omega) | fail) only [gB, setAll, partL, fldV, reduceIte, Nat.reduceAdd, Nat.reduceMul, qw.row, qw.g1.sl.idxG, qw.g1.sl.ldf, encIt]
            exact WP.ret ⟨rfl, vv.mono hmono, FrS.refl _ _⟩
          · have hpm : putM N M id key = (M.set id.toNat (some key), true) := by simp only [putM, if_pos hif, k4, if_neg hle]
            have hcs := cnt_set (M := M) (i := id) h0 (by omega) (some key)
            rw [k4] at hcs
            simp at hcs
            rw [hpm]
            have hn : s1 ≠ .nils := qw.g1.nnil (by intro hx; rw [List.map_eq_nil_iff] at hx; rw [hx] at k2; simp at k2; omega)
            obtain ⟨w1, d1, d12, l1⟩ := qw.n1 hn
            have hq := (List.getElem?_eq_some_iff.1 qw.row).1
            obtain ⟨hA, m1, m2, m3, m4⟩ := qw.g1.write (i := gi a id) k1 (x := encIt (gi xs (gi a id))) (by simp [gi_some k1 k2]) 1 1 (v := I key) rfl (by omega) rfl
            have hset : (xs.map encIt).set (gi a id).toNat (setAll (encIt (gi xs (gi a id))) 1 (I key).cells) = (xs.set (gi a id).toNat (id, key)).map encIt := by
              rw [List.map_set]
              congr 1
              simp only [encIt, cells_int, setAll, List.set_cons_succ, List.set_cons_zero, k3]
            rw [hset] at m2
            have d2 := qw.d2
            have l2 := qw.l2
            have qA : QS W hA oq (xs.set (gi a id).toNat (id, key)) a := ⟨s1, s2, o1, o2, by rw [m3.get (by omega) hq]; exact qw.row, m2, fun _ => ⟨w1, d1, d12, by omega⟩, qw.g2.fr m3 (by omega), qw.w2, qw.d2, by omega, qw.wq, by simp; exact qw.len, qw.lat⟩
            have rA := r.lower (key := key) h0 h1 k1
            have hlow := hp.lower (p := gi a id) (x := (id, key)) k1 k2 (Int.le_refl _) (by unfold ltI; omega)
            have hls : (xs.set (gi a id).toNat (id, key)).length = xs.length := by simp
            simp -implicitDefEqProofs (disch := first | assumption | omega | (simp only [gL] <;> omega) | ((repeat (first | exact Ext.refl _ | assumption | apply Ext.app | apply Ext.mk | (refine Ext.setr ?_ (by (first | omega | (simp only [gL] <;> omega))) _))); done) | (simp only [gL, gA, qw.row, qw.g1.sl.idxG, qw.g1.sl.ldf, encIt, m1] <;> omega) | fail) only [gB, setAll, partL, fldV, reduceIte, Nat.reduceAdd, Nat.reduceMul, qw.row, qw.g1.sl.idxG, qw.g1.sl.ldf, encIt, m1]
            refine WP.call (hFix_spec (i := gi a id) qA rA k1 (by rw [hls]; exact k2) (by rw [hls]; exact hlow.1) (by rw [hls]; exact hlow.2)) ?_
            rintro _ h3 ⟨xs3, at3, q3, r3, hp3, hl3, f3⟩
            refine WP.ret ⟨rfl, QV.mono (W := W) ⟨oq, xs3, at3, rfl, q3, r3, hp3, by omega⟩ (fun o _ z => .inl z), ?_⟩
            exact (m3.s.mono fun o _ z => by
              obtain rfl : o = o1 := by omega
              exact w1).trans f3
      obtain ⟨s1, s2, o1, o2, qw⟩ := qs
      simp -implicitDefEqProofs (disch := first | assumption | omega | (simp only [gL] <;> omega) | ((repeat (first | exact Ext.refl _ | assumption | apply Ext.app | apply Ext.mk | (refine Ext.setr ?_ (by (first | omega | (simp only [gL] <;> omega))) _))); done) | (simp only [gL, gA, qw.row, qw.g2.sl.lenG] <;> omega) | fail) only [gB, setAll, partL, fldV, reduceIte, Nat.reduceAdd, Nat.reduceMul, qw.row, qw.g2.sl.lenG]
      exact hgo
    · have hpm : putM N M id key = (M, false) := by simp only [putM, if_neg (show ¬ (0 ≤ id ∧ id < (N : Int)) by omega)]
      rw [hpm]
      obtain ⟨s1, s2, o1, o2, qw⟩ := qs
      simp -implicitDefEqProofs (disch := first | assumption | omega | (simp only [gL] <;> omega) | ((repeat (first | exact Ext.refl _ | assumption | apply Ext.app | apply Ext.mk | (refine Ext.setr ?_ (by (first | omega | (simp only [gL] <;> omega))) _))); done) | (simp only [gL, gA, qw.row, qw.g2.sl.lenG] <;> omega) | fail) only [gB, setAll, partL, fldV, reduceIte, Nat.reduceAdd, Nat.reduceMul, qw.row, qw.g2.sl.lenG]
      exact WP.ret ⟨rfl, vv.mono hmono, FrS.refl _ _⟩
  · have hpm : putM N M id key = (M, false) := by simp only [putM, if_neg (show ¬ (0 ≤ id ∧ id < (N : Int)) by omega)]
    rw [hpm]
    simp -implicitDefEqProofs (disch := first | assumption | omega | (simp only [gL] <;> omega) | ((repeat (first | exact Ext.refl _ | assumption | apply Ext.app | apply Ext.mk | (refine Ext.setr ?_ (by (first | omega | (simp only [gL] <;> omega))) _))); done) | (simp only [gL, gA] <;> omega) | fail) only [gB, setAll, partL, fldV, reduceIte, Nat.reduceAdd, Nat.reduceMul]
    exact WP.ret ⟨rfl, vv.mono hmono, FrS.refl _ _⟩
end
end Go.Gm.A9

set_option linter.unusedVariables false
set_option linter.unusedSimpArgs false
set_option linter.unusedSectionVars false
namespace Go.Gm.A9
open Go Go.Gm
section
variable {W : Nat → Prop} {h h' : Heap} {q : AV} {N : Nat} {M : List (Option Int)}
/-- What a pop answers. -/
def PopQ (N : Nat) (M : List (Option Int)) (r : AV) (M2 : List (Option Int)) : Prop :=
  (cnt M = 0 ∧ r = .tup [I 0, I 0, .bool false] ∧ M2 = M) ∨ ∃ id key, IsMin N M id key ∧ r = .tup [I id, I key, .bool true] ∧ M2 = M.set id.toNat none
theorem cnt_zero {M : List (Option Int)} (h : cnt M = 0) {i : Int} (h0 : 0 ≤ i) (h1 : i < M.length) : gi M i = none := by
  rw [cnt, List.countP_eq_zero] at h
  have := h _ (gi_mem h0 h1)
  cases hx : gi M i with
  | none => rfl
  | some k => rw [hx] at this; simp at this
theorem PopQ.uniq {r r2 : AV} {M2 M3 : List (Option Int)} (hl : M.length = N) (a : PopQ N M r M2) (b : PopQ N M r2 M3) : r = r2 ∧ M2 = M3 := by
  rcases a with ⟨a1, rfl, rfl⟩ | ⟨i, k, a1, rfl, rfl⟩
  · rcases b with ⟨b1, rfl, rfl⟩ | ⟨i, k, b1, rfl, rfl⟩
    · exact ⟨rfl, rfl⟩
    · have := cnt_zero a1 b1.i0 (by have := b1.i1; omega)
      rw [b1.k] at this; cases this
  · rcases b with ⟨b1, rfl, rfl⟩ | ⟨i2, k2, b1, rfl, rfl⟩
    · have := cnt_zero b1 a1.i0 (by have := a1.i1; omega)
      rw [a1.k] at this; cases this
    · obtain ⟨rfl, rfl⟩ := a1.uniq b1
      exact ⟨rfl, rfl⟩
theorem qPop_spec (v : QV W h q N M) (hN : N ≤ 1000000) : Tot tab f_queue_Queue_Pop [q] h fun r h' => ∃ M2, PopQ N M r M2 ∧ QV W h' q N M2 ∧ FrS W h h' := by
  have vv := v
  obtain ⟨oq, xs, a, rfl, qs, r, hp, hc⟩ := v
  refine WP.tot (fun k => (call_queue_Queue_Pop k _ h).trans (queue_Queue_Pop_eq tab k _ h)) ?_
  have hcl := cnt_le M
  have lm := r.lm
  simp -implicitDefEqProofs (disch := first | assumption | omega | (simp only [gL] <;> omega) | ((repeat (first | exact Ext.refl _ | assumption | apply Ext.app | apply Ext.mk | (refine Ext.setr ?_ (by (first | omega | (simp only [gL] <;> omega))) _))); done) | (simp only [gL, gA] <;> omega) | fail) only [gB, setAll, partL, fldV, reduceIte, Nat.reduceAdd, Nat.reduceMul]
  refine WP.call (Len_spec qs) ?_
  rintro _ _ ⟨rfl, rfl⟩
  by_cases h0 : xs.length = 0
  · simp -implicitDefEqProofs (disch := first | assumption | omega | (simp only [gL] <;> omega) | ((repeat (first | exact Ext.refl _ | assumption | apply Ext.app | apply Ext.mk | (refine Ext.setr ?_ (by (first | omega | (simp only [gL] <;> omega))) _))); done) | (simp only [gL, gA] <;> omega) | fail) only [gB, setAll, partL, fldV, reduceIte, Nat.reduceAdd, Nat.reduceMul]
    exact WP.ret ⟨M, .inl ⟨by omega, rfl, rfl⟩, vv, FrS.refl _ _⟩
  · obtain ⟨n, hn⟩ : ∃ n, xs.length = n + 1 := ⟨xs.length - 1, by omega⟩
    simp -implicitDefEqProofs (disch := first | assumption | omega | (simp only [gL] <;> omega) | ((repeat (first | exact Ext.refl _ | assumption | apply Ext.app | apply Ext.mk | (refine Ext.setr ?_ (by (first | omega | (simp only [gL] <;> omega))) _))); done) | (simp only [gL, gA] <;> omega) | fail) only [gB, setAll, partL, fldV, reduceIte, Nat.reduceAdd, Nat.reduceMul]
    refine WP.call (line_spec oq h) ?_
    rintro _ _ ⟨rfl, rfl⟩
    refine WP.call (hPop_spec qs r hp hn) ?_
    rintro _ h2 ⟨rfl, xs2, at2, q2, r2, hp2, hl2, f2⟩
    have a0 := r.a 0 (by omega) (by omega)
    have hb : gi M (gi xs 0).1 = some (gi xs 0).2 := by
      rcases r.b _ a0.1 a0.2.1 with z | z
      · omega
      · rw [z.2.2.2, a0.2.2]
    have hcs := cnt_set (M := M) (i := (gi xs 0).1) a0.1 (by omega) none
    rw [hb] at hcs
    simp at hcs
    simp -implicitDefEqProofs (disch := first | assumption | omega | (simp only [gL] <;> omega) | ((repeat (first | exact Ext.refl _ | assumption | apply Ext.app | apply Ext.mk | (refine Ext.setr ?_ (by (first | omega | (simp only [gL] <;> omega))) _))); done) | (simp only [gL, gA, tAssert_t, extr_0, extr_1, encIt] <;> omega) | fail) only [gB, setAll, partL, fldV, reduceIte, Nat.reduceAdd, Nat.reduceMul, tAssert_t, extr_0, extr_1, encIt]
    refine WP.ret ⟨_, .inr ⟨(gi xs 0).1, (gi xs 0).2, ⟨a0.1, a0.2.1, hb, fun id' k' i0 i1 hk => ?_⟩, rfl, rfl⟩, ?_, f2.trans (FrS.ofExt (by ((repeat (first | exact Ext.refl _ | assumption | apply Ext.app | apply Ext.mk | (refine Ext.setr ?_ (by (first | omega | (simp only [gL] <;> omega))) _))))))⟩
    · rcases r.b id' i0 i1 with z | ⟨z0, z1, z2, z3⟩
      · rw [z.2] at hk; cases hk
      · have := hp.root (gi a id').toNat (gi a id') (by omega) z0 z1
        rw [z3] at hk
        injection hk with hk
        rw [← z2, ← hk]
        exact this
    · exact QV.ext ⟨oq, xs2, at2, rfl, q2, r2, hp2, by omega⟩ (by ((repeat (first | exact Ext.refl _ | assumption | apply Ext.app | apply Ext.mk | (refine Ext.setr ?_ (by (first | omega | (simp only [gL] <;> omega))) _)))))
theorem qnew_loop {q1 : Nat} {s2 : AV} : ∀ (d n : Nat) (h : Heap) (at' : List Int), n + d = at'.length → at'.length ≤ 1000000 → (∀ i : Int, 0 ≤ i → i < n → gi at' i = -1) → h[q1 + 1]? = some (.cells ⟨[.nils, s2], 0, 0, false⟩) → Gr q1 (q1 + 1) h 1 s2 (at'.map encI) →
    WP (fun p : Nat × Nat => queue_New_l1 tab p.1 p.2 (.ptr (q1 + 1) 0 2 0) (I at'.length) (I n) h) fun r h' => r = .ptr (q1 + 1) 0 2 0 ∧ h'.length = h.length ∧ FrS (fun o => o = q1) h h' ∧ ∃ at2 : List Int, at2.length = at'.length ∧ (∀ i : Int, 0 ≤ i → i < at2.length → gi at2 i = -1) ∧ h'[q1 + 1]? = some (.cells ⟨[.nils, s2], 0, 0, false⟩) ∧ Gr q1 (q1 + 1) h' 1 s2 (at2.map encI) := by
  intro d
  induction d with
  | zero =>
    intro n h at' h1 hl ha row g
    refine WP.rnd (fun i' j => queue_New_l1_eq tab i' j (.ptr (q1 + 1) 0 2 0) (I at'.length) (I n) h) ?_
    simp -implicitDefEqProofs (disch := first | assumption | omega | (simp only [gL] <;> omega) | ((repeat (first | exact Ext.refl _ | assumption | apply Ext.app | apply Ext.mk | (refine Ext.setr ?_ (by (first | omega | (simp only [gL] <;> omega))) _))); done) | (simp only [gL, gA] <;> omega) | fail) only [gB, setAll, partL, fldV, reduceIte, Nat.reduceAdd, Nat.reduceMul]
    exact WP.ret ⟨rfl, rfl, FrS.refl _ _, at', rfl, fun i i0 i1 => ha i i0 (by omega), row, g⟩
  | succ d ih =>
    intro n h at' h1 hl ha row g
    refine WP.rnd (fun i' j => queue_New_l1_eq tab i' j (.ptr (q1 + 1) 0 2 0) (I at'.length) (I n) h) ?_
    have hq := (List.getElem?_eq_some_iff.1 row).1
    obtain ⟨h2, k1, k2, k3, k4⟩ := g.write0 (i := (n : Int)) (v := I (-1)) (by omega) (by simp; omega) rfl rfl
    have row2 : h2[q1 + 1]? = some (.cells ⟨[.nils, s2], 0, 0, false⟩) := by rw [k3.get (by omega) hq]; exact row
    have hll : (at'.set n (-1)).length = at'.length := by simp
    have := ih (n + 1) h2 (at'.set n (-1)) (by rw [hll]; omega) (by rw [hll]; exact hl) (fun i i0 i1 => ?_) row2 (k2.cong (by rw [List.map_set]; rfl))
    · simp -implicitDefEqProofs (disch := first | assumption | omega | (simp only [gL] <;> omega) | ((repeat (first | exact Ext.refl _ | assumption | apply Ext.app | apply Ext.mk | (refine Ext.setr ?_ (by (first | omega | (simp only [gL] <;> omega))) _))); done) | (simp only [gL, gA, row, g.sl.idxG, k1] <;> omega) | fail) only [gB, setAll, partL, fldV, reduceIte, Nat.reduceAdd, Nat.reduceMul, row, g.sl.idxG, k1]
      rw [hll] at this
      refine this.mono ?_
      rintro r h3 ⟨a1, a2, a3, a4⟩
      exact ⟨a1, by omega, (k3.s.mono fun o _ z => by omega).trans a3, a4⟩
    · have := gi_set' (xs := at') (i := (n : Int)) (j := i) (by omega) (by omega) i0 (-1)
      rw [Int.toNat_natCast] at this
      rw [this]
      split
      · rfl
      · exact ha i i0 (by omega)
theorem gi_rep {α : Type} [Inhabited α] {n : Nat} {x : α} {i : Int} (h0 : 0 ≤ i) (h1 : i < n) : gi (List.replicate n x) i = x := by
  have : i.toNat < n := by omega
  simp [gi, List.getD_eq_getElem?_getD, List.getElem?_replicate, this]
theorem cnt_rep (n : Nat) : cnt (List.replicate n (none : Option Int)) = 0 := by
  rw [cnt, List.countP_eq_zero]
  intro x hx
  rw [(List.mem_replicate.1 hx).2]; simp
theorem qNew_spec (n : Nat) (hn : n ≤ 1000000) (h : Heap) : Tot tab f_queue_New [I n] h fun r h' => QV (fun o => h.length ≤ o) h' r n (List.replicate n none) ∧ Ext h h' := by
  refine WP.tot (fun k => (call_queue_New k _ h).trans (queue_New_eq tab k _ h)) ?_
  have hmx : max (n : Int) 0 = n := by omega
  obtain ⟨s2, h1, k1, k2, k3, k4, k5⟩ := mkSl_gr (zero := [AV.int .i64 0]) (sz := 1) (bytes := 8) (n := (n : Int)) h (by omega) (by omega) (by omega) rfl rfl
  have hre : List.replicate (n : Int).toNat [AV.int .i64 0] = (List.replicate n (0 : Int)).map encI := by
    rw [List.map_replicate]; rfl
  rw [hre] at k2
  obtain ⟨h2, hh2⟩ : ∃ h2, h2 = h1 ++ [AObj.cells ⟨[.nils, s2], 0, 0, false⟩] := ⟨_, rfl⟩
  have e2 : Ext h1 h2 := by rw [hh2]; ((repeat (first | exact Ext.refl _ | assumption | apply Ext.app | apply Ext.mk | (refine Ext.setr ?_ (by (first | omega | (simp only [gL] <;> omega))) _))))
  have r2 : h2[h1.length]? = some (.cells ⟨[.nils, s2], 0, 0, false⟩) := by rw [hh2]; simp
  have hl2 : h2.length = h.length + 2 := by rw [hh2]; simp; omega
  simp -implicitDefEqProofs (disch := first | assumption | omega | (simp only [gL] <;> omega) | ((repeat (first | exact Ext.refl _ | assumption | apply Ext.app | apply Ext.mk | (refine Ext.setr ?_ (by (first | omega | (simp only [gL] <;> omega))) _))); done) | (simp only [gL, gA, hmx, k1, k2.sl.one, k2.sl.cells] <;> omega) | fail) only [gB, setAll, partL, fldV, reduceIte, Nat.reduceAdd, Nat.reduceMul, hmx, k1, k2.sl.one, k2.sl.cells]
  rw [← hh2]
  have g2 := k2.ext e2
  rw [k5] at r2
  have hlr : ((List.replicate n (0 : Int)).length : Int) = n := by simp
  have hnl := qnew_loop (q1 := h.length) n 0 h2 (List.replicate n 0) (by simp) (by simp; omega) (fun i i0 i1 => by omega) r2 g2
  rw [hlr] at hnl
  simp -implicitDefEqProofs (disch := first | assumption | omega | (simp only [gL] <;> omega) | ((repeat (first | exact Ext.refl _ | assumption | apply Ext.app | apply Ext.mk | (refine Ext.setr ?_ (by (first | omega | (simp only [gL] <;> omega))) _))); done) | (simp only [gL, gA, r2, g2.sl.lenG, k5, hlr] <;> omega) | fail) only [gB, setAll, partL, fldV, reduceIte, Nat.reduceAdd, Nat.reduceMul, r2, g2.sl.lenG, k5, hlr]
  refine WP.ent (hnl.mono ?_) fun i => rfl
  rintro r h3 ⟨rfl, hl3, f3, at2, hla, ha, row3, g3⟩
  simp only [List.length_replicate] at hla
  refine ⟨⟨h.length + 1, [], at2, rfl, ⟨.nils, s2, 0, h.length, row3, .inl ⟨rfl, rfl⟩, fun q => absurd rfl q, g3, Nat.le_refl _, by omega, by omega, Nat.le_add_right _ _, by simp, by omega⟩, ⟨hla, by simp, fun i i0 i1 => by simp at i1; omega, fun id i0 i1 => .inl ⟨ha id i0 (by omega), gi_rep i0 i1⟩⟩, fun i i0 i1 => by simp at i1; omega, by rw [cnt_rep]; rfl⟩, f3.ext (k3.trans e2) (fun o q1 q2 => by omega)⟩

end
end Go.Gm.A9

set_option linter.unusedVariables false
set_option linter.unusedSimpArgs false
set_option linter.unusedSectionVars false
namespace Go.Gm.A9
open Go Go.Gm
/-- A queue that lies in P's places. -/
def SQ (P : Nat → Prop) (h : Heap) (q : AV) (N : Nat) (M : List (Option Int)) : Prop := ∃ W, (∀ o, W o → P o ∧ o < h.length) ∧ QV W h q N M
section
variable {P : Nat → Prop} {hB h h' : Heap} {q x : AV} {N : Nat} {M : List (Option Int)}
theorem QV.sq {W : Nat → Prop} (v : QV W h q N M) (hp : ∀ o, o < h.length → W o → P o) : SQ P h q N M :=
  ⟨fun o => W o ∧ o < h.length, fun o z => ⟨hp o z.2 z.1, z.2⟩, v.mono fun o z1 z2 => ⟨z2, z1⟩⟩
theorem SQ.frs {D : Nat → Prop} (v : SQ P h q N M) (f : FrS D h h') (hd : ∀ o, o < h.length → P o → ¬ D o) : SQ P h' q N M :=
  let ⟨W, h1, h2⟩ := v
  ⟨W, fun o z => ⟨(h1 o z).1, Nat.lt_of_lt_of_le (h1 o z).2 f.len⟩, h2.frs f fun o z1 z2 => hd o z1 (h1 o z2).1⟩
theorem SQ.ext (v : SQ P h q N M) (e : Ext h h') : SQ P h' q N M := v.frs (D := fun _ => False) (FrS.ofExt e) fun _ _ _ z => z
theorem SQ.lm (v : SQ P h q N M) : M.length = N := let ⟨W, h1, h2⟩ := v; h2.lm
theorem SQ.put (v : SQ P h q N M) (hN : N ≤ 1000000) (hp : ∀ o, h.length ≤ o → P o) (id key : Int) : Tot tab f_queue_Queue_Put [q, I id, I key] h fun r h' => r = .bool (putM N M id key).2 ∧ SQ P h' q N (putM N M id key).1 ∧ FrS P h h' := by
  obtain ⟨W, h1, h2⟩ := v
  refine (qPut_spec h2 hN id key).mono ?_
  rintro r h' ⟨a, b, c⟩
  exact ⟨a, b.sq fun o z1 z2 => by
    rcases z2 with z2 | z2
    · exact (h1 o z2).1
    · exact hp o z2, c.mono fun o z1 z2 => (h1 o z2).1⟩
theorem SQ.pop (v : SQ P h q N M) (hN : N ≤ 1000000) : Tot tab f_queue_Queue_Pop [q] h fun r h' => ∃ M2, PopQ N M r M2 ∧ SQ P h' q N M2 ∧ FrS P h h' := by
  obtain ⟨W, h1, h2⟩ := v
  refine (qPop_spec h2 hN).mono ?_
  rintro r h' ⟨M2, a, b, c⟩
  exact ⟨M2, a, b.sq fun o z1 z2 => (h1 o z2).1, c.mono fun o z1 z2 => (h1 o z2).1⟩
theorem SQ.key (v : SQ P h q N M) (id : Int) : Tot tab f_queue_Queue_Key [q, I id] h fun r h' => (r = match keyM N M id with | some k => .tup [I k, .bool true] | none => .tup [I 0, .bool false]) ∧ h = h' := by
  obtain ⟨W, h1, h2⟩ := v
  exact qKey_spec h2 id
end
end Go.Gm.A9

set_option linter.unusedVariables false
set_option linter.unusedSimpArgs false
namespace Go.Gm
/-- Where a spot leads: to which one, by which edge, at what cost. -/
abbrev Hop := Nat × Nat × Int
/-- A walk from a spot of the beginning: its edges, its cost. -/
inductive Wk (A : Nat → List Hop) (st : Nat → Prop) : Nat → List Nat → Int → Prop
  | nil {x : Nat} : st x → Wk A st x [] 0
  | snoc {x y e : Nat} {l : List Nat} {c w : Int} : Wk A st x l c → (y, e, w) ∈ A x → Wk A st y (l ++ [e]) (c + w)
/-- The least cost of a spot. -/
def Lst (A : Nat → List Hop) (st : Nat → Prop) (x : Nat) (c : Int) : Prop := (∃ l, Wk A st x l c) ∧ ∀ l c', Wk A st x l c' → c ≤ c'
theorem Lst.uniq {A : Nat → List Hop} {st : Nat → Prop} {x : Nat} {c d : Int} (a : Lst A st x c) (b : Lst A st x d) : c = d := by
  obtain ⟨⟨l, h1⟩, h2⟩ := a
  obtain ⟨⟨l', h3⟩, h4⟩ := b
  have := h2 _ _ h3
  have := h4 _ _ h1
  omega
structure GOk (n : Nat) (W : Int) (A : Nat → List Hop) : Prop where
  w0 : 0 ≤ W
  hop : ∀ x, x < n → ∀ y e w, (y, e, w) ∈ A x → y < n ∧ 0 ≤ w ∧ w ≤ W
section
variable {n : Nat} {W : Int} {A : Nat → List Hop} {st : Nat → Prop}
theorem Wk.range (g : GOk n W A) (hs : ∀ x, st x → x < n) {x : Nat} {l : List Nat} {c : Int} (h : Wk A st x l c) : x < n ∧ 0 ≤ c := by
  induction h with
  | nil h => exact ⟨hs _ h, Int.le_refl _⟩
  | snoc _ k ih => have := g.hop _ ih.1 _ _ _ k; omega

/-- A search: what is found (c), what waits (m), by which edge (e), from where (f), in which order (r), how many are found (k); of 'id' the hops 'todo' are still to be gone. -/
structure DI (n : Nat) (W : Int) (A : Nat → List Hop) (st : Nat → Prop) (id : Nat) (todo : List Hop) (c : Nat → Int) (m : Nat → Option Int) (e f : Nat → Int) (r : Nat → Nat) (k : Nat) : Prop where
  fin : ∀ x, x < n → 0 ≤ c x → Lst A st x (c x)
  neg : ∀ x, x < n → ¬ 0 ≤ c x → c x = -1
  que : ∀ x, x < n → ∀ v, m x = some v → c x = -1 ∧ 0 ≤ v ∧ ∃ l, Wk A st x l v
  rel : ∀ x, x < n → 0 ≤ c x → ∀ y e w, (y, e, w) ∈ A x → (x = id ∧ (y, e, w) ∈ todo) ∨ 0 ≤ c y ∨ ∃ v, m y = some v ∧ v ≤ c x + w
  sta : ∀ x, x < n → st x → 0 ≤ c x ∨ m x = some 0
  ord : ∀ x y, x < n → y < n → 0 ≤ c x → ∀ v, m y = some v → c x ≤ v
  par : ∀ y, y < n → ∀ v, (0 ≤ c y ∧ c y = v ∨ m y = some v) → (f y = -1 ∧ st y ∧ v = 0) ∨ ∃ x w, x < n ∧ f y = (x : Int) ∧ 0 ≤ c x ∧ 0 ≤ e y ∧ (y, (e y).toNat, w) ∈ A x ∧ v = c x + w ∧ (0 ≤ c y → r x < r y)
  rk : ∀ x, x < n → 0 ≤ c x → r x < k
  bnd : ∀ x, x < n → ∀ v, (0 ≤ c x ∧ c x = v ∨ m x = some v) → v ≤ k * W
  mx : ∀ x, x < n → 0 ≤ c x → c x ≤ c id
/-- Of any walk a spot that waits costs no more, where its end is not found. -/
theorem DI.front {c : Nat → Int} {m : Nat → Option Int} {e f : Nat → Int} {r : Nat → Nat} {k id : Nat} (g : GOk n W A) (hs : ∀ x, st x → x < n) (d : DI n W A st id [] c m e f r k) {y : Nat} {l : List Nat} {v : Int} (h : Wk A st y l v) : (0 ≤ c y ∧ c y ≤ v) ∨ ∃ z u, z < n ∧ m z = some u ∧ u ≤ v := by
  induction h with
  | @nil x h =>
    have hx := hs _ h
    rcases d.sta x hx h with h1 | h1
    · left
      have := (d.fin x hx h1).2 [] 0 (.nil h)
      exact ⟨h1, this⟩
    · exact .inr ⟨x, 0, hx, h1, Int.le_refl _⟩
  | @snoc x y e l v w h1 h2 ih =>
    have hx := (Wk.range g hs h1).1
    have hh := g.hop x hx _ _ _ h2
    rcases ih with ⟨i1, i2⟩ | ⟨z, u, i1, i2, i3⟩
    · rcases d.rel x hx i1 _ _ _ h2 with ⟨_, q⟩ | q | ⟨u, q1, q2⟩
      · simp at q
      · left
        exact ⟨q, (d.fin y hh.1 q).2 _ _ (.snoc h1 h2)⟩
      · exact .inr ⟨y, u, hh.1, q1, by omega⟩
    · exact .inr ⟨z, u, i1, i2, by omega⟩
/-- Nothing waits: all is found. -/
theorem DI.all {c : Nat → Int} {m : Nat → Option Int} {e f : Nat → Int} {r : Nat → Nat} {k id : Nat} (g : GOk n W A) (hs : ∀ x, st x → x < n) (d : DI n W A st id [] c m e f r k) (hm : ∀ x, x < n → m x = none) {y : Nat} {l : List Nat} {v : Int} (h : Wk A st y l v) : 0 ≤ c y ∧ c y ≤ v := by
  rcases d.front g hs h with h1 | ⟨z, u, h1, h2, _⟩
  · exact h1
  · rw [hm z h1] at h2; cases h2
/-- The least that waits is found. -/
theorem DI.pop {c : Nat → Int} {m : Nat → Option Int} {e f : Nat → Int} {r : Nat → Nat} {k id0 : Nat} (g : GOk n W A) (hs : ∀ x, st x → x < n) (d : DI n W A st id0 [] c m e f r k) {id : Nat} {key : Int} (hid : id < n) (hm : m id = some key) (hmin : ∀ z, z < n → ∀ u, m z = some u → key ≤ u) :
    DI n W A st id (A id) (fun x => if x = id then key else c x) (fun x => if x = id then none else m x) e f (fun x => if x = id then k else r x) (k + 1) := by
  obtain ⟨q1, q2, q3⟩ := d.que id hid key hm
  have hW := g.w0
  have hkW : (k : Int) * W ≤ ((k + 1 : Nat) : Int) * W := by
    rw [Int.natCast_add, Int.add_mul]; omega
  have least : ∀ l v, Wk A st id l v → key ≤ v := by
    intro l v h
    rcases d.front g hs h with h1 | ⟨z, u, h1, h2, h3⟩
    · omega
    · have := hmin z h1 u h2; omega
  refine ⟨fun x hx h => ?_, fun x hx h => ?_, fun x hx v h => ?_, fun x hx h y e' w h2 => ?_, fun x hx h => ?_, fun x y hx hy h v h2 => ?_, fun y hy v h => ?_, fun x hx h => ?_, fun x hx v h => ?_, fun x hx h => ?_⟩
  · try simp only at h ⊢
    by_cases q : x = id
    · subst q; rw [if_pos rfl] at h ⊢; exact ⟨q3, least⟩
    · rw [if_neg q] at h ⊢; exact d.fin x hx h
  · try simp only at h ⊢
    by_cases q : x = id
    · subst q; rw [if_pos rfl] at h; exact absurd q2 h
    · rw [if_neg q] at h ⊢; exact d.neg x hx h
  · try simp only at h ⊢
    by_cases q : x = id
    · rw [if_pos q] at h; cases h
    · rw [if_neg q] at h ⊢; exact d.que x hx v h
  · try simp only at h ⊢
    by_cases q : x = id
    · subst q; exact .inl ⟨rfl, h2⟩
    · rw [if_neg q] at h ⊢
      rcases d.rel x hx h _ _ _ h2 with ⟨_, z⟩ | z | ⟨v, z1, z2⟩
      · simp at z
      · right; left
        by_cases q' : y = id
        · rw [if_pos q']; exact q2
        · rw [if_neg q']; exact z
      · right
        by_cases q' : y = id
        · left; rw [if_pos q']; exact q2
        · right; exact ⟨v, by rw [if_neg q']; exact z1, z2⟩
  · try simp only
    by_cases q : x = id
    · left; rw [if_pos q]; exact q2
    · rw [if_neg q, if_neg q]; exact d.sta x hx h
  · try simp only at h h2 ⊢
    by_cases q' : y = id
    · rw [if_pos q'] at h2; cases h2
    · rw [if_neg q'] at h2
      by_cases q : x = id
      · rw [if_pos q]; exact hmin y hy v h2
      · rw [if_neg q] at h ⊢; exact d.ord x y hx hy h v h2
  · try simp only at h ⊢
    have h' : 0 ≤ c y ∧ c y = v ∨ m y = some v := by
      by_cases q : y = id
      · subst q
        rw [if_pos rfl, if_pos rfl] at h
        rcases h with h | h
        · exact .inr (by rw [hm, h.2])
        · cases h
      · rw [if_neg q, if_neg q] at h; exact h
    rcases d.par y hy v h' with z | ⟨x, w, z1, z2, z3, z4, z5, z6, z7⟩
    · exact .inl z
    · refine .inr ⟨x, w, z1, z2, ?_, z4, z5, ?_, fun _ => ?_⟩
      · by_cases q : x = id
        · rw [if_pos q]; exact q2
        · rw [if_neg q]; exact z3
      · by_cases q : x = id
        · subst q; omega
        · rw [if_neg q]; exact z6
      · have hxi : x ≠ id := fun q => by subst q; omega
        rw [if_neg hxi]
        by_cases q : y = id
        · rw [if_pos q]; exact d.rk x z1 z3
        · rw [if_neg q]
          refine z7 ?_
          rw [if_neg q, if_neg q] at h
          rcases h with h | h
          · exact h.1
          · have h0 : 0 ≤ c y ∨ ¬ 0 ≤ c y := by omega
            rcases h0 with h0 | h0
            · exact h0
            · rename_i hc
              simp only [if_neg q] at hc
              exact hc
  · try simp only at h ⊢
    by_cases q : x = id
    · rw [if_pos q]; omega
    · rw [if_neg q] at h ⊢; have := d.rk x hx h; omega
  · try simp only at h
    have h' : 0 ≤ c x ∧ c x = v ∨ m x = some v := by
      by_cases q : x = id
      · subst q
        rw [if_pos rfl, if_pos rfl] at h
        rcases h with h | h
        · exact .inr (by rw [hm, h.2])
        · cases h
      · rw [if_neg q, if_neg q] at h; exact h
    have := d.bnd x hx v h'
    omega
  · rw [if_pos rfl]
    by_cases q : x = id
    · rw [if_pos q]; omega
    · rw [if_neg q] at h ⊢; exact d.ord x id hx hid h key hm
/-- A hop: its end is found already, or waits at no more, or is put. -/
theorem DI.skip {c : Nat → Int} {m : Nat → Option Int} {e f : Nat → Int} {r : Nat → Nat} {k id y ed : Nat} {w : Int} {todo : List Hop} (d : DI n W A st id ((y, ed, w) :: todo) c m e f r k) (h : 0 ≤ c y ∨ ∃ v, m y = some v ∧ v ≤ c id + w) : DI n W A st id todo c m e f r k := by
  refine ⟨d.fin, d.neg, d.que, fun x hx h1 y' e' w' h2 => ?_, d.sta, d.ord, d.par, d.rk, d.bnd, d.mx⟩
  rcases d.rel x hx h1 _ _ _ h2 with ⟨rfl, z⟩ | z
  · rcases List.mem_cons.1 z with z | z
    · injection z with z1 z2
      injection z2 with z2 z3
      subst z1 z2 z3
      exact .inr h
    · exact .inl ⟨rfl, z⟩
  · exact .inr z
theorem DI.put {c : Nat → Int} {m : Nat → Option Int} {e f : Nat → Int} {r : Nat → Nat} {k id y ed : Nat} {w : Int} {todo : List Hop} (g : GOk n W A) (d : DI n W A st id ((y, ed, w) :: todo) c m e f r (k + 1)) (hid : id < n) (hc : 0 ≤ c id) (hA : (y, ed, w) ∈ A id) (hy : c y < 0) (hm : ∀ v, m y = some v → c id + w < v) (hk : c id ≤ k * W) :
    DI n W A st id todo c (fun x => if x = y then some (c id + w) else m x) (fun x => if x = y then (ed : Int) else e x) (fun x => if x = y then (id : Int) else f x) r (k + 1) := by
  have hh := g.hop id hid _ _ _ hA
  have hyn := d.neg y hh.1 (by omega)
  obtain ⟨⟨l, hl⟩, _⟩ := d.fin id hid hc
  refine ⟨d.fin, d.neg, fun x hx v h => ?_, fun x hx h1 y' e' w' h2 => ?_, fun x hx h => ?_, fun x z hx hz h v h2 => ?_, fun z hz v h => ?_, d.rk, fun x hx v h => ?_, d.mx⟩
  · try simp only at h
    by_cases q : x = y
    · subst q
      rw [if_pos rfl] at h
      injection h with h
      subst h
      exact ⟨hyn, by omega, _, .snoc hl hA⟩
    · rw [if_neg q] at h; exact d.que x hx v h
  · try simp only
    have key : ∀ z, (0 ≤ c z ∨ ∃ v, m z = some v ∧ v ≤ c x + w') → (0 ≤ c z ∨ ∃ v, (if z = y then some (c id + w) else m z) = some v ∧ v ≤ c x + w') := by
      rintro z (q | ⟨v, q1, q2⟩)
      · exact .inl q
      · by_cases qz : z = y
        · subst qz
          right
          exact ⟨c id + w, by rw [if_pos rfl], by have := hm v q1; omega⟩
        · exact .inr ⟨v, by rw [if_neg qz]; exact q1, q2⟩
    rcases d.rel x hx h1 _ _ _ h2 with ⟨rfl, z⟩ | z
    · rcases List.mem_cons.1 z with z | z
      · injection z with z1 z2
        injection z2 with z2 z3
        subst z1 z2 z3
        exact .inr (.inr ⟨c x + w', by rw [if_pos rfl], Int.le_refl _⟩)
      · exact .inl ⟨rfl, z⟩
    · exact .inr (key _ z)
  · try simp only
    rcases d.sta x hx h with q | q
    · exact .inl q
    · by_cases qz : x = y
      · subst qz
        have := hm 0 q
        omega
      · right; rw [if_neg qz]; exact q
  · try simp only at h2
    by_cases q : z = y
    · subst q
      rw [if_pos rfl] at h2
      injection h2 with h2
      subst h2
      have := d.mx x hx h; omega
    · rw [if_neg q] at h2; exact d.ord x z hx hz h v h2
  · try simp only at h ⊢
    by_cases q : z = y
    · subst q
      rw [if_pos rfl] at h
      right
      have hv : v = c id + w := by
        rcases h with h | h
        · omega
        · injection h with h; exact h.symm
      refine ⟨id, w, hid, by rw [if_pos rfl], hc, by rw [if_pos rfl]; omega, by rw [if_pos rfl]; simpa using hA, hv, fun h => by omega⟩
    · rw [if_neg q] at h
      rw [if_neg q, if_neg q]
      exact d.par z hz v h
  · try simp only at h
    by_cases q : x = y
    · subst q
      rw [if_pos rfl] at h
      have hv : v = c id + w := by
        rcases h with h | h
        · omega
        · injection h with h; exact h.symm
      rw [Int.natCast_add, Int.add_mul]
      omega
    · rw [if_neg q] at h; exact d.bnd x hx v h
end
end Go.Gm

set_option linter.unusedVariables false
set_option linter.unusedSimpArgs false
namespace Go.Gm
def sumN (f : Nat → Int) : Nat → Int
  | 0 => 0
  | n + 1 => sumN f n + f n
theorem sumN_congr {f g : Nat → Int} : ∀ n, (∀ x, x < n → f x = g x) → sumN f n = sumN g n
  | 0, _ => rfl
  | n + 1, h => by rw [sumN, sumN, sumN_congr n fun x hx => h x (by omega), h n (by omega)]
theorem sumN_upd {f : Nat → Int} {y : Nat} {a : Int} : ∀ n, y < n → sumN (fun x => if x = y then a else f x) n = sumN f n - f y + a
  | 0, h => by omega
  | n + 1, h => by
    rw [sumN, sumN]
    by_cases q : y = n
    · subst q
      rw [if_pos rfl, sumN_congr y (g := f) fun x hx => if_neg (by omega)]
      omega
    · rw [if_neg (fun z => q z.symm), sumN_upd n (by omega)]
      omega
theorem sumN_nonneg {f : Nat → Int} : ∀ n, (∀ x, x < n → 0 ≤ f x) → 0 ≤ sumN f n
  | 0, _ => Int.le_refl _
  | n + 1, h => by
    have := sumN_nonneg n fun x hx => h x (by omega)
    have := h n (by omega)
    rw [sumN]; omega
theorem sumN_le {f : Nat → Int} : ∀ n, (∀ x, x < n → f x ≤ 1) → sumN f n ≤ n
  | 0, _ => Int.le_refl _
  | n + 1, h => by
    have := sumN_le n fun x hx => h x (by omega)
    have := h n (by omega)
    rw [sumN]; omega
def up (c : Nat → Int) (y : Nat) (v : Int) : Nat → Int := fun x => if x = y then v else c x
/-- How many are not found. -/
def un (n : Nat) (c : Nat → Int) : Int := sumN (fun x => if c x < 0 then 1 else 0) n
def mu (n : Nat) (W : Int) (c : Nat → Int) : Int := sumN (fun x => if c x < 0 then n * W + 1 else c x) n
theorem un_nonneg (n : Nat) (c : Nat → Int) : 0 ≤ un n c := sumN_nonneg n fun x _ => by split <;> omega
theorem un_le (n : Nat) (c : Nat → Int) : un n c ≤ n := sumN_le n fun x _ => by split <;> omega
theorem un_up {n : Nat} {c : Nat → Int} {y : Nat} {v : Int} (hy : y < n) (hv : 0 ≤ v) : un n (up c y v) = un n c - if c y < 0 then 1 else 0 := by
  have : un n (up c y v) = sumN (fun x => if x = y then 0 else (fun x => if c x < 0 then (1 : Int) else 0) x) n := by
    refine sumN_congr n fun x hx => ?_
    by_cases q : x = y
    · have e : up c y v x = v := if_pos q
      simp only [e, if_pos q]
      rw [if_neg (by omega)]
    · have e : up c y v x = c x := if_neg q
      simp only [e, if_neg q]
  rw [this, sumN_upd n hy, un]
  omega
/-- Costs of walks, not yet the least. -/
structure RI (n : Nat) (W : Int) (A : Nat → List Hop) (st : Nat → Prop) (c : Nat → Int) : Prop where
  wk : ∀ x, x < n → 0 ≤ c x → ∃ l, Wk A st x l (c x)
  neg : ∀ x, x < n → ¬ 0 ≤ c x → c x = -1
  sta : ∀ x, x < n → st x → c x = 0
  bnd : ∀ x, x < n → c x + un n c * W ≤ n * W
/-- Costs that are the least ones; -1: there is no way. -/
def LC (n : Nat) (A : Nat → List Hop) (st : Nat → Prop) (c : Nat → Int) : Prop := ∀ x, x < n → (0 ≤ c x ∧ Lst A st x (c x)) ∨ (c x = -1 ∧ ∀ l v, ¬ Wk A st x l v)
section
variable {n : Nat} {W : Int} {A : Nat → List Hop} {st : Nat → Prop} {c : Nat → Int}
theorem LC.uniq {d : Nat → Int} (a : LC n A st c) (b : LC n A st d) : ∀ x, x < n → c x = d x := by
  intro x hx
  rcases a x hx with ⟨a1, a2⟩ | ⟨a1, a2⟩ <;> rcases b x hx with ⟨b1, b2⟩ | ⟨b1, b2⟩
  · exact a2.uniq b2
  · obtain ⟨⟨l, h⟩, _⟩ := a2
    exact absurd h (b2 _ _)
  · obtain ⟨⟨l, h⟩, _⟩ := b2
    exact absurd h (a2 _ _)
  · omega
theorem RI.le (hW : 0 ≤ W) (r : RI n W A st c) {x : Nat} (hx : x < n) : -1 ≤ c x ∧ c x ≤ n * W := by
  have h1 := r.bnd x hx
  have h2 : 0 ≤ un n c * W := Int.mul_nonneg (un_nonneg n c) hW
  have h3 := r.neg x hx
  omega
theorem RI.lst (g : GOk n W A) (hs : ∀ x, st x → x < n) (r : RI n W A st c) (hd : ∀ x, x < n → 0 ≤ c x → ∀ y e w, (y, e, w) ∈ A x → 0 ≤ c y ∧ c y ≤ c x + w) : LC n A st c := by
  have all : ∀ y l v, Wk A st y l v → 0 ≤ c y ∧ c y ≤ v := by
    intro y l v h
    induction h with
    | nil h => have := r.sta _ (hs _ h) h; omega
    | snoc h1 h2 ih => have := hd _ (Wk.range g hs h1).1 ih.1 _ _ _ h2; omega
  intro x hx
  by_cases q : 0 ≤ c x
  · exact .inl ⟨q, r.wk x hx q, fun l v h => (all x l v h).2⟩
  · exact .inr ⟨r.neg x hx q, fun l v h => q (all x l v h).1⟩
theorem DI.lc {m : Nat → Option Int} {e f : Nat → Int} {r : Nat → Nat} {k id : Nat} (g : GOk n W A) (hs : ∀ x, st x → x < n) (d : DI n W A st id [] c m e f r k) (hm : ∀ x, x < n → m x = none) : LC n A st c := by
  intro x hx
  by_cases q : 0 ≤ c x
  · exact .inl ⟨q, d.fin x hx q⟩
  · exact .inr ⟨d.neg x hx q, fun l v h => q (d.all g hs hm h).1⟩
/-- At first. -/
theorem RI.start (g : GOk n W A) {x0 : Nat} (h0 : x0 < n) (hst : ∀ x, st x ↔ x = x0) (hc : ∀ x, x < n → c x = if x = x0 then 0 else -1) : RI n W A st c := by
  have hW := g.w0
  have hu : un n c = n - 1 := by
    have : un n c = sumN (fun x => if x = x0 then 0 else (fun _ => (1 : Int)) x) n := by
      refine sumN_congr n fun x hx => ?_
      simp only [hc x hx]
      by_cases q : x = x0
      · rw [if_pos q, if_pos q, if_neg (by omega)]
      · rw [if_neg q, if_neg q, if_pos (by omega)]
    have e1 : ∀ n : Nat, sumN (fun _ => (1 : Int)) n = n := by
      intro n
      induction n with
      | zero => rfl
      | succ n ih => rw [sumN, ih]; omega
    rw [this, sumN_upd n h0, e1]
    omega
  refine ⟨fun x hx h => ?_, fun x hx h => ?_, fun x hx h => ?_, fun x hx => ?_⟩
  · rw [hc x hx] at h ⊢
    by_cases q : x = x0
    · rw [if_pos q]; exact ⟨[], .nil ((hst x).2 q)⟩
    · rw [if_neg q] at h; omega
  · rw [hc x hx] at h ⊢
    by_cases q : x = x0
    · rw [if_pos q] at h; omega
    · rw [if_neg q]
  · rw [hc x hx, if_pos ((hst x).1 h)]
  · rw [hc x hx, hu, Int.sub_mul]
    have : (1 : Int) * W = W := Int.one_mul W
    split <;> omega
end
end Go.Gm

set_option linter.unusedVariables false
set_option linter.unusedSimpArgs false
set_option linter.unusedSectionVars false
namespace Go.Gm.A9
open Go Go.Gm
def encR (r : List Int) : List AV := r.map I
/-- A machine that may be: where each state leads, which ones accept. -/
structure DOk (D : List (List Int)) (acc : List Bool) : Prop where
  l0 : 0 < D.length
  l1 : D.length ≤ 2000
  la : acc.length = D.length
  row : ∀ s : Int, 0 ≤ s → s < D.length → (gi D s).length = 5
  to : ∀ s m : Int, 0 ≤ s → s < D.length → 0 ≤ m → m < 5 → 0 ≤ gi (gi D s) m ∧ gi (gi D s) m < D.length
structure COk (es : List E) : Prop where
  c : ∀ e ∈ es, 0 ≤ e.co ∧ e.co ≤ 2147483647
abbrev nx (D : List (List Int)) (s m : Int) : Int := gi (gi D s) m
/-- The states from which one comes to a state, of the first n. -/
def befTo (D : List (List Int)) (t m : Int) (n : Nat) : List Int := ((List.range n).filter fun (i : Nat) => nx D i m == t).map fun (i : Nat) => (i : Int)
abbrev bef (D : List (List Int)) (t m : Int) : List Int := befTo D t m D.length
abbrev Tr := Int × Int × Int
def encT (t : Tr) : List AV := [I t.1, I t.2.1, I t.2.2]
def onL (es : List E) (D : List (List Int)) (v s : Int) : List Tr := (outL es v).map fun k => ((gi es k).to, nx D s (gi es k).md, k)
def backL (es : List E) (D : List (List Int)) (v s : Int) : List Tr := (inL es v).flatMap fun k => (bef D s (gi es k).md).map fun s' => ((gi es k).fr, s', k)
def hopOf (es : List E) (S : Nat) (t : Tr) : Hop := ((t.1 * S + t.2.1).toNat, t.2.2.toNat, (gi es t.2.2).co)
def hopA (es : List E) (S : Nat) (L : Int → Int → List Tr) (x : Nat) : List Hop := (L ((x / S : Nat) : Int) ((x % S : Nat) : Int)).map (hopOf es S)
/-- The joined network and machine. -/
structure GV (h : Heap) (g : AV) (N : Nat) (es : List E) (D : List (List Int)) (acc : List Bool) : Prop where
  ex : ∃ sE a sD sA sB B, At h g [I N, sE, a, sD, sA, sB] ∧ Sl h 4 sE (es.map encE) ∧ AdjV h a N es ∧ Sl h 5 sD (D.map encR) ∧ Sl h 1 sA (acc.map encB) ∧ Sl h 5 sB (B.map id) ∧
    B.length = D.length ∧ ∀ t m : Int, 0 ≤ t → t < D.length → 0 ≤ m → m < 5 → (gi B t).length = 5 ∧ Sl h 1 (gi (gi B t) m) ((bef D t m).map encI)
theorem GV.ext {h h' : Heap} {g : AV} {N : Nat} {es : List E} {D : List (List Int)} {acc : List Bool} (v : GV h g N es D acc) (e : Ext h h') : GV h' g N es D acc := by
  obtain ⟨sE, a, sD, sA, sB, B, h1, h2, h3, h4, h5, h6, h7, h8⟩ := v.ex
  exact ⟨sE, a, sD, sA, sB, B, h1.ext e, h2.ext e, h3.ext e, h4.ext e, h5.ext e, h6.ext e, h7, fun t m t0 t1 m0 m1 => ⟨(h8 t m t0 t1 m0 m1).1, (h8 t m t0 t1 m0 m1).2.ext e⟩⟩
theorem idxA_el {sz : Nat} {h : Heap} {s : AV} {α : Type} [Inhabited α] {enc : α → List AV} {xs : List α} (a : Sl h sz s (xs.map enc)) {i j : Int} (hi0 : 0 ≤ i) (hi : i < xs.length) (h0 : 0 ≤ j) (h1 : j < sz) : ∃ o off g, elP sz s i = .ptr o off (off + sz) g ∧ idxA sz 1 (elP sz s i) (I j) = some (.ptr o (off + j.toNat) (off + j.toNat + 1) g) := by
  rcases a with ⟨rfl, hx⟩ | ⟨o, off, lim, g, c, rfl, _⟩
  · cases xs with
    | nil => simp at hi; omega
    | cons => simp at hx
  · refine ⟨o, off + i.toNat * sz, g, rfl, ?_⟩
    simp only [elP, idxA, I, Nat.mul_one]
    rw [if_pos ⟨h0, h1, by omega⟩]
theorem ld1_hi {h : Heap} {o off hi hi2 g : Nat} (h1 : off < hi) (h2 : off < hi2) : Gm.ld1 h (.ptr o off hi g) = Gm.ld1 h (.ptr o off hi2 g) := by simp [Gm.ld1, h1, h2]
theorem st1_hi {h : Heap} {o off hi hi2 g : Nat} {v : AV} (h1 : off < hi) (h2 : off < hi2) : stN 1 h (.ptr o off hi g) v = stN 1 h (.ptr o off hi2 g) v := by
  simp only [stN, wrc]
  by_cases q : v.cells.length = 1
  · simp [q, show off + 1 ≤ hi by omega, show off + 1 ≤ hi2 by omega]
  · simp [q]
/-- One mode's state. -/
theorem cellA {sz : Nat} {h H : Heap} {s : AV} {α : Type} [Inhabited α] {enc : α → List AV} {xs : List α} (a : Sl h sz s (xs.map enc)) (e : Ext h H) {i j : Int} (hi0 : 0 ≤ i) (hi : i < xs.length) (h0 : 0 ≤ j) (h1 : j < sz) :
    ∃ p, idxA sz 1 (elP sz s i) (I j) = some p ∧ Gm.ld1 H p = some ((enc (gi xs i)).getD j.toNat .undef) ∧ ∀ (H' : Heap) (v : AV), stN 1 H' p v = stN 1 H' (fldP j.toNat (elP sz s i)) v := by
  obtain ⟨o, off, g, k1, k2⟩ := idxA_el a hi0 hi h0 h1
  have := a.ldf j.toNat e hi0 hi (by omega)
  rw [k1, fldP_ptr] at this
  refine ⟨_, k2, ?_, fun H' v => ?_⟩
  · rw [← this]
    exact ld1_hi (by omega) (by omega)
  · rw [k1, fldP_ptr]
    exact st1_hi (by omega) (by omega)
section
variable {h0 h : Heap} {g : AV} {N : Nat} {es : List E} {D : List (List Int)} {acc : List Bool}
theorem id_spec (gv : GV h g N es D acc) (ok : DOk D acc) {v s : Int} (v0 : 0 ≤ v) (v1 : v ≤ 100000) (s0 : 0 ≤ s) (s1 : s ≤ 100000) :
    Tot tab f_product_graph_id [g, .agg [I v, I s]] h fun r h' => r = I (v * D.length + s) ∧ Ext h h' := by
  obtain ⟨sE, a, sD, sA, sB, B, k1, k2, k3, k4, k5, k6, k7, k8⟩ := gv.ex
  refine WP.tot (fun k => (call_product_graph_id k _ _ h).trans (product_graph_id_eq tab k _ _ h)) ?_
  have hl := ok.l1
  have hm0 : 0 ≤ v * (D.length : Int) := Int.mul_nonneg v0 (by omega)
  have hm1 : v * (D.length : Int) ≤ 100000 * 2000 := Int.mul_le_mul v1 (by omega) (by omega) (by omega)
  have hw : IntKind.i64.wrap (v * (D.length : Int)) = v * D.length := wrap_id (by omega) (by omega)
  simp -implicitDefEqProofs (disch := first | assumption | omega | (simp only [gL] <;> omega) | ((repeat (first | exact Ext.refl _ | assumption | apply Ext.app | apply Ext.mk | (refine Ext.setr ?_ (by (first | omega | (simp only [gL] <;> omega))) _))); done) | (simp only [gL, gA, k1.nil, k1.fldA0, k1.fldAf, k1.ldfE, k4.lenG, hw] <;> omega) | fail) only [gB, setAll, partL, fldV, reduceIte, Nat.reduceAdd, Nat.reduceMul, k1.nil, k1.fldA0, k1.fldAf, k1.ldfE, k4.lenG, hw]
  exact WP.ret ⟨rfl, by ((repeat (first | exact Ext.refl _ | assumption | apply Ext.app | apply Ext.mk | (refine Ext.setr ?_ (by (first | omega | (simp only [gL] <;> omega))) _))))⟩
theorem spot_spec (gv : GV h g N es D acc) (ok : DOk D acc) {x : Nat} (hx : x ≤ 200000000) :
    Tot tab f_product_graph_spot [g, I x] h fun r h' => r = .agg [I ((x / D.length : Nat) : Int), I ((x % D.length : Nat) : Int)] ∧ Ext h h' := by
  obtain ⟨sE, a, sD, sA, sB, B, k1, k2, k3, k4, k5, k6, k7, k8⟩ := gv.ex
  refine WP.tot (fun k => (call_product_graph_spot k _ _ h).trans (product_graph_spot_eq tab k _ _ h)) ?_
  have hl := ok.l0
  have hd : x / D.length ≤ x := Nat.div_le_self _ _
  have hw : IntKind.i64.wrap ((x : Int).tdiv (D.length : Int)) = ((x / D.length : Nat) : Int) := by
    rw [← Int.ofNat_tdiv]
    generalize x / D.length = q at hd
    exact wrap_id (by omega) (by omega)
  have hr : (x : Int).tmod (D.length : Int) = ((x % D.length : Nat) : Int) := (Int.ofNat_tmod _ _).symm
  simp -implicitDefEqProofs (disch := first | assumption | omega | (simp only [gL] <;> omega) | ((repeat (first | exact Ext.refl _ | assumption | apply Ext.app | apply Ext.mk | (refine Ext.setr ?_ (by (first | omega | (simp only [gL] <;> omega))) _))); done) | (simp only [gL, gA, k1.nil, k1.fldA0, k1.fldAf, k1.ldfE, k4.lenG, hw, hr] <;> omega) | fail) only [gB, setAll, partL, fldV, reduceIte, Nat.reduceAdd, Nat.reduceMul, k1.nil, k1.fldA0, k1.fldAf, k1.ldfE, k4.lenG, hw, hr]
  exact WP.ret ⟨rfl, by ((repeat (first | exact Ext.refl _ | assumption | apply Ext.app | apply Ext.mk | (refine Ext.setr ?_ (by (first | omega | (simp only [gL] <;> omega))) _))))⟩
end
end Go.Gm.A9

set_option linter.unusedVariables false
set_option linter.unusedSimpArgs false
set_option linter.unusedSectionVars false
namespace Go.Gm.A9
open Go Go.Gm
section
variable {h0 h : Heap} {g : AV} {N : Nat} {es : List E} {D : List (List Int)} {acc : List Bool}
theorem on_l1 (gv : GV h0 g N es D acc) (ok : DOk D acc) (no : NetOk N es) {v s : Int} (s0 : 0 ≤ s) (s1 : s < D.length) {ks : List Int} (hks : ∀ k ∈ ks, 0 ≤ k ∧ k < es.length) (hlk : ks.length ≤ 100000) {x t15 : AV} (hx : At h0 x [I v, I s]) (ht : Sl h0 1 t15 (ks.map encI)) :
    ∀ (d n : Nat) (h : Heap) (out : AV), n + d = ks.length → Ext h0 h → Gr h0.length h.length h 3 out (((ks.take n).map fun k => (((gi es k).to, nx D s (gi es k).md, k) : Tr)).map encT) →
      WP (fun p : Nat × Nat => product_graph_on_l1 tab p.1 p.2 g x out t15 (I ks.length) (I n) h) fun r h' => Ext h0 h' ∧ Gr h0.length h'.length h' 3 r ((ks.map fun k => (((gi es k).to, nx D s (gi es k).md, k) : Tr)).map encT) := by
  obtain ⟨sE, a, sD, sA, sB, B, k1, k2, k3, k4, k5, k6, k7, k8⟩ := gv.ex
  intro d
  induction d with
  | zero =>
    intro n h out h1 e g1
    refine WP.rnd (fun i j => product_graph_on_l1_eq tab i j g x out t15 (I ks.length) (I n) h) ?_
    rw [List.take_of_length_le (by omega)] at g1
    simp -implicitDefEqProofs (disch := first | assumption | omega | (simp only [gL] <;> omega) | ((repeat (first | exact Ext.refl _ | assumption | apply Ext.app | apply Ext.mk | (refine Ext.setr ?_ (by (first | omega | (simp only [gL] <;> omega))) _))); done) | (simp only [gL, gA] <;> omega) | fail) only [gB, setAll, partL, fldV, reduceIte, Nat.reduceAdd, Nat.reduceMul]
    exact WP.ret ⟨e, g1⟩
  | succ d ih =>
    intro n h out h1 e g1
    refine WP.rnd (fun i j => product_graph_on_l1_eq tab i j g x out t15 (I ks.length) (I n) h) ?_
    obtain ⟨k, hk⟩ : ∃ k, gi ks n = k := ⟨_, rfl⟩
    have hkr := hks k (hk ▸ gi_mem (by omega) (by omega))
    have he := no.edge _ (gi_mem (xs := es) hkr.1 hkr.2)
    obtain ⟨ed, hed⟩ : ∃ ed, gi es k = ed := ⟨_, rfl⟩
    rw [hed] at he
    have htk : ks.take (n + 1) = ks.take n ++ [k] := by
      rw [List.take_add_one, show ks[n]? = some k by
        have := gi_some (xs := ks) (i := (n : Int)) (by omega) (by omega)
        rw [hk] at this; simpa using this]
      rfl
    have hlo := e.len
    have hl2 : ((h ++ [AObj.cells ⟨[I 0, I 0, I 0, I 0], 0, 0, false⟩]).set h.length (.cells ⟨[I ed.fr, I ed.to, I ed.md, I ed.co], 0, 0, false⟩)).length = h.length + 1 := by simp
    obtain ⟨h2, hh2⟩ : ∃ h2, h2 = ((h ++ [AObj.cells ⟨[I 0, I 0, I 0, I 0], 0, 0, false⟩]).set h.length (.cells ⟨[I ed.fr, I ed.to, I ed.md, I ed.co], 0, 0, false⟩)) := ⟨_, rfl⟩
    have e2 : Ext h h2 := by rw [hh2]; ((repeat (first | exact Ext.refl _ | assumption | apply Ext.app | apply Ext.mk | (refine Ext.setr ?_ (by (first | omega | (simp only [gL] <;> omega))) _))))
    have r2 : h2[h.length]? = some (.cells ⟨[I ed.fr, I ed.to, I ed.md, I ed.co], 0, 0, false⟩) := by rw [hh2]; exact get_set_eq (by simp)
    rw [← hh2] at hl2
    have e02 := e.trans e2
    obtain ⟨p, p1, p2, -⟩ := cellA (H := h2) k4 e02 s0 s1 he.2.2.2.2.1 he.2.2.2.2.2
    rw [show (encR (gi D s)).getD ed.md.toNat .undef = I (nx D s ed.md) by
      have hr := ok.row s s0 s1
      simp only [encR, nx, List.getD_eq_getElem?_getD, List.getElem?_map]
      have := gi_some (xs := gi D s) he.2.2.2.2.1 (by omega)
      rw [this]; rfl] at p2
    obtain ⟨s', h', q1, q2, q3⟩ := Gr.append1 (bytes := 24) (g1.ext e2) (v := [I ed.to, I (nx D s ed.md), I k]) rfl (by omega) (by omega) (by simp; omega) (by omega) (by omega)
    rw [mkObj_eq] at q1
    simp -implicitDefEqProofs (disch := first | assumption | omega | (simp only [gL] <;> omega) | ((repeat (first | exact Ext.refl _ | assumption | apply Ext.app | apply Ext.mk | (refine Ext.setr ?_ (by (first | omega | (simp only [gL] <;> omega))) _))); done) | (simp only [gL, gA, k1.nil, k1.fldA0, k1.fldAf, k1.ldfE, ht.idxG, ht.ld0, hk, encI, k2.idxG, k2.ldN, hed, encE] <;> omega) | fail) only [gB, setAll, partL, fldV, reduceIte, Nat.reduceAdd, Nat.reduceMul, k1.nil, k1.fldA0, k1.fldAf, k1.ldfE, ht.idxG, ht.ld0, hk, encI, k2.idxG, k2.ldN, hed, encE]
    rw [show AV.int .i64 0 = I 0 from rfl, ← hh2]
    simp -implicitDefEqProofs (disch := first | assumption | omega | (simp only [gL] <;> omega) | ((repeat (first | exact Ext.refl _ | assumption | apply Ext.app | apply Ext.mk | (refine Ext.setr ?_ (by (first | omega | (simp only [gL] <;> omega))) _))); done) | (simp only [gL, gA, k1.nil, k1.fldA0, k1.fldAf, k1.ldfE, r2, hx.fldA0, hx.ldfE, k4.idxG, p1, p2, q1] <;> omega) | fail) only [gB, setAll, partL, fldV, reduceIte, Nat.reduceAdd, Nat.reduceMul, k1.nil, k1.fldA0, k1.fldAf, k1.ldfE, r2, hx.fldA0, hx.ldfE, k4.idxG, p1, p2, q1]
    refine ih (n + 1) h' s' (by omega) (q3.ext e02 (by omega)) ((q2.mono (Nat.le_refl _) (Nat.le_refl _)).cong ?_)
    rw [htk, List.map_append, List.map_append]
    simp [encT, hed]
theorem on_spec (gv : GV h g N es D acc) (ok : DOk D acc) (no : NetOk N es) {v s : Int} (s0 : 0 ≤ s) (s1 : s < D.length) :
    Tot tab f_product_graph_on [g, .agg [I v, I s]] h fun r h' => Ext h h' ∧ Gr h.length h'.length h' 3 r ((onL es D v s).map encT) := by
  obtain ⟨sE, a, sD, sA, sB, B, k1, k2, k3, k4, k5, k6, k7, k8⟩ := gv.ex
  refine WP.tot (fun k => (call_product_graph_on k _ _ h).trans (product_graph_on_eq tab k _ _ h)) ?_
  have e1 : Ext h (h ++ [AObj.cells ⟨[I v, I s], 0, 0, false⟩]) := by ((repeat (first | exact Ext.refl _ | assumption | apply Ext.app | apply Ext.mk | (refine Ext.setr ?_ (by (first | omega | (simp only [gL] <;> omega))) _))))
  simp -implicitDefEqProofs (disch := first | assumption | omega | (simp only [gL] <;> omega) | ((repeat (first | exact Ext.refl _ | assumption | apply Ext.app | apply Ext.mk | (refine Ext.setr ?_ (by (first | omega | (simp only [gL] <;> omega))) _))); done) | (simp only [gL, gA, k1.nil, k1.fldA0, k1.fldAf, k1.ldfE] <;> omega) | fail) only [gB, setAll, partL, fldV, reduceIte, Nat.reduceAdd, Nat.reduceMul, k1.nil, k1.fldA0, k1.fldAf, k1.ldfE]
  refine WP.call (out_spec no (k3.ext e1)) ?_
  rintro r h2 ⟨e2, g2⟩
  have hl2 : (outL es v).length ≤ 100000 := Nat.le_trans (idxTo_len ..) no.len
  have hl := e2.len
  simp only [List.length_append, List.length_cons, List.length_nil] at hl
  have hx : At h2 (.ptr h.length 0 2 0) [I v, I s] := At.row (wg := 0) (g := 0) (ro := false) (e2.get (by simp)) (Nat.le_refl _) rfl
  simp -implicitDefEqProofs (disch := first | assumption | omega | (simp only [gL] <;> omega) | ((repeat (first | exact Ext.refl _ | assumption | apply Ext.app | apply Ext.mk | (refine Ext.setr ?_ (by (first | omega | (simp only [gL] <;> omega))) _))); done) | (simp only [gL, gA, g2.sl.lenG] <;> omega) | fail) only [gB, setAll, partL, fldV, reduceIte, Nat.reduceAdd, Nat.reduceMul, g2.sl.lenG]
  refine WP.ent ((on_l1 (gv.ext (e1.trans e2)) ok no s0 s1 (ks := outL es v) (fun k hk => ⟨(idxTo_mem.1 hk).1, (idxTo_mem.1 hk).2.1⟩) hl2 hx g2.sl (outL es v).length 0 h2 .nils (by omega) (Ext.refl _) (Gr.nil ..)).mono ?_) fun i => rfl
  rintro r h3 ⟨e3, g3⟩
  exact ⟨(e1.trans e2).trans e3, g3.mono (by omega) (Nat.le_refl _)⟩
end
end Go.Gm.A9

set_option linter.unusedVariables false
set_option linter.unusedSimpArgs false
set_option linter.unusedSectionVars false
namespace Go.Gm.A9
open Go Go.Gm
theorem gset {α : Type} [Inhabited α] {xs : List α} {y : Nat} (hy : y < xs.length) (v : α) : (fun x : Nat => gi (xs.set y v) (x : Int)) = fun x : Nat => if x = y then v else gi xs (x : Int) := by
  funext x
  have := gi_set' (xs := xs) (i := (y : Int)) (j := (x : Int)) (by omega) (by omega) (by omega) v
  rw [show (y : Int).toNat = y by omega] at this
  rw [this]
  by_cases q : x = y
  · rw [if_pos q, if_pos (by omega)]
  · rw [if_neg q, if_neg (by omega)]
abbrev gf {α : Type} [Inhabited α] (xs : List α) : Nat → α := fun x : Nat => gi xs (x : Int)
structure SW (W : Nat → Prop) (h : Heap) (os : Nat) (g fh q sc se sf : AV) (oc oe ov : Nat) (n : Nat) (cs ds fs : List Int) (M : List (Option Int)) (ls : Int) : Prop where
  row : h[os]? = some (.cells ⟨[g, fh, q, sc, se, sf, I ls], 0, 0, false⟩)
  gc : Gr oc (oc + 1) h 1 sc (cs.map encI)
  ge : Gr oe (oe + 1) h 1 se (ds.map encI)
  gf : Gr ov (ov + 1) h 1 sf (fs.map encI)
  lc : cs.length = n
  le : ds.length = n
  lf : fs.length = n
  o1 : oc < oe
  o2 : oe < ov
  o3 : ov < os
  wc : W oc
  we : W oe
  wv : W ov
  ws : W os
  qv : SQ (fun o => W o ∧ o ≠ oc ∧ o ≠ oe ∧ o ≠ ov ∧ o ≠ os) h q n M
section
variable {W : Nat → Prop} {h h' : Heap} {os oc oe ov n : Nat} {g fh q sc se sf : AV} {cs ds fs : List Int} {M : List (Option Int)} {ls : Int}
theorem SW.os_lt (w : SW W h os g fh q sc se sf oc oe ov n cs ds fs M ls) : os < h.length := (List.getElem?_eq_some_iff.1 w.row).1
theorem SW.frs (w : SW W h os g fh q sc se sf oc oe ov n cs ds fs M ls) {D : Nat → Prop} (f : FrS D h h') (hd : ∀ o, o < h.length → W o → ¬ D o) : SW W h' os g fh q sc se sf oc oe ov n cs ds fs M ls := by
  have h1 := w.os_lt
  have := w.o1
  have := w.o2
  have := w.o3
  refine ⟨by rw [f.get (hd _ h1 w.ws) h1]; exact w.row, w.gc.frs f fun o q1 q2 => ?_, w.ge.frs f fun o q1 q2 => ?_, w.gf.frs f fun o q1 q2 => ?_, w.lc, w.le, w.lf, w.o1, w.o2, w.o3, w.wc, w.we, w.wv, w.ws, w.qv.frs f fun o q1 q2 => hd o q1 q2.1⟩
  · rw [show o = oc by omega]; exact hd _ (by omega) w.wc
  · rw [show o = oe by omega]; exact hd _ (by omega) w.we
  · rw [show o = ov by omega]; exact hd _ (by omega) w.wv
theorem SW.ext (w : SW W h os g fh q sc se sf oc oe ov n cs ds fs M ls) (e : Ext h h') : SW W h' os g fh q sc se sf oc oe ov n cs ds fs M ls := w.frs (D := fun _ => False) (FrS.ofExt e) fun _ _ _ z => z
theorem SW.mono (w : SW W h os g fh q sc se sf oc oe ov n cs ds fs M ls) {W' : Nat → Prop} (hw : ∀ o, o < h.length → W o → W' o) : SW W' h os g fh q sc se sf oc oe ov n cs ds fs M ls := by
  have h1 := w.os_lt
  have := w.o1
  have := w.o2
  have := w.o3
  refine ⟨w.row, w.gc, w.ge, w.gf, w.lc, w.le, w.lf, w.o1, w.o2, w.o3, hw _ (by omega) w.wc, hw _ (by omega) w.we, hw _ (by omega) w.wv, hw _ h1 w.ws, ?_⟩
  obtain ⟨Wq, q1, q2⟩ := w.qv
  exact ⟨Wq, fun o z => ⟨⟨hw o (q1 o z).2 (q1 o z).1.1, (q1 o z).1.2⟩, (q1 o z).2⟩, q2⟩
/-- One number of a search's rows is set. -/
theorem SW.setC (w : SW W h os g fh q sc se sf oc oe ov n cs ds fs M ls) {y : Nat} (hy : y < n) (v : Int) :
    ∃ h', stN 1 h (elP 1 sc y) (I v) = some h' ∧ SW W h' os g fh q sc se sf oc oe ov n (cs.set y v) ds fs M ls ∧ FrS (fun o => o = oc) h h' := by
  have := w.o1
  have := w.o2
  have := w.o3
  obtain ⟨h', k1, k2, k3, k4⟩ := w.gc.write0 (i := (y : Int)) (v := I v) (by omega) (by rw [List.length_map, w.lc]; omega) rfl rfl
  have f : FrS (fun o => o = oc) h h' := k3.s.mono fun o z1 z2 => by omega
  refine ⟨h', k1, ⟨by rw [f.get (by omega) w.os_lt]; exact w.row, k2.cong ?_, w.ge.frs f fun o z1 z2 => by omega, w.gf.frs f fun o z1 z2 => by omega, by rw [List.length_set]; exact w.lc, w.le, w.lf, w.o1, w.o2, w.o3, w.wc, w.we, w.wv, w.ws, w.qv.frs f fun o z1 z2 => z2.2.1⟩, f⟩
  rw [List.map_set]; simp [encI]; rfl
theorem SW.setE (w : SW W h os g fh q sc se sf oc oe ov n cs ds fs M ls) {y : Nat} (hy : y < n) (v : Int) :
    ∃ h', stN 1 h (elP 1 se y) (I v) = some h' ∧ SW W h' os g fh q sc se sf oc oe ov n cs (ds.set y v) fs M ls ∧ FrS (fun o => o = oe) h h' := by
  have := w.o1
  have := w.o2
  have := w.o3
  obtain ⟨h', k1, k2, k3, k4⟩ := w.ge.write0 (i := (y : Int)) (v := I v) (by omega) (by rw [List.length_map, w.le]; omega) rfl rfl
  have f : FrS (fun o => o = oe) h h' := k3.s.mono fun o z1 z2 => by omega
  refine ⟨h', k1, ⟨by rw [f.get (by omega) w.os_lt]; exact w.row, w.gc.frs f fun o z1 z2 => by omega, k2.cong ?_, w.gf.frs f fun o z1 z2 => by omega, w.lc, by rw [List.length_set]; exact w.le, w.lf, w.o1, w.o2, w.o3, w.wc, w.we, w.wv, w.ws, w.qv.frs f fun o z1 z2 => z2.2.2.1⟩, f⟩
  rw [List.map_set]; simp [encI]; rfl
theorem SW.setF (w : SW W h os g fh q sc se sf oc oe ov n cs ds fs M ls) {y : Nat} (hy : y < n) (v : Int) :
    ∃ h', stN 1 h (elP 1 sf y) (I v) = some h' ∧ SW W h' os g fh q sc se sf oc oe ov n cs ds (fs.set y v) M ls ∧ FrS (fun o => o = ov) h h' := by
  have := w.o1
  have := w.o2
  have := w.o3
  obtain ⟨h', k1, k2, k3, k4⟩ := w.gf.write0 (i := (y : Int)) (v := I v) (by omega) (by rw [List.length_map, w.lf]; omega) rfl rfl
  have f : FrS (fun o => o = ov) h h' := k3.s.mono fun o z1 z2 => by omega
  refine ⟨h', k1, ⟨by rw [f.get (by omega) w.os_lt]; exact w.row, w.gc.frs f fun o z1 z2 => by omega, w.ge.frs f fun o z1 z2 => by omega, k2.cong ?_, w.lc, w.le, by rw [List.length_set]; exact w.lf, w.o1, w.o2, w.o3, w.wc, w.we, w.wv, w.ws, w.qv.frs f fun o z1 z2 => z2.2.2.2.1⟩, f⟩
  rw [List.map_set]; simp [encI]; rfl
theorem SW.setL (w : SW W h os g fh q sc se sf oc oe ov n cs ds fs M ls) (v : Int) :
    SW W (h.set os (.cells ⟨[g, fh, q, sc, se, sf, I v], 0, 0, false⟩)) os g fh q sc se sf oc oe ov n cs ds fs M v ∧ FrS (fun o => o = os) h (h.set os (.cells ⟨[g, fh, q, sc, se, sf, I v], 0, 0, false⟩)) := by
  have := w.o1
  have := w.o2
  have := w.o3
  have f : FrS (fun o => o = os) h (h.set os (.cells ⟨[g, fh, q, sc, se, sf, I v], 0, 0, false⟩)) := ⟨by simp, fun p p1 p2 => get_set_ne fun z => p1 z.symm⟩
  exact ⟨⟨get_set_eq w.os_lt, w.gc.frs f fun o z1 z2 => by omega, w.ge.frs f fun o z1 z2 => by omega, w.gf.frs f fun o z1 z2 => by omega, w.lc, w.le, w.lf, w.o1, w.o2, w.o3, w.wc, w.we, w.wv, w.ws, w.qv.frs f fun o z1 z2 => z2.2.2.2.2⟩, f⟩
theorem SQ.wide {P P' : Nat → Prop} {h : Heap} {q : AV} {N : Nat} {M : List (Option Int)} (v : SQ P h q N M) (hp : ∀ o, o < h.length → P o → P' o) : SQ P' h q N M := by
  obtain ⟨W, h1, h2⟩ := v
  exact ⟨W, fun o z => ⟨hp o (h1 o z).2 (h1 o z).1, (h1 o z).2⟩, h2⟩
/-- The queue alone is another one. -/
theorem SW.q' (w : SW W h os g fh q sc se sf oc oe ov n cs ds fs M ls) {D : Nat → Prop} (f : FrS D h h') (hd : ∀ o, D o → o ≠ oc ∧ o ≠ oe ∧ o ≠ ov ∧ o ≠ os) {M' : List (Option Int)} (v : SQ (fun o => W o ∧ o ≠ oc ∧ o ≠ oe ∧ o ≠ ov ∧ o ≠ os) h' q n M') : SW W h' os g fh q sc se sf oc oe ov n cs ds fs M' ls := by
  refine ⟨by rw [f.get (fun z => (hd _ z).2.2.2 rfl) w.os_lt]; exact w.row, w.gc.frs f fun o q1 q2 z => (hd o z).1 (by omega), w.ge.frs f fun o q1 q2 z => (hd o z).2.1 (by omega), w.gf.frs f fun o q1 q2 z => (hd o z).2.2.1 (by omega), w.lc, w.le, w.lf, w.o1, w.o2, w.o3, w.wc, w.we, w.wv, w.ws, v⟩
end
end Go.Gm.A9

