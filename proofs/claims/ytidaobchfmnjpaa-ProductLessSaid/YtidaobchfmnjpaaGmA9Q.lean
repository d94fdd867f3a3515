/- A part of the proof (GmA9Q): an abstract machine, what it does, and what the functions of the program come to on it. -/
import Derived.Test.YtidaobchfmnjpaaGmA9P
set_option linter.unusedVariables false
set_option linter.unusedSimpArgs false
set_option linter.unusedSectionVars false
namespace Go.Gm.A9
open Go Go.Gm

structure E where
  fr : Int
  to : Int
  md : Int
  co : Int
  deriving Inhabited
def encE (e : E) : List AV := [I e.fr, I e.to, I e.md, I e.co]
def encI (n : Int) : List AV := [I n]
def encB (b : Bool) : List AV := [.bool b]
def encP (p : AV × AV) : List AV := [p.1, p.2]

/-- A network that may be. -/
structure NetOk (N : Int) (es : List E) : Prop where
  n0 : 0 ≤ N
  n1 : N ≤ 100000
  len : es.length ≤ 100000
  edge : ∀ e ∈ es, 0 ≤ e.fr ∧ e.fr < N ∧ 0 ≤ e.to ∧ e.to < N ∧ 0 ≤ e.md ∧ e.md < 5

def idxTo (p : E → Bool) (es : List E) (n : Nat) : List Int := ((List.range n).filter fun (i : Nat) => p (gi es i)).map fun (i : Nat) => (i : Int)
theorem idxTo_succ (p : E → Bool) (es : List E) (n : Nat) : idxTo p es (n + 1) = idxTo p es n ++ if p (gi es n) then [(n : Int)] else [] := by
  simp only [idxTo, List.range_succ, List.filter_append, List.map_append]
  congr 1
  by_cases h : p (gi es n) <;> simp [h]
theorem idxTo_len (p : E → Bool) (es : List E) (n : Nat) : (idxTo p es n).length ≤ n := by
  simp only [idxTo, List.length_map]
  exact Nat.le_trans (List.length_filter_le ..) (by simp)
theorem idxTo_mem {p : E → Bool} {es : List E} {n : Nat} {k : Int} : k ∈ idxTo p es n ↔ 0 ≤ k ∧ k < n ∧ p (gi es k) = true := by
  simp only [idxTo, List.mem_map, List.mem_filter, List.mem_range]
  constructor
  · rintro ⟨a, ⟨h1, h2⟩, rfl⟩
    exact ⟨by omega, by omega, h2⟩
  · rintro ⟨h1, h2, h3⟩
    exact ⟨k.toNat, ⟨by omega, by rw [show ((k.toNat : Nat) : Int) = k by omega]; exact h3⟩, by omega⟩
def outL (es : List E) (v : Int) : List Int := idxTo (fun e => e.fr == v) es es.length
def inL (es : List E) (v : Int) : List Int := idxTo (fun e => e.to == v) es es.length
theorem outL_out {N : Int} {es : List E} (ok : NetOk N es) {v : Int} (hv : ¬ (0 ≤ v ∧ v < N)) : outL es v = [] := by
  rw [List.eq_nil_iff_forall_not_mem]
  intro k hk
  rw [outL, idxTo_mem] at hk
  have := ok.edge _ (gi_mem hk.1 hk.2.1)
  have h3 := hk.2.2
  simp only [beq_iff_eq] at h3
  omega
theorem inL_out {N : Int} {es : List E} (ok : NetOk N es) {v : Int} (hv : ¬ (0 ≤ v ∧ v < N)) : inL es v = [] := by
  rw [List.eq_nil_iff_forall_not_mem]
  intro k hk
  rw [inL, idxTo_mem] at hk
  have := ok.edge _ (gi_mem hk.1 hk.2.1)
  have h3 := hk.2.2
  simp only [beq_iff_eq] at h3
  omega

/-- The network by its vertices. -/
structure AdjW (h : Heap) (a : AV) (N : Int) (es : List E) (s so si : AV) (O J : List (AV × AV)) : Prop where
  pt : At h a [I N, s, so, si]
  ed : Sl h 4 s (es.map encE)
  so : Sl h 2 so (O.map encP)
  si : Sl h 2 si (J.map encP)
  lo : (O.length : Int) = N
  lj : (J.length : Int) = N
  oe : ∀ v, 0 ≤ v → v < N → Sl h 1 (gi O v).1 ((outL es v).map encI)
  oo : ∀ v, 0 ≤ v → v < N → Sl h 1 (gi O v).2 (((outL es v).map fun k => (gi es k).to).map encI)
  ie : ∀ v, 0 ≤ v → v < N → Sl h 1 (gi J v).1 ((inL es v).map encI)
  io : ∀ v, 0 ≤ v → v < N → Sl h 1 (gi J v).2 (((inL es v).map fun k => (gi es k).fr).map encI)
def AdjV (h : Heap) (a : AV) (N : Int) (es : List E) : Prop := ∃ s so si O J, AdjW h a N es s so si O J
theorem AdjW.ext {h h' : Heap} {a : AV} {N : Int} {es : List E} {s so si : AV} {O J : List (AV × AV)} (w : AdjW h a N es s so si O J) (e : Ext h h') : AdjW h' a N es s so si O J :=
  ⟨w.pt.ext e, w.ed.ext e, w.so.ext e, w.si.ext e, w.lo, w.lj, fun v h0 h1 => (w.oe v h0 h1).ext e, fun v h0 h1 => (w.oo v h0 h1).ext e, fun v h0 h1 => (w.ie v h0 h1).ext e, fun v h0 h1 => (w.io v h0 h1).ext e⟩
theorem AdjV.ext {h h' : Heap} {a : AV} {N : Int} {es : List E} (w : AdjV h a N es) (e : Ext h h') : AdjV h' a N es := by
  obtain ⟨s, so, si, O, J, w⟩ := w
  exact ⟨s, so, si, O, J, w.ext e⟩

theorem is_spec {h : Heap} {a s so si : AV} {N v : Int} (ha : At h a [I N, s, so, si]) {O : List (AV × AV)} (hO : Sl h 2 so (O.map encP)) :
    Tot tab f_adj_Adj_is [a, I v] h fun r h' => r = .bool (decide (0 ≤ v ∧ v < O.length)) ∧ h = h' := by
  refine WP.tot (fun k => (call_adj_Adj_is k _ _ h).trans (adj_Adj_is_eq tab k _ _ h)) ?_
  by_cases h0 : 0 ≤ v
  · by_cases h1 : v < O.length
    · simp -implicitDefEqProofs (disch := first | assumption | omega | (simp only [gL] <;> omega) | ((repeat (first | exact Ext.refl _ | assumption | apply Ext.app | apply Ext.mk | (refine Ext.setr ?_ (by (first | omega | (simp only [gL] <;> omega))) _))); done) | (simp only [gL, gA, ha.nil, ha.fldA0, ha.ldfE, hO.lenG] <;> omega) | fail) only [gB, setAll, partL, fldV, reduceIte, Nat.reduceAdd, Nat.reduceMul, ha.nil, ha.fldA0, ha.ldfE, hO.lenG]
      exact WP.ret ⟨by simp [h0, h1], rfl⟩
    · simp -implicitDefEqProofs (disch := first | assumption | omega | (simp only [gL] <;> omega) | ((repeat (first | exact Ext.refl _ | assumption | apply Ext.app | apply Ext.mk | (refine Ext.setr ?_ (by (first | omega | (simp only [gL] <;> omega))) _))); done) | (simp only [gL, gA, ha.nil, ha.fldA0, ha.ldfE, hO.lenG] <;> omega) | fail) only [gB, setAll, partL, fldV, reduceIte, Nat.reduceAdd, Nat.reduceMul, ha.nil, ha.fldA0, ha.ldfE, hO.lenG]
      exact WP.ret ⟨by simp [h0, h1], rfl⟩
  · simp -implicitDefEqProofs (disch := first | assumption | omega | (simp only [gL] <;> omega) | ((repeat (first | exact Ext.refl _ | assumption | apply Ext.app | apply Ext.mk | (refine Ext.setr ?_ (by (first | omega | (simp only [gL] <;> omega))) _))); done) | (simp only [gL, gA] <;> omega) | fail) only [gB, setAll, partL, fldV, reduceIte, Nat.reduceAdd, Nat.reduceMul]
    exact WP.ret ⟨by simp [h0], rfl⟩

theorem clone_spec {h : Heap} {s : AV} {xs : List (List AV)} (hs : Sl h 1 s xs) (hl : xs.length ≤ 10000000) :
    Tot tab f_slices_Clone_int [s] h fun r h' => Ext h h' ∧ Gr h.length h'.length h' 1 r xs := by
  refine WP.tot (fun k => (call_slices_Clone_int k _ h).trans (slices_Clone_int_eq tab k _ h)) ?_
  have hs' := hs
  rcases hs with ⟨rfl, rfl⟩ | ⟨o, off, lim, g, c, rfl, _⟩
  · simp -implicitDefEqProofs (disch := first | assumption | omega | (simp only [gL] <;> omega) | ((repeat (first | exact Ext.refl _ | assumption | apply Ext.app | apply Ext.mk | (refine Ext.setr ?_ (by (first | omega | (simp only [gL] <;> omega))) _))); done) | (simp only [gL, gA] <;> omega) | fail) only [gB, setAll, partL, fldV, reduceIte, Nat.reduceAdd, Nat.reduceMul]
    exact WP.ret ⟨Ext.refl _, Gr.nil ..⟩
  · obtain ⟨s', h', h1, h2, h3⟩ := clone_i (bytes := 8) hs' (by omega) (by omega) (by omega)
    rw [mkObj_eq] at h1
    simp -implicitDefEqProofs (disch := first | assumption | omega | (simp only [gL] <;> omega) | ((repeat (first | exact Ext.refl _ | assumption | apply Ext.app | apply Ext.mk | (refine Ext.setr ?_ (by (first | omega | (simp only [gL] <;> omega))) _))); done) | (simp only [gL, gA, h1] <;> omega) | fail) only [gB, setAll, partL, fldV, reduceIte, Nat.reduceAdd, Nat.reduceMul, h1]
    exact WP.ret ⟨h3, h2⟩
theorem cloneE_spec {h : Heap} {s : AV} {xs : List (List AV)} (hs : Sl h 4 s xs) (hl : xs.length ≤ 10000000) :
    Tot tab f_slices_Clone_api_Edge [s] h fun r h' => Ext h h' ∧ Gr h.length h'.length h' 4 r xs := by
  refine WP.tot (fun k => (call_slices_Clone_api_Edge k _ h).trans (slices_Clone_api_Edge_eq tab k _ h)) ?_
  have hs' := hs
  rcases hs with ⟨rfl, rfl⟩ | ⟨o, off, lim, g, c, rfl, _⟩
  · simp -implicitDefEqProofs (disch := first | assumption | omega | (simp only [gL] <;> omega) | ((repeat (first | exact Ext.refl _ | assumption | apply Ext.app | apply Ext.mk | (refine Ext.setr ?_ (by (first | omega | (simp only [gL] <;> omega))) _))); done) | (simp only [gL, gA] <;> omega) | fail) only [gB, setAll, partL, fldV, reduceIte, Nat.reduceAdd, Nat.reduceMul]
    exact WP.ret ⟨Ext.refl _, Gr.nil ..⟩
  · obtain ⟨s', h', h1, h2, h3⟩ := clone_i (bytes := 32) hs' (by omega) (by omega) (by omega)
    rw [mkObj_eq] at h1
    simp -implicitDefEqProofs (disch := first | assumption | omega | (simp only [gL] <;> omega) | ((repeat (first | exact Ext.refl _ | assumption | apply Ext.app | apply Ext.mk | (refine Ext.setr ?_ (by (first | omega | (simp only [gL] <;> omega))) _))); done) | (simp only [gL, gA, h1] <;> omega) | fail) only [gB, setAll, partL, fldV, reduceIte, Nat.reduceAdd, Nat.reduceMul, h1]
    exact WP.ret ⟨h3, h2⟩
theorem list_spec {h : Heap} {s1 s2 : AV} {xs : List (List AV)} (hs : Sl h 1 s1 xs) (h2 : s2.one = true) (hl : xs.length ≤ 10000000) :
    Tot tab f_adj_ends_list [.agg [s1, s2]] h fun r h' => Ext h h' ∧ Gr h.length h'.length h' 1 r xs := by
  refine WP.tot (fun k => (call_adj_ends_list k _ h).trans (adj_ends_list_eq tab k _ h)) ?_
  have e : Ext h (mkObj h [s1, s2]) := Ext.push h _
  obtain ⟨s', h3, h4⟩ := (hs.ext e).cut
  rw [mkObj_eq] at h4 e
  simp -implicitDefEqProofs (disch := first | assumption | omega | (simp only [gL] <;> omega) | ((repeat (first | exact Ext.refl _ | assumption | apply Ext.app | apply Ext.mk | (refine Ext.setr ?_ (by (first | omega | (simp only [gL] <;> omega))) _))); done) | (simp only [gL, gA, hs.one, h2, hs.len, h3] <;> omega) | fail) only [gB, setAll, partL, fldV, reduceIte, Nat.reduceAdd, Nat.reduceMul, hs.one, h2, hs.len, h3]
  refine WP.call (clone_spec h4 hl) ?_
  rintro r h' ⟨e1, g1⟩
  exact WP.ret ⟨e.trans e1, g1.mono (Ext.len e) (Nat.le_refl _)⟩
theorem side_spec {h : Heap} {a : AV} {N v : Int} {es : List E} {s so si : AV} {O J : List (AV × AV)} (w : AdjW h a N es s so si O J) {l : AV} {L : List (AV × AV)} (hl : Sl h 2 l (L.map encP)) (hL : (L.length : Int) = N)
    (h1 : ∀ v, 0 ≤ v → v < N → (gi L v).1.one = true ∧ (gi L v).2.one = true) :
    Tot tab f_adj_Adj_side [a, l, I v] h fun r h' => Ext h h' ∧ r = if 0 ≤ v ∧ v < N then .agg [(gi L v).1, (gi L v).2] else .agg [.nils, .nils] := by
  refine WP.tot (fun k => (call_adj_Adj_side k _ _ _ h).trans (adj_Adj_side_eq tab k _ _ _ h)) ?_
  simp -implicitDefEqProofs (disch := first | assumption | omega | (simp only [gL] <;> omega) | ((repeat (first | exact Ext.refl _ | assumption | apply Ext.app | apply Ext.mk | (refine Ext.setr ?_ (by (first | omega | (simp only [gL] <;> omega))) _))); done) | (simp only [gL, gA] <;> omega) | fail) only [gB, setAll, partL, fldV, reduceIte, Nat.reduceAdd, Nat.reduceMul]
  have e : Ext h (mkObj h [.nils, .nils]) := Ext.push h _
  rw [mkObj_eq] at e
  refine WP.call (is_spec (w.pt.ext e) (w.so.ext e)) ?_
  rintro _ _ ⟨rfl, rfl⟩
  have hlo := w.lo
  by_cases hv : 0 ≤ v ∧ v < N
  · rw [if_pos hv]
    obtain ⟨k1, k2⟩ := h1 v hv.1 hv.2
    simp -implicitDefEqProofs (disch := first | assumption | omega | (simp only [gL] <;> omega) | ((repeat (first | exact Ext.refl _ | assumption | apply Ext.app | apply Ext.mk | (refine Ext.setr ?_ (by (first | omega | (simp only [gL] <;> omega))) _))); done) | (simp only [gL, gA, show decide (0 ≤ v ∧ v < (O.length : Int)) = true from decide_eq_true (by omega), hl.idxG, hl.ldN, encP, k1, k2] <;> omega) | fail) only [gB, setAll, partL, fldV, reduceIte, Nat.reduceAdd, Nat.reduceMul, show decide (0 ≤ v ∧ v < (O.length : Int)) = true from decide_eq_true (by omega), hl.idxG, hl.ldN, encP, k1, k2]
    exact WP.ret ⟨by ((repeat (first | exact Ext.refl _ | assumption | apply Ext.app | apply Ext.mk | (refine Ext.setr ?_ (by (first | omega | (simp only [gL] <;> omega))) _)))), rfl⟩
  · rw [if_neg hv]
    simp -implicitDefEqProofs (disch := first | assumption | omega | (simp only [gL] <;> omega) | ((repeat (first | exact Ext.refl _ | assumption | apply Ext.app | apply Ext.mk | (refine Ext.setr ?_ (by (first | omega | (simp only [gL] <;> omega))) _))); done) | (simp only [gL, gA, show decide (0 ≤ v ∧ v < (O.length : Int)) = false from decide_eq_false (by omega)] <;> omega) | fail) only [gB, setAll, partL, fldV, reduceIte, Nat.reduceAdd, Nat.reduceMul, show decide (0 ≤ v ∧ v < (O.length : Int)) = false from decide_eq_false (by omega)]
    exact WP.ret ⟨by ((repeat (first | exact Ext.refl _ | assumption | apply Ext.app | apply Ext.mk | (refine Ext.setr ?_ (by (first | omega | (simp only [gL] <;> omega))) _)))), rfl⟩
theorem out_spec {h : Heap} {a : AV} {N v : Int} {es : List E} (ok : NetOk N es) (w : AdjV h a N es) :
    Tot tab f_adj_Adj_Out [a, I v] h fun r h' => Ext h h' ∧ Gr h.length h'.length h' 1 r ((outL es v).map encI) := by
  obtain ⟨s, so, si, O, J, w⟩ := w
  refine WP.tot (fun k => (call_adj_Adj_Out k _ _ h).trans (adj_Adj_Out_eq tab k _ _ h)) ?_
  simp -implicitDefEqProofs (disch := first | assumption | omega | (simp only [gL] <;> omega) | ((repeat (first | exact Ext.refl _ | assumption | apply Ext.app | apply Ext.mk | (refine Ext.setr ?_ (by (first | omega | (simp only [gL] <;> omega))) _))); done) | (simp only [gL, gA, w.pt.nil, w.pt.fldA0, w.pt.ldfE] <;> omega) | fail) only [gB, setAll, partL, fldV, reduceIte, Nat.reduceAdd, Nat.reduceMul, w.pt.nil, w.pt.fldA0, w.pt.ldfE]
  refine WP.call (side_spec w w.so w.lo fun v h0 h1 => ⟨(w.oe v h0 h1).one, (w.oo v h0 h1).one⟩) ?_
  rintro r h1 ⟨e1, rfl⟩
  have hl : (outL es v).length ≤ 100000 := Nat.le_trans (idxTo_len ..) ok.len
  by_cases hv : 0 ≤ v ∧ v < N
  · rw [if_pos hv]
    refine WP.call (list_spec ((w.oe v hv.1 hv.2).ext e1) (w.oo v hv.1 hv.2).one (by simp; omega)) ?_
    rintro r h' ⟨e2, g⟩
    exact WP.ret ⟨e1.trans e2, g.mono e1.len (Nat.le_refl _)⟩
  · rw [if_neg hv, outL_out ok hv]
    refine WP.call (list_spec (xs := []) (.inl ⟨rfl, rfl⟩) rfl (by simp)) ?_
    rintro r h' ⟨e2, g⟩
    exact WP.ret ⟨e1.trans e2, g.mono e1.len (Nat.le_refl _)⟩
theorem in_spec {h : Heap} {a : AV} {N v : Int} {es : List E} (ok : NetOk N es) (w : AdjV h a N es) :
    Tot tab f_adj_Adj_In [a, I v] h fun r h' => Ext h h' ∧ Gr h.length h'.length h' 1 r ((inL es v).map encI) := by
  obtain ⟨s, so, si, O, J, w⟩ := w
  refine WP.tot (fun k => (call_adj_Adj_In k _ _ h).trans (adj_Adj_In_eq tab k _ _ h)) ?_
  simp -implicitDefEqProofs (disch := first | assumption | omega | (simp only [gL] <;> omega) | ((repeat (first | exact Ext.refl _ | assumption | apply Ext.app | apply Ext.mk | (refine Ext.setr ?_ (by (first | omega | (simp only [gL] <;> omega))) _))); done) | (simp only [gL, gA, w.pt.nil, w.pt.fldA0, w.pt.ldfE] <;> omega) | fail) only [gB, setAll, partL, fldV, reduceIte, Nat.reduceAdd, Nat.reduceMul, w.pt.nil, w.pt.fldA0, w.pt.ldfE]
  refine WP.call (side_spec w w.si w.lj fun v h0 h1 => ⟨(w.ie v h0 h1).one, (w.io v h0 h1).one⟩) ?_
  rintro r h1 ⟨e1, rfl⟩
  have hl : (inL es v).length ≤ 100000 := Nat.le_trans (idxTo_len ..) ok.len
  by_cases hv : 0 ≤ v ∧ v < N
  · rw [if_pos hv]
    refine WP.call (list_spec ((w.ie v hv.1 hv.2).ext e1) (w.io v hv.1 hv.2).one (by simp; omega)) ?_
    rintro r h' ⟨e2, g⟩
    exact WP.ret ⟨e1.trans e2, g.mono e1.len (Nat.le_refl _)⟩
  · rw [if_neg hv, inL_out ok hv]
    refine WP.call (list_spec (xs := []) (.inl ⟨rfl, rfl⟩) rfl (by simp)) ?_
    rintro r h' ⟨e2, g⟩
    exact WP.ret ⟨e1.trans e2, g.mono e1.len (Nat.le_refl _)⟩
end Go.Gm.A9
