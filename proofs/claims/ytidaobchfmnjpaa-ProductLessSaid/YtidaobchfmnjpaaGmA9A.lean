/- A part of the proof (GmA9A): an abstract machine, what it does, and what the functions of the program come to on it. -/
import Derived.Test.YtidaobchfmnjpaaGmA9M
set_option linter.unusedVariables false
set_option linter.unusedSimpArgs false
set_option linter.unusedSectionVars false
namespace Go.Gm.A9
open Go Go.Gm
abbrev tyIt : TypeId := 113
abbrev tyHp : TypeId := 123

def encIt (x : Int × Int) : List AV := [I x.1, I x.2]

theorem meth_Len (call : CallF) (o off hi g : Nat) (args : List AV) (h : Heap) : callMeth tab call "Len" (.ifc tyHp (.ptr o off hi g)) args h = call f_queue_heaped_Len (.ptr o off hi g :: args) h := rfl
theorem meth_Less (call : CallF) (o off hi g : Nat) (args : List AV) (h : Heap) : callMeth tab call "Less" (.ifc tyHp (.ptr o off hi g)) args h = call f_queue_heaped_Less (.ptr o off hi g :: args) h := rfl
theorem meth_Swap (call : CallF) (o off hi g : Nat) (args : List AV) (h : Heap) : callMeth tab call "Swap" (.ifc tyHp (.ptr o off hi g)) args h = call f_queue_heaped_Swap (.ptr o off hi g :: args) h := rfl
theorem meth_Push (call : CallF) (o off hi g : Nat) (args : List AV) (h : Heap) : callMeth tab call "Push" (.ifc tyHp (.ptr o off hi g)) args h = call f_queue_heaped_Push (.ptr o off hi g :: args) h := rfl
theorem meth_Pop (call : CallF) (o off hi g : Nat) (args : List AV) (h : Heap) : callMeth tab call "Pop" (.ifc tyHp (.ptr o off hi g)) args h = call f_queue_heaped_Pop (.ptr o off hi g :: args) h := rfl
theorem meth_place (call : CallF) (o off hi g : Nat) (args : List AV) (h : Heap) : callMeth tab call "milestone/queue.place" (.ifc tyHp (.ptr o off hi g)) args h = call f_queue_heaped_place (.ptr o off hi g :: args) h := rfl
theorem tAssert_t (t : TypeId) (z v : AV) : tAssert t z true (.ifc t v) = some (.tup [v, .bool true]) := by simp [tAssert]
theorem extr_0 (a : AV) (l : List AV) : extr 0 (.tup (a :: l)) = some a := rfl
theorem extr_1 (a b : AV) (l : List AV) : extr 1 (.tup (a :: b :: l)) = some b := rfl
theorem extr_2 (a b c : AV) (l : List AV) : extr 2 (.tup (a :: b :: c :: l)) = some c := rfl

/-- Items that wait, and where each stands: in rows of their own. -/
structure QW (W : Nat → Prop) (h : Heap) (oq : Nat) (xs : List (Int × Int)) (at' : List Int) (s1 s2 : AV) (o1 o2 : Nat) : Prop where
  row : h[oq]? = some (.cells ⟨[s1, s2], 0, 0, false⟩)
  g1 : Gr o1 (o1 + 1) h 2 s1 (xs.map encIt)
  n1 : s1 ≠ .nils → W o1 ∧ o1 ≠ oq ∧ o1 ≠ o2 ∧ o1 < h.length
  g2 : Gr o2 (o2 + 1) h 1 s2 (at'.map encI)
  w2 : W o2
  d2 : o2 ≠ oq
  l2 : o2 < h.length
  wq : W oq
  len : xs.length ≤ 10000000
  lat : at'.length ≤ 10000000
def QS (W : Nat → Prop) (h : Heap) (oq : Nat) (xs : List (Int × Int)) (at' : List Int) : Prop := ∃ s1 s2 o1 o2, QW W h oq xs at' s1 s2 o1 o2
section
variable {W : Nat → Prop} {h h' : Heap} {oq : Nat} {xs : List (Int × Int)} {at' : List Int} {s1 s2 : AV} {o1 o2 : Nat}
theorem QW.ext (q : QW W h oq xs at' s1 s2 o1 o2) (e : Ext h h') : QW W h' oq xs at' s1 s2 o1 o2 :=
  ⟨e.get q.row, q.g1.ext e, fun n => let ⟨a, b, c, d⟩ := q.n1 n; ⟨a, b, c, Nat.lt_of_lt_of_le d e.len⟩, q.g2.ext e, q.w2, q.d2, Nat.lt_of_lt_of_le q.l2 e.len, q.wq, q.len, q.lat⟩
theorem QS.ext (q : QS W h oq xs at') (e : Ext h h') : QS W h' oq xs at' := let ⟨s1, s2, o1, o2, q⟩ := q; ⟨s1, s2, o1, o2, q.ext e⟩
theorem QS.mono {W' : Nat → Prop} (q : QS W h oq xs at') (hw : ∀ o, o < h.length → W o → W' o) : QS W' h oq xs at' := by
  obtain ⟨s1, s2, o1, o2, q⟩ := q
  have hq := (List.getElem?_eq_some_iff.1 q.row).1
  exact ⟨s1, s2, o1, o2, q.row, q.g1, fun n => let ⟨a, b, c, d⟩ := q.n1 n; ⟨hw _ d a, b, c, d⟩, q.g2, hw _ q.l2 q.w2, q.d2, q.l2, hw _ hq q.wq, q.len, q.lat⟩
/-- Elsewhere things may turn. -/
theorem QS.frs {D : Nat → Prop} (q : QS W h oq xs at') (f : FrS D h h') (hd : ∀ o, o < h.length → W o → ¬ D o) : QS W h' oq xs at' := by
  obtain ⟨s1, s2, o1, o2, q⟩ := q
  have hq := (List.getElem?_eq_some_iff.1 q.row).1
  refine ⟨s1, s2, o1, o2, by rw [f.get (hd _ hq q.wq) hq]; exact q.row, ?_, fun n => let ⟨a, b, c, d⟩ := q.n1 n; ⟨a, b, c, Nat.lt_of_lt_of_le d f.len⟩, q.g2.frs f fun o k1 k2 => ?_, q.w2, q.d2, Nat.lt_of_lt_of_le q.l2 f.len, q.wq, q.len, q.lat⟩
  · by_cases hn : s1 = .nils
    · rcases q.g1 with k | ⟨o, g, wg, cs, _, _, k, _⟩
      · exact .inl k
      · rw [hn] at k; cases k
    · obtain ⟨a, b, c, d⟩ := q.n1 hn
      exact q.g1.frs f fun o k1 k2 => by
        obtain rfl : o = o1 := by omega
        exact hd _ d a
  · obtain rfl : o = o2 := by omega
    exact hd _ q.l2 q.w2

theorem Len_spec (q : QS W h oq xs at') : Tot tab f_queue_heaped_Len [.ptr oq 0 2 0] h fun r h' => r = I xs.length ∧ h = h' := by
  obtain ⟨s1, s2, o1, o2, q⟩ := q
  refine WP.tot (fun k => (call_queue_heaped_Len k _ h).trans (queue_heaped_Len_eq tab k _ h)) ?_
  simp -implicitDefEqProofs (disch := first | assumption | omega | (simp only [gL] <;> omega) | ((repeat (first | exact Ext.refl _ | assumption | apply Ext.app | apply Ext.mk | (refine Ext.setr ?_ (by (first | omega | (simp only [gL] <;> omega))) _))); done) | (simp only [gL, gA, q.row, q.g1.sl.lenG] <;> omega) | fail) only [gB, setAll, partL, fldV, reduceIte, Nat.reduceAdd, Nat.reduceMul, q.row, q.g1.sl.lenG]
  exact WP.ret ⟨rfl, rfl⟩
theorem place_spec (q : QS W h oq xs at') (id : Int) : Tot tab f_queue_heaped_place [.ptr oq 0 2 0, I id] h fun r h' => r = I (if 0 ≤ id ∧ id < at'.length then gi at' id else -1) ∧ h = h' := by
  obtain ⟨s1, s2, o1, o2, q⟩ := q
  refine WP.tot (fun k => (call_queue_heaped_place k _ _ h).trans (queue_heaped_place_eq tab k _ _ h)) ?_
  by_cases h0 : 0 ≤ id
  · by_cases h1 : id < at'.length
    · simp -implicitDefEqProofs (disch := first | assumption | omega | (simp only [gL] <;> omega) | ((repeat (first | exact Ext.refl _ | assumption | apply Ext.app | apply Ext.mk | (refine Ext.setr ?_ (by (first | omega | (simp only [gL] <;> omega))) _))); done) | (simp only [gL, gA, q.row, q.g2.sl.lenG, q.g2.sl.idxG, q.g2.sl.ld0, encI] <;> omega) | fail) only [gB, setAll, partL, fldV, reduceIte, Nat.reduceAdd, Nat.reduceMul, q.row, q.g2.sl.lenG, q.g2.sl.idxG, q.g2.sl.ld0, encI]
      exact WP.ret ⟨by rw [if_pos ⟨h0, h1⟩], rfl⟩
    · simp -implicitDefEqProofs (disch := first | assumption | omega | (simp only [gL] <;> omega) | ((repeat (first | exact Ext.refl _ | assumption | apply Ext.app | apply Ext.mk | (refine Ext.setr ?_ (by (first | omega | (simp only [gL] <;> omega))) _))); done) | (simp only [gL, gA, q.row, q.g2.sl.lenG] <;> omega) | fail) only [gB, setAll, partL, fldV, reduceIte, Nat.reduceAdd, Nat.reduceMul, q.row, q.g2.sl.lenG]
      exact WP.ret ⟨by rw [if_neg (fun q => h1 q.2)], rfl⟩
  · simp -implicitDefEqProofs (disch := first | assumption | omega | (simp only [gL] <;> omega) | ((repeat (first | exact Ext.refl _ | assumption | apply Ext.app | apply Ext.mk | (refine Ext.setr ?_ (by (first | omega | (simp only [gL] <;> omega))) _))); done) | (simp only [gL, gA] <;> omega) | fail) only [gB, setAll, partL, fldV, reduceIte, Nat.reduceAdd, Nat.reduceMul]
    exact WP.ret ⟨by rw [if_neg (fun q => h0 q.1)], rfl⟩
theorem before_spec (x y : Int × Int) (h : Heap) : Tot tab f_queue_item_before [.agg (encIt x), .agg (encIt y)] h fun r h' => r = .bool (decide (ltI x y)) ∧ Ext h h' := by
  refine WP.tot (fun k => (call_queue_item_before k _ _ h).trans (queue_item_before_eq tab k _ _ h)) ?_
  simp only [encIt]
  by_cases h1 : x.2 = y.2
  · by_cases h2 : x.1 < y.1
    · simp -implicitDefEqProofs (disch := first | assumption | omega | (simp only [gL] <;> omega) | ((repeat (first | exact Ext.refl _ | assumption | apply Ext.app | apply Ext.mk | (refine Ext.setr ?_ (by (first | omega | (simp only [gL] <;> omega))) _))); done) | (simp only [gL, gA] <;> omega) | fail) only [gB, setAll, partL, fldV, reduceIte, Nat.reduceAdd, Nat.reduceMul]
      exact WP.ret ⟨by simp [ltI, h1, h2], by ((repeat (first | exact Ext.refl _ | assumption | apply Ext.app | apply Ext.mk | (refine Ext.setr ?_ (by (first | omega | (simp only [gL] <;> omega))) _))))⟩
    · simp -implicitDefEqProofs (disch := first | assumption | omega | (simp only [gL] <;> omega) | ((repeat (first | exact Ext.refl _ | assumption | apply Ext.app | apply Ext.mk | (refine Ext.setr ?_ (by (first | omega | (simp only [gL] <;> omega))) _))); done) | (simp only [gL, gA] <;> omega) | fail) only [gB, setAll, partL, fldV, reduceIte, Nat.reduceAdd, Nat.reduceMul]
      exact WP.ret ⟨by simp [ltI, h1, h2], by ((repeat (first | exact Ext.refl _ | assumption | apply Ext.app | apply Ext.mk | (refine Ext.setr ?_ (by (first | omega | (simp only [gL] <;> omega))) _))))⟩
  · by_cases h2 : x.2 < y.2
    · simp -implicitDefEqProofs (disch := first | assumption | omega | (simp only [gL] <;> omega) | ((repeat (first | exact Ext.refl _ | assumption | apply Ext.app | apply Ext.mk | (refine Ext.setr ?_ (by (first | omega | (simp only [gL] <;> omega))) _))); done) | (simp only [gL, gA] <;> omega) | fail) only [gB, setAll, partL, fldV, reduceIte, Nat.reduceAdd, Nat.reduceMul]
      exact WP.ret ⟨by simp [ltI, h1, h2], by ((repeat (first | exact Ext.refl _ | assumption | apply Ext.app | apply Ext.mk | (refine Ext.setr ?_ (by (first | omega | (simp only [gL] <;> omega))) _))))⟩
    · simp -implicitDefEqProofs (disch := first | assumption | omega | (simp only [gL] <;> omega) | ((repeat (first | exact Ext.refl _ | assumption | apply Ext.app | apply Ext.mk | (refine Ext.setr ?_ (by (first | omega | (simp only [gL] <;> omega))) _))); done) | (simp only [gL, gA] <;> omega) | fail) only [gB, setAll, partL, fldV, reduceIte, Nat.reduceAdd, Nat.reduceMul]
      exact WP.ret ⟨by simp [ltI, h1, h2], by ((repeat (first | exact Ext.refl _ | assumption | apply Ext.app | apply Ext.mk | (refine Ext.setr ?_ (by (first | omega | (simp only [gL] <;> omega))) _))))⟩
theorem Less_spec (q : QS W h oq xs at') {i j : Int} (i0 : 0 ≤ i) (i1 : i < xs.length) (j0 : 0 ≤ j) (j1 : j < xs.length) : Tot tab f_queue_heaped_Less [.ptr oq 0 2 0, I i, I j] h fun r h' => r = .bool (decide (ltI (gi xs i) (gi xs j))) ∧ Ext h h' := by
  obtain ⟨s1, s2, o1, o2, q⟩ := q
  refine WP.tot (fun k => (call_queue_heaped_Less k _ _ _ h).trans (queue_heaped_Less_eq tab k _ _ _ h)) ?_
  simp -implicitDefEqProofs (disch := first | assumption | omega | (simp only [gL] <;> omega) | ((repeat (first | exact Ext.refl _ | assumption | apply Ext.app | apply Ext.mk | (refine Ext.setr ?_ (by (first | omega | (simp only [gL] <;> omega))) _))); done) | (simp only [gL, gA, q.row, q.g1.sl.idxG, q.g1.sl.ldN] <;> omega) | fail) only [gB, setAll, partL, fldV, reduceIte, Nat.reduceAdd, Nat.reduceMul, q.row, q.g1.sl.idxG, q.g1.sl.ldN]
  refine WP.call (before_spec _ _ _) ?_
  rintro _ h' ⟨rfl, e⟩
  exact WP.ret ⟨rfl, e⟩
theorem encIt_cells (x : Int × Int) : (AV.agg (encIt x)).cells = encIt x := rfl
theorem Swap_spec (q : QS W h oq xs at') {i j : Int} (i0 : 0 ≤ i) (i1 : i < xs.length) (j0 : 0 ≤ j) (j1 : j < xs.length) (ai : 0 ≤ (gi xs i).1 ∧ (gi xs i).1 < at'.length) (aj : 0 ≤ (gi xs j).1 ∧ (gi xs j).1 < at'.length) :
    Tot tab f_queue_heaped_Swap [.ptr oq 0 2 0, I i, I j] h fun r h' => QS W h' oq (sw xs i j) ((at'.set (gi xs j).1.toNat i).set (gi xs i).1.toNat j) ∧ FrS W h h' := by
  obtain ⟨s1, s2, o1, o2, q⟩ := q
  refine WP.tot (fun k => (call_queue_heaped_Swap k _ _ _ h).trans (queue_heaped_Swap_eq tab k _ _ _ h)) ?_
  have hq := (List.getElem?_eq_some_iff.1 q.row).1
  have hn : s1 ≠ .nils := q.g1.nnil (by intro hx; rw [List.map_eq_nil_iff] at hx; rw [hx] at i1; simp at i1; omega)
  obtain ⟨w1, d1, d12, l1⟩ := q.n1 hn
  obtain ⟨h1, k1, k2, k3, k4⟩ := q.g1.write0 (i := i) (v := .agg (encIt (gi xs j))) i0 (by simp; omega) rfl rfl
  rw [encIt_cells, ← List.map_set] at k2
  obtain ⟨h2, m1, m2, m3, m4⟩ := k2.write0 (i := j) (v := .agg (encIt (gi xs i))) j0 (by simp; omega) rfl rfl
  rw [encIt_cells, ← List.map_set] at m2
  have m2' : Gr o1 (o1 + 1) h2 2 s1 ((sw xs i j).map encIt) := m2
  have row1 : h1[oq]? = some (.cells ⟨[s1, s2], 0, 0, false⟩) := by rw [k3.get (by omega) hq]; exact q.row
  have row2 : h2[oq]? = some (.cells ⟨[s1, s2], 0, 0, false⟩) := by rw [m3.get (by omega) (by omega)]; exact row1
  have g22 : Gr o2 (o2 + 1) h2 1 s2 (at'.map encI) := (q.g2.fr k3 (by omega)).fr m3 (by omega)
  have hl := sw_len xs i j
  have gi1 : gi (sw xs i j) i = gi xs j := by
    rw [gi_sw i0 i1 j0 j1 i0]
    by_cases hij : i = j
    · rw [if_pos hij, hij]
    · rw [if_neg hij, if_pos rfl]
  have gj1 : gi (sw xs i j) j = gi xs i := by rw [gi_sw i0 i1 j0 j1 j0, if_pos rfl]
  obtain ⟨h3, p1, p2, p3, p4⟩ := g22.write0 (i := (gi xs j).1) (v := I i) aj.1 (by simp; omega) rfl rfl
  have row3 : h3[oq]? = some (.cells ⟨[s1, s2], 0, 0, false⟩) := by rw [p3.get (by have := q.d2; omega) (by omega)]; exact row2
  obtain ⟨h4, r1, r2, r3, r4⟩ := p2.write0 (i := (gi xs i).1) (v := I j) ai.1 (by simp; omega) rfl rfl
  have row4 : h4[oq]? = some (.cells ⟨[s1, s2], 0, 0, false⟩) := by rw [r3.get (by have := q.d2; omega) (by omega)]; exact row3
  simp only [encIt] at k1 m1
  simp -implicitDefEqProofs (disch := first | assumption | omega | (simp only [gL] <;> omega) | ((repeat (first | exact Ext.refl _ | assumption | apply Ext.app | apply Ext.mk | (refine Ext.setr ?_ (by (first | omega | (simp only [gL] <;> omega))) _))); done) | (simp only [gL, gA, q.row, q.g1.sl.idxG, q.g1.sl.ldN, k1, m1, row2, g22.sl.idxG, m2'.sl.idxG, m2'.sl.ldf, encIt, gi1, gj1, p1, r1, row1, row3] <;> omega) | fail) only [gB, setAll, partL, fldV, reduceIte, Nat.reduceAdd, Nat.reduceMul, q.row, q.g1.sl.idxG, q.g1.sl.ldN, k1, m1, row2, g22.sl.idxG, m2'.sl.idxG, m2'.sl.ldf, encIt, gi1, gj1, p1, r1, row1, row3]
  have hd2 := q.d2
  refine WP.ret ⟨⟨s1, s2, o1, o2, row4, (m2'.fr p3 (by omega)).fr r3 (by omega), fun _ => ⟨w1, d1, d12, by omega⟩, r2.cong ?_, q.w2, q.d2, by have := q.l2; omega, q.wq, by rw [hl]; exact q.len, by simp; exact q.lat⟩, ?_⟩
  · rw [cells_int, cells_int, List.map_set, List.map_set]; rfl
  · have f1 : FrS W h h2 := (k3.trans m3).s.mono fun o _ k => by
      obtain rfl : o = o1 := by omega
      exact w1
    exact f1.trans ((p3.trans r3).s.mono fun o _ k => by
      obtain rfl : o = o2 := by omega
      exact q.w2)
theorem Push_spec (q : QS W h oq xs at') {id key : Int} (h0 : 0 ≤ id) (h1 : id < at'.length) (hlen : xs.length + 1 ≤ 10000000) :
    Tot tab f_queue_heaped_Push [.ptr oq 0 2 0, .ifc tyIt (.agg (encIt (id, key)))] h fun r h' => QS (fun o => W o ∨ h.length ≤ o) h' oq (xs ++ [(id, key)]) (at'.set id.toNat xs.length) ∧ FrS W h h' := by
  obtain ⟨s1, s2, o1, o2, q⟩ := q
  refine WP.tot (fun k => (call_queue_heaped_Push k _ _ h).trans (queue_heaped_Push_eq tab k _ _ h)) ?_
  have hq := (List.getElem?_eq_some_iff.1 q.row).1
  have hd2 := q.d2
  have hl2 := q.l2
  have hql := q.len
  have hqa := q.lat
  obtain ⟨hA, hhA⟩ : ∃ hA, hA = (h ++ [AObj.cells ⟨[I 0, I 0], 0, 0, false⟩]).set h.length (.cells ⟨[I id, I key], 0, 0, false⟩) := ⟨_, rfl⟩
  have eA : Ext h hA := by rw [hhA]; ((repeat (first | exact Ext.refl _ | assumption | apply Ext.app | apply Ext.mk | (refine Ext.setr ?_ (by (first | omega | (simp only [gL] <;> omega))) _))))
  have hlA : hA.length = h.length + 1 := by rw [hhA]; simp
  have rA : hA[h.length]? = some (.cells ⟨[I id, I key], 0, 0, false⟩) := by rw [hhA]; exact get_set_eq (by simp)
  have rowA := eA.get q.row
  have g2A := q.g2.ext eA
  obtain ⟨hB, p1, p2, p3, p4⟩ := g2A.write0 (i := id) (v := I xs.length) h0 (by simp; omega) rfl rfl
  have rowB : hB[oq]? = some (.cells ⟨[s1, s2], 0, 0, false⟩) := by rw [p3.get (by omega) (by omega)]; exact rowA
  have rB : hB[h.length]? = some (.cells ⟨[I id, I key], 0, 0, false⟩) := by rw [p3.get (by omega) (by omega)]; exact rA
  have g1B : Gr o1 (o1 + 1) hB 2 s1 (xs.map encIt) := by
    by_cases hn : s1 = .nils
    · subst hn
      rw [q.g1.isNil]; exact .inl ⟨rfl, rfl⟩
    · have := q.n1 hn
      exact (q.g1.ext eA).fr p3 (by omega)
  have eC : Ext hB (mkObj hB (encIt (id, key))) := Ext.push _ _
  obtain ⟨s3, hD, o3, m1, m2, m3, m4⟩ := (g1B.ext eC).appP (bytes := 16) (fun hn => by have := q.n1 hn; simp [mkObj]; omega) ((Gr.lit (h := hB) (sz := 2) (v := encIt (id, key)) rfl).sl) (by omega) (by omega) (by simp; omega)
  have hn3 : s3 ≠ .nils := m2.nnil (by simp)
  obtain ⟨m5, m6⟩ := m3 hn3
  have hlC : (mkObj hB (encIt (id, key))).length = h.length + 2 := by simp [mkObj]; omega
  have hlD := m4.len
  have rowD : hD[oq]? = some (.cells ⟨[s1, s2], 0, 0, false⟩) := by
    rw [m4.get (fun z => by have := q.n1 z.1; omega) (by omega)]; exact eC.get rowB
  have g2D : Gr o2 (o2 + 1) hD 1 s2 ((at'.map encI).set id.toNat (I xs.length).cells) := (p2.ext eC).frs m4 fun o k1 k2 z => by have := q.n1 z.1; omega
  rw [mkObj_eq] at m1
  simp only [encIt] at m1
  simp -implicitDefEqProofs (disch := first | assumption | omega | (simp only [gL] <;> omega) | ((repeat (first | exact Ext.refl _ | assumption | apply Ext.app | apply Ext.mk | (refine Ext.setr ?_ (by (first | omega | (simp only [gL] <;> omega))) _))); done) | (simp only [gL, gA, tAssert_t, extr_0, extr_1, encIt] <;> omega) | fail) only [gB, setAll, partL, fldV, reduceIte, Nat.reduceAdd, Nat.reduceMul, tAssert_t, extr_0, extr_1, encIt]
  rw [show AV.int .i64 0 = I 0 from rfl, ← hhA]
  simp -implicitDefEqProofs (disch := first | assumption | omega | (simp only [gL] <;> omega) | ((repeat (first | exact Ext.refl _ | assumption | apply Ext.app | apply Ext.mk | (refine Ext.setr ?_ (by (first | omega | (simp only [gL] <;> omega))) _))); done) | (simp only [gL, gA, q.row, rowA, rA, q.g1.sl.lenG, g2A.sl.idxG, p1, rowB, rB, m1, rowD, m2.sl.one, m2.sl.cells] <;> omega) | fail) only [gB, setAll, partL, fldV, reduceIte, Nat.reduceAdd, Nat.reduceMul, q.row, rowA, rA, q.g1.sl.lenG, g2A.sl.idxG, p1, rowB, rB, m1, rowD, m2.sl.one, m2.sl.cells]
  have ho3q : oq ≠ o3 := by
    rcases m5 with ⟨rfl, z⟩ | z
    · exact (q.n1 z).2.1.symm
    · omega
  have ho32 : o3 ≠ o2 := by
    rcases m5 with ⟨rfl, z⟩ | z
    · exact (q.n1 z).2.2.1
    · omega
  refine WP.ret ⟨⟨s3, s2, o3, o2, ?_, ?_, fun _ => ⟨?_, ho3q.symm, ho32, by simp; omega⟩, ?_, .inl q.w2, q.d2, by simp; omega, .inl q.wq, by simp; omega, by simp; exact q.lat⟩, ?_⟩
  · rw [get_set_eq (by omega)]
  · refine (m2.set (by omega) _).cong (by simp)
  · rcases m5 with ⟨rfl, z⟩ | z
    · exact .inl (q.n1 z).1
    · exact .inr (by omega)
  · refine (g2D.set (by omega) _).cong ?_
    rw [cells_int, List.map_set]; rfl
  · have f1 : FrS W h hB := (FrS.ofExt eA).trans (p3.s.mono fun o _ k => by
      obtain rfl : o = o2 := by omega
      exact q.w2)
    have f2 : FrS W hB hD := (FrS.ofExt eC).trans (m4.mono fun o _ k => by
      rw [k.2]; exact (q.n1 k.1).1)
    refine (f1.trans f2).trans ⟨by simp, fun o k1 k2 => List.getElem?_set_ne (fun z => ?_)⟩
    exact k1 (z ▸ q.wq)
theorem HPop_spec (q : QS W h oq xs at') {n : Nat} (hn : xs.length = n + 1) (an : 0 ≤ (gi xs n).1 ∧ (gi xs n).1 < at'.length) :
    Tot tab f_queue_heaped_Pop [.ptr oq 0 2 0] h fun r h' => r = .ifc tyIt (.agg (encIt (gi xs n))) ∧ QS W h' oq (xs.take n) (at'.set (gi xs n).1.toNat (-1)) ∧ FrS W h h' := by
  obtain ⟨s1, s2, o1, o2, q⟩ := q
  refine WP.tot (fun k => (call_queue_heaped_Pop k _ h).trans (queue_heaped_Pop_eq tab k _ h)) ?_
  have hq := (List.getElem?_eq_some_iff.1 q.row).1
  have hd2 := q.d2
  have hl2 := q.l2
  have hql := q.len
  have hqa := q.lat
  have hnn : s1 ≠ .nils := q.g1.nnil (by intro hx; rw [List.map_eq_nil_iff] at hx; rw [hx] at hn; simp at hn)
  obtain ⟨w1, d1, d12, l1⟩ := q.n1 hnn
  obtain ⟨x, hx⟩ : ∃ x, gi xs n = x := ⟨_, rfl⟩
  rw [hx] at an ⊢
  obtain ⟨hA, hhA⟩ : ∃ hA, hA = (h ++ [AObj.cells ⟨[I 0, I 0], 0, 0, false⟩]).set h.length (.cells ⟨[I x.1, I x.2], 0, 0, false⟩) := ⟨_, rfl⟩
  have eA : Ext h hA := by rw [hhA]; ((repeat (first | exact Ext.refl _ | assumption | apply Ext.app | apply Ext.mk | (refine Ext.setr ?_ (by (first | omega | (simp only [gL] <;> omega))) _))))
  have hlA : hA.length = h.length + 1 := by rw [hhA]; simp
  have rA : hA[h.length]? = some (.cells ⟨[I x.1, I x.2], 0, 0, false⟩) := by rw [hhA]; exact get_set_eq (by simp)
  have rowA := eA.get q.row
  have g1A := q.g1.ext eA
  have g2A := q.g2.ext eA
  obtain ⟨s3, t1, t2, t3⟩ := g1A.take (n := (n : Int)) (by omega) (by simp; omega) hnn
  obtain ⟨hB, hhB⟩ : ∃ hB, hB = hA.set oq (.cells ⟨[s3, s2], 0, 0, false⟩) := ⟨_, rfl⟩
  have hlB : hB.length = hA.length := by rw [hhB]; simp
  have rowB : hB[oq]? = some (.cells ⟨[s3, s2], 0, 0, false⟩) := by rw [hhB]; exact get_set_eq (by omega)
  have rB : hB[h.length]? = some (.cells ⟨[I x.1, I x.2], 0, 0, false⟩) := by rw [hhB, get_set_ne (by omega)]; exact rA
  have g1B : Gr o1 (o1 + 1) hB 2 s3 ((xs.map encIt).take (n : Int).toNat) := by rw [hhB]; exact t2.set (by omega) _
  have g2B : Gr o2 (o2 + 1) hB 1 s2 (at'.map encI) := by rw [hhB]; exact g2A.set (by omega) _
  obtain ⟨hC, p1, p2, p3, p4⟩ := g2B.write0 (i := x.1) (v := I (-1)) an.1 (by simp; omega) rfl rfl
  have rC : hC[h.length]? = some (.cells ⟨[I x.1, I x.2], 0, 0, false⟩) := by rw [p3.get (by omega) (by omega)]; exact rB
  have rowC : hC[oq]? = some (.cells ⟨[s3, s2], 0, 0, false⟩) := by rw [p3.get (by omega) (by omega)]; exact rowB
  have hn1 : ((xs.length : Nat) : Int) - 1 = n := by omega
  simp -implicitDefEqProofs (disch := first | assumption | omega | (simp only [gL] <;> omega) | ((repeat (first | exact Ext.refl _ | assumption | apply Ext.app | apply Ext.mk | (refine Ext.setr ?_ (by (first | omega | (simp only [gL] <;> omega))) _))); done) | (simp only [gL, gA, q.row, q.g1.sl.lenG, hn1, q.g1.sl.idxG, q.g1.sl.ldN, hx, encIt] <;> omega) | fail) only [gB, setAll, partL, fldV, reduceIte, Nat.reduceAdd, Nat.reduceMul, q.row, q.g1.sl.lenG, hn1, q.g1.sl.idxG, q.g1.sl.ldN, hx, encIt]
  rw [show AV.int .i64 0 = I 0 from rfl, ← hhA]
  simp -implicitDefEqProofs (disch := first | assumption | omega | (simp only [gL] <;> omega) | ((repeat (first | exact Ext.refl _ | assumption | apply Ext.app | apply Ext.mk | (refine Ext.setr ?_ (by (first | omega | (simp only [gL] <;> omega))) _))); done) | (simp only [gL, gA, q.row, rowA, t1, t2.sl.one, t2.sl.cells] <;> omega) | fail) only [gB, setAll, partL, fldV, reduceIte, Nat.reduceAdd, Nat.reduceMul, q.row, rowA, t1, t2.sl.one, t2.sl.cells]
  rw [← hhB]
  simp -implicitDefEqProofs (disch := first | assumption | omega | (simp only [gL] <;> omega) | ((repeat (first | exact Ext.refl _ | assumption | apply Ext.app | apply Ext.mk | (refine Ext.setr ?_ (by (first | omega | (simp only [gL] <;> omega))) _))); done) | (simp only [gL, gA, rA, rowB, rB, g2B.sl.idxG, p1, rC] <;> omega) | fail) only [gB, setAll, partL, fldV, reduceIte, Nat.reduceAdd, Nat.reduceMul, rA, rowB, rB, g2B.sl.idxG, p1, rC]
  refine WP.ret ⟨rfl, ⟨s3, s2, o1, o2, rowC, ?_, fun _ => ⟨w1, d1, d12, by omega⟩, ?_, q.w2, q.d2, by omega, q.wq, by have := q.len; simp; omega, by simp; exact q.lat⟩, ?_⟩
  · refine (g1B.fr p3 (by omega)).cong ?_
    rw [Int.toNat_natCast, List.map_take]
  · refine p2.cong ?_
    rw [cells_int, List.map_set]; rfl
  · have f1 : FrS W hA hB := by
      rw [hhB]
      exact ⟨by simp, fun o k1 k2 => List.getElem?_set_ne (fun z => by subst z; exact k1 q.wq)⟩
    exact ((FrS.ofExt eA).trans f1).trans (p3.s.mono fun o _ k => by
      obtain rfl : o = o2 := by omega
      exact q.w2)
end
end Go.Gm.A9
