/- A part of the proof (GmA9R): an abstract machine, what it does, and what the functions of the program come to on it. -/
import Derived.Test.YtidaobchfmnjpaaGmA9K
set_option linter.unusedVariables false
set_option linter.unusedSimpArgs false
set_option linter.unusedSectionVars false
namespace Go.Gm.A9
open Go Go.Gm
section
variable {h0 h : Heap} {g : AV} {N : Nat} {es : List E} {D : List (List Int)} {acc : List Bool}
def atSt (S : Nat) (al : List (Int × Int)) (x : Nat) : Prop := ∃ a ∈ al, a.1 * S + a.2 = (x : Int)
theorem begin_l3 {hb : Heap} {W : Nat → Prop} {os oc oe ov n : Nat} {fh q sc se sf atv : AV} {cs ds fs : List Int} {al : List (Int × Int)} {Q : AV → Heap → Prop} (gv : GV hb g N es D acc) (ok : DOk D acc) (hN : N ≤ 100000) (hn : n = N * D.length) (hn2 : n ≤ 1000000)
    (hWn : ∀ o, hb.length ≤ o → W o) (hW : ∀ o, W o → hb.length ≤ o) (ha : Sl hb 2 atv (al.map encP2)) (has : ∀ a ∈ al, 0 ≤ a.1 ∧ a.1 < N ∧ 0 ≤ a.2 ∧ a.2 < D.length) (hal : al.length ≤ 100000) :
    ∀ (d i : Nat) (h : Heap) (M : List (Option Int)), i + d = al.length → Ext hb h → SW W h os g fh q sc se sf oc oe ov n cs ds fs M 0 → (∀ x : Nat, x < n → (atSt D.length (al.take i) x ∧ gf M x = some 0) ∨ (¬ atSt D.length (al.take i) x ∧ gf M x = none)) →
      (∀ h' M', Ext hb h' → SW W h' os g fh q sc se sf oc oe ov n cs ds fs M' 0 → (∀ x : Nat, x < n → (atSt D.length al x ∧ gf M' x = some 0) ∨ (¬ atSt D.length al x ∧ gf M' x = none)) → Q (.ptr os 0 7 0) h') →
      WP (fun p : Nat × Nat => product_graph_begin_l3 tab p.1 p.2 g (.ptr os 0 7 0) atv (I al.length) (I i) h) Q := by
  intro d
  induction d with
  | zero =>
    intro i h M h1 e w hm hQ
    refine WP.rnd (fun i' j => product_graph_begin_l3_eq tab i' j g (.ptr os 0 7 0) atv (I al.length) (I i) h) ?_
    rw [List.take_of_length_le (by omega)] at hm
    simp -implicitDefEqProofs (maxSteps := 1000000) (disch := first | assumption | omega | (simp only [gL] <;> omega) | ((repeat (first | exact Ext.refl _ | assumption | apply Ext.app | apply Ext.mk | (refine Ext.setr ?_ (by (first | omega | (simp only [gL] <;> omega))) _))); done) | (simp only [gL, gA] <;> omega) | fail) only [gB, setAll, partL, fldV, reduceIte, Nat.reduceAdd, Nat.reduceMul]
    exact WP.ret (hQ h M e w hm)
  | succ d ih =>
    intro i h M h1 e w hm hQ
    refine WP.rnd (fun i' j => product_graph_begin_l3_eq tab i' j g (.ptr os 0 7 0) atv (I al.length) (I i) h) ?_
    obtain ⟨a, hai⟩ : ∃ a, gi al i = a := ⟨_, rfl⟩
    obtain ⟨a1, a2, a3, a4⟩ := has a (hai ▸ gi_mem (by omega) (by omega))
    obtain ⟨sp1, sp2⟩ := spot_lt (S := D.length) a1 a2 a3 a4
    obtain ⟨y, hy⟩ : ∃ y : Nat, a.1 * (D.length : Int) + a.2 = y := ⟨(a.1 * (D.length : Int) + a.2).toNat, by omega⟩
    have hyn : y < n := by omega
    have htk : al.take (i + 1) = al.take i ++ [a] := by
      rw [List.take_add_one, show al[i]? = some a by
        have := gi_some (xs := al) (i := (i : Int)) (by omega) (by omega)
        rw [hai] at this; simpa using this]
      rfl
    have hos := w.os_lt
    have hlb := e.len
    have hl2 : ((h ++ [AObj.cells ⟨[I 0, I 0], 0, 0, false⟩]).set h.length (.cells ⟨[I a.1, I a.2], 0, 0, false⟩)).length = h.length + 1 := by simp
    obtain ⟨h2, hh2⟩ : ∃ h2, h2 = ((h ++ [AObj.cells ⟨[I 0, I 0], 0, 0, false⟩]).set h.length (.cells ⟨[I a.1, I a.2], 0, 0, false⟩)) := ⟨_, rfl⟩
    have e2 : Ext h h2 := by rw [hh2]; ((repeat (first | exact Ext.refl _ | assumption | apply Ext.app | apply Ext.mk | (refine Ext.setr ?_ (by (first | omega | (simp only [gL] <;> omega))) _))))
    rw [← hh2] at hl2
    have w2 := w.ext e2
    have ro := w.row
    simp -implicitDefEqProofs (maxSteps := 1000000) (disch := first | assumption | omega | (simp only [gL] <;> omega) | ((repeat (first | exact Ext.refl _ | assumption | apply Ext.app | apply Ext.mk | (refine Ext.setr ?_ (by (first | omega | (simp only [gL] <;> omega))) _))); done) | (simp only [gL, gA, ha.idxG, ha.ldN, hai, encP2, ro] <;> omega) | fail) only [gB, setAll, partL, fldV, reduceIte, Nat.reduceAdd, Nat.reduceMul, ha.idxG, ha.ldN, hai, encP2, ro]
    rw [show AV.int .i64 0 = I 0 from rfl, ← hh2]
    refine WP.call (id_spec (gv.ext (e.trans e2)) ok a1 (by omega) a3 (by have := ok.l1; omega)) ?_
    rintro _ h3 ⟨rfl, e3⟩
    rw [hy]
    have w3 := w2.ext e3
    have ro2 := w2.row
    have ro3 := w3.row
    have hl3 := e3.len
    simp -implicitDefEqProofs (maxSteps := 1000000) (disch := first | assumption | omega | (simp only [gL] <;> omega) | ((repeat (first | exact Ext.refl _ | assumption | apply Ext.app | apply Ext.mk | (refine Ext.setr ?_ (by (first | omega | (simp only [gL] <;> omega))) _))); done) | (simp only [gL, gA, ro2, ro3] <;> omega) | fail) only [gB, setAll, partL, fldV, reduceIte, Nat.reduceAdd, Nat.reduceMul, ro2, ro3]
    have o1 := w3.o1
    have o2 := w3.o2
    have o3 := w3.o3
    refine WP.call (w3.qv.put hn2 (fun o ho => ⟨hWn o (by omega), by omega⟩) (y : Int) 0) ?_
    rintro _ h4 ⟨rfl, v4, f4⟩
    have w4 := w3.q' f4 (fun o z => z.2) v4
    have hml := w.qv.lm
    have e4 : Ext hb h4 := f4.ext ((e.trans e2).trans e3) fun o q1 q2 => by have := hW o q2.1; omega
    refine ih (i + 1) h4 _ (by omega) e4 w4 ?_ hQ
    have key : ∀ x : Nat, atSt D.length (al.take (i + 1)) x ↔ atSt D.length (al.take i) x ∨ x = y := by
      intro x
      rw [htk]
      constructor
      · rintro ⟨b, b1, b2⟩
        rcases List.mem_append.1 b1 with b1 | b1
        · exact .inl ⟨b, b1, b2⟩
        · obtain rfl := List.mem_singleton.1 b1
          right; omega
      · rintro (⟨b, b1, b2⟩ | rfl)
        · exact ⟨b, List.mem_append.2 (.inl b1), b2⟩
        · exact ⟨a, List.mem_append.2 (.inr (List.mem_singleton.2 rfl)), hy⟩
    intro x hx
    rw [key x]
    rcases hm y hyn with ⟨m1, m2⟩ | ⟨m1, m2⟩
    · have hp : putM n M y 0 = (M, false) := by
        rw [putM, if_pos ⟨by omega, by omega⟩, show gi M (y : Int) = some 0 from m2]
        rfl
      rw [hp]
      rcases hm x hx with ⟨n1, n2⟩ | ⟨n1, n2⟩
      · exact .inl ⟨.inl n1, n2⟩
      · refine .inr ⟨fun z => ?_, n2⟩
        rcases z with z | z
        · exact n1 z
        · exact n1 (z ▸ m1)
    · have hp : putM n M y 0 = (M.set y (some 0), true) := by
        rw [putM, if_pos ⟨by omega, by omega⟩, show gi M (y : Int) = none from m2]
        rfl
      rw [hp]
      show (_ ∧ gf (M.set y (some 0)) x = _) ∨ (_ ∧ gf (M.set y (some 0)) x = _)
      rw [show gf (M.set y (some 0)) = _ from gset (by omega) _]
      by_cases qx : x = y
      · left
        exact ⟨.inr qx, if_pos qx⟩
      · simp only [if_neg qx]
        rcases hm x hx with ⟨n1, n2⟩ | ⟨n1, n2⟩
        · exact .inl ⟨.inl n1, n2⟩
        · exact .inr ⟨fun z => z.elim n1 qx, n2⟩
theorem begin_l1 {hb : Heap} {W : Nat → Prop} {os oc oe ov n : Nat} {fh q sc se sf atv : AV} {M : List (Option Int)} {Q : AV → Heap → Prop} (hn2 : n ≤ 1000000)
    (hW : ∀ o, W o → hb.length ≤ o)
    (hQ : ∀ h cs ds fs, Ext hb h → SW W h os g fh q sc se sf oc oe ov n cs ds fs M 0 → (∀ x : Nat, x < n → gf cs x = -1 ∧ gf ds x = -1 ∧ gf fs x = -1) → WP (fun i : Nat => product_graph_begin_b2 tab i g atv (.ptr os 0 7 0) h) Q) :
    ∀ (d i : Nat) (h : Heap) (cs ds fs : List Int), i + d = n → Ext hb h → SW W h os g fh q sc se sf oc oe ov n cs ds fs M 0 → (∀ x : Nat, x < i → gf cs x = -1 ∧ gf ds x = -1 ∧ gf fs x = -1) →
      WP (fun p : Nat × Nat => product_graph_begin_l1 tab p.1 p.2 g atv (.ptr os 0 7 0) (I n) (I i) h) Q := by
  intro d
  induction d with
  | zero =>
    intro i h cs ds fs h1 e w hm
    refine WP.rnd (fun i' j => product_graph_begin_l1_eq tab i' j g atv (.ptr os 0 7 0) (I n) (I i) h) ?_
    obtain rfl : i = n := by omega
    simp -implicitDefEqProofs (maxSteps := 1000000) (disch := first | assumption | omega | (simp only [gL] <;> omega) | ((repeat (first | exact Ext.refl _ | assumption | apply Ext.app | apply Ext.mk | (refine Ext.setr ?_ (by (first | omega | (simp only [gL] <;> omega))) _))); done) | (simp only [gL, gA] <;> omega) | fail) only [gB, setAll, partL, fldV, reduceIte, Nat.reduceAdd, Nat.reduceMul]
    exact WP.lv (hQ h cs ds fs e w hm) fun i j => rfl
  | succ d ih =>
    intro i h cs ds fs h1 e w hm
    refine WP.rnd (fun i' j => product_graph_begin_l1_eq tab i' j g atv (.ptr os 0 7 0) (I n) (I i) h) ?_
    have hin : i < n := by omega
    have ro := w.row
    obtain ⟨h2, s2, w2, f2⟩ := w.setC hin (-1)
    obtain ⟨h3, s3, w3, f3⟩ := w2.setE hin (-1)
    obtain ⟨h4, s4, w4, f4⟩ := w3.setF hin (-1)
    have gc := w.gc.sl
    have ge := w.ge.sl
    have gf' := w.gf.sl
    simp -implicitDefEqProofs (maxSteps := 1000000) (disch := first | assumption | omega | (simp only [gL] <;> omega) | ((repeat (first | exact Ext.refl _ | assumption | apply Ext.app | apply Ext.mk | (refine Ext.setr ?_ (by (first | omega | (simp only [gL] <;> omega))) _))); done) | (simp only [gL, gA, ro, gc.idxG, ge.idxG, gf'.idxG, w.lc, w.le, w.lf, s2, s3, s4] <;> omega) | fail) only [gB, setAll, partL, fldV, reduceIte, Nat.reduceAdd, Nat.reduceMul, ro, gc.idxG, ge.idxG, gf'.idxG, w.lc, w.le, w.lf, s2, s3, s4]
    have e2 := f2.ext e fun o q1 q2 => by have := hW _ w.wc; omega
    have e3 := f3.ext e2 fun o q1 q2 => by have := hW _ w.we; omega
    have e4 := f4.ext e3 fun o q1 q2 => by have := hW _ w.wv; omega
    refine ih (i + 1) h4 _ _ _ (by omega) e4 w4 fun x hx => ?_
    have lc := w.lc
    have le := w.le
    have lf := w.lf
    rw [show gf (cs.set i (-1)) = _ from gset (by omega) _, show gf (ds.set i (-1)) = _ from gset (by omega) _, show gf (fs.set i (-1)) = _ from gset (by omega) _]
    by_cases qx : x = i
    · simp [qx]
    · simp only [if_neg qx]
      exact hm x (by omega)
theorem begin_spec {atv : AV} {fh : FuncId} {al : List (Int × Int)} (gv : GV h g N es D acc) (ok : DOk D acc) (hN : N ≤ 100000) {n : Nat} (hn : n = N * D.length) (hn2 : n ≤ 1000000)
    (ha : Sl h 2 atv (al.map encP2)) (has : ∀ a ∈ al, 0 ≤ a.1 ∧ a.1 < N ∧ 0 ≤ a.2 ∧ a.2 < D.length) (hal : al.length ≤ 100000) (A : Nat → List Hop) :
    Tot tab f_product_graph_begin [g, .fn fh [] [], atv] h fun r h' => Ext h h' ∧ ∃ os q sc se sf oc oe ov cs ds fs M, r = .ptr os 0 7 0 ∧ SW (fun o => h.length ≤ o) h' os g (.fn fh [] []) q sc se sf oc oe ov n cs ds fs M 0 ∧
      DI n 2147483647 A (atSt D.length al) 0 [] (gf cs) (gf M) (gf ds) (gf fs) (fun _ => 0) 0 ∧ un n (gf cs) + (0 : Nat) = n := by
  obtain ⟨sE, a, sD, sA, sB, B, k1, k2, k3, k4, k5, k6, k7, k8⟩ := gv.ex
  refine WP.tot (fun k => (call_product_graph_begin k _ _ _ h).trans (product_graph_begin_eq tab k _ _ _ h)) ?_
  have hw : IntKind.i64.wrap ((N : Int) * (D.length : Int)) = (n : Int) := by
    rw [hn, Int.natCast_mul]
    have := ok.l1
    refine wrap_id ?_ ?_
    · have : 0 ≤ (N : Int) * (D.length : Int) := Int.mul_nonneg (by omega) (by omega)
      omega
    · have : (N : Int) * (D.length : Int) ≤ 100000 * 2000 := Int.mul_le_mul (by omega) (by omega) (by omega) (by omega)
      omega
  obtain ⟨s1, h1, a1, g1, e1, _, l1⟩ := mkSl_gr (zero := [AV.int .i64 0]) (sz := 1) (bytes := 8) (n := (n : Int)) h (by omega) (by omega) (by omega) rfl rfl
  obtain ⟨s2, h2, a2, g2, e2, _, l2⟩ := mkSl_gr (zero := [AV.int .i64 0]) (sz := 1) (bytes := 8) (n := (n : Int)) h1 (by omega) (by omega) (by omega) rfl rfl
  obtain ⟨s3, h3, a3, g3, e3, _, l3⟩ := mkSl_gr (zero := [AV.int .i64 0]) (sz := 1) (bytes := 8) (n := (n : Int)) h2 (by omega) (by omega) (by omega) rfl rfl
  have hre : List.replicate (n : Int).toNat [AV.int .i64 0] = (List.replicate n (0 : Int)).map encI := by simp [encI, I]
  rw [hre] at g1 g2 g3
  have mx : max (N : Int) 0 = N := by omega
  simp -implicitDefEqProofs (maxSteps := 1000000) (disch := first | assumption | omega | (simp only [gL] <;> omega) | ((repeat (first | exact Ext.refl _ | assumption | apply Ext.app | apply Ext.mk | (refine Ext.setr ?_ (by (first | omega | (simp only [gL] <;> omega))) _))); done) | (simp only [gL, gA, k1.nil, k1.fldA0, k1.fldAf, k1.ld0, k1.ldfE, k4.lenG, hw, a1, a2, a3, mx] <;> omega) | fail) only [gB, setAll, partL, fldV, reduceIte, Nat.reduceAdd, Nat.reduceMul, k1.nil, k1.fldA0, k1.fldAf, k1.ld0, k1.ldfE, k4.lenG, hw, a1, a2, a3, mx]
  refine WP.call (qNew_spec n hn2 h3) ?_
  rintro q h4 ⟨v4, e4⟩
  have l4 := e4.len
  have hqp : q.one = true ∧ q.cells = [q] := by
    obtain ⟨oq, _, _, hq, _⟩ := v4
    rw [hq]; exact ⟨rfl, rfl⟩
  have hgp : g.one = true ∧ g.cells = [g] := by
    obtain ⟨_, _, _, _, _, hq, _⟩ := k1
    rw [hq]; exact ⟨rfl, rfl⟩
  obtain ⟨fv, hfv⟩ : ∃ fv, fv = AV.fn fh [] [] := ⟨_, rfl⟩
  have hfp : fv.one = true ∧ fv.cells = [fv] := by rw [hfv]; exact ⟨rfl, rfl⟩
  rw [← hfv]
  simp -implicitDefEqProofs (maxSteps := 1000000) (disch := first | assumption | omega | (simp only [gL] <;> omega) | ((repeat (first | exact Ext.refl _ | assumption | apply Ext.app | apply Ext.mk | (refine Ext.setr ?_ (by (first | omega | (simp only [gL] <;> omega))) _))); done) | (simp only [gL, gA, hqp.1, hqp.2, hgp.1, hgp.2, hfp.1, hfp.2, g1.sl.one, g1.sl.cells, g2.sl.one, g2.sl.cells, g3.sl.one, g3.sl.cells] <;> omega) | fail) only [gB, setAll, partL, fldV, reduceIte, Nat.reduceAdd, Nat.reduceMul, hqp.1, hqp.2, hgp.1, hgp.2, hfp.1, hfp.2, g1.sl.one, g1.sl.cells, g2.sl.one, g2.sl.cells, g3.sl.one, g3.sl.cells]
  obtain ⟨h5, hh5⟩ : ∃ h5, h5 = h4 ++ [AObj.cells ⟨[g, fv, q, s1, s2, s3, AV.int .i64 0], 0, 0, false⟩] := ⟨_, rfl⟩
  have e5 : Ext h4 h5 := by rw [hh5]; exact Ext.push _ _
  have ro : h5[h4.length]? = some (.cells ⟨[g, fv, q, s1, s2, s3, I 0], 0, 0, false⟩) := by rw [hh5]; simp
  rw [← hh5]
  have e35 := e4.trans e5
  have e05 := ((e1.trans e2).trans e3).trans e35
  have w : SW (fun o => h.length ≤ o) h5 h4.length g fv q s1 s2 s3 h.length h1.length h2.length n (List.replicate n 0) (List.replicate n 0) (List.replicate n 0) (List.replicate n none) 0 := by
    refine ⟨ro, ((g1.ext e2).ext e3).ext e35, (g2.ext e3).ext e35, g3.ext e35, by simp, by simp, by simp, by omega, by omega, by omega, Nat.le_refl _, by show h.length ≤ _; omega, by show h.length ≤ _; omega, by show h.length ≤ _; omega, ?_⟩
    refine (SQ.ext (P := fun o => (h.length ≤ o ∧ o ≠ h.length ∧ o ≠ h1.length ∧ o ≠ h2.length ∧ o ≠ h4.length)) (v4.sq fun o z1 z2 => ?_) e5)
    omega
  simp -implicitDefEqProofs (maxSteps := 1000000) (disch := first | assumption | omega | (simp only [gL] <;> omega) | ((repeat (first | exact Ext.refl _ | assumption | apply Ext.app | apply Ext.mk | (refine Ext.setr ?_ (by (first | omega | (simp only [gL] <;> omega))) _))); done) | (simp only [gL, gA, ro, w.gc.sl.lenG, List.length_replicate] <;> omega) | fail) only [gB, setAll, partL, fldV, reduceIte, Nat.reduceAdd, Nat.reduceMul, ro, w.gc.sl.lenG, List.length_replicate]
  rw [hfv] at w ⊢
  refine WP.ent (begin_l1 (hb := h) (W := fun o => h.length ≤ o) (n := n) hn2 (fun o z => z) (fun h6 cs ds fs e6 w6 m6 => ?_) n 0 h5 _ _ _ (by omega) e05 w fun x hx => by omega) fun i => rfl
  refine WP.congr (fun i => product_graph_begin_b2_eq tab i g atv (.ptr h4.length 0 7 0) h6) ?_
  simp -implicitDefEqProofs (maxSteps := 1000000) (disch := first | assumption | omega | (simp only [gL] <;> omega) | ((repeat (first | exact Ext.refl _ | assumption | apply Ext.app | apply Ext.mk | (refine Ext.setr ?_ (by (first | omega | (simp only [gL] <;> omega))) _))); done) | (simp only [gL, gA, ha.lenG] <;> omega) | fail) only [gB, setAll, partL, fldV, reduceIte, Nat.reduceAdd, Nat.reduceMul, ha.lenG]
  refine WP.ent (begin_l3 gv ok hN hn hn2 (W := fun o => h.length ≤ o) (hb := h) (fun o z => z) (fun o z => z) ha has hal al.length 0 h6 _ (by omega) e6 w6 (fun x hx => ?_) fun h7 M7 e7 w7 m7 => ?_) fun i => rfl
  · refine .inr ⟨fun ⟨b, b1, b2⟩ => by simp at b1, ?_⟩
    show gi (List.replicate n none) (x : Int) = none
    exact gi_rep (by omega) (by omega)
  · exact ⟨e7, _, q, s1, s2, s3, _, _, _, cs, ds, fs, M7, rfl, w7, DI.start (fun x hx => (m6 x hx).1) (fun x hx => (m6 x hx).2.2) m7, by rw [un_all fun x hx => (m6 x hx).1]; omega⟩
end
end Go.Gm.A9
