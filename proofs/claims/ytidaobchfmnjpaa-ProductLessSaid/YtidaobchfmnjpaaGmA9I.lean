/- A part of the proof (GmA9I): an abstract machine, what it does, and what the functions of the program come to on it. -/
import Derived.Test.YtidaobchfmnjpaaGmA9H
set_option linter.unusedVariables false
set_option linter.unusedSimpArgs false
set_option linter.unusedSectionVars false
namespace Go.Gm.A9
open Go Go.Gm
section
variable {h0 h : Heap} {g : AV} {N : Nat} {es : List E} {D : List (List Int)} {acc : List Bool}
def TrOk (N : Nat) (es : List E) (D : List (List Int)) (t : Tr) : Prop := 0 ≤ t.1 ∧ t.1 < N ∧ 0 ≤ t.2.1 ∧ t.2.1 < D.length ∧ 0 ≤ t.2.2 ∧ t.2.2 < es.length
theorem spot_lt {N S : Nat} {v s : Int} (v0 : 0 ≤ v) (v1 : v < N) (s0 : 0 ≤ s) (s1 : s < S) : 0 ≤ v * S + s ∧ v * S + s < ((N * S : Nat) : Int) := by
  have h1 : 0 ≤ v * (S : Int) := Int.mul_nonneg v0 (by omega)
  have h2 : (v + 1) * (S : Int) ≤ N * S := Int.mul_le_mul_of_nonneg_right (by omega) (by omega)
  rw [Int.add_mul, Int.one_mul] at h2
  rw [Int.natCast_mul]
  omega
theorem step_l1 {W : Nat → Prop} {hb : Heap} {os oc oe ov : Nat} {fh q sc se sf t46 : AV} {n : Nat} {A : Nat → List Hop} {st : Nat → Prop} {ts : List Tr} {id k : Nat} {key ls : Int} {rk : Nat → Nat} {cs : List Int}
    (e0 : Ext h0 hb) (hW : ∀ o, W o → h0.length ≤ o) (hWn : ∀ o, hb.length ≤ o → W o) (gv : GV h0 g N es D acc) (ok : DOk D acc) (co : COk es) (hN : N ≤ 100000) (hn : n = N * D.length) (hn2 : n ≤ 1000000) (hg : GOk n 2147483647 A)
    (hts : ∀ t ∈ ts, TrOk N es D t) (hAt : ∀ t ∈ ts, hopOf es D.length t ∈ A id) (ht : ∀ h', FrS W hb h' → Sl h' 3 t46 (ts.map encT)) (hid : id < n) (hl : ts.length ≤ 10000000)
    (hc : gi cs id = key) (hk0 : 0 ≤ key) (hk1 : key ≤ k * 2147483647) (hkn : k < n) :
    ∀ (d i : Nat) (h : Heap) (ds fs : List Int) (M : List (Option Int)), i + d = ts.length → FrS W hb h → SW W h os g fh q sc se sf oc oe ov n cs ds fs M ls → DI n 2147483647 A st id ((ts.drop i).map (hopOf es D.length)) (gf cs) (gf M) (gf ds) (gf fs) rk (k + 1) →
      WP (fun p : Nat × Nat => product_search_step_l1 tab p.1 p.2 (.ptr os 0 7 0) (I id) (I key) t46 (I ts.length) (I i) h) fun r h' => r = .tup [I id, .bool true] ∧ FrS W hb h' ∧
        ∃ ds2 fs2 M2, SW W h' os g fh q sc se sf oc oe ov n cs ds2 fs2 M2 ls ∧ DI n 2147483647 A st id [] (gf cs) (gf M2) (gf ds2) (gf fs2) rk (k + 1) := by
  obtain ⟨sE, a, sD, sA, sB, B, k1, k2, k3, k4, k5, k6, k7, k8⟩ := gv.ex
  intro d
  induction d with
  | zero =>
    intro i h ds fs M h1 f w di
    refine WP.rnd (fun i' j => product_search_step_l1_eq tab i' j (.ptr os 0 7 0) (I id) (I key) t46 (I ts.length) (I i) h) ?_
    rw [List.drop_eq_nil_of_le (by omega)] at di
    simp -implicitDefEqProofs (maxSteps := 1000000) (disch := first | assumption | omega | (simp only [gL] <;> omega) | ((repeat (first | exact Ext.refl _ | assumption | apply Ext.app | apply Ext.mk | (refine Ext.setr ?_ (by (first | omega | (simp only [gL] <;> omega))) _))); done) | (simp only [gL, gA] <;> omega) | fail) only [gB, setAll, partL, fldV, reduceIte, Nat.reduceAdd, Nat.reduceMul]
    refine WP.congr (fun p => product_search_step_b2_eq tab p.1 (I id) h) ?_
    exact WP.ret ⟨rfl, f, ds, fs, M, w, di⟩
  | succ d ih =>
    intro i h ds fs M h1 f w di
    refine WP.rnd (fun i' j => product_search_step_l1_eq tab i' j (.ptr os 0 7 0) (I id) (I key) t46 (I ts.length) (I i) h) ?_
    obtain ⟨t, hti⟩ : ∃ t, gi ts i = t := ⟨_, rfl⟩
    have htm : t ∈ ts := hti ▸ gi_mem (by omega) (by omega)
    obtain ⟨t1, t2, t3, t4, t5, t6⟩ := hts t htm
    have hdr : ts.drop i = t :: ts.drop (i + 1) := by
      rw [List.drop_eq_getElem_cons (by omega)]
      congr 1
      rw [← hti, gi_nat (by omega)]
    rw [hdr, List.map_cons] at di
    obtain ⟨sp1, sp2⟩ := spot_lt (S := D.length) t1 t2 t3 t4
    obtain ⟨y, hy⟩ : ∃ y : Nat, t.1 * (D.length : Int) + t.2.1 = y := ⟨(t.1 * (D.length : Int) + t.2.1).toNat, by omega⟩
    obtain ⟨ed, hed⟩ : ∃ ed, gi es t.2.2 = ed := ⟨_, rfl⟩
    have hco := co.c _ (gi_mem (xs := es) t5 t6)
    rw [hed] at hco
    have hho : hopOf es D.length t = (y, t.2.2.toNat, ed.co) := by
      simp only [hopOf, hed, hy]; rfl
    rw [hho] at di
    have hyn : y < n := by omega
    have hA : (y, t.2.2.toNat, ed.co) ∈ A id := hho ▸ hAt t htm
    have ex : Ext h0 h := f.ext e0 fun o q1 q2 => by have := hW o q2; omega
    have hlo := ex.len
    have hlb := f.len
    have hos := w.os_lt
    have st := ht h f
    have hl2 : ((h ++ [AObj.cells ⟨[I 0, I 0, I 0], 0, 0, false⟩]).set h.length (.cells ⟨[I t.1, I t.2.1, I t.2.2], 0, 0, false⟩)).length = h.length + 1 := by simp
    obtain ⟨h2, hh2⟩ : ∃ h2, h2 = ((h ++ [AObj.cells ⟨[I 0, I 0, I 0], 0, 0, false⟩]).set h.length (.cells ⟨[I t.1, I t.2.1, I t.2.2], 0, 0, false⟩)) := ⟨_, rfl⟩
    have e2 : Ext h h2 := by rw [hh2]; ((repeat (first | exact Ext.refl _ | assumption | apply Ext.app | apply Ext.mk | (refine Ext.setr ?_ (by (first | omega | (simp only [gL] <;> omega))) _))))
    have r2 : h2[h.length]? = some (.cells ⟨[I t.1, I t.2.1, I t.2.2], 0, 0, false⟩) := by rw [hh2]; exact get_set_eq (by simp)
    rw [← hh2] at hl2
    have w2 := w.ext e2
    have ro2 := w2.row
    have ro1 := w.row
    simp -implicitDefEqProofs (maxSteps := 1000000) (disch := first | assumption | omega | (simp only [gL] <;> omega) | ((repeat (first | exact Ext.refl _ | assumption | apply Ext.app | apply Ext.mk | (refine Ext.setr ?_ (by (first | omega | (simp only [gL] <;> omega))) _))); done) | (simp only [gL, gA, st.idxG, st.ldN, hti, encT, ro1] <;> omega) | fail) only [gB, setAll, partL, fldV, reduceIte, Nat.reduceAdd, Nat.reduceMul, st.idxG, st.ldN, hti, encT, ro1]
    rw [show AV.int .i64 0 = I 0 from rfl, ← hh2]
    refine WP.call (id_spec (gv.ext (ex.trans e2)) ok t1 (by omega) t3 (by have := ok.l1; omega)) ?_
    rintro _ h3 ⟨rfl, e3⟩
    rw [hy]
    have w3 := w2.ext e3
    have ro3 := w3.row
    have r3 := e3.get r2
    have hl3 := e3.len
    have ex3 := (ex.trans e2).trans e3
    have f3 : FrS W hb h3 := f.trans ((FrS.ofExt e2).trans (FrS.ofExt e3))
    by_cases hcy : 0 ≤ gi cs y
    · simp -implicitDefEqProofs (maxSteps := 1000000) (disch := first | assumption | omega | (simp only [gL] <;> omega) | ((repeat (first | exact Ext.refl _ | assumption | apply Ext.app | apply Ext.mk | (refine Ext.setr ?_ (by (first | omega | (simp only [gL] <;> omega))) _))); done) | (simp only [gL, gA, ro3, w3.gc.sl.idxG, w3.gc.sl.ld0, encI, w3.lc] <;> omega) | fail) only [gB, setAll, partL, fldV, reduceIte, Nat.reduceAdd, Nat.reduceMul, ro3, w3.gc.sl.idxG, w3.gc.sl.ld0, encI, w3.lc]
      exact ih (i + 1) h3 ds fs M (by omega) f3 w3 (di.skip (.inl hcy))
    · have hcm := di.neg y hyn hcy
      have hkb : (k : Int) * 2147483647 ≤ 1000000 * 2147483647 := by omega
      have k1' := k1.ext (e0.trans (Ext.refl _))
      have ey := k1.ext ex3
      have e2s := (k2.ext ex3)
      have hq3 : SQ (fun o => (W o ∧ o ≠ oc ∧ o ≠ oe ∧ o ≠ ov ∧ o ≠ os) ∧ o ≠ h.length) h3 q n M := ((w.qv.wide (P' := fun o => (W o ∧ o ≠ oc ∧ o ≠ oe ∧ o ≠ ov ∧ o ≠ os) ∧ o ≠ h.length) fun o o1 o2 => ⟨o2, by omega⟩).ext e2).ext e3
      have hmu := hq3.put hn2 (fun o ho => ⟨⟨hWn o (by omega), by have := w3.o1; have := w3.o2; have := w3.o3; have := w3.os_lt; omega⟩, by omega⟩) (y : Int) (key + ed.co)
      simp -implicitDefEqProofs (maxSteps := 1000000) (disch := first | assumption | omega | (simp only [gL] <;> omega) | ((repeat (first | exact Ext.refl _ | assumption | apply Ext.app | apply Ext.mk | (refine Ext.setr ?_ (by (first | omega | (simp only [gL] <;> omega))) _))); done) | (simp only [gL, gA, ro3, w3.gc.sl.idxG, w3.gc.sl.ld0, encI, w3.lc, r3, ey.nil, ey.fldA0, ey.fldAf, ey.ldfE, e2s.idxG, e2s.ldf, hed, encE] <;> omega) | fail) only [gB, setAll, partL, fldV, reduceIte, Nat.reduceAdd, Nat.reduceMul, ro3, w3.gc.sl.idxG, w3.gc.sl.ld0, encI, w3.lc, r3, ey.nil, ey.fldA0, ey.fldAf, ey.ldfE, e2s.idxG, e2s.ldf, hed, encE]
      refine WP.call hmu ?_
      rintro _ h4 ⟨rfl, v4, f4⟩
      have w4 := w3.q' f4 (fun o z => z.1.2) (v4.wide fun o _ z => z.1)
      have f4b : FrS W hb h4 := f3.trans (f4.mono fun o _ z => z.1.1)
      have hml := w.qv.lm
      have gy : gf M y = gi M y := rfl
      have skip : ∀ v, gi M y = some v → v ≤ key + ed.co → putM n M y (key + ed.co) = (M, false) := by
        intro v h1 h2
        rw [putM, if_pos ⟨by omega, by omega⟩, h1]
        exact if_pos h2
      have put : (∀ v, gi M y = some v → ¬ v ≤ key + ed.co) → putM n M y (key + ed.co) = (M.set y (some (key + ed.co)), true) := by
        intro h1
        rw [putM, if_pos ⟨by omega, by omega⟩]
        cases hm : gi M (y : Int) with
        | none => rfl
        | some v => exact if_neg (h1 v hm)
      by_cases hm : ∃ v, gi M y = some v ∧ v ≤ key + ed.co
      · obtain ⟨v, m1, m2⟩ := hm
        rw [skip v m1 m2] at w4 ⊢
        simp -implicitDefEqProofs (maxSteps := 1000000) (disch := first | assumption | omega | (simp only [gL] <;> omega) | ((repeat (first | exact Ext.refl _ | assumption | apply Ext.app | apply Ext.mk | (refine Ext.setr ?_ (by (first | omega | (simp only [gL] <;> omega))) _))); done) | (simp only [gL, gA] <;> omega) | fail) only [gB, setAll, partL, fldV, reduceIte, Nat.reduceAdd, Nat.reduceMul]
        refine ih (i + 1) h4 ds fs M (by omega) f4b w4 (di.skip (.inr ⟨v, m1, ?_⟩))
        show v ≤ gi cs id + ed.co
        omega
      · have m1 : ∀ v, gi M y = some v → ¬ v ≤ key + ed.co := fun v z1 z2 => hm ⟨v, z1, z2⟩
        rw [put m1] at w4 ⊢
        have ro4 := w4.row
        have r4 : h4[h.length]? = some (.cells ⟨[I t.1, I t.2.1, I t.2.2], 0, 0, false⟩) := by rw [f4.get (fun z => z.2 rfl) (by omega)]; exact r3
        obtain ⟨h5, s1, w5, f5⟩ := w4.setE hyn t.2.2
        obtain ⟨h6, s2, w6, f6⟩ := w5.setF hyn id
        simp -implicitDefEqProofs (maxSteps := 1000000) (disch := first | assumption | omega | (simp only [gL] <;> omega) | ((repeat (first | exact Ext.refl _ | assumption | apply Ext.app | apply Ext.mk | (refine Ext.setr ?_ (by (first | omega | (simp only [gL] <;> omega))) _))); done) | (simp only [gL, gA, ro4, r4, w4.ge.sl.idxG, w4.gf.sl.idxG, w4.le, w4.lf, s1, s2] <;> omega) | fail) only [gB, setAll, partL, fldV, reduceIte, Nat.reduceAdd, Nat.reduceMul, ro4, r4, w4.ge.sl.idxG, w4.gf.sl.idxG, w4.le, w4.lf, s1, s2]
        refine ih (i + 1) h6 _ _ _ (by omega) ((f4b.trans (f5.mono fun o _ z => z ▸ w.we)).trans (f6.mono fun o _ z => z ▸ w.wv)) w6 ?_
        have := di.put hg hid (by show 0 ≤ gi cs id; omega) hA (by show gi cs y < 0; omega) (fun v z => by have := m1 v z; show gi cs id + ed.co < v; omega) (by show gi cs id ≤ _; omega)
        rw [show gf (M.set y (some (key + ed.co))) = _ from gset (by omega) _, show gf (ds.set y t.2.2) = _ from gset (by rw [w.le]; omega) _, show gf (fs.set y (id : Int)) = _ from gset (by rw [w.lf]; omega) _]
        have hcc : gf cs id = key := hc
        have hti2 : ((t.2.2.toNat : Nat) : Int) = t.2.2 := by omega
        rw [hcc, hti2] at this
        exact this
end
end Go.Gm.A9
