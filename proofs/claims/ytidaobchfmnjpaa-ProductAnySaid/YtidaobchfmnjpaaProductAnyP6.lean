/- A part of the proof: an abstract machine, what it does, and what the functions of the program come to on it (GmA9B, GmA9C, GmA9D, GmA9E, GmDj, GmRl, GmA9F, GmA9G, GmA9H, GmA9I, GmA9J, GmA9K, GmA9R, GmA9S). -/
import Derived.Test.YtidaobchfmnjpaaProductAnyP5
set_option linter.unusedVariables false
set_option linter.unusedSimpArgs false
set_option linter.unusedSectionVars false
namespace Go.Gm.A9
open Go Go.Gm
section
variable {W : Nat → Prop} {oq : Nat} {N : Nat} {M : List (Option Int)}

theorem QS.len {h : Heap} {xs : List (Int × Int)} {at' : List Int} (q : QS W h oq xs at') : xs.length ≤ 10000000 := by
  obtain ⟨s1, s2, o1, o2, q⟩ := q; exact q.len
theorem swapR {h : Heap} {xs : List (Int × Int)} {at' : List Int} (q : QS W h oq xs at') (r : Rep N xs at' M) {i j : Int} (i0 : 0 ≤ i) (i1 : i < xs.length) (j0 : 0 ≤ j) (j1 : j < xs.length) :
    Tot tab k5_ [.ptr oq 0 2 0, I i, I j] h fun _ h' => ∃ at2, QS W h' oq (sw xs i j) at2 ∧ Rep N (sw xs i j) at2 M ∧ FrS W h h' := by
  have ai := r.a i i0 i1
  have aj := r.a j j0 j1
  have la := r.la
  exact (b3d q i0 i1 j0 j1 ⟨ai.1, by omega⟩ ⟨aj.1, by omega⟩).mono fun _ h' ⟨a, b⟩ => ⟨_, a, r.swap i0 i1 j0 j1, b⟩

theorem b4m {h0 : Heap} {L : Nat} : ∀ (d : Nat) (j : Int) (h : Heap) (xs : List (Int × Int)) (at' : List Int), j ≤ d → 0 ≤ j → j < L → xs.length = L → QS W h oq xs at' → Rep N xs at' M → UpI L xs j → FrS W h0 h →
    WP (fun p : Nat × Nat => o2_ tab p.1 p.2 (.ifc tyHp (.ptr oq 0 2 0)) (I j) h) fun _ h' => ∃ xs2 at2, QS W h' oq xs2 at2 ∧ Rep N xs2 at2 M ∧ Hp L xs2 ∧ xs2.length = L ∧ FrS W h0 h' := by
  intro d
  induction d with
  | zero =>
    intro j h xs at' hd j0 j1 hl q r u fr
    refine WP.rnd (fun i' j' => a0H tab i' j' (.ifc tyHp (.ptr oq 0 2 0)) (I j) h) ?_
    obtain rfl : j = 0 := by omega
    have hw : IntKind.i64.wrap (((0 : Int) - 1).tdiv 2) = 0 := by decide
    simp -implicitDefEqProofs (disch := first | assumption | omega | (simp only [gL] <;> omega) | ((repeat (first | exact Ext.refl _ | assumption | apply Ext.app | apply Ext.mk | (refine Ext.setr ?_ (by (first | omega | (simp only [gL] <;> omega))) _))); done) | (simp only [gL, gA, hw] <;> omega) | fail) only [gB, setAll, partL, fldV, reduceIte, Nat.reduceAdd, Nat.reduceMul, hw]
    exact WP.ret ⟨xs, at', q, r, u.done (.inl rfl), hl, fr⟩
  | succ d ih =>
    intro j h xs at' hd j0 j1 hl q r u fr
    refine WP.rnd (fun i' j' => a0H tab i' j' (.ifc tyHp (.ptr oq 0 2 0)) (I j) h) ?_
    by_cases hj : j = 0
    · subst hj
      have hw : IntKind.i64.wrap (((0 : Int) - 1).tdiv 2) = 0 := by decide
      simp -implicitDefEqProofs (disch := first | assumption | omega | (simp only [gL] <;> omega) | ((repeat (first | exact Ext.refl _ | assumption | apply Ext.app | apply Ext.mk | (refine Ext.setr ?_ (by (first | omega | (simp only [gL] <;> omega))) _))); done) | (simp only [gL, gA, hw] <;> omega) | fail) only [gB, setAll, partL, fldV, reduceIte, Nat.reduceAdd, Nat.reduceMul, hw]
      exact WP.ret ⟨xs, at', q, r, u.done (.inl rfl), hl, fr⟩
    · have hlen := q.len
      have hp := k2_ (i := j) (by omega)
      have hw : IntKind.i64.wrap ((j - 1).tdiv 2) = par j := by
        rw [Int.tdiv_eq_ediv_of_nonneg (by omega)]
        exact o8_ (by omega) (by omega)
      simp -implicitDefEqProofs (disch := first | assumption | omega | (simp only [gL] <;> omega) | ((repeat (first | exact Ext.refl _ | assumption | apply Ext.app | apply Ext.mk | (refine Ext.setr ?_ (by (first | omega | (simp only [gL] <;> omega))) _))); done) | (simp only [gL, gA, hw, o6_] <;> omega) | fail) only [gB, setAll, partL, fldV, reduceIte, Nat.reduceAdd, Nat.reduceMul, hw, o6_]
      refine WP.call (a3g q j0 (by omega) hp.1 (by omega)) ?_
      rintro _ h1 ⟨rfl, e1⟩
      have fr1 := fr.trans (FrS.ofExt (D := W) e1)
      by_cases hlt : ltI (gi xs j) (gi xs (par j))
      · simp -implicitDefEqProofs (disch := first | assumption | omega | (simp only [gL] <;> omega) | ((repeat (first | exact Ext.refl _ | assumption | apply Ext.app | apply Ext.mk | (refine Ext.setr ?_ (by (first | omega | (simp only [gL] <;> omega))) _))); done) | (simp only [gL, gA, decide_eq_true hlt, a1M] <;> omega) | fail) only [gB, setAll, partL, fldV, reduceIte, Nat.reduceAdd, Nat.reduceMul, decide_eq_true hlt, a1M]
        refine WP.call (swapR (q.ext e1) r hp.1 (by omega) j0 (by omega)) ?_
        rintro _ h2 ⟨at2, q2, r2, f2⟩
        exact ih (par j) h2 (sw xs (par j) j) at2 (by omega) hp.1 (by omega) (by rw [a2O]; exact hl) q2 r2 (u.swap (by omega) j1 (by omega) hlt) (fr1.trans f2)
      · simp -implicitDefEqProofs (disch := first | assumption | omega | (simp only [gL] <;> omega) | ((repeat (first | exact Ext.refl _ | assumption | apply Ext.app | apply Ext.mk | (refine Ext.setr ?_ (by (first | omega | (simp only [gL] <;> omega))) _))); done) | (simp only [gL, gA, decide_eq_false hlt] <;> omega) | fail) only [gB, setAll, partL, fldV, reduceIte, Nat.reduceAdd, Nat.reduceMul, decide_eq_false hlt]
        exact WP.ret ⟨xs, at', q.ext e1, r, u.done (.inr hlt), hl, fr1⟩
theorem b2e {h : Heap} {xs : List (Int × Int)} {at' : List Int} {j : Int} (j0 : 0 ≤ j) (j1 : j < xs.length) (q : QS W h oq xs at') (r : Rep N xs at' M) (u : UpI xs.length xs j) :
    Tot tab d2_ [.ifc tyHp (.ptr oq 0 2 0), I j] h fun _ h' => ∃ xs2 at2, QS W h' oq xs2 at2 ∧ Rep N xs2 at2 M ∧ Hp xs.length xs2 ∧ xs2.length = xs.length ∧ FrS W h h' :=
  WP.tot (fun k => (a6f k _ _ h).trans (a7j tab k _ _ h)) (WP.ent (b4m j.toNat j h xs at' (by omega) j0 j1 rfl q r u (FrS.refl _ _)) fun i => rfl)

theorem b3g {h0 : Heap} {L n : Nat} {i0 : Int} {rt : Int × Int} (hn : n ≤ L) : ∀ (d : Nat) (i : Int) (h : Heap) (xs : List (Int × Int)) (at' : List Int), (n : Int) - i ≤ d → 0 ≤ i → i ≤ n → xs.length = L → QS W h oq xs at' → Rep N xs at' M → DnI n xs i → (∀ p : Int, n ≤ p → p < L → gi xs p = rt) → FrS W h0 h →
    WP (fun p : Nat × Nat => g3_ tab p.1 p.2 (.ifc tyHp (.ptr oq 0 2 0)) (I i0) (I n) (I i) h) fun r h' => (∃ b, r = .bool b) ∧ ∃ xs2 at2, QS W h' oq xs2 at2 ∧ Rep N xs2 at2 M ∧ Hp n xs2 ∧ xs2.length = L ∧ (∀ p : Int, n ≤ p → p < L → gi xs2 p = rt) ∧ FrS W h0 h' := by
  have fin : ∀ (i : Int) (h : Heap) (xs : List (Int × Int)) (at' : List Int), xs.length = L → QS W h oq xs at' → Rep N xs at' M → Hp n xs → (∀ p : Int, n ≤ p → p < L → gi xs p = rt) → FrS W h0 h →
      WP (fun k : Nat => g4_ tab k (I i0) (I i) h) fun r h' => (∃ b, r = .bool b) ∧ ∃ xs2 at2, QS W h' oq xs2 at2 ∧ Rep N xs2 at2 M ∧ Hp n xs2 ∧ xs2.length = L ∧ (∀ p : Int, n ≤ p → p < L → gi xs2 p = rt) ∧ FrS W h0 h' := by
    intro i h xs at' hl q r hp hrt fr
    refine WP.congr (fun k => a0f tab k (I i0) (I i) h) ?_
    refine WP.oa (b0l _ _) ?_
    exact WP.ret ⟨⟨_, rfl⟩, xs, at', q, r, hp, hl, hrt, fr⟩
  intro d
  induction d with
  | zero =>
    intro i h xs at' hd hi0 hin hl q r u hrt fr
    refine WP.rnd (fun i' j' => o3_ tab i' j' (.ifc tyHp (.ptr oq 0 2 0)) (I i0) (I n) (I i) h) ?_
    have hlen := q.len
    have hw : IntKind.i64.wrap (2 * i) = 2 * i := o8_ (by omega) (by omega)
    simp -implicitDefEqProofs (disch := first | assumption | omega | (simp only [gL] <;> omega) | ((repeat (first | exact Ext.refl _ | assumption | apply Ext.app | apply Ext.mk | (refine Ext.setr ?_ (by (first | omega | (simp only [gL] <;> omega))) _))); done) | (simp only [gL, gA, hw] <;> omega) | fail) only [gB, setAll, partL, fldV, reduceIte, Nat.reduceAdd, Nat.reduceMul, hw]
    exact WP.lv (fin i h xs at' hl q r (u.done fun c c0 c1 hc => by unfold par at hc; omega) hrt fr) fun i j => rfl
  | succ d ih =>
    intro i h xs at' hd hi0 hin hl q r u hrt fr
    refine WP.rnd (fun i' j' => o3_ tab i' j' (.ifc tyHp (.ptr oq 0 2 0)) (I i0) (I n) (I i) h) ?_
    have hlen := q.len
    have hw : IntKind.i64.wrap (2 * i) = 2 * i := o8_ (by omega) (by omega)
    by_cases hc1 : 2 * i + 1 < n
    · -- the lesser child
      have part : ∀ (j : Int) (h : Heap), par j = i → 0 < j → j < n → (∀ c : Int, 0 < c → c < n → par c = i → ¬ ltI (gi xs c) (gi xs j)) → QS W h oq xs at' → FrS W h0 h →
          WP (fun p : Nat × Nat => g5_ tab p.1 p.2 (.ifc tyHp (.ptr oq 0 2 0)) (I i0) (I n) (I i) (I j) h) fun r h' => (∃ b, r = .bool b) ∧ ∃ xs2 at2, QS W h' oq xs2 at2 ∧ Rep N xs2 at2 M ∧ Hp n xs2 ∧ xs2.length = L ∧ (∀ p : Int, n ≤ p → p < L → gi xs2 p = rt) ∧ FrS W h0 h' := by
        intro j h hj j0 j1 hs q fr
        have hpj := k2_ j0
        refine WP.congr (fun p => a0g tab p.1 p.2 (.ifc tyHp (.ptr oq 0 2 0)) (I i0) (I n) (I i) (I j) h) ?_
        simp -implicitDefEqProofs (disch := first | assumption | omega | (simp only [gL] <;> omega) | ((repeat (first | exact Ext.refl _ | assumption | apply Ext.app | apply Ext.mk | (refine Ext.setr ?_ (by (first | omega | (simp only [gL] <;> omega))) _))); done) | (simp only [gL, gA, o6_] <;> omega) | fail) only [gB, setAll, partL, fldV, reduceIte, Nat.reduceAdd, Nat.reduceMul, o6_]
        refine WP.call (a3g q (i := j) (j := i) (by omega) (by omega) hi0 (by omega)) ?_
        rintro _ h1 ⟨rfl, e1⟩
        have fr1 := fr.trans (FrS.ofExt (D := W) e1)
        by_cases hlt : ltI (gi xs j) (gi xs i)
        · simp -implicitDefEqProofs (disch := first | assumption | omega | (simp only [gL] <;> omega) | ((repeat (first | exact Ext.refl _ | assumption | apply Ext.app | apply Ext.mk | (refine Ext.setr ?_ (by (first | omega | (simp only [gL] <;> omega))) _))); done) | (simp only [gL, gA, decide_eq_true hlt, a1M] <;> omega) | fail) only [gB, setAll, partL, fldV, reduceIte, Nat.reduceAdd, Nat.reduceMul, decide_eq_true hlt, a1M]
          refine WP.call (swapR (q.ext e1) r hi0 (by omega) (by omega) (by omega)) ?_
          rintro _ h2 ⟨at2, q2, r2, f2⟩
          refine ih j h2 (sw xs i j) at2 (by omega) (by omega) (by omega) (by rw [a2O]; exact hl) q2 r2 (u.swap hi0 hj j0 j1 (by omega) hlt hs) (fun p p0 p1 => ?_) (fr1.trans f2)
          rw [gi_sw hi0 (by omega) (by omega) (by omega) (by omega), if_neg (by omega), if_neg (by omega)]
          exact hrt p p0 p1
        · simp -implicitDefEqProofs (disch := first | assumption | omega | (simp only [gL] <;> omega) | ((repeat (first | exact Ext.refl _ | assumption | apply Ext.app | apply Ext.mk | (refine Ext.setr ?_ (by (first | omega | (simp only [gL] <;> omega))) _))); done) | (simp only [gL, gA, decide_eq_false hlt] <;> omega) | fail) only [gB, setAll, partL, fldV, reduceIte, Nat.reduceAdd, Nat.reduceMul, decide_eq_false hlt]
          refine WP.lv (fin i h1 xs at' hl (q.ext e1) r (u.done fun c c0 c1 hc => ?_) hrt fr1) fun i j => rfl
          have := hs c c0 c1 hc
          unfold ltI at *; omega
      have hpar : ∀ c, par c = i → c = 2 * i + 1 ∨ c = 2 * i + 1 + 1 := fun c hc => by unfold par at hc; omega
      by_cases hc2 : 2 * i + 1 + 1 < n
      · simp -implicitDefEqProofs (disch := first | assumption | omega | (simp only [gL] <;> omega) | ((repeat (first | exact Ext.refl _ | assumption | apply Ext.app | apply Ext.mk | (refine Ext.setr ?_ (by (first | omega | (simp only [gL] <;> omega))) _))); done) | (simp only [gL, gA, hw, o6_] <;> omega) | fail) only [gB, setAll, partL, fldV, reduceIte, Nat.reduceAdd, Nat.reduceMul, hw, o6_]
        refine WP.call (a3g q (i := 2 * i + 1 + 1) (j := 2 * i + 1) (by omega) (by omega) (by omega) (by omega)) ?_
        rintro _ h1 ⟨rfl, e1⟩
        have fr1 := fr.trans (FrS.ofExt (D := W) e1)
        by_cases hlt : ltI (gi xs (2 * i + 1 + 1)) (gi xs (2 * i + 1))
        · simp -implicitDefEqProofs (disch := first | assumption | omega | (simp only [gL] <;> omega) | ((repeat (first | exact Ext.refl _ | assumption | apply Ext.app | apply Ext.mk | (refine Ext.setr ?_ (by (first | omega | (simp only [gL] <;> omega))) _))); done) | (simp only [gL, gA, decide_eq_true hlt] <;> omega) | fail) only [gB, setAll, partL, fldV, reduceIte, Nat.reduceAdd, Nat.reduceMul, decide_eq_true hlt]
          refine part (2 * i + 1 + 1) h1 (by unfold par; omega) (by omega) hc2 (fun c c0 c1 hc => ?_) (q.ext e1) fr1
          rcases hpar c hc with rfl | rfl <;> (unfold ltI at *; omega)
        · simp -implicitDefEqProofs (disch := first | assumption | omega | (simp only [gL] <;> omega) | ((repeat (first | exact Ext.refl _ | assumption | apply Ext.app | apply Ext.mk | (refine Ext.setr ?_ (by (first | omega | (simp only [gL] <;> omega))) _))); done) | (simp only [gL, gA, decide_eq_false hlt] <;> omega) | fail) only [gB, setAll, partL, fldV, reduceIte, Nat.reduceAdd, Nat.reduceMul, decide_eq_false hlt]
          refine part (2 * i + 1) h1 (by unfold par; omega) (by omega) hc1 (fun c c0 c1 hc => ?_) (q.ext e1) fr1
          rcases hpar c hc with rfl | rfl <;> (unfold ltI at *; omega)
      · simp -implicitDefEqProofs (disch := first | assumption | omega | (simp only [gL] <;> omega) | ((repeat (first | exact Ext.refl _ | assumption | apply Ext.app | apply Ext.mk | (refine Ext.setr ?_ (by (first | omega | (simp only [gL] <;> omega))) _))); done) | (simp only [gL, gA, hw] <;> omega) | fail) only [gB, setAll, partL, fldV, reduceIte, Nat.reduceAdd, Nat.reduceMul, hw]
        refine part (2 * i + 1) h (by unfold par; omega) (by omega) hc1 (fun c c0 c1 hc => ?_) q fr
        rcases hpar c hc with rfl | rfl
        · unfold ltI; omega
        · omega
    · simp -implicitDefEqProofs (disch := first | assumption | omega | (simp only [gL] <;> omega) | ((repeat (first | exact Ext.refl _ | assumption | apply Ext.app | apply Ext.mk | (refine Ext.setr ?_ (by (first | omega | (simp only [gL] <;> omega))) _))); done) | (simp only [gL, gA, hw] <;> omega) | fail) only [gB, setAll, partL, fldV, reduceIte, Nat.reduceAdd, Nat.reduceMul, hw]
      exact WP.lv (fin i h xs at' hl q r (u.done fun c c0 c1 hc => by unfold par at hc; omega) hrt fr) fun i j => rfl
theorem b3h {h : Heap} {xs : List (Int × Int)} {at' : List Int} {n : Nat} {i : Int} {rt : Int × Int} (hn : n ≤ xs.length) (i0 : 0 ≤ i) (i1 : i ≤ n) (q : QS W h oq xs at') (r : Rep N xs at' M) (u : DnI n xs i) (hrt : ∀ p : Int, n ≤ p → p < xs.length → gi xs p = rt) :
    Tot tab b7_ [.ifc tyHp (.ptr oq 0 2 0), I i, I n] h fun r h' => (∃ b, r = .bool b) ∧ ∃ xs2 at2, QS W h' oq xs2 at2 ∧ Rep N xs2 at2 M ∧ Hp n xs2 ∧ xs2.length = xs.length ∧ (∀ p : Int, n ≤ p → p < xs.length → gi xs2 p = rt) ∧ FrS W h h' :=
  WP.tot (fun k => (a0A k _ _ _ h).trans (a1e tab k _ _ _ h)) (WP.ent (b3g hn ((n : Int) - i).toNat i h xs at' (by omega) i0 i1 rfl q r u hrt (FrS.refl _ _)) fun i => rfl)
theorem b3i {h : Heap} {xs : List (Int × Int)} {at' : List Int} {i : Int} (i0 : 0 ≤ i) (i1 : i < xs.length) (q : QS W h oq xs at') (hc : ∀ c, 0 < c → c < (xs.length : Int) → par c = i → ¬ ltI (gi xs c) (gi xs i)) :
    Tot tab b7_ [.ifc tyHp (.ptr oq 0 2 0), I i, I xs.length] h fun r h' => r = .bool false ∧ Ext h h' := by
  refine WP.tot (fun k => (a0A k _ _ _ h).trans (a1e tab k _ _ _ h)) ?_
  have hlen := q.len
  have hw : IntKind.i64.wrap (2 * i) = 2 * i := o8_ (by omega) (by omega)
  refine WP.ent (c2 := fun p => g3_ tab p.1 p.2 (.ifc tyHp (.ptr oq 0 2 0)) (I i) (I xs.length) (I i) h) ?_ fun i => rfl
  refine WP.rnd (fun i' j' => o3_ tab i' j' (.ifc tyHp (.ptr oq 0 2 0)) (I i) (I xs.length) (I i) h) ?_
  have fin : ∀ h', Ext h h' → WP (fun k : Nat => g4_ tab k (I i) (I i) h') fun r h' => r = .bool false ∧ Ext h h' := by
    intro h' e
    refine WP.congr (fun k => a0f tab k (I i) (I i) h') ?_
    simp -implicitDefEqProofs (disch := first | assumption | omega | (simp only [gL] <;> omega) | ((repeat (first | exact Ext.refl _ | assumption | apply Ext.app | apply Ext.mk | (refine Ext.setr ?_ (by (first | omega | (simp only [gL] <;> omega))) _))); done) | (simp only [gL, gA] <;> omega) | fail) only [gB, setAll, partL, fldV, reduceIte, Nat.reduceAdd, Nat.reduceMul]
    exact WP.ret ⟨rfl, e⟩
  by_cases hc1 : 2 * i + 1 < xs.length
  · have part : ∀ (j : Int) (h' : Heap), par j = i → 0 < j → j < xs.length → Ext h h' →
        WP (fun p : Nat × Nat => g5_ tab p.1 p.2 (.ifc tyHp (.ptr oq 0 2 0)) (I i) (I xs.length) (I i) (I j) h') fun r h' => r = .bool false ∧ Ext h h' := by
      intro j h' hj j0 j1 e
      refine WP.congr (fun p => a0g tab p.1 p.2 (.ifc tyHp (.ptr oq 0 2 0)) (I i) (I xs.length) (I i) (I j) h') ?_
      simp -implicitDefEqProofs (disch := first | assumption | omega | (simp only [gL] <;> omega) | ((repeat (first | exact Ext.refl _ | assumption | apply Ext.app | apply Ext.mk | (refine Ext.setr ?_ (by (first | omega | (simp only [gL] <;> omega))) _))); done) | (simp only [gL, gA, o6_] <;> omega) | fail) only [gB, setAll, partL, fldV, reduceIte, Nat.reduceAdd, Nat.reduceMul, o6_]
      refine WP.call (a3g (q.ext e) (i := j) (j := i) (by omega) (by omega) i0 (by omega)) ?_
      rintro _ h1 ⟨rfl, e1⟩
      simp -implicitDefEqProofs (disch := first | assumption | omega | (simp only [gL] <;> omega) | ((repeat (first | exact Ext.refl _ | assumption | apply Ext.app | apply Ext.mk | (refine Ext.setr ?_ (by (first | omega | (simp only [gL] <;> omega))) _))); done) | (simp only [gL, gA, decide_eq_false (hc j j0 j1 hj)] <;> omega) | fail) only [gB, setAll, partL, fldV, reduceIte, Nat.reduceAdd, Nat.reduceMul, decide_eq_false (hc j j0 j1 hj)]
      exact WP.lv (fin h1 (e.trans e1)) fun i j => rfl
    by_cases hc2 : 2 * i + 1 + 1 < xs.length
    · simp -implicitDefEqProofs (disch := first | assumption | omega | (simp only [gL] <;> omega) | ((repeat (first | exact Ext.refl _ | assumption | apply Ext.app | apply Ext.mk | (refine Ext.setr ?_ (by (first | omega | (simp only [gL] <;> omega))) _))); done) | (simp only [gL, gA, hw, o6_] <;> omega) | fail) only [gB, setAll, partL, fldV, reduceIte, Nat.reduceAdd, Nat.reduceMul, hw, o6_]
      refine WP.call (a3g q (i := 2 * i + 1 + 1) (j := 2 * i + 1) (by omega) (by omega) (by omega) (by omega)) ?_
      rintro _ h1 ⟨rfl, e1⟩
      by_cases hlt : ltI (gi xs (2 * i + 1 + 1)) (gi xs (2 * i + 1))
      · simp -implicitDefEqProofs (disch := first | assumption | omega | (simp only [gL] <;> omega) | ((repeat (first | exact Ext.refl _ | assumption | apply Ext.app | apply Ext.mk | (refine Ext.setr ?_ (by (first | omega | (simp only [gL] <;> omega))) _))); done) | (simp only [gL, gA, decide_eq_true hlt] <;> omega) | fail) only [gB, setAll, partL, fldV, reduceIte, Nat.reduceAdd, Nat.reduceMul, decide_eq_true hlt]
        exact part (2 * i + 1 + 1) h1 (by unfold par; omega) (by omega) hc2 e1
      · simp -implicitDefEqProofs (disch := first | assumption | omega | (simp only [gL] <;> omega) | ((repeat (first | exact Ext.refl _ | assumption | apply Ext.app | apply Ext.mk | (refine Ext.setr ?_ (by (first | omega | (simp only [gL] <;> omega))) _))); done) | (simp only [gL, gA, decide_eq_false hlt] <;> omega) | fail) only [gB, setAll, partL, fldV, reduceIte, Nat.reduceAdd, Nat.reduceMul, decide_eq_false hlt]
        exact part (2 * i + 1) h1 (by unfold par; omega) (by omega) hc1 e1
    · simp -implicitDefEqProofs (disch := first | assumption | omega | (simp only [gL] <;> omega) | ((repeat (first | exact Ext.refl _ | assumption | apply Ext.app | apply Ext.mk | (refine Ext.setr ?_ (by (first | omega | (simp only [gL] <;> omega))) _))); done) | (simp only [gL, gA, hw] <;> omega) | fail) only [gB, setAll, partL, fldV, reduceIte, Nat.reduceAdd, Nat.reduceMul, hw]
      exact part (2 * i + 1) h (by unfold par; omega) (by omega) hc1 (Ext.refl _)
  · simp -implicitDefEqProofs (disch := first | assumption | omega | (simp only [gL] <;> omega) | ((repeat (first | exact Ext.refl _ | assumption | apply Ext.app | apply Ext.mk | (refine Ext.setr ?_ (by (first | omega | (simp only [gL] <;> omega))) _))); done) | (simp only [gL, gA, hw] <;> omega) | fail) only [gB, setAll, partL, fldV, reduceIte, Nat.reduceAdd, Nat.reduceMul, hw]
    exact WP.lv (fin h (Ext.refl _)) fun i j => rfl
end
end Go.Gm.A9

namespace Go.Gm.A9
open Go Go.Gm

def cnt (M : List (Option Int)) : Nat := M.countP (·.isSome)
theorem b3j (M : List (Option Int)) : cnt M ≤ M.length := List.countP_le_length
theorem b0s {M : List (Option Int)} {i : Int} (h0 : 0 ≤ i) (h1 : i < M.length) (x : Option Int) : cnt (M.set i.toNat x) + (if (gi M i).isSome then 1 else 0) = cnt M + (if x.isSome then 1 else 0) := by
  have hi : i.toNat < M.length := by omega
  have hx : M[i.toNat] = gi M i := by
    have := d5_ h0 h1
    rw [List.getElem?_eq_getElem hi] at this
    injection this
  have h2 := List.countP_set (p := fun y : Option Int => y.isSome) (a := x) hi
  rw [hx] at h2
  have h3 : (gi M i).isSome = true → 0 < cnt M := fun q => List.countP_pos_iff.2 ⟨gi M i, b4_ h0 h1, q⟩
  unfold cnt at *
  rw [h2]
  by_cases h4 : (gi M i).isSome = true
  · have := h3 h4
    simp only [h4, if_true]
    omega
  · simp only [if_neg h4]
    omega

def putM (N : Nat) (M : List (Option Int)) (id key : Int) : List (Option Int) × Bool :=
  if 0 ≤ id ∧ id < N then match gi M id with
    | none => (M.set id.toNat (some key), true)
    | some k => if k ≤ key then (M, false) else (M.set id.toNat (some key), true)
  else (M, false)
def keyM (N : Nat) (M : List (Option Int)) (id : Int) : Option Int := if 0 ≤ id ∧ id < N then gi M id else none
structure IsMin (N : Nat) (M : List (Option Int)) (id key : Int) : Prop where
  i0 : 0 ≤ id
  i1 : id < N
  k : gi M id = some key
  m : ∀ id' k' : Int, 0 ≤ id' → id' < N → gi M id' = some k' → ¬ ltI (id', k') (id, key)
theorem IsMin.uniq {N : Nat} {M : List (Option Int)} {a b c d : Int} (h : IsMin N M a b) (k : IsMin N M c d) : a = c ∧ b = d := by
  have h1 := h.m c d k.i0 k.i1 k.k
  have h2 := k.m a b h.i0 h.i1 h.k
  simp only [ltI] at h1 h2
  omega
def QV (W : Nat → Prop) (h : Heap) (q : AV) (N : Nat) (M : List (Option Int)) : Prop :=
  ∃ oq xs at', q = .ptr oq 0 2 0 ∧ QS W h oq xs at' ∧ Rep N xs at' M ∧ Hp xs.length xs ∧ xs.length = cnt M
section
variable {W : Nat → Prop} {h h' : Heap} {q : AV} {N : Nat} {M : List (Option Int)}
theorem QV.ext (v : QV W h q N M) (e : Ext h h') : QV W h' q N M := let ⟨oq, xs, a, h1, h2, h3⟩ := v; ⟨oq, xs, a, h1, h2.ext e, h3⟩
theorem QV.mono {W' : Nat → Prop} (v : QV W h q N M) (hw : ∀ o, o < h.length → W o → W' o) : QV W' h q N M := let ⟨oq, xs, a, h1, h2, h3⟩ := v; ⟨oq, xs, a, h1, h2.mono hw, h3⟩
theorem QV.frs {D : Nat → Prop} (v : QV W h q N M) (f : FrS D h h') (hd : ∀ o, o < h.length → W o → ¬ D o) : QV W h' q N M := let ⟨oq, xs, a, h1, h2, h3⟩ := v; ⟨oq, xs, a, h1, h2.frs f hd, h3⟩
theorem QV.lm (v : QV W h q N M) : M.length = N := let ⟨oq, xs, a, h1, h2, h3, _⟩ := v; h3.lm
theorem a8z (oq : Nat) (h : Heap) : Tot tab b5_ [.ptr oq 0 2 0] h fun r h' => r = .ifc tyHp (.ptr oq 0 2 0) ∧ h = h' := by
  refine WP.tot (fun k => (a6V k _ h).trans (a7P tab k _ h)) ?_
  simp -implicitDefEqProofs (disch := first | assumption | omega | (simp only [gL] <;> omega) | ((repeat (first | exact Ext.refl _ | assumption | apply Ext.app | apply Ext.mk | (refine Ext.setr ?_ (by (first | omega | (simp only [gL] <;> omega))) _))); done) | (simp only [gL, gA] <;> omega) | fail) only [gB, setAll, partL, fldV, reduceIte, Nat.reduceAdd, Nat.reduceMul]
  exact WP.ret ⟨rfl, rfl⟩
theorem b3k (v : QV W h q N M) (id : Int) : Tot tab j7_ [q, I id] h fun r h' => (r = match keyM N M id with | some k => .tup [I k, .bool true] | none => .tup [I 0, .bool false]) ∧ h = h' := by
  obtain ⟨oq, xs, a, rfl, qs, r, hp, hc⟩ := v
  refine WP.tot (fun k => (a7A k _ _ h).trans (a8p tab k _ _ h)) ?_
  refine WP.call (a8z oq h) ?_
  rintro _ _ ⟨rfl, rfl⟩
  simp -implicitDefEqProofs (disch := first | assumption | omega | (simp only [gL] <;> omega) | ((repeat (first | exact Ext.refl _ | assumption | apply Ext.app | apply Ext.mk | (refine Ext.setr ?_ (by (first | omega | (simp only [gL] <;> omega))) _))); done) | (simp only [gL, gA, a3S] <;> omega) | fail) only [gB, setAll, partL, fldV, reduceIte, Nat.reduceAdd, Nat.reduceMul, a3S]
  refine WP.call (b0d qs id) ?_
  rintro _ _ ⟨rfl, rfl⟩
  have la := r.la
  by_cases hid : 0 ≤ id ∧ id < N
  · rw [if_pos (by omega), keyM, if_pos hid]
    rcases r.b id hid.1 hid.2 with ⟨h1, h2⟩ | ⟨h1, h2, h3, h4⟩
    · rw [h1, h2]
      simp -implicitDefEqProofs (disch := first | assumption | omega | (simp only [gL] <;> omega) | ((repeat (first | exact Ext.refl _ | assumption | apply Ext.app | apply Ext.mk | (refine Ext.setr ?_ (by (first | omega | (simp only [gL] <;> omega))) _))); done) | (simp only [gL, gA] <;> omega) | fail) only [gB, setAll, partL, fldV, reduceIte, Nat.reduceAdd, Nat.reduceMul]
      exact WP.ret ⟨rfl, rfl⟩
    · rw [h4]
      obtain ⟨s1, s2, o1, o2, qs⟩ := qs
      simp -implicitDefEqProofs (disch := first | assumption | omega | (simp only [gL] <;> omega) | ((repeat (first | exact Ext.refl _ | assumption | apply Ext.app | apply Ext.mk | (refine Ext.setr ?_ (by (first | omega | (simp only [gL] <;> omega))) _))); done) | (simp only [gL, gA, qs.row, qs.g1.sl.idxG, qs.g1.sl.ldf, encIt] <;> omega) | fail) only [gB, setAll, partL, fldV, reduceIte, Nat.reduceAdd, Nat.reduceMul, qs.row, qs.g1.sl.idxG, qs.g1.sl.ldf, encIt]
      exact WP.ret ⟨rfl, rfl⟩
  · rw [if_neg (by omega), keyM, if_neg hid]
    simp -implicitDefEqProofs (disch := first | assumption | omega | (simp only [gL] <;> omega) | ((repeat (first | exact Ext.refl _ | assumption | apply Ext.app | apply Ext.mk | (refine Ext.setr ?_ (by (first | omega | (simp only [gL] <;> omega))) _))); done) | (simp only [gL, gA] <;> omega) | fail) only [gB, setAll, partL, fldV, reduceIte, Nat.reduceAdd, Nat.reduceMul]
    exact WP.ret ⟨rfl, rfl⟩
theorem b2v {oq : Nat} {xs : List (Int × Int)} {at' : List Int} (qs : QS W h oq xs at') (r : Rep N xs at' M) (hp : Hp xs.length xs) {id key : Int} (h0 : 0 ≤ id) (h1 : id < N) (hn : gi at' id = -1) (hlen : xs.length + 1 ≤ 10000000) :
    Tot tab d6_ [.ifc tyHp (.ptr oq 0 2 0), .ifc tyIt (.agg (encIt (id, key)))] h fun _ h' => ∃ xs2 at2, QS (fun o => W o ∨ h.length ≤ o) h' oq xs2 at2 ∧ Rep N xs2 at2 (M.set id.toNat (some key)) ∧ Hp xs2.length xs2 ∧ xs2.length = xs.length + 1 ∧ FrS W h h' := by
  refine WP.tot (fun k => (a4y k _ _ h).trans (a5Q tab k _ _ h)) ?_
  have la := r.la
  simp -implicitDefEqProofs (disch := first | assumption | omega | (simp only [gL] <;> omega) | ((repeat (first | exact Ext.refl _ | assumption | apply Ext.app | apply Ext.mk | (refine Ext.setr ?_ (by (first | omega | (simp only [gL] <;> omega))) _))); done) | (simp only [gL, gA, b0N] <;> omega) | fail) only [gB, setAll, partL, fldV, reduceIte, Nat.reduceAdd, Nat.reduceMul, b0N]
  refine WP.call (b3e qs h0 (by omega) hlen) ?_
  rintro _ h2 ⟨q2, f2⟩
  simp -implicitDefEqProofs (disch := first | assumption | omega | (simp only [gL] <;> omega) | ((repeat (first | exact Ext.refl _ | assumption | apply Ext.app | apply Ext.mk | (refine Ext.setr ?_ (by (first | omega | (simp only [gL] <;> omega))) _))); done) | (simp only [gL, gA, a2J] <;> omega) | fail) only [gB, setAll, partL, fldV, reduceIte, Nat.reduceAdd, Nat.reduceMul, a2J]
  refine WP.call (a7C q2) ?_
  rintro _ _ ⟨rfl, rfl⟩
  have hl : (xs ++ [(id, key)]).length = xs.length + 1 := by simp
  have r2 := r.push (key := key) h0 h1 hn
  have hj : ((xs ++ [(id, key)]).length : Int) - 1 = xs.length := by omega
  simp only [hl] at hj ⊢
  simp -implicitDefEqProofs (disch := first | assumption | omega | (simp only [gL] <;> omega) | ((repeat (first | exact Ext.refl _ | assumption | apply Ext.app | apply Ext.mk | (refine Ext.setr ?_ (by (first | omega | (simp only [gL] <;> omega))) _))); done) | (simp only [gL, gA, hj] <;> omega) | fail) only [gB, setAll, partL, fldV, reduceIte, Nat.reduceAdd, Nat.reduceMul, hj]
  refine WP.call (b2e (j := xs.length) (by omega) (by omega) q2 r2 (by rw [hl]; exact hp.push rfl _)) ?_
  rintro _ h3 ⟨xs2, at2, q3, r3, hp3, hl3, f3⟩
  rw [hl] at hl3 hp3
  refine WP.ret ⟨xs2, at2, q3, r3, by rw [hl3]; exact hp3, hl3, ⟨by have := f2.len; have := f3.len; omega, fun o k1 k2 => ?_⟩⟩
  have := f2.len
  rw [f3.get (fun z => by rcases z with z | z; exact k1 z; omega) (by omega), f2.get k1 k2]
theorem b3l {oq : Nat} {xs : List (Int × Int)} {at' : List Int} {n : Nat} (qs : QS W h oq xs at') (r : Rep N xs at' M) (hp : Hp xs.length xs) (hn : xs.length = n + 1) :
    Tot tab j5_ [.ifc tyHp (.ptr oq 0 2 0)] h fun v h' => v = .ifc tyIt (.agg (encIt (gi xs 0))) ∧ ∃ xs2 at2, QS W h' oq xs2 at2 ∧ Rep N xs2 at2 (M.set (gi xs 0).1.toNat none) ∧ Hp xs2.length xs2 ∧ xs2.length = n ∧ FrS W h h' := by
  refine WP.tot (fun k => (a5h k _ h).trans (a6E tab k _ h)) ?_
  have hlen := qs.len
  simp -implicitDefEqProofs (disch := first | assumption | omega | (simp only [gL] <;> omega) | ((repeat (first | exact Ext.refl _ | assumption | apply Ext.app | apply Ext.mk | (refine Ext.setr ?_ (by (first | omega | (simp only [gL] <;> omega))) _))); done) | (simp only [gL, gA, a2J] <;> omega) | fail) only [gB, setAll, partL, fldV, reduceIte, Nat.reduceAdd, Nat.reduceMul, a2J]
  refine WP.call (a7C qs) ?_
  rintro _ _ ⟨rfl, rfl⟩
  have hj : (xs.length : Int) - 1 = n := by omega
  simp -implicitDefEqProofs (disch := first | assumption | omega | (simp only [gL] <;> omega) | ((repeat (first | exact Ext.refl _ | assumption | apply Ext.app | apply Ext.mk | (refine Ext.setr ?_ (by (first | omega | (simp only [gL] <;> omega))) _))); done) | (simp only [gL, gA, hj, a1M] <;> omega) | fail) only [gB, setAll, partL, fldV, reduceIte, Nat.reduceAdd, Nat.reduceMul, hj, a1M]
  refine WP.call (swapR qs r (i := 0) (j := (n : Int)) (by omega) (by omega) (by omega) (by omega)) ?_
  rintro _ h2 ⟨at2, q2, r2, f2⟩
  rw [hn] at hp
  refine WP.call (b3h (n := n) (i := 0) (rt := gi xs 0) (by rw [a2O]; omega) (by omega) (by omega) q2 r2 (hp.begin hn) (fun p p0 p1 => ?_)) ?_
  · rw [a2O] at p1
    rw [gi_sw (by omega) (by omega) (by omega) (by omega) (by omega), if_pos (by omega)]
  rintro _ h3 ⟨⟨b, rfl⟩, xs3, at3, q3, r3, hp3, hl3, hr3, f3⟩
  rw [a2O] at hl3 hr3
  have hr3n := hr3 n (Int.le_refl _) (by omega)
  have an := r3.a n (by omega) (by omega)
  have la3 := r3.la
  simp -implicitDefEqProofs (disch := first | assumption | omega | (simp only [gL] <;> omega) | ((repeat (first | exact Ext.refl _ | assumption | apply Ext.app | apply Ext.mk | (refine Ext.setr ?_ (by (first | omega | (simp only [gL] <;> omega))) _))); done) | (simp only [gL, gA, b1w] <;> omega) | fail) only [gB, setAll, partL, fldV, reduceIte, Nat.reduceAdd, Nat.reduceMul, b1w]
  refine WP.call (b3f q3 (n := n) (by omega) ⟨an.1, by omega⟩) ?_
  rintro _ h4 ⟨rfl, q4, f4⟩
  have r4 := r3.pop (n := n) (by omega)
  rw [hr3n] at q4 r4 ⊢
  have hl4 : (xs3.take n).length = n := by simp; omega
  refine WP.ret ⟨rfl, xs3.take n, _, q4, r4, ?_, hl4, (f2.trans f3).trans f4⟩
  rw [hl4]
  intro i i0 i1
  have := k2_ i0
  rw [a7f (by omega) (by omega), a7f (by omega) (by omega)]
  exact hp3 i i0 i1
theorem b3m {oq : Nat} {xs : List (Int × Int)} {at' : List Int} {i : Int} (qs : QS W h oq xs at') (r : Rep N xs at' M) (i0 : 0 ≤ i) (i1 : i < xs.length) (u : UpI xs.length xs i) (hc : ∀ c, 0 < c → c < (xs.length : Int) → par c = i → ¬ ltI (gi xs c) (gi xs i)) :
    Tot tab e5_ [.ifc tyHp (.ptr oq 0 2 0), I i] h fun v h' => ∃ xs2 at2, QS W h' oq xs2 at2 ∧ Rep N xs2 at2 M ∧ Hp xs2.length xs2 ∧ xs2.length = xs.length ∧ FrS W h h' := by
  refine WP.tot (fun k => (a5g k _ _ h).trans (a6C tab k _ _ h)) ?_
  simp -implicitDefEqProofs (disch := first | assumption | omega | (simp only [gL] <;> omega) | ((repeat (first | exact Ext.refl _ | assumption | apply Ext.app | apply Ext.mk | (refine Ext.setr ?_ (by (first | omega | (simp only [gL] <;> omega))) _))); done) | (simp only [gL, gA, a2J] <;> omega) | fail) only [gB, setAll, partL, fldV, reduceIte, Nat.reduceAdd, Nat.reduceMul, a2J]
  refine WP.call (a7C qs) ?_
  rintro _ _ ⟨rfl, rfl⟩
  refine WP.call (b3i i0 i1 qs hc) ?_
  rintro _ h2 ⟨rfl, e2⟩
  simp -implicitDefEqProofs (disch := first | assumption | omega | (simp only [gL] <;> omega) | ((repeat (first | exact Ext.refl _ | assumption | apply Ext.app | apply Ext.mk | (refine Ext.setr ?_ (by (first | omega | (simp only [gL] <;> omega))) _))); done) | (simp only [gL, gA] <;> omega) | fail) only [gB, setAll, partL, fldV, reduceIte, Nat.reduceAdd, Nat.reduceMul]
  refine WP.call (b2e i0 i1 (qs.ext e2) r u) ?_
  rintro _ h3 ⟨xs3, at3, q3, r3, hp3, hl3, f3⟩
  exact WP.ret ⟨xs3, at3, q3, r3, by rw [hl3]; exact hp3, hl3, (FrS.ofExt e2).trans f3⟩
theorem b3n (v : QV W h q N M) (hN : N ≤ 1000000) (id key : Int) : Tot tab d1_ [q, I id, I key] h fun r h' => r = .bool (putM N M id key).2 ∧ QV (fun o => W o ∨ h.length ≤ o) h' q N (putM N M id key).1 ∧ FrS W h h' := by
  have vv := v
  obtain ⟨oq, xs, a, rfl, qs, r, hp, hc⟩ := v
  refine WP.tot (fun k => (a7z k _ _ _ h).trans (a8n tab k _ _ _ h)) ?_
  have la := r.la
  have lm := r.lm
  have hcl := b3j M
  have hmono : ∀ o, o < h.length → W o → W o ∨ h.length ≤ o := fun o _ z => .inl z
  by_cases h0 : 0 ≤ id
  · by_cases h1 : id < N
    · have hif : 0 ≤ id ∧ id < (N : Int) := ⟨h0, h1⟩
      have hgo : WP (fun k : Nat => ob (evalFn tab k b5_ [.ptr oq 0 2 0] h) fun t22_19 h_20 =>
          ob (callMeth tab (evalFn tab k) "milestone/queue.place" t22_19 [I id] h_20) fun t25_21 h_22 =>
          oa (binV .lss .scalar t25_21 (.int .i64 0)) fun t27_23 =>
          cond2 t27_23
            (oa (buildV [.int .i64 0, .int .i64 0] [(0, 1, I id), (1, 1, I key)]) fun t31_24 =>
              ob (evalFn tab k d6_ [t22_19, (.ifc tyIt t31_24)] h_22) fun t33_25 h_26 => some ((.bool true), h_26))
            (oa (nilCk (.ptr oq 0 2 0)) fun t35_27 => oa (fldA 0 t35_27) fun t36_28 => oa (fldA 0 t36_28) fun t37_29 => oa (ld1 h_22 t37_29) fun t38_30 => oa (idxS 2 t38_30 t25_21) fun t40_31 => oa (fldA 1 t40_31) fun t41_32 => oa (ld1 h_22 t41_32) fun t42_33 =>
              oa (binV .leq .scalar t42_33 (I key)) fun t44_34 =>
              cond2 t44_34 (some ((.bool false), h_22))
                (oa (nilCk (.ptr oq 0 2 0)) fun t46_35 => oa (fldA 0 t46_35) fun t47_36 => oa (fldA 0 t47_36) fun t48_37 => oa (ld1 h_22 t48_37) fun t49_38 => oa (idxS 2 t49_38 t25_21) fun t52_39 => oa (fldA 1 t52_39) fun t53_40 =>
                  oh (stN 1 h_22 t53_40 (I key)) fun h_41 => ob (evalFn tab k e5_ [t22_19, t25_21] h_41) fun t56_42 h_43 => some ((.bool true), h_43))))
          fun r h' => r = .bool (putM N M id key).2 ∧ QV (fun o => W o ∨ h.length ≤ o) h' (.ptr oq 0 2 0) N (putM N M id key).1 ∧ FrS W h h' := by
        refine WP.call (a8z oq h) ?_
        rintro _ _ ⟨rfl, rfl⟩
        simp -implicitDefEqProofs (disch := first | assumption | omega | (simp only [gL] <;> omega) | ((repeat (first | exact Ext.refl _ | assumption | apply Ext.app | apply Ext.mk | (refine Ext.setr ?_ (by (first | omega | (simp only [gL] <;> omega))) _))); done) | (simp only [gL, gA, a3S] <;> omega) | fail) only [gB, setAll, partL, fldV, reduceIte, Nat.reduceAdd, Nat.reduceMul, a3S]
        refine WP.call (b0d qs id) ?_
        rintro _ _ ⟨rfl, rfl⟩
        rw [if_pos (by omega)]
        rcases r.b id h0 h1 with ⟨k1, k2⟩ | ⟨k1, k2, k3, k4⟩
        · have hpm : putM N M id key = (M.set id.toNat (some key), true) := by simp only [putM, if_pos hif, k2]
          have hcs := b0s (M := M) (i := id) h0 (by omega) (some key)
          rw [k2] at hcs
          simp at hcs
          rw [hpm, k1]
          simp -implicitDefEqProofs (disch := first | assumption | omega | (simp only [gL] <;> omega) | ((repeat (first | exact Ext.refl _ | assumption | apply Ext.app | apply Ext.mk | (refine Ext.setr ?_ (by (first | omega | (simp only [gL] <;> omega))) _))); done) | (simp only [gL, gA] <;> omega) | fail) only [gB, setAll, partL, fldV, reduceIte, Nat.reduceAdd, Nat.reduceMul]
          refine WP.call (b2v qs r hp (key := key) h0 h1 k1 (by omega)) ?_
          rintro _ h3 ⟨xs3, at3, q3, r3, hp3, hl3, f3⟩
          exact WP.ret ⟨rfl, ⟨oq, xs3, at3, rfl, q3, r3, hp3, by omega⟩, f3⟩
        · obtain ⟨s1, s2, o1, o2, qw⟩ := qs
          by_cases hle : (gi xs (gi a id)).2 ≤ key
          · have hpm : putM N M id key = (M, false) := by simp only [putM, if_pos hif, k4, if_pos hle]
            rw [hpm]
            simp -implicitDefEqProofs (disch := first | assumption | omega | (simp only [gL] <;> omega) | ((repeat (first | exact Ext.refl _ | assumption | apply Ext.app | apply Ext.mk | (refine Ext.setr ?_ (by (first | omega | (simp only [gL] <;> omega))) _))); done) | (simp only [gL, gA, qw.row, qw.g1.sl.idxG, qw.g1.sl.ldf, encIt] <;> omega) | fail) only [gB, setAll, partL, fldV, reduceIte, Nat.reduceAdd, Nat.reduceMul, qw.row, qw.g1.sl.idxG, qw.g1.sl.ldf, encIt]
            exact WP.ret ⟨rfl, vv.mono hmono, FrS.refl _ _⟩
          · have hpm : putM N M id key = (M.set id.toNat (some key), true) := by simp only [putM, if_pos hif, k4, if_neg hle]
            have hcs := b0s (M := M) (i := id) h0 (by omega) (some key)
            rw [k4] at hcs
            simp at hcs
            rw [hpm]
            have hn : s1 ≠ .nils := qw.g1.nnil (by intro hx; rw [List.map_eq_nil_iff] at hx; rw [hx] at k2; simp at k2; omega)
            obtain ⟨w1, d1, d12, l1⟩ := qw.n1 hn
            have hq := (List.getElem?_eq_some_iff.1 qw.row).1
            obtain ⟨hA, m1, m2, m3, m4⟩ := qw.g1.write (i := gi a id) k1 (x := encIt (gi xs (gi a id))) (by simp [d5_ k1 k2]) 1 1 (v := I key) rfl (by omega) rfl
            have hset : (xs.map encIt).set (gi a id).toNat (setAll (encIt (gi xs (gi a id))) 1 (I key).cells) = (xs.set (gi a id).toNat (id, key)).map encIt := by
              rw [List.map_set]
              congr 1
              simp only [encIt, q7_, setAll, List.set_cons_succ, List.set_cons_zero, k3]
            rw [hset] at m2
            have d2 := qw.d2
            have l2 := qw.l2
            have qA : QS W hA oq (xs.set (gi a id).toNat (id, key)) a := ⟨s1, s2, o1, o2, by rw [m3.get (by omega) hq]; exact qw.row, m2, fun _ => ⟨w1, d1, d12, by omega⟩, qw.g2.fr m3 (by omega), qw.w2, qw.d2, by omega, qw.wq, by simp; exact qw.len, qw.lat⟩
            have rA := r.lower (key := key) h0 h1 k1
            have hlow := hp.lower (p := gi a id) (x := (id, key)) k1 k2 (Int.le_refl _) (by unfold ltI; omega)
            have hls : (xs.set (gi a id).toNat (id, key)).length = xs.length := by simp
            simp -implicitDefEqProofs (disch := first | assumption | omega | (simp only [gL] <;> omega) | ((repeat (first | exact Ext.refl _ | assumption | apply Ext.app | apply Ext.mk | (refine Ext.setr ?_ (by (first | omega | (simp only [gL] <;> omega))) _))); done) | (simp only [gL, gA, qw.row, qw.g1.sl.idxG, qw.g1.sl.ldf, encIt, m1] <;> omega) | fail) only [gB, setAll, partL, fldV, reduceIte, Nat.reduceAdd, Nat.reduceMul, qw.row, qw.g1.sl.idxG, qw.g1.sl.ldf, encIt, m1]
            refine WP.call (b3m (i := gi a id) qA rA k1 (by rw [hls]; exact k2) (by rw [hls]; exact hlow.1) (by rw [hls]; exact hlow.2)) ?_
            rintro _ h3 ⟨xs3, at3, q3, r3, hp3, hl3, f3⟩
            refine WP.ret ⟨rfl, QV.mono (W := W) ⟨oq, xs3, at3, rfl, q3, r3, hp3, by omega⟩ (fun o _ z => .inl z), ?_⟩
            exact (m3.s.mono fun o _ z => by
              obtain rfl : o = o1 := by omega
              exact w1).trans f3
      obtain ⟨s1, s2, o1, o2, qw⟩ := qs
      simp -implicitDefEqProofs (disch := first | assumption | omega | (simp only [gL] <;> omega) | ((repeat (first | exact Ext.refl _ | assumption | apply Ext.app | apply Ext.mk | (refine Ext.setr ?_ (by (first | omega | (simp only [gL] <;> omega))) _))); done) | (simp only [gL, gA, qw.row, qw.g2.sl.lenG] <;> omega) | fail) only [gB, setAll, partL, fldV, reduceIte, Nat.reduceAdd, Nat.reduceMul, qw.row, qw.g2.sl.lenG]
      exact hgo
    · have hpm : putM N M id key = (M, false) := by simp only [putM, if_neg (show ¬ (0 ≤ id ∧ id < (N : Int)) by omega)]
      rw [hpm]
      obtain ⟨s1, s2, o1, o2, qw⟩ := qs
      simp -implicitDefEqProofs (disch := first | assumption | omega | (simp only [gL] <;> omega) | ((repeat (first | exact Ext.refl _ | assumption | apply Ext.app | apply Ext.mk | (refine Ext.setr ?_ (by (first | omega | (simp only [gL] <;> omega))) _))); done) | (simp only [gL, gA, qw.row, qw.g2.sl.lenG] <;> omega) | fail) only [gB, setAll, partL, fldV, reduceIte, Nat.reduceAdd, Nat.reduceMul, qw.row, qw.g2.sl.lenG]
      exact WP.ret ⟨rfl, vv.mono hmono, FrS.refl _ _⟩
  · have hpm : putM N M id key = (M, false) := by simp only [putM, if_neg (show ¬ (0 ≤ id ∧ id < (N : Int)) by omega)]
    rw [hpm]
    simp -implicitDefEqProofs (disch := first | assumption | omega | (simp only [gL] <;> omega) | ((repeat (first | exact Ext.refl _ | assumption | apply Ext.app | apply Ext.mk | (refine Ext.setr ?_ (by (first | omega | (simp only [gL] <;> omega))) _))); done) | (simp only [gL, gA] <;> omega) | fail) only [gB, setAll, partL, fldV, reduceIte, Nat.reduceAdd, Nat.reduceMul]
    exact WP.ret ⟨rfl, vv.mono hmono, FrS.refl _ _⟩
end
end Go.Gm.A9

namespace Go.Gm.A9
open Go Go.Gm
section
variable {W : Nat → Prop} {h h' : Heap} {q : AV} {N : Nat} {M : List (Option Int)}
def PopQ (N : Nat) (M : List (Option Int)) (r : AV) (M2 : List (Option Int)) : Prop :=
  (cnt M = 0 ∧ r = .tup [I 0, I 0, .bool false] ∧ M2 = M) ∨ ∃ id key, IsMin N M id key ∧ r = .tup [I id, I key, .bool true] ∧ M2 = M.set id.toNat none
theorem a9B {M : List (Option Int)} (h : cnt M = 0) {i : Int} (h0 : 0 ≤ i) (h1 : i < M.length) : gi M i = none := by
  rw [cnt, List.countP_eq_zero] at h
  have := h _ (b4_ h0 h1)
  cases hx : gi M i with
  | none => rfl
  | some k => rw [hx] at this; simp at this
theorem PopQ.uniq {r r2 : AV} {M2 M3 : List (Option Int)} (hl : M.length = N) (a : PopQ N M r M2) (b : PopQ N M r2 M3) : r = r2 ∧ M2 = M3 := by
  rcases a with ⟨a1, rfl, rfl⟩ | ⟨i, k, a1, rfl, rfl⟩
  · rcases b with ⟨b1, rfl, rfl⟩ | ⟨i, k, b1, rfl, rfl⟩
    · exact ⟨rfl, rfl⟩
    · have := a9B a1 b1.i0 (by have := b1.i1; omega)
      rw [b1.k] at this; cases this
  · rcases b with ⟨b1, rfl, rfl⟩ | ⟨i2, k2, b1, rfl, rfl⟩
    · have := a9B b1 a1.i0 (by have := a1.i1; omega)
      rw [a1.k] at this; cases this
    · obtain ⟨rfl, rfl⟩ := a1.uniq b1
      exact ⟨rfl, rfl⟩
theorem b3o (v : QV W h q N M) (hN : N ≤ 1000000) : Tot tab j8_ [q] h fun r h' => ∃ M2, PopQ N M r M2 ∧ QV W h' q N M2 ∧ FrS W h h' := by
  have vv := v
  obtain ⟨oq, xs, a, rfl, qs, r, hp, hc⟩ := v
  refine WP.tot (fun k => (a7B k _ h).trans (a8r tab k _ h)) ?_
  have hcl := b3j M
  have lm := r.lm
  simp -implicitDefEqProofs (disch := first | assumption | omega | (simp only [gL] <;> omega) | ((repeat (first | exact Ext.refl _ | assumption | apply Ext.app | apply Ext.mk | (refine Ext.setr ?_ (by (first | omega | (simp only [gL] <;> omega))) _))); done) | (simp only [gL, gA] <;> omega) | fail) only [gB, setAll, partL, fldV, reduceIte, Nat.reduceAdd, Nat.reduceMul]
  refine WP.call (a7C qs) ?_
  rintro _ _ ⟨rfl, rfl⟩
  by_cases h0 : xs.length = 0
  · simp -implicitDefEqProofs (disch := first | assumption | omega | (simp only [gL] <;> omega) | ((repeat (first | exact Ext.refl _ | assumption | apply Ext.app | apply Ext.mk | (refine Ext.setr ?_ (by (first | omega | (simp only [gL] <;> omega))) _))); done) | (simp only [gL, gA] <;> omega) | fail) only [gB, setAll, partL, fldV, reduceIte, Nat.reduceAdd, Nat.reduceMul]
    exact WP.ret ⟨M, .inl ⟨by omega, rfl, rfl⟩, vv, FrS.refl _ _⟩
  · obtain ⟨n, hn⟩ : ∃ n, xs.length = n + 1 := ⟨xs.length - 1, by omega⟩
    simp -implicitDefEqProofs (disch := first | assumption | omega | (simp only [gL] <;> omega) | ((repeat (first | exact Ext.refl _ | assumption | apply Ext.app | apply Ext.mk | (refine Ext.setr ?_ (by (first | omega | (simp only [gL] <;> omega))) _))); done) | (simp only [gL, gA] <;> omega) | fail) only [gB, setAll, partL, fldV, reduceIte, Nat.reduceAdd, Nat.reduceMul]
    refine WP.call (a8z oq h) ?_
    rintro _ _ ⟨rfl, rfl⟩
    refine WP.call (b3l qs r hp hn) ?_
    rintro _ h2 ⟨rfl, xs2, at2, q2, r2, hp2, hl2, f2⟩
    have a0 := r.a 0 (by omega) (by omega)
    have hb : gi M (gi xs 0).1 = some (gi xs 0).2 := by
      rcases r.b _ a0.1 a0.2.1 with z | z
      · omega
      · rw [z.2.2.2, a0.2.2]
    have hcs := b0s (M := M) (i := (gi xs 0).1) a0.1 (by omega) none
    rw [hb] at hcs
    simp at hcs
    simp -implicitDefEqProofs (disch := first | assumption | omega | (simp only [gL] <;> omega) | ((repeat (first | exact Ext.refl _ | assumption | apply Ext.app | apply Ext.mk | (refine Ext.setr ?_ (by (first | omega | (simp only [gL] <;> omega))) _))); done) | (simp only [gL, gA, a5A, a4_, a5_, encIt] <;> omega) | fail) only [gB, setAll, partL, fldV, reduceIte, Nat.reduceAdd, Nat.reduceMul, a5A, a4_, a5_, encIt]
    refine WP.ret ⟨_, .inr ⟨(gi xs 0).1, (gi xs 0).2, ⟨a0.1, a0.2.1, hb, fun id' k' i0 i1 hk => ?_⟩, rfl, rfl⟩, ?_, f2.trans (FrS.ofExt (by ((repeat (first | exact Ext.refl _ | assumption | apply Ext.app | apply Ext.mk | (refine Ext.setr ?_ (by (first | omega | (simp only [gL] <;> omega))) _))))))⟩
    · rcases r.b id' i0 i1 with z | ⟨z0, z1, z2, z3⟩
      · rw [z.2] at hk; cases hk
      · have := hp.root (gi a id').toNat (gi a id') (by omega) z0 z1
        rw [z3] at hk
        injection hk with hk
        rw [← z2, ← hk]
        exact this
    · exact QV.ext ⟨oq, xs2, at2, rfl, q2, r2, hp2, by omega⟩ (by ((repeat (first | exact Ext.refl _ | assumption | apply Ext.app | apply Ext.mk | (refine Ext.setr ?_ (by (first | omega | (simp only [gL] <;> omega))) _)))))
theorem b3p {q1 : Nat} {s2 : AV} : ∀ (d n : Nat) (h : Heap) (at' : List Int), n + d = at'.length → at'.length ≤ 1000000 → (∀ i : Int, 0 ≤ i → i < n → gi at' i = -1) → h[q1 + 1]? = some (.cells ⟨[.nils, s2], 0, 0, false⟩) → Gr q1 (q1 + 1) h 1 s2 (at'.map encI) →
    WP (fun p : Nat × Nat => a1Z tab p.1 p.2 (.ptr (q1 + 1) 0 2 0) (I at'.length) (I n) h) fun r h' => r = .ptr (q1 + 1) 0 2 0 ∧ h'.length = h.length ∧ FrS (fun o => o = q1) h h' ∧ ∃ at2 : List Int, at2.length = at'.length ∧ (∀ i : Int, 0 ≤ i → i < at2.length → gi at2 i = -1) ∧ h'[q1 + 1]? = some (.cells ⟨[.nils, s2], 0, 0, false⟩) ∧ Gr q1 (q1 + 1) h' 1 s2 (at2.map encI) := by
  intro d
  induction d with
  | zero =>
    intro n h at' h1 hl ha row g
    refine WP.rnd (fun i' j => a5u tab i' j (.ptr (q1 + 1) 0 2 0) (I at'.length) (I n) h) ?_
    simp -implicitDefEqProofs (disch := first | assumption | omega | (simp only [gL] <;> omega) | ((repeat (first | exact Ext.refl _ | assumption | apply Ext.app | apply Ext.mk | (refine Ext.setr ?_ (by (first | omega | (simp only [gL] <;> omega))) _))); done) | (simp only [gL, gA] <;> omega) | fail) only [gB, setAll, partL, fldV, reduceIte, Nat.reduceAdd, Nat.reduceMul]
    exact WP.ret ⟨rfl, rfl, FrS.refl _ _, at', rfl, fun i i0 i1 => ha i i0 (by omega), row, g⟩
  | succ d ih =>
    intro n h at' h1 hl ha row g
    refine WP.rnd (fun i' j => a5u tab i' j (.ptr (q1 + 1) 0 2 0) (I at'.length) (I n) h) ?_
    have hq := (List.getElem?_eq_some_iff.1 row).1
    obtain ⟨h2, k1, k2, k3, k4⟩ := g.write0 (i := (n : Int)) (v := I (-1)) (by omega) (by simp; omega) rfl rfl
    have row2 : h2[q1 + 1]? = some (.cells ⟨[.nils, s2], 0, 0, false⟩) := by rw [k3.get (by omega) hq]; exact row
    have hll : (at'.set n (-1)).length = at'.length := by simp
    have := ih (n + 1) h2 (at'.set n (-1)) (by rw [hll]; omega) (by rw [hll]; exact hl) (fun i i0 i1 => ?_) row2 (k2.cong (by rw [List.map_set]; rfl))
    · simp -implicitDefEqProofs (disch := first | assumption | omega | (simp only [gL] <;> omega) | ((repeat (first | exact Ext.refl _ | assumption | apply Ext.app | apply Ext.mk | (refine Ext.setr ?_ (by (first | omega | (simp only [gL] <;> omega))) _))); done) | (simp only [gL, gA, row, g.sl.idxG, k1] <;> omega) | fail) only [gB, setAll, partL, fldV, reduceIte, Nat.reduceAdd, Nat.reduceMul, row, g.sl.idxG, k1]
      rw [hll] at this
      refine this.mono ?_
      rintro r h3 ⟨a1, a2, a3, a4⟩
      exact ⟨a1, by omega, (k3.s.mono fun o _ z => by omega).trans a3, a4⟩
    · have := k8_ (xs := at') (i := (n : Int)) (j := i) (by omega) (by omega) i0 (-1)
      rw [Int.toNat_natCast] at this
      rw [this]
      split
      · rfl
      · exact ha i i0 (by omega)
theorem a3h {α : Type} [Inhabited α] {n : Nat} {x : α} {i : Int} (h0 : 0 ≤ i) (h1 : i < n) : gi (List.replicate n x) i = x := by
  have : i.toNat < n := by omega
  simp [gi, List.getD_eq_getElem?_getD, List.getElem?_replicate, this]
theorem b4n (n : Nat) : cnt (List.replicate n (none : Option Int)) = 0 := by
  rw [cnt, List.countP_eq_zero]
  intro x hx
  rw [(List.mem_replicate.1 hx).2]; simp
theorem b3q (n : Nat) (hn : n ≤ 1000000) (h : Heap) : Tot tab a0K [I n] h fun r h' => QV (fun o => h.length ≤ o) h' r n (List.replicate n none) ∧ Ext h h' := by
  refine WP.tot (fun k => (b0q k _ h).trans (b1t tab k _ h)) ?_
  have hmx : max (n : Int) 0 = n := by omega
  obtain ⟨s2, h1, k1, k2, k3, k4, k5⟩ := q4_ (zero := [AV.int .i64 0]) (sz := 1) (bytes := 8) (n := (n : Int)) h (by omega) (by omega) (by omega) rfl rfl
  have hre : List.replicate (n : Int).toNat [AV.int .i64 0] = (List.replicate n (0 : Int)).map encI := by
    rw [List.map_replicate]; rfl
  rw [hre] at k2
  obtain ⟨h2, hh2⟩ : ∃ h2, h2 = h1 ++ [AObj.cells ⟨[.nils, s2], 0, 0, false⟩] := ⟨_, rfl⟩
  have e2 : Ext h1 h2 := by rw [hh2]; ((repeat (first | exact Ext.refl _ | assumption | apply Ext.app | apply Ext.mk | (refine Ext.setr ?_ (by (first | omega | (simp only [gL] <;> omega))) _))))
  have r2 : h2[h1.length]? = some (.cells ⟨[.nils, s2], 0, 0, false⟩) := by rw [hh2]; simp
  have hl2 : h2.length = h.length + 2 := by rw [hh2]; simp; omega
  simp -implicitDefEqProofs (disch := first | assumption | omega | (simp only [gL] <;> omega) | ((repeat (first | exact Ext.refl _ | assumption | apply Ext.app | apply Ext.mk | (refine Ext.setr ?_ (by (first | omega | (simp only [gL] <;> omega))) _))); done) | (simp only [gL, gA, hmx, k1, k2.sl.one, k2.sl.cells] <;> omega) | fail) only [gB, setAll, partL, fldV, reduceIte, Nat.reduceAdd, Nat.reduceMul, hmx, k1, k2.sl.one, k2.sl.cells]
  rw [← hh2]
  have g2 := k2.ext e2
  rw [k5] at r2
  have hlr : ((List.replicate n (0 : Int)).length : Int) = n := by simp
  have hnl := b3p (q1 := h.length) n 0 h2 (List.replicate n 0) (by simp) (by simp; omega) (fun i i0 i1 => by omega) r2 g2
  rw [hlr] at hnl
  simp -implicitDefEqProofs (disch := first | assumption | omega | (simp only [gL] <;> omega) | ((repeat (first | exact Ext.refl _ | assumption | apply Ext.app | apply Ext.mk | (refine Ext.setr ?_ (by (first | omega | (simp only [gL] <;> omega))) _))); done) | (simp only [gL, gA, r2, g2.sl.lenG, k5, hlr] <;> omega) | fail) only [gB, setAll, partL, fldV, reduceIte, Nat.reduceAdd, Nat.reduceMul, r2, g2.sl.lenG, k5, hlr]
  refine WP.ent (hnl.mono ?_) fun i => rfl
  rintro r h3 ⟨rfl, hl3, f3, at2, hla, ha, row3, g3⟩
  simp only [List.length_replicate] at hla
  refine ⟨⟨h.length + 1, [], at2, rfl, ⟨.nils, s2, 0, h.length, row3, .inl ⟨rfl, rfl⟩, fun q => absurd rfl q, g3, Nat.le_refl _, by omega, by omega, Nat.le_add_right _ _, by simp, by omega⟩, ⟨hla, by simp, fun i i0 i1 => by simp at i1; omega, fun id i0 i1 => .inl ⟨ha id i0 (by omega), a3h i0 i1⟩⟩, fun i i0 i1 => by simp at i1; omega, by rw [b4n]; rfl⟩, f3.ext (k3.trans e2) (fun o q1 q2 => by omega)⟩

end
end Go.Gm.A9

namespace Go.Gm.A9
open Go Go.Gm
def SQ (P : Nat → Prop) (h : Heap) (q : AV) (N : Nat) (M : List (Option Int)) : Prop := ∃ W, (∀ o, W o → P o ∧ o < h.length) ∧ QV W h q N M
section
variable {P : Nat → Prop} {hB h h' : Heap} {q x : AV} {N : Nat} {M : List (Option Int)}
theorem QV.sq {W : Nat → Prop} (v : QV W h q N M) (hp : ∀ o, o < h.length → W o → P o) : SQ P h q N M :=
  ⟨fun o => W o ∧ o < h.length, fun o z => ⟨hp o z.2 z.1, z.2⟩, v.mono fun o z1 z2 => ⟨z2, z1⟩⟩
theorem SQ.frs {D : Nat → Prop} (v : SQ P h q N M) (f : FrS D h h') (hd : ∀ o, o < h.length → P o → ¬ D o) : SQ P h' q N M :=
  let ⟨W, h1, h2⟩ := v
  ⟨W, fun o z => ⟨(h1 o z).1, Nat.lt_of_lt_of_le (h1 o z).2 f.len⟩, h2.frs f fun o z1 z2 => hd o z1 (h1 o z2).1⟩
theorem SQ.ext (v : SQ P h q N M) (e : Ext h h') : SQ P h' q N M := v.frs (D := fun _ => False) (FrS.ofExt e) fun _ _ _ z => z
theorem SQ.lm (v : SQ P h q N M) : M.length = N := let ⟨W, h1, h2⟩ := v; h2.lm
theorem SQ.put (v : SQ P h q N M) (hN : N ≤ 1000000) (hp : ∀ o, h.length ≤ o → P o) (id key : Int) : Tot tab d1_ [q, I id, I key] h fun r h' => r = .bool (putM N M id key).2 ∧ SQ P h' q N (putM N M id key).1 ∧ FrS P h h' := by
  obtain ⟨W, h1, h2⟩ := v
  refine (b3n h2 hN id key).mono ?_
  rintro r h' ⟨a, b, c⟩
  exact ⟨a, b.sq fun o z1 z2 => by
    rcases z2 with z2 | z2
    · exact (h1 o z2).1
    · exact hp o z2, c.mono fun o z1 z2 => (h1 o z2).1⟩
theorem SQ.pop (v : SQ P h q N M) (hN : N ≤ 1000000) : Tot tab j8_ [q] h fun r h' => ∃ M2, PopQ N M r M2 ∧ SQ P h' q N M2 ∧ FrS P h h' := by
  obtain ⟨W, h1, h2⟩ := v
  refine (b3o h2 hN).mono ?_
  rintro r h' ⟨M2, a, b, c⟩
  exact ⟨M2, a, b.sq fun o z1 z2 => (h1 o z2).1, c.mono fun o z1 z2 => (h1 o z2).1⟩
theorem SQ.key (v : SQ P h q N M) (id : Int) : Tot tab j7_ [q, I id] h fun r h' => (r = match keyM N M id with | some k => .tup [I k, .bool true] | none => .tup [I 0, .bool false]) ∧ h = h' := by
  obtain ⟨W, h1, h2⟩ := v
  exact b3k h2 id
end
end Go.Gm.A9

namespace Go.Gm
abbrev Hop := Nat × Nat × Int
inductive Wk (A : Nat → List Hop) (st : Nat → Prop) : Nat → List Nat → Int → Prop
  | nil {x : Nat} : st x → Wk A st x [] 0
  | snoc {x y e : Nat} {l : List Nat} {c w : Int} : Wk A st x l c → (y, e, w) ∈ A x → Wk A st y (l ++ [e]) (c + w)
def Lst (A : Nat → List Hop) (st : Nat → Prop) (x : Nat) (c : Int) : Prop := (∃ l, Wk A st x l c) ∧ ∀ l c', Wk A st x l c' → c ≤ c'
theorem Lst.uniq {A : Nat → List Hop} {st : Nat → Prop} {x : Nat} {c d : Int} (a : Lst A st x c) (b : Lst A st x d) : c = d := by
  obtain ⟨⟨l, h1⟩, h2⟩ := a
  obtain ⟨⟨l', h3⟩, h4⟩ := b
  have := h2 _ _ h3
  have := h4 _ _ h1
  omega
structure GOk (n : Nat) (W : Int) (A : Nat → List Hop) : Prop where
  w0 : 0 ≤ W
  hop : ∀ x, x < n → ∀ y e w, (y, e, w) ∈ A x → y < n ∧ 0 ≤ w ∧ w ≤ W
section
variable {n : Nat} {W : Int} {A : Nat → List Hop} {st : Nat → Prop}
theorem Wk.range (g : GOk n W A) (hs : ∀ x, st x → x < n) {x : Nat} {l : List Nat} {c : Int} (h : Wk A st x l c) : x < n ∧ 0 ≤ c := by
  induction h with
  | nil h => exact ⟨hs _ h, Int.le_refl _⟩
  | snoc _ k ih => have := g.hop _ ih.1 _ _ _ k; omega

structure DI (n : Nat) (W : Int) (A : Nat → List Hop) (st : Nat → Prop) (id : Nat) (todo : List Hop) (c : Nat → Int) (m : Nat → Option Int) (e f : Nat → Int) (r : Nat → Nat) (k : Nat) : Prop where
  fin : ∀ x, x < n → 0 ≤ c x → Lst A st x (c x)
  neg : ∀ x, x < n → ¬ 0 ≤ c x → c x = -1
  que : ∀ x, x < n → ∀ v, m x = some v → c x = -1 ∧ 0 ≤ v ∧ ∃ l, Wk A st x l v
  rel : ∀ x, x < n → 0 ≤ c x → ∀ y e w, (y, e, w) ∈ A x → (x = id ∧ (y, e, w) ∈ todo) ∨ 0 ≤ c y ∨ ∃ v, m y = some v ∧ v ≤ c x + w
  sta : ∀ x, x < n → st x → 0 ≤ c x ∨ m x = some 0
  ord : ∀ x y, x < n → y < n → 0 ≤ c x → ∀ v, m y = some v → c x ≤ v
  par : ∀ y, y < n → ∀ v, (0 ≤ c y ∧ c y = v ∨ m y = some v) → (f y = -1 ∧ st y ∧ v = 0) ∨ ∃ x w, x < n ∧ f y = (x : Int) ∧ 0 ≤ c x ∧ 0 ≤ e y ∧ (y, (e y).toNat, w) ∈ A x ∧ v = c x + w ∧ (0 ≤ c y → r x < r y)
  rk : ∀ x, x < n → 0 ≤ c x → r x < k
  bnd : ∀ x, x < n → ∀ v, (0 ≤ c x ∧ c x = v ∨ m x = some v) → v ≤ k * W
  mx : ∀ x, x < n → 0 ≤ c x → c x ≤ c id
theorem DI.front {c : Nat → Int} {m : Nat → Option Int} {e f : Nat → Int} {r : Nat → Nat} {k id : Nat} (g : GOk n W A) (hs : ∀ x, st x → x < n) (d : DI n W A st id [] c m e f r k) {y : Nat} {l : List Nat} {v : Int} (h : Wk A st y l v) : (0 ≤ c y ∧ c y ≤ v) ∨ ∃ z u, z < n ∧ m z = some u ∧ u ≤ v := by
  induction h with
  | @nil x h =>
    have hx := hs _ h
    rcases d.sta x hx h with h1 | h1
    · left
      have := (d.fin x hx h1).2 [] 0 (.nil h)
      exact ⟨h1, this⟩
    · exact .inr ⟨x, 0, hx, h1, Int.le_refl _⟩
  | @snoc x y e l v w h1 h2 ih =>
    have hx := (Wk.range g hs h1).1
    have hh := g.hop x hx _ _ _ h2
    rcases ih with ⟨i1, i2⟩ | ⟨z, u, i1, i2, i3⟩
    · rcases d.rel x hx i1 _ _ _ h2 with ⟨_, q⟩ | q | ⟨u, q1, q2⟩
      · simp at q
      · left
        exact ⟨q, (d.fin y hh.1 q).2 _ _ (.snoc h1 h2)⟩
      · exact .inr ⟨y, u, hh.1, q1, by omega⟩
    · exact .inr ⟨z, u, i1, i2, by omega⟩
theorem DI.all {c : Nat → Int} {m : Nat → Option Int} {e f : Nat → Int} {r : Nat → Nat} {k id : Nat} (g : GOk n W A) (hs : ∀ x, st x → x < n) (d : DI n W A st id [] c m e f r k) (hm : ∀ x, x < n → m x = none) {y : Nat} {l : List Nat} {v : Int} (h : Wk A st y l v) : 0 ≤ c y ∧ c y ≤ v := by
  rcases d.front g hs h with h1 | ⟨z, u, h1, h2, _⟩
  · exact h1
  · rw [hm z h1] at h2; cases h2
theorem DI.pop {c : Nat → Int} {m : Nat → Option Int} {e f : Nat → Int} {r : Nat → Nat} {k id0 : Nat} (g : GOk n W A) (hs : ∀ x, st x → x < n) (d : DI n W A st id0 [] c m e f r k) {id : Nat} {key : Int} (hid : id < n) (hm : m id = some key) (hmin : ∀ z, z < n → ∀ u, m z = some u → key ≤ u) :
    DI n W A st id (A id) (fun x => if x = id then key else c x) (fun x => if x = id then none else m x) e f (fun x => if x = id then k else r x) (k + 1) := by
  obtain ⟨q1, q2, q3⟩ := d.que id hid key hm
  have hW := g.w0
  have hkW : (k : Int) * W ≤ ((k + 1 : Nat) : Int) * W := by
    rw [Int.natCast_add, Int.add_mul]; omega
  have least : ∀ l v, Wk A st id l v → key ≤ v := by
    intro l v h
    rcases d.front g hs h with h1 | ⟨z, u, h1, h2, h3⟩
    · omega
    · have := hmin z h1 u h2; omega
  refine ⟨fun x hx h => ?_, fun x hx h => ?_, fun x hx v h => ?_, fun x hx h y e' w h2 => ?_, fun x hx h => ?_, fun x y hx hy h v h2 => ?_, fun y hy v h => ?_, fun x hx h => ?_, fun x hx v h => ?_, fun x hx h => ?_⟩
  · try simp only at h ⊢
    by_cases q : x = id
    · subst q; rw [if_pos rfl] at h ⊢; exact ⟨q3, least⟩
    · rw [if_neg q] at h ⊢; exact d.fin x hx h
  · try simp only at h ⊢
    by_cases q : x = id
    · subst q; rw [if_pos rfl] at h; exact absurd q2 h
    · rw [if_neg q] at h ⊢; exact d.neg x hx h
  · try simp only at h ⊢
    by_cases q : x = id
    · rw [if_pos q] at h; cases h
    · rw [if_neg q] at h ⊢; exact d.que x hx v h
  · try simp only at h ⊢
    by_cases q : x = id
    · subst q; exact .inl ⟨rfl, h2⟩
    · rw [if_neg q] at h ⊢
      rcases d.rel x hx h _ _ _ h2 with ⟨_, z⟩ | z | ⟨v, z1, z2⟩
      · simp at z
      · right; left
        by_cases q' : y = id
        · rw [if_pos q']; exact q2
        · rw [if_neg q']; exact z
      · right
        by_cases q' : y = id
        · left; rw [if_pos q']; exact q2
        · right; exact ⟨v, by rw [if_neg q']; exact z1, z2⟩
  · try simp only
    by_cases q : x = id
    · left; rw [if_pos q]; exact q2
    · rw [if_neg q, if_neg q]; exact d.sta x hx h
  · try simp only at h h2 ⊢
    by_cases q' : y = id
    · rw [if_pos q'] at h2; cases h2
    · rw [if_neg q'] at h2
      by_cases q : x = id
      · rw [if_pos q]; exact hmin y hy v h2
      · rw [if_neg q] at h ⊢; exact d.ord x y hx hy h v h2
  · try simp only at h ⊢
    have h' : 0 ≤ c y ∧ c y = v ∨ m y = some v := by
      by_cases q : y = id
      · subst q
        rw [if_pos rfl, if_pos rfl] at h
        rcases h with h | h
        · exact .inr (by rw [hm, h.2])
        · cases h
      · rw [if_neg q, if_neg q] at h; exact h
    rcases d.par y hy v h' with z | ⟨x, w, z1, z2, z3, z4, z5, z6, z7⟩
    · exact .inl z
    · refine .inr ⟨x, w, z1, z2, ?_, z4, z5, ?_, fun _ => ?_⟩
      · by_cases q : x = id
        · rw [if_pos q]; exact q2
        · rw [if_neg q]; exact z3
      · by_cases q : x = id
        · subst q; omega
        · rw [if_neg q]; exact z6
      · have hxi : x ≠ id := fun q => by subst q; omega
        rw [if_neg hxi]
        by_cases q : y = id
        · rw [if_pos q]; exact d.rk x z1 z3
        · rw [if_neg q]
          refine z7 ?_
          rw [if_neg q, if_neg q] at h
          rcases h with h | h
          · exact h.1
          · have h0 : 0 ≤ c y ∨ ¬ 0 ≤ c y := by omega
            rcases h0 with h0 | h0
            · exact h0
            · rename_i hc
              simp only [if_neg q] at hc
              exact hc
  · try simp only at h ⊢
    by_cases q : x = id
    · rw [if_pos q]; omega
    · rw [if_neg q] at h ⊢; have := d.rk x hx h; omega
  · try simp only at h
    have h' : 0 ≤ c x ∧ c x = v ∨ m x = some v := by
      by_cases q : x = id
      · subst q
        rw [if_pos rfl, if_pos rfl] at h
        rcases h with h | h
        · exact .inr (by rw [hm, h.2])
        · cases h
      · rw [if_neg q, if_neg q] at h; exact h
    have := d.bnd x hx v h'
    omega
  · rw [if_pos rfl]
    by_cases q : x = id
    · rw [if_pos q]; omega
    · rw [if_neg q] at h ⊢; exact d.ord x id hx hid h key hm
theorem DI.skip {c : Nat → Int} {m : Nat → Option Int} {e f : Nat → Int} {r : Nat → Nat} {k id y ed : Nat} {w : Int} {todo : List Hop} (d : DI n W A st id ((y, ed, w) :: todo) c m e f r k) (h : 0 ≤ c y ∨ ∃ v, m y = some v ∧ v ≤ c id + w) : DI n W A st id todo c m e f r k := by
  refine ⟨d.fin, d.neg, d.que, fun x hx h1 y' e' w' h2 => ?_, d.sta, d.ord, d.par, d.rk, d.bnd, d.mx⟩
  rcases d.rel x hx h1 _ _ _ h2 with ⟨rfl, z⟩ | z
  · rcases List.mem_cons.1 z with z | z
    · injection z with z1 z2
      injection z2 with z2 z3
      subst z1 z2 z3
      exact .inr h
    · exact .inl ⟨rfl, z⟩
  · exact .inr z
theorem DI.put {c : Nat → Int} {m : Nat → Option Int} {e f : Nat → Int} {r : Nat → Nat} {k id y ed : Nat} {w : Int} {todo : List Hop} (g : GOk n W A) (d : DI n W A st id ((y, ed, w) :: todo) c m e f r (k + 1)) (hid : id < n) (hc : 0 ≤ c id) (hA : (y, ed, w) ∈ A id) (hy : c y < 0) (hm : ∀ v, m y = some v → c id + w < v) (hk : c id ≤ k * W) :
    DI n W A st id todo c (fun x => if x = y then some (c id + w) else m x) (fun x => if x = y then (ed : Int) else e x) (fun x => if x = y then (id : Int) else f x) r (k + 1) := by
  have hh := g.hop id hid _ _ _ hA
  have hyn := d.neg y hh.1 (by omega)
  obtain ⟨⟨l, hl⟩, _⟩ := d.fin id hid hc
  refine ⟨d.fin, d.neg, fun x hx v h => ?_, fun x hx h1 y' e' w' h2 => ?_, fun x hx h => ?_, fun x z hx hz h v h2 => ?_, fun z hz v h => ?_, d.rk, fun x hx v h => ?_, d.mx⟩
  · try simp only at h
    by_cases q : x = y
    · subst q
      rw [if_pos rfl] at h
      injection h with h
      subst h
      exact ⟨hyn, by omega, _, .snoc hl hA⟩
    · rw [if_neg q] at h; exact d.que x hx v h
  · try simp only
    have key : ∀ z, (0 ≤ c z ∨ ∃ v, m z = some v ∧ v ≤ c x + w') → (0 ≤ c z ∨ ∃ v, (if z = y then some (c id + w) else m z) = some v ∧ v ≤ c x + w') := by
      rintro z (q | ⟨v, q1, q2⟩)
      · exact .inl q
      · by_cases qz : z = y
        · subst qz
          right
          exact ⟨c id + w, by rw [if_pos rfl], by have := hm v q1; omega⟩
        · exact .inr ⟨v, by rw [if_neg qz]; exact q1, q2⟩
    rcases d.rel x hx h1 _ _ _ h2 with ⟨rfl, z⟩ | z
    · rcases List.mem_cons.1 z with z | z
      · injection z with z1 z2
        injection z2 with z2 z3
        subst z1 z2 z3
        exact .inr (.inr ⟨c x + w', by rw [if_pos rfl], Int.le_refl _⟩)
      · exact .inl ⟨rfl, z⟩
    · exact .inr (key _ z)
  · try simp only
    rcases d.sta x hx h with q | q
    · exact .inl q
    · by_cases qz : x = y
      · subst qz
        have := hm 0 q
        omega
      · right; rw [if_neg qz]; exact q
  · try simp only at h2
    by_cases q : z = y
    · subst q
      rw [if_pos rfl] at h2
      injection h2 with h2
      subst h2
      have := d.mx x hx h; omega
    · rw [if_neg q] at h2; exact d.ord x z hx hz h v h2
  · try simp only at h ⊢
    by_cases q : z = y
    · subst q
      rw [if_pos rfl] at h
      right
      have hv : v = c id + w := by
        rcases h with h | h
        · omega
        · injection h with h; exact h.symm
      refine ⟨id, w, hid, by rw [if_pos rfl], hc, by rw [if_pos rfl]; omega, by rw [if_pos rfl]; simpa using hA, hv, fun h => by omega⟩
    · rw [if_neg q] at h
      rw [if_neg q, if_neg q]
      exact d.par z hz v h
  · try simp only at h
    by_cases q : x = y
    · subst q
      rw [if_pos rfl] at h
      have hv : v = c id + w := by
        rcases h with h | h
        · omega
        · injection h with h; exact h.symm
      rw [Int.natCast_add, Int.add_mul]
      omega
    · rw [if_neg q] at h; exact d.bnd x hx v h
end
end Go.Gm

namespace Go.Gm
def sumN (f : Nat → Int) : Nat → Int
  | 0 => 0
  | n + 1 => sumN f n + f n
theorem a0C {f g : Nat → Int} : ∀ n, (∀ x, x < n → f x = g x) → sumN f n = sumN g n
  | 0, _ => rfl
  | n + 1, h => by rw [sumN, sumN, a0C n fun x hx => h x (by omega), h n (by omega)]
theorem a7D {f : Nat → Int} {y : Nat} {a : Int} : ∀ n, y < n → sumN (fun x => if x = y then a else f x) n = sumN f n - f y + a
  | 0, h => by omega
  | n + 1, h => by
    rw [sumN, sumN]
    by_cases q : y = n
    · subst q
      rw [if_pos rfl, a0C y (g := f) fun x hx => if_neg (by omega)]
      omega
    · rw [if_neg (fun z => q z.symm), a7D n (by omega)]
      omega
theorem a6k {f : Nat → Int} : ∀ n, (∀ x, x < n → 0 ≤ f x) → 0 ≤ sumN f n
  | 0, _ => Int.le_refl _
  | n + 1, h => by
    have := a6k n fun x hx => h x (by omega)
    have := h n (by omega)
    rw [sumN]; omega
theorem b2f {f : Nat → Int} : ∀ n, (∀ x, x < n → f x ≤ 1) → sumN f n ≤ n
  | 0, _ => Int.le_refl _
  | n + 1, h => by
    have := b2f n fun x hx => h x (by omega)
    have := h n (by omega)
    rw [sumN]; omega
def up (c : Nat → Int) (y : Nat) (v : Int) : Nat → Int := fun x => if x = y then v else c x
def un (n : Nat) (c : Nat → Int) : Int := sumN (fun x => if c x < 0 then 1 else 0) n
def mu (n : Nat) (W : Int) (c : Nat → Int) : Int := sumN (fun x => if c x < 0 then n * W + 1 else c x) n
theorem o7_ (n : Nat) (c : Nat → Int) : 0 ≤ un n c := a6k n fun x _ => by split <;> omega
theorem un_le (n : Nat) (c : Nat → Int) : un n c ≤ n := b2f n fun x _ => by split <;> omega
theorem b0O {n : Nat} {W : Int} (hW : 0 ≤ W) (c : Nat → Int) : 0 ≤ mu n W c := by
  have : 0 ≤ (n : Int) * W := Int.mul_nonneg (by omega) hW
  exact a6k n fun x _ => by split <;> omega
theorem un_up {n : Nat} {c : Nat → Int} {y : Nat} {v : Int} (hy : y < n) (hv : 0 ≤ v) : un n (up c y v) = un n c - if c y < 0 then 1 else 0 := by
  have : un n (up c y v) = sumN (fun x => if x = y then 0 else (fun x => if c x < 0 then (1 : Int) else 0) x) n := by
    refine a0C n fun x hx => ?_
    by_cases q : x = y
    · have e : up c y v x = v := if_pos q
      simp only [e, if_pos q]
      rw [if_neg (by omega)]
    · have e : up c y v x = c x := if_neg q
      simp only [e, if_neg q]
  rw [this, a7D n hy, un]
  omega
theorem mu_up {n : Nat} {W : Int} {c : Nat → Int} {y : Nat} {v : Int} (hy : y < n) (hv : 0 ≤ v) : mu n W (up c y v) = mu n W c - (if c y < 0 then n * W + 1 else c y) + v := by
  have : mu n W (up c y v) = sumN (fun x => if x = y then v else (fun x => if c x < 0 then n * W + 1 else c x) x) n := by
    refine a0C n fun x hx => ?_
    by_cases q : x = y
    · have e : up c y v x = v := if_pos q
      simp only [e, if_pos q]
      rw [if_neg (by omega)]
    · have e : up c y v x = c x := if_neg q
      simp only [e, if_neg q]
  rw [this, a7D n hy, mu]
structure RI (n : Nat) (W : Int) (A : Nat → List Hop) (st : Nat → Prop) (c : Nat → Int) : Prop where
  wk : ∀ x, x < n → 0 ≤ c x → ∃ l, Wk A st x l (c x)
  neg : ∀ x, x < n → ¬ 0 ≤ c x → c x = -1
  sta : ∀ x, x < n → st x → c x = 0
  bnd : ∀ x, x < n → c x + un n c * W ≤ n * W
def LC (n : Nat) (A : Nat → List Hop) (st : Nat → Prop) (c : Nat → Int) : Prop := ∀ x, x < n → (0 ≤ c x ∧ Lst A st x (c x)) ∨ (c x = -1 ∧ ∀ l v, ¬ Wk A st x l v)
section
variable {n : Nat} {W : Int} {A : Nat → List Hop} {st : Nat → Prop} {c : Nat → Int}
theorem LC.uniq {d : Nat → Int} (a : LC n A st c) (b : LC n A st d) : ∀ x, x < n → c x = d x := by
  intro x hx
  rcases a x hx with ⟨a1, a2⟩ | ⟨a1, a2⟩ <;> rcases b x hx with ⟨b1, b2⟩ | ⟨b1, b2⟩
  · exact a2.uniq b2
  · obtain ⟨⟨l, h⟩, _⟩ := a2
    exact absurd h (b2 _ _)
  · obtain ⟨⟨l, h⟩, _⟩ := b2
    exact absurd h (a2 _ _)
  · omega
theorem RI.le (hW : 0 ≤ W) (r : RI n W A st c) {x : Nat} (hx : x < n) : -1 ≤ c x ∧ c x ≤ n * W := by
  have h1 := r.bnd x hx
  have h2 : 0 ≤ un n c * W := Int.mul_nonneg (o7_ n c) hW
  have h3 := r.neg x hx
  omega
theorem RI.relax (g : GOk n W A) (hs : ∀ x, st x → x < n) (r : RI n W A st c) {x y e : Nat} {w : Int} (hx : x < n) (h : (y, e, w) ∈ A x) (h0 : 0 ≤ c x) (hr : c y < 0 ∨ c x + w < c y) :
    RI n W A st (up c y (c x + w)) ∧ mu n W (up c y (c x + w)) < mu n W c := by
  obtain ⟨hy, w0, w1⟩ := g.hop x hx _ _ _ h
  have hW := g.w0
  have hv : 0 ≤ c x + w := by omega
  obtain ⟨l, hl⟩ := r.wk x hx h0
  have bx := r.bnd x hx
  have bu := o7_ n (up c y (c x + w))
  have eu := un_up (c := c) hy hv
  have bm := Int.mul_nonneg bu hW
  have key : c x + w + un n (up c y (c x + w)) * W ≤ n * W := by
    by_cases q : c y < 0
    · rw [if_pos q] at eu
      rw [eu, Int.sub_mul]
      omega
    · rw [if_neg q] at eu
      have := r.bnd y hy
      rw [eu, Int.sub_zero]
      omega
  refine ⟨⟨fun z hz hc => ?_, fun z hz hc => ?_, fun z hz hc => ?_, fun z hz => ?_⟩, ?_⟩
  · by_cases q : z = y
    · subst q
      simp only [up, if_pos rfl]
      exact ⟨_, .snoc hl h⟩
    · simp only [up, if_neg q] at hc ⊢
      exact r.wk z hz hc
  · by_cases q : z = y
    · simp only [up, if_pos q] at hc; omega
    · simp only [up, if_neg q] at hc ⊢
      exact r.neg z hz hc
  · by_cases q : z = y
    · subst q
      have := r.sta z hz hc
      omega
    · simp only [up, if_neg q]
      exact r.sta z hz hc
  · by_cases q : z = y
    · subst q
      have : up c z (c x + w) z = c x + w := if_pos rfl
      rw [this]; exact key
    · have : up c y (c x + w) z = c z := by simp only [up, if_neg q]
      rw [this]
      have h1 := r.bnd z hz
      have h2 : un n (up c y (c x + w)) * W ≤ un n c * W := Int.mul_le_mul_of_nonneg_right (by rw [eu]; split <;> omega) hW
      omega
  · rw [mu_up hy hv]
    split <;> omega
theorem RI.lst (g : GOk n W A) (hs : ∀ x, st x → x < n) (r : RI n W A st c) (hd : ∀ x, x < n → 0 ≤ c x → ∀ y e w, (y, e, w) ∈ A x → 0 ≤ c y ∧ c y ≤ c x + w) : LC n A st c := by
  have all : ∀ y l v, Wk A st y l v → 0 ≤ c y ∧ c y ≤ v := by
    intro y l v h
    induction h with
    | nil h => have := r.sta _ (hs _ h) h; omega
    | snoc h1 h2 ih => have := hd _ (Wk.range g hs h1).1 ih.1 _ _ _ h2; omega
  intro x hx
  by_cases q : 0 ≤ c x
  · exact .inl ⟨q, r.wk x hx q, fun l v h => (all x l v h).2⟩
  · exact .inr ⟨r.neg x hx q, fun l v h => q (all x l v h).1⟩
theorem DI.lc {m : Nat → Option Int} {e f : Nat → Int} {r : Nat → Nat} {k id : Nat} (g : GOk n W A) (hs : ∀ x, st x → x < n) (d : DI n W A st id [] c m e f r k) (hm : ∀ x, x < n → m x = none) : LC n A st c := by
  intro x hx
  by_cases q : 0 ≤ c x
  · exact .inl ⟨q, d.fin x hx q⟩
  · exact .inr ⟨d.neg x hx q, fun l v h => q (d.all g hs hm h).1⟩
theorem RI.start (g : GOk n W A) {x0 : Nat} (h0 : x0 < n) (hst : ∀ x, st x ↔ x = x0) (hc : ∀ x, x < n → c x = if x = x0 then 0 else -1) : RI n W A st c := by
  have hW := g.w0
  have hu : un n c = n - 1 := by
    have : un n c = sumN (fun x => if x = x0 then 0 else (fun _ => (1 : Int)) x) n := by
      refine a0C n fun x hx => ?_
      simp only [hc x hx]
      by_cases q : x = x0
      · rw [if_pos q, if_pos q, if_neg (by omega)]
      · rw [if_neg q, if_neg q, if_pos (by omega)]
    have e1 : ∀ n : Nat, sumN (fun _ => (1 : Int)) n = n := by
      intro n
      induction n with
      | zero => rfl
      | succ n ih => rw [sumN, ih]; omega
    rw [this, a7D n h0, e1]
    omega
  refine ⟨fun x hx h => ?_, fun x hx h => ?_, fun x hx h => ?_, fun x hx => ?_⟩
  · rw [hc x hx] at h ⊢
    by_cases q : x = x0
    · rw [if_pos q]; exact ⟨[], .nil ((hst x).2 q)⟩
    · rw [if_neg q] at h; omega
  · rw [hc x hx] at h ⊢
    by_cases q : x = x0
    · rw [if_pos q] at h; omega
    · rw [if_neg q]
  · rw [hc x hx, if_pos ((hst x).1 h)]
  · rw [hc x hx, hu, Int.sub_mul]
    have : (1 : Int) * W = W := Int.one_mul W
    split <;> omega
end
end Go.Gm

namespace Go.Gm.A9
open Go Go.Gm
def encR (r : List Int) : List AV := r.map I
structure DOk (D : List (List Int)) (acc : List Bool) : Prop where
  l0 : 0 < D.length
  l1 : D.length ≤ 2000
  la : acc.length = D.length
  row : ∀ s : Int, 0 ≤ s → s < D.length → (gi D s).length = 5
  to : ∀ s m : Int, 0 ≤ s → s < D.length → 0 ≤ m → m < 5 → 0 ≤ gi (gi D s) m ∧ gi (gi D s) m < D.length
structure COk (es : List E) : Prop where
  c : ∀ e ∈ es, 0 ≤ e.co ∧ e.co ≤ 2147483647
abbrev nx (D : List (List Int)) (s m : Int) : Int := gi (gi D s) m
def befTo (D : List (List Int)) (t m : Int) (n : Nat) : List Int := ((List.range n).filter fun (i : Nat) => nx D i m == t).map fun (i : Nat) => (i : Int)
abbrev bef (D : List (List Int)) (t m : Int) : List Int := befTo D t m D.length
abbrev Tr := Int × Int × Int
def encT (t : Tr) : List AV := [I t.1, I t.2.1, I t.2.2]
def onL (es : List E) (D : List (List Int)) (v s : Int) : List Tr := (outL es v).map fun k => ((gi es k).to, nx D s (gi es k).md, k)
def backL (es : List E) (D : List (List Int)) (v s : Int) : List Tr := (inL es v).flatMap fun k => (bef D s (gi es k).md).map fun s' => ((gi es k).fr, s', k)
def hopOf (es : List E) (S : Nat) (t : Tr) : Hop := ((t.1 * S + t.2.1).toNat, t.2.2.toNat, (gi es t.2.2).co)
def hopA (es : List E) (S : Nat) (L : Int → Int → List Tr) (x : Nat) : List Hop := (L ((x / S : Nat) : Int) ((x % S : Nat) : Int)).map (hopOf es S)
structure GV (h : Heap) (g : AV) (N : Nat) (es : List E) (D : List (List Int)) (acc : List Bool) : Prop where
  ex : ∃ sE a sD sA sB B, At h g [I N, sE, a, sD, sA, sB] ∧ Sl h 4 sE (es.map encE) ∧ AdjV h a N es ∧ Sl h 5 sD (D.map encR) ∧ Sl h 1 sA (acc.map encB) ∧ Sl h 5 sB (B.map id) ∧
    B.length = D.length ∧ ∀ t m : Int, 0 ≤ t → t < D.length → 0 ≤ m → m < 5 → (gi B t).length = 5 ∧ Sl h 1 (gi (gi B t) m) ((bef D t m).map encI)
theorem GV.ext {h h' : Heap} {g : AV} {N : Nat} {es : List E} {D : List (List Int)} {acc : List Bool} (v : GV h g N es D acc) (e : Ext h h') : GV h' g N es D acc := by
  obtain ⟨sE, a, sD, sA, sB, B, h1, h2, h3, h4, h5, h6, h7, h8⟩ := v.ex
  exact ⟨sE, a, sD, sA, sB, B, h1.ext e, h2.ext e, h3.ext e, h4.ext e, h5.ext e, h6.ext e, h7, fun t m t0 t1 m0 m1 => ⟨(h8 t m t0 t1 m0 m1).1, (h8 t m t0 t1 m0 m1).2.ext e⟩⟩
theorem b4o {sz : Nat} {h : Heap} {s : AV} {α : Type} [Inhabited α] {enc : α → List AV} {xs : List α} (a : Sl h sz s (xs.map enc)) {i j : Int} (hi0 : 0 ≤ i) (hi : i < xs.length) (h0 : 0 ≤ j) (h1 : j < sz) : ∃ o off g, elP sz s i = .ptr o off (off + sz) g ∧ idxA sz 1 (elP sz s i) (I j) = some (.ptr o (off + j.toNat) (off + j.toNat + 1) g) := by
  rcases a with ⟨rfl, hx⟩ | ⟨o, off, lim, g, c, rfl, _⟩
  · cases xs with
    | nil => simp at hi; omega
    | cons => simp at hx
  · refine ⟨o, off + i.toNat * sz, g, rfl, ?_⟩
    simp only [elP, idxA, I, Nat.mul_one]
    rw [if_pos ⟨h0, h1, by omega⟩]
theorem b4L {h : Heap} {o off hi hi2 g : Nat} (h1 : off < hi) (h2 : off < hi2) : Gm.ld1 h (.ptr o off hi g) = Gm.ld1 h (.ptr o off hi2 g) := by simp [Gm.ld1, h1, h2]
theorem b4M {h : Heap} {o off hi hi2 g : Nat} {v : AV} (h1 : off < hi) (h2 : off < hi2) : stN 1 h (.ptr o off hi g) v = stN 1 h (.ptr o off hi2 g) v := by
  simp only [stN, wrc]
  by_cases q : v.cells.length = 1
  · simp [q, show off + 1 ≤ hi by omega, show off + 1 ≤ hi2 by omega]
  · simp [q]
theorem cellA {sz : Nat} {h H : Heap} {s : AV} {α : Type} [Inhabited α] {enc : α → List AV} {xs : List α} (a : Sl h sz s (xs.map enc)) (e : Ext h H) {i j : Int} (hi0 : 0 ≤ i) (hi : i < xs.length) (h0 : 0 ≤ j) (h1 : j < sz) :
    ∃ p, idxA sz 1 (elP sz s i) (I j) = some p ∧ Gm.ld1 H p = some ((enc (gi xs i)).getD j.toNat .undef) ∧ ∀ (H' : Heap) (v : AV), stN 1 H' p v = stN 1 H' (fldP j.toNat (elP sz s i)) v := by
  obtain ⟨o, off, g, k1, k2⟩ := b4o a hi0 hi h0 h1
  have := a.ldf j.toNat e hi0 hi (by omega)
  rw [k1, a3Y] at this
  refine ⟨_, k2, ?_, fun H' v => ?_⟩
  · rw [← this]
    exact b4L (by omega) (by omega)
  · rw [k1, a3Y]
    exact b4M (by omega) (by omega)
section
variable {h0 h : Heap} {g : AV} {N : Nat} {es : List E} {D : List (List Int)} {acc : List Bool}
theorem a8O (gv : GV h g N es D acc) (ok : DOk D acc) {v s : Int} (v0 : 0 ≤ v) (v1 : v ≤ 100000) (s0 : 0 ≤ s) (s1 : s ≤ 100000) :
    Tot tab b3_ [g, .agg [I v, I s]] h fun r h' => r = I (v * D.length + s) ∧ Ext h h' := by
  obtain ⟨sE, a, sD, sA, sB, B, k1, k2, k3, k4, k5, k6, k7, k8⟩ := gv.ex
  refine WP.tot (fun k => (a6S k _ _ h).trans (a7K tab k _ _ h)) ?_
  have hl := ok.l1
  have hm0 : 0 ≤ v * (D.length : Int) := Int.mul_nonneg v0 (by omega)
  have hm1 : v * (D.length : Int) ≤ 100000 * 2000 := Int.mul_le_mul v1 (by omega) (by omega) (by omega)
  have hw : IntKind.i64.wrap (v * (D.length : Int)) = v * D.length := o8_ (by omega) (by omega)
  simp -implicitDefEqProofs (disch := first | assumption | omega | (simp only [gL] <;> omega) | ((repeat (first | exact Ext.refl _ | assumption | apply Ext.app | apply Ext.mk | (refine Ext.setr ?_ (by (first | omega | (simp only [gL] <;> omega))) _))); done) | (simp only [gL, gA, k1.nil, k1.fldA0, k1.fldAf, k1.ldfE, k4.lenG, hw] <;> omega) | fail) only [gB, setAll, partL, fldV, reduceIte, Nat.reduceAdd, Nat.reduceMul, k1.nil, k1.fldA0, k1.fldAf, k1.ldfE, k4.lenG, hw]
  exact WP.ret ⟨rfl, by ((repeat (first | exact Ext.refl _ | assumption | apply Ext.app | apply Ext.mk | (refine Ext.setr ?_ (by (first | omega | (simp only [gL] <;> omega))) _))))⟩
theorem b0P (gv : GV h g N es D acc) (ok : DOk D acc) {x : Nat} (hx : x ≤ 200000000) :
    Tot tab c8_ [g, I x] h fun r h' => r = .agg [I ((x / D.length : Nat) : Int), I ((x % D.length : Nat) : Int)] ∧ Ext h h' := by
  obtain ⟨sE, a, sD, sA, sB, B, k1, k2, k3, k4, k5, k6, k7, k8⟩ := gv.ex
  refine WP.tot (fun k => (a5d k _ _ h).trans (a6y tab k _ _ h)) ?_
  have hl := ok.l0
  have hd : x / D.length ≤ x := Nat.div_le_self _ _
  have hw : IntKind.i64.wrap ((x : Int).tdiv (D.length : Int)) = ((x / D.length : Nat) : Int) := by
    rw [← Int.ofNat_tdiv]
    generalize x / D.length = q at hd
    exact o8_ (by omega) (by omega)
  have hr : (x : Int).tmod (D.length : Int) = ((x % D.length : Nat) : Int) := (Int.ofNat_tmod _ _).symm
  simp -implicitDefEqProofs (disch := first | assumption | omega | (simp only [gL] <;> omega) | ((repeat (first | exact Ext.refl _ | assumption | apply Ext.app | apply Ext.mk | (refine Ext.setr ?_ (by (first | omega | (simp only [gL] <;> omega))) _))); done) | (simp only [gL, gA, k1.nil, k1.fldA0, k1.fldAf, k1.ldfE, k4.lenG, hw, hr] <;> omega) | fail) only [gB, setAll, partL, fldV, reduceIte, Nat.reduceAdd, Nat.reduceMul, k1.nil, k1.fldA0, k1.fldAf, k1.ldfE, k4.lenG, hw, hr]
  exact WP.ret ⟨rfl, by ((repeat (first | exact Ext.refl _ | assumption | apply Ext.app | apply Ext.mk | (refine Ext.setr ?_ (by (first | omega | (simp only [gL] <;> omega))) _))))⟩
end
end Go.Gm.A9

namespace Go.Gm.A9
open Go Go.Gm
section
variable {h0 h : Heap} {g : AV} {N : Nat} {es : List E} {D : List (List Int)} {acc : List Bool}
theorem on_l1 (gv : GV h0 g N es D acc) (ok : DOk D acc) (no : NetOk N es) {v s : Int} (s0 : 0 ≤ s) (s1 : s < D.length) {ks : List Int} (hks : ∀ k ∈ ks, 0 ≤ k ∧ k < es.length) (hlk : ks.length ≤ 100000) {x t15 : AV} (hx : At h0 x [I v, I s]) (ht : Sl h0 1 t15 (ks.map encI)) :
    ∀ (d n : Nat) (h : Heap) (out : AV), n + d = ks.length → Ext h0 h → Gr h0.length h.length h 3 out (((ks.take n).map fun k => (((gi es k).to, nx D s (gi es k).md, k) : Tr)).map encT) →
      WP (fun p : Nat × Nat => p3_ tab p.1 p.2 g x out t15 (I ks.length) (I n) h) fun r h' => Ext h0 h' ∧ Gr h0.length h'.length h' 3 r ((ks.map fun k => (((gi es k).to, nx D s (gi es k).md, k) : Tr)).map encT) := by
  obtain ⟨sE, a, sD, sA, sB, B, k1, k2, k3, k4, k5, k6, k7, k8⟩ := gv.ex
  intro d
  induction d with
  | zero =>
    intro n h out h1 e g1
    refine WP.rnd (fun i j => a0P tab i j g x out t15 (I ks.length) (I n) h) ?_
    rw [List.take_of_length_le (by omega)] at g1
    simp -implicitDefEqProofs (disch := first | assumption | omega | (simp only [gL] <;> omega) | ((repeat (first | exact Ext.refl _ | assumption | apply Ext.app | apply Ext.mk | (refine Ext.setr ?_ (by (first | omega | (simp only [gL] <;> omega))) _))); done) | (simp only [gL, gA] <;> omega) | fail) only [gB, setAll, partL, fldV, reduceIte, Nat.reduceAdd, Nat.reduceMul]
    exact WP.ret ⟨e, g1⟩
  | succ d ih =>
    intro n h out h1 e g1
    refine WP.rnd (fun i j => a0P tab i j g x out t15 (I ks.length) (I n) h) ?_
    obtain ⟨k, hk⟩ : ∃ k, gi ks n = k := ⟨_, rfl⟩
    have hkr := hks k (hk ▸ b4_ (by omega) (by omega))
    have he := no.edge _ (b4_ (xs := es) hkr.1 hkr.2)
    obtain ⟨ed, hed⟩ : ∃ ed, gi es k = ed := ⟨_, rfl⟩
    rw [hed] at he
    have htk : ks.take (n + 1) = ks.take n ++ [k] := by
      rw [List.take_add_one, show ks[n]? = some k by
        have := d5_ (xs := ks) (i := (n : Int)) (by omega) (by omega)
        rw [hk] at this; simpa using this]
      rfl
    have hlo := e.len
    have hl2 : ((h ++ [AObj.cells ⟨[I 0, I 0, I 0, I 0], 0, 0, false⟩]).set h.length (.cells ⟨[I ed.fr, I ed.to, I ed.md, I ed.co], 0, 0, false⟩)).length = h.length + 1 := by simp
    obtain ⟨h2, hh2⟩ : ∃ h2, h2 = ((h ++ [AObj.cells ⟨[I 0, I 0, I 0, I 0], 0, 0, false⟩]).set h.length (.cells ⟨[I ed.fr, I ed.to, I ed.md, I ed.co], 0, 0, false⟩)) := ⟨_, rfl⟩
    have e2 : Ext h h2 := by rw [hh2]; ((repeat (first | exact Ext.refl _ | assumption | apply Ext.app | apply Ext.mk | (refine Ext.setr ?_ (by (first | omega | (simp only [gL] <;> omega))) _))))
    have r2 : h2[h.length]? = some (.cells ⟨[I ed.fr, I ed.to, I ed.md, I ed.co], 0, 0, false⟩) := by rw [hh2]; exact a3_ (by simp)
    rw [← hh2] at hl2
    have e02 := e.trans e2
    obtain ⟨p, p1, p2, -⟩ := cellA (H := h2) k4 e02 s0 s1 he.2.2.2.2.1 he.2.2.2.2.2
    rw [show (encR (gi D s)).getD ed.md.toNat .undef = I (nx D s ed.md) by
      have hr := ok.row s s0 s1
      simp only [encR, nx, List.getD_eq_getElem?_getD, List.getElem?_map]
      have := d5_ (xs := gi D s) he.2.2.2.2.1 (by omega)
      rw [this]; rfl] at p2
    obtain ⟨s', h', q1, q2, q3⟩ := Gr.append1 (bytes := 24) (g1.ext e2) (v := [I ed.to, I (nx D s ed.md), I k]) rfl (by omega) (by omega) (by simp; omega) (by omega) (by omega)
    rw [a9_] at q1
    simp -implicitDefEqProofs (disch := first | assumption | omega | (simp only [gL] <;> omega) | ((repeat (first | exact Ext.refl _ | assumption | apply Ext.app | apply Ext.mk | (refine Ext.setr ?_ (by (first | omega | (simp only [gL] <;> omega))) _))); done) | (simp only [gL, gA, k1.nil, k1.fldA0, k1.fldAf, k1.ldfE, ht.idxG, ht.ld0, hk, encI, k2.idxG, k2.ldN, hed, encE] <;> omega) | fail) only [gB, setAll, partL, fldV, reduceIte, Nat.reduceAdd, Nat.reduceMul, k1.nil, k1.fldA0, k1.fldAf, k1.ldfE, ht.idxG, ht.ld0, hk, encI, k2.idxG, k2.ldN, hed, encE]
    rw [show AV.int .i64 0 = I 0 from rfl, ← hh2]
    simp -implicitDefEqProofs (disch := first | assumption | omega | (simp only [gL] <;> omega) | ((repeat (first | exact Ext.refl _ | assumption | apply Ext.app | apply Ext.mk | (refine Ext.setr ?_ (by (first | omega | (simp only [gL] <;> omega))) _))); done) | (simp only [gL, gA, k1.nil, k1.fldA0, k1.fldAf, k1.ldfE, r2, hx.fldA0, hx.ldfE, k4.idxG, p1, p2, q1] <;> omega) | fail) only [gB, setAll, partL, fldV, reduceIte, Nat.reduceAdd, Nat.reduceMul, k1.nil, k1.fldA0, k1.fldAf, k1.ldfE, r2, hx.fldA0, hx.ldfE, k4.idxG, p1, p2, q1]
    refine ih (n + 1) h' s' (by omega) (q3.ext e02 (by omega)) ((q2.mono (Nat.le_refl _) (Nat.le_refl _)).cong ?_)
    rw [htk, List.map_append, List.map_append]
    simp [encT, hed]
theorem b4p (gv : GV h g N es D acc) (ok : DOk D acc) (no : NetOk N es) {v s : Int} (s0 : 0 ≤ s) (s1 : s < D.length) :
    Tot tab a8_ [g, .agg [I v, I s]] h fun r h' => Ext h h' ∧ Gr h.length h'.length h' 3 r ((onL es D v s).map encT) := by
  obtain ⟨sE, a, sD, sA, sB, B, k1, k2, k3, k4, k5, k6, k7, k8⟩ := gv.ex
  refine WP.tot (fun k => (a6R k _ _ h).trans (a7I tab k _ _ h)) ?_
  have e1 : Ext h (h ++ [AObj.cells ⟨[I v, I s], 0, 0, false⟩]) := by ((repeat (first | exact Ext.refl _ | assumption | apply Ext.app | apply Ext.mk | (refine Ext.setr ?_ (by (first | omega | (simp only [gL] <;> omega))) _))))
  simp -implicitDefEqProofs (disch := first | assumption | omega | (simp only [gL] <;> omega) | ((repeat (first | exact Ext.refl _ | assumption | apply Ext.app | apply Ext.mk | (refine Ext.setr ?_ (by (first | omega | (simp only [gL] <;> omega))) _))); done) | (simp only [gL, gA, k1.nil, k1.fldA0, k1.fldAf, k1.ldfE] <;> omega) | fail) only [gB, setAll, partL, fldV, reduceIte, Nat.reduceAdd, Nat.reduceMul, k1.nil, k1.fldA0, k1.fldAf, k1.ldfE]
  refine WP.call (b3H no (k3.ext e1)) ?_
  rintro r h2 ⟨e2, g2⟩
  have hl2 : (outL es v).length ≤ 100000 := Nat.le_trans (o5_ ..) no.len
  have hl := e2.len
  simp only [List.length_append, List.length_cons, List.length_nil] at hl
  have hx : At h2 (.ptr h.length 0 2 0) [I v, I s] := At.row (wg := 0) (g := 0) (ro := false) (e2.get (by simp)) (Nat.le_refl _) rfl
  simp -implicitDefEqProofs (disch := first | assumption | omega | (simp only [gL] <;> omega) | ((repeat (first | exact Ext.refl _ | assumption | apply Ext.app | apply Ext.mk | (refine Ext.setr ?_ (by (first | omega | (simp only [gL] <;> omega))) _))); done) | (simp only [gL, gA, g2.sl.lenG] <;> omega) | fail) only [gB, setAll, partL, fldV, reduceIte, Nat.reduceAdd, Nat.reduceMul, g2.sl.lenG]
  refine WP.ent ((on_l1 (gv.ext (e1.trans e2)) ok no s0 s1 (ks := outL es v) (fun k hk => ⟨(i0_.1 hk).1, (i0_.1 hk).2.1⟩) hl2 hx g2.sl (outL es v).length 0 h2 .nils (by omega) (Ext.refl _) (Gr.nil ..)).mono ?_) fun i => rfl
  rintro r h3 ⟨e3, g3⟩
  exact ⟨(e1.trans e2).trans e3, g3.mono (by omega) (Nat.le_refl _)⟩
end
end Go.Gm.A9

namespace Go.Gm.A9
open Go Go.Gm
theorem gset {α : Type} [Inhabited α] {xs : List α} {y : Nat} (hy : y < xs.length) (v : α) : (fun x : Nat => gi (xs.set y v) (x : Int)) = fun x : Nat => if x = y then v else gi xs (x : Int) := by
  funext x
  have := k8_ (xs := xs) (i := (y : Int)) (j := (x : Int)) (by omega) (by omega) (by omega) v
  rw [show (y : Int).toNat = y by omega] at this
  rw [this]
  by_cases q : x = y
  · rw [if_pos q, if_pos (by omega)]
  · rw [if_neg q, if_neg (by omega)]
abbrev gf {α : Type} [Inhabited α] (xs : List α) : Nat → α := fun x : Nat => gi xs (x : Int)
structure SW (W : Nat → Prop) (h : Heap) (os : Nat) (g fh q sc se sf : AV) (oc oe ov : Nat) (n : Nat) (cs ds fs : List Int) (M : List (Option Int)) (ls : Int) : Prop where
  row : h[os]? = some (.cells ⟨[g, fh, q, sc, se, sf, I ls], 0, 0, false⟩)
  gc : Gr oc (oc + 1) h 1 sc (cs.map encI)
  ge : Gr oe (oe + 1) h 1 se (ds.map encI)
  gf : Gr ov (ov + 1) h 1 sf (fs.map encI)
  lc : cs.length = n
  le : ds.length = n
  lf : fs.length = n
  o1 : oc < oe
  o2 : oe < ov
  o3 : ov < os
  wc : W oc
  we : W oe
  wv : W ov
  ws : W os
  qv : SQ (fun o => W o ∧ o ≠ oc ∧ o ≠ oe ∧ o ≠ ov ∧ o ≠ os) h q n M
section
variable {W : Nat → Prop} {h h' : Heap} {os oc oe ov n : Nat} {g fh q sc se sf : AV} {cs ds fs : List Int} {M : List (Option Int)} {ls : Int}
theorem SW.os_lt (w : SW W h os g fh q sc se sf oc oe ov n cs ds fs M ls) : os < h.length := (List.getElem?_eq_some_iff.1 w.row).1
theorem SW.frs (w : SW W h os g fh q sc se sf oc oe ov n cs ds fs M ls) {D : Nat → Prop} (f : FrS D h h') (hd : ∀ o, o < h.length → W o → ¬ D o) : SW W h' os g fh q sc se sf oc oe ov n cs ds fs M ls := by
  have h1 := w.os_lt
  have := w.o1
  have := w.o2
  have := w.o3
  refine ⟨by rw [f.get (hd _ h1 w.ws) h1]; exact w.row, w.gc.frs f fun o q1 q2 => ?_, w.ge.frs f fun o q1 q2 => ?_, w.gf.frs f fun o q1 q2 => ?_, w.lc, w.le, w.lf, w.o1, w.o2, w.o3, w.wc, w.we, w.wv, w.ws, w.qv.frs f fun o q1 q2 => hd o q1 q2.1⟩
  · rw [show o = oc by omega]; exact hd _ (by omega) w.wc
  · rw [show o = oe by omega]; exact hd _ (by omega) w.we
  · rw [show o = ov by omega]; exact hd _ (by omega) w.wv
theorem SW.ext (w : SW W h os g fh q sc se sf oc oe ov n cs ds fs M ls) (e : Ext h h') : SW W h' os g fh q sc se sf oc oe ov n cs ds fs M ls := w.frs (D := fun _ => False) (FrS.ofExt e) fun _ _ _ z => z
theorem SW.mono (w : SW W h os g fh q sc se sf oc oe ov n cs ds fs M ls) {W' : Nat → Prop} (hw : ∀ o, o < h.length → W o → W' o) : SW W' h os g fh q sc se sf oc oe ov n cs ds fs M ls := by
  have h1 := w.os_lt
  have := w.o1
  have := w.o2
  have := w.o3
  refine ⟨w.row, w.gc, w.ge, w.gf, w.lc, w.le, w.lf, w.o1, w.o2, w.o3, hw _ (by omega) w.wc, hw _ (by omega) w.we, hw _ (by omega) w.wv, hw _ h1 w.ws, ?_⟩
  obtain ⟨Wq, q1, q2⟩ := w.qv
  exact ⟨Wq, fun o z => ⟨⟨hw o (q1 o z).2 (q1 o z).1.1, (q1 o z).1.2⟩, (q1 o z).2⟩, q2⟩
theorem SW.setC (w : SW W h os g fh q sc se sf oc oe ov n cs ds fs M ls) {y : Nat} (hy : y < n) (v : Int) :
    ∃ h', stN 1 h (elP 1 sc y) (I v) = some h' ∧ SW W h' os g fh q sc se sf oc oe ov n (cs.set y v) ds fs M ls ∧ FrS (fun o => o = oc) h h' := by
  have := w.o1
  have := w.o2
  have := w.o3
  obtain ⟨h', k1, k2, k3, k4⟩ := w.gc.write0 (i := (y : Int)) (v := I v) (by omega) (by rw [List.length_map, w.lc]; omega) rfl rfl
  have f : FrS (fun o => o = oc) h h' := k3.s.mono fun o z1 z2 => by omega
  refine ⟨h', k1, ⟨by rw [f.get (by omega) w.os_lt]; exact w.row, k2.cong ?_, w.ge.frs f fun o z1 z2 => by omega, w.gf.frs f fun o z1 z2 => by omega, by rw [List.length_set]; exact w.lc, w.le, w.lf, w.o1, w.o2, w.o3, w.wc, w.we, w.wv, w.ws, w.qv.frs f fun o z1 z2 => z2.2.1⟩, f⟩
  rw [List.map_set]; simp [encI]; rfl
theorem SW.setE (w : SW W h os g fh q sc se sf oc oe ov n cs ds fs M ls) {y : Nat} (hy : y < n) (v : Int) :
    ∃ h', stN 1 h (elP 1 se y) (I v) = some h' ∧ SW W h' os g fh q sc se sf oc oe ov n cs (ds.set y v) fs M ls ∧ FrS (fun o => o = oe) h h' := by
  have := w.o1
  have := w.o2
  have := w.o3
  obtain ⟨h', k1, k2, k3, k4⟩ := w.ge.write0 (i := (y : Int)) (v := I v) (by omega) (by rw [List.length_map, w.le]; omega) rfl rfl
  have f : FrS (fun o => o = oe) h h' := k3.s.mono fun o z1 z2 => by omega
  refine ⟨h', k1, ⟨by rw [f.get (by omega) w.os_lt]; exact w.row, w.gc.frs f fun o z1 z2 => by omega, k2.cong ?_, w.gf.frs f fun o z1 z2 => by omega, w.lc, by rw [List.length_set]; exact w.le, w.lf, w.o1, w.o2, w.o3, w.wc, w.we, w.wv, w.ws, w.qv.frs f fun o z1 z2 => z2.2.2.1⟩, f⟩
  rw [List.map_set]; simp [encI]; rfl
theorem SW.setF (w : SW W h os g fh q sc se sf oc oe ov n cs ds fs M ls) {y : Nat} (hy : y < n) (v : Int) :
    ∃ h', stN 1 h (elP 1 sf y) (I v) = some h' ∧ SW W h' os g fh q sc se sf oc oe ov n cs ds (fs.set y v) M ls ∧ FrS (fun o => o = ov) h h' := by
  have := w.o1
  have := w.o2
  have := w.o3
  obtain ⟨h', k1, k2, k3, k4⟩ := w.gf.write0 (i := (y : Int)) (v := I v) (by omega) (by rw [List.length_map, w.lf]; omega) rfl rfl
  have f : FrS (fun o => o = ov) h h' := k3.s.mono fun o z1 z2 => by omega
  refine ⟨h', k1, ⟨by rw [f.get (by omega) w.os_lt]; exact w.row, w.gc.frs f fun o z1 z2 => by omega, w.ge.frs f fun o z1 z2 => by omega, k2.cong ?_, w.lc, w.le, by rw [List.length_set]; exact w.lf, w.o1, w.o2, w.o3, w.wc, w.we, w.wv, w.ws, w.qv.frs f fun o z1 z2 => z2.2.2.2.1⟩, f⟩
  rw [List.map_set]; simp [encI]; rfl
theorem SW.setL (w : SW W h os g fh q sc se sf oc oe ov n cs ds fs M ls) (v : Int) :
    SW W (h.set os (.cells ⟨[g, fh, q, sc, se, sf, I v], 0, 0, false⟩)) os g fh q sc se sf oc oe ov n cs ds fs M v ∧ FrS (fun o => o = os) h (h.set os (.cells ⟨[g, fh, q, sc, se, sf, I v], 0, 0, false⟩)) := by
  have := w.o1
  have := w.o2
  have := w.o3
  have f : FrS (fun o => o = os) h (h.set os (.cells ⟨[g, fh, q, sc, se, sf, I v], 0, 0, false⟩)) := ⟨by simp, fun p p1 p2 => b0_ fun z => p1 z.symm⟩
  exact ⟨⟨a3_ w.os_lt, w.gc.frs f fun o z1 z2 => by omega, w.ge.frs f fun o z1 z2 => by omega, w.gf.frs f fun o z1 z2 => by omega, w.lc, w.le, w.lf, w.o1, w.o2, w.o3, w.wc, w.we, w.wv, w.ws, w.qv.frs f fun o z1 z2 => z2.2.2.2.2⟩, f⟩
theorem SQ.wide {P P' : Nat → Prop} {h : Heap} {q : AV} {N : Nat} {M : List (Option Int)} (v : SQ P h q N M) (hp : ∀ o, o < h.length → P o → P' o) : SQ P' h q N M := by
  obtain ⟨W, h1, h2⟩ := v
  exact ⟨W, fun o z => ⟨hp o (h1 o z).2 (h1 o z).1, (h1 o z).2⟩, h2⟩
theorem SW.q' (w : SW W h os g fh q sc se sf oc oe ov n cs ds fs M ls) {D : Nat → Prop} (f : FrS D h h') (hd : ∀ o, D o → o ≠ oc ∧ o ≠ oe ∧ o ≠ ov ∧ o ≠ os) {M' : List (Option Int)} (v : SQ (fun o => W o ∧ o ≠ oc ∧ o ≠ oe ∧ o ≠ ov ∧ o ≠ os) h' q n M') : SW W h' os g fh q sc se sf oc oe ov n cs ds fs M' ls := by
  refine ⟨by rw [f.get (fun z => (hd _ z).2.2.2 rfl) w.os_lt]; exact w.row, w.gc.frs f fun o q1 q2 z => (hd o z).1 (by omega), w.ge.frs f fun o q1 q2 z => (hd o z).2.1 (by omega), w.gf.frs f fun o q1 q2 z => (hd o z).2.2.1 (by omega), w.lc, w.le, w.lf, w.o1, w.o2, w.o3, w.wc, w.we, w.wv, w.ws, v⟩
end
end Go.Gm.A9

namespace Go.Gm.A9
open Go Go.Gm
section
variable {h0 h : Heap} {g : AV} {N : Nat} {es : List E} {D : List (List Int)} {acc : List Bool}
def TrOk (N : Nat) (es : List E) (D : List (List Int)) (t : Tr) : Prop := 0 ≤ t.1 ∧ t.1 < N ∧ 0 ≤ t.2.1 ∧ t.2.1 < D.length ∧ 0 ≤ t.2.2 ∧ t.2.2 < es.length
theorem a8P {N S : Nat} {v s : Int} (v0 : 0 ≤ v) (v1 : v < N) (s0 : 0 ≤ s) (s1 : s < S) : 0 ≤ v * S + s ∧ v * S + s < ((N * S : Nat) : Int) := by
  have h1 : 0 ≤ v * (S : Int) := Int.mul_nonneg v0 (by omega)
  have h2 : (v + 1) * (S : Int) ≤ N * S := Int.mul_le_mul_of_nonneg_right (by omega) (by omega)
  rw [Int.add_mul, Int.one_mul] at h2
  rw [Int.natCast_mul]
  omega
theorem b4q {W : Nat → Prop} {hb : Heap} {os oc oe ov : Nat} {fh q sc se sf t46 : AV} {n : Nat} {A : Nat → List Hop} {st : Nat → Prop} {ts : List Tr} {id k : Nat} {key ls : Int} {rk : Nat → Nat} {cs : List Int}
    (e0 : Ext h0 hb) (hW : ∀ o, W o → h0.length ≤ o) (hWn : ∀ o, hb.length ≤ o → W o) (gv : GV h0 g N es D acc) (ok : DOk D acc) (co : COk es) (hN : N ≤ 100000) (hn : n = N * D.length) (hn2 : n ≤ 1000000) (hg : GOk n 2147483647 A)
    (hts : ∀ t ∈ ts, TrOk N es D t) (hAt : ∀ t ∈ ts, hopOf es D.length t ∈ A id) (ht : ∀ h', FrS W hb h' → Sl h' 3 t46 (ts.map encT)) (hid : id < n) (hl : ts.length ≤ 10000000)
    (hc : gi cs id = key) (hk0 : 0 ≤ key) (hk1 : key ≤ k * 2147483647) (hkn : k < n) :
    ∀ (d i : Nat) (h : Heap) (ds fs : List Int) (M : List (Option Int)), i + d = ts.length → FrS W hb h → SW W h os g fh q sc se sf oc oe ov n cs ds fs M ls → DI n 2147483647 A st id ((ts.drop i).map (hopOf es D.length)) (gf cs) (gf M) (gf ds) (gf fs) rk (k + 1) →
      WP (fun p : Nat × Nat => g1_ tab p.1 p.2 (.ptr os 0 7 0) (I id) (I key) t46 (I ts.length) (I i) h) fun r h' => r = .tup [I id, .bool true] ∧ FrS W hb h' ∧
        ∃ ds2 fs2 M2, SW W h' os g fh q sc se sf oc oe ov n cs ds2 fs2 M2 ls ∧ DI n 2147483647 A st id [] (gf cs) (gf M2) (gf ds2) (gf fs2) rk (k + 1) := by
  obtain ⟨sE, a, sD, sA, sB, B, k1, k2, k3, k4, k5, k6, k7, k8⟩ := gv.ex
  intro d
  induction d with
  | zero =>
    intro i h ds fs M h1 f w di
    refine WP.rnd (fun i' j => z9_ tab i' j (.ptr os 0 7 0) (I id) (I key) t46 (I ts.length) (I i) h) ?_
    rw [List.drop_eq_nil_of_le (by omega)] at di
    simp -implicitDefEqProofs (maxSteps := 1000000) (disch := first | assumption | omega | (simp only [gL] <;> omega) | ((repeat (first | exact Ext.refl _ | assumption | apply Ext.app | apply Ext.mk | (refine Ext.setr ?_ (by (first | omega | (simp only [gL] <;> omega))) _))); done) | (simp only [gL, gA] <;> omega) | fail) only [gB, setAll, partL, fldV, reduceIte, Nat.reduceAdd, Nat.reduceMul]
    refine WP.congr (fun p => a3I tab p.1 (I id) h) ?_
    exact WP.ret ⟨rfl, f, ds, fs, M, w, di⟩
  | succ d ih =>
    intro i h ds fs M h1 f w di
    refine WP.rnd (fun i' j => z9_ tab i' j (.ptr os 0 7 0) (I id) (I key) t46 (I ts.length) (I i) h) ?_
    obtain ⟨t, hti⟩ : ∃ t, gi ts i = t := ⟨_, rfl⟩
    have htm : t ∈ ts := hti ▸ b4_ (by omega) (by omega)
    obtain ⟨t1, t2, t3, t4, t5, t6⟩ := hts t htm
    have hdr : ts.drop i = t :: ts.drop (i + 1) := by
      rw [List.drop_eq_getElem_cons (by omega)]
      congr 1
      rw [← hti, q8_ (by omega)]
    rw [hdr, List.map_cons] at di
    obtain ⟨sp1, sp2⟩ := a8P (S := D.length) t1 t2 t3 t4
    obtain ⟨y, hy⟩ : ∃ y : Nat, t.1 * (D.length : Int) + t.2.1 = y := ⟨(t.1 * (D.length : Int) + t.2.1).toNat, by omega⟩
    obtain ⟨ed, hed⟩ : ∃ ed, gi es t.2.2 = ed := ⟨_, rfl⟩
    have hco := co.c _ (b4_ (xs := es) t5 t6)
    rw [hed] at hco
    have hho : hopOf es D.length t = (y, t.2.2.toNat, ed.co) := by
      simp only [hopOf, hed, hy]; rfl
    rw [hho] at di
    have hyn : y < n := by omega
    have hA : (y, t.2.2.toNat, ed.co) ∈ A id := hho ▸ hAt t htm
    have ex : Ext h0 h := f.ext e0 fun o q1 q2 => by have := hW o q2; omega
    have hlo := ex.len
    have hlb := f.len
    have hos := w.os_lt
    have st := ht h f
    have hl2 : ((h ++ [AObj.cells ⟨[I 0, I 0, I 0], 0, 0, false⟩]).set h.length (.cells ⟨[I t.1, I t.2.1, I t.2.2], 0, 0, false⟩)).length = h.length + 1 := by simp
    obtain ⟨h2, hh2⟩ : ∃ h2, h2 = ((h ++ [AObj.cells ⟨[I 0, I 0, I 0], 0, 0, false⟩]).set h.length (.cells ⟨[I t.1, I t.2.1, I t.2.2], 0, 0, false⟩)) := ⟨_, rfl⟩
    have e2 : Ext h h2 := by rw [hh2]; ((repeat (first | exact Ext.refl _ | assumption | apply Ext.app | apply Ext.mk | (refine Ext.setr ?_ (by (first | omega | (simp only [gL] <;> omega))) _))))
    have r2 : h2[h.length]? = some (.cells ⟨[I t.1, I t.2.1, I t.2.2], 0, 0, false⟩) := by rw [hh2]; exact a3_ (by simp)
    rw [← hh2] at hl2
    have w2 := w.ext e2
    have ro2 := w2.row
    have ro1 := w.row
    simp -implicitDefEqProofs (maxSteps := 1000000) (disch := first | assumption | omega | (simp only [gL] <;> omega) | ((repeat (first | exact Ext.refl _ | assumption | apply Ext.app | apply Ext.mk | (refine Ext.setr ?_ (by (first | omega | (simp only [gL] <;> omega))) _))); done) | (simp only [gL, gA, st.idxG, st.ldN, hti, encT, ro1] <;> omega) | fail) only [gB, setAll, partL, fldV, reduceIte, Nat.reduceAdd, Nat.reduceMul, st.idxG, st.ldN, hti, encT, ro1]
    rw [show AV.int .i64 0 = I 0 from rfl, ← hh2]
    refine WP.call (a8O (gv.ext (ex.trans e2)) ok t1 (by omega) t3 (by have := ok.l1; omega)) ?_
    rintro _ h3 ⟨rfl, e3⟩
    rw [hy]
    have w3 := w2.ext e3
    have ro3 := w3.row
    have r3 := e3.get r2
    have hl3 := e3.len
    have ex3 := (ex.trans e2).trans e3
    have f3 : FrS W hb h3 := f.trans ((FrS.ofExt e2).trans (FrS.ofExt e3))
    by_cases hcy : 0 ≤ gi cs y
    · simp -implicitDefEqProofs (maxSteps := 1000000) (disch := first | assumption | omega | (simp only [gL] <;> omega) | ((repeat (first | exact Ext.refl _ | assumption | apply Ext.app | apply Ext.mk | (refine Ext.setr ?_ (by (first | omega | (simp only [gL] <;> omega))) _))); done) | (simp only [gL, gA, ro3, w3.gc.sl.idxG, w3.gc.sl.ld0, encI, w3.lc] <;> omega) | fail) only [gB, setAll, partL, fldV, reduceIte, Nat.reduceAdd, Nat.reduceMul, ro3, w3.gc.sl.idxG, w3.gc.sl.ld0, encI, w3.lc]
      exact ih (i + 1) h3 ds fs M (by omega) f3 w3 (di.skip (.inl hcy))
    · have hcm := di.neg y hyn hcy
      have hkb : (k : Int) * 2147483647 ≤ 1000000 * 2147483647 := by omega
      have k1' := k1.ext (e0.trans (Ext.refl _))
      have ey := k1.ext ex3
      have e2s := (k2.ext ex3)
      have hq3 : SQ (fun o => (W o ∧ o ≠ oc ∧ o ≠ oe ∧ o ≠ ov ∧ o ≠ os) ∧ o ≠ h.length) h3 q n M := ((w.qv.wide (P' := fun o => (W o ∧ o ≠ oc ∧ o ≠ oe ∧ o ≠ ov ∧ o ≠ os) ∧ o ≠ h.length) fun o o1 o2 => ⟨o2, by omega⟩).ext e2).ext e3
      have hmu := hq3.put hn2 (fun o ho => ⟨⟨hWn o (by omega), by have := w3.o1; have := w3.o2; have := w3.o3; have := w3.os_lt; omega⟩, by omega⟩) (y : Int) (key + ed.co)
      simp -implicitDefEqProofs (maxSteps := 1000000) (disch := first | assumption | omega | (simp only [gL] <;> omega) | ((repeat (first | exact Ext.refl _ | assumption | apply Ext.app | apply Ext.mk | (refine Ext.setr ?_ (by (first | omega | (simp only [gL] <;> omega))) _))); done) | (simp only [gL, gA, ro3, w3.gc.sl.idxG, w3.gc.sl.ld0, encI, w3.lc, r3, ey.nil, ey.fldA0, ey.fldAf, ey.ldfE, e2s.idxG, e2s.ldf, hed, encE] <;> omega) | fail) only [gB, setAll, partL, fldV, reduceIte, Nat.reduceAdd, Nat.reduceMul, ro3, w3.gc.sl.idxG, w3.gc.sl.ld0, encI, w3.lc, r3, ey.nil, ey.fldA0, ey.fldAf, ey.ldfE, e2s.idxG, e2s.ldf, hed, encE]
      refine WP.call hmu ?_
      rintro _ h4 ⟨rfl, v4, f4⟩
      have w4 := w3.q' f4 (fun o z => z.1.2) (v4.wide fun o _ z => z.1)
      have f4b : FrS W hb h4 := f3.trans (f4.mono fun o _ z => z.1.1)
      have hml := w.qv.lm
      have gy : gf M y = gi M y := rfl
      have skip : ∀ v, gi M y = some v → v ≤ key + ed.co → putM n M y (key + ed.co) = (M, false) := by
        intro v h1 h2
        rw [putM, if_pos ⟨by omega, by omega⟩, h1]
        exact if_pos h2
      have put : (∀ v, gi M y = some v → ¬ v ≤ key + ed.co) → putM n M y (key + ed.co) = (M.set y (some (key + ed.co)), true) := by
        intro h1
        rw [putM, if_pos ⟨by omega, by omega⟩]
        cases hm : gi M (y : Int) with
        | none => rfl
        | some v => exact if_neg (h1 v hm)
      by_cases hm : ∃ v, gi M y = some v ∧ v ≤ key + ed.co
      · obtain ⟨v, m1, m2⟩ := hm
        rw [skip v m1 m2] at w4 ⊢
        simp -implicitDefEqProofs (maxSteps := 1000000) (disch := first | assumption | omega | (simp only [gL] <;> omega) | ((repeat (first | exact Ext.refl _ | assumption | apply Ext.app | apply Ext.mk | (refine Ext.setr ?_ (by (first | omega | (simp only [gL] <;> omega))) _))); done) | (simp only [gL, gA] <;> omega) | fail) only [gB, setAll, partL, fldV, reduceIte, Nat.reduceAdd, Nat.reduceMul]
        refine ih (i + 1) h4 ds fs M (by omega) f4b w4 (di.skip (.inr ⟨v, m1, ?_⟩))
        show v ≤ gi cs id + ed.co
        omega
      · have m1 : ∀ v, gi M y = some v → ¬ v ≤ key + ed.co := fun v z1 z2 => hm ⟨v, z1, z2⟩
        rw [put m1] at w4 ⊢
        have ro4 := w4.row
        have r4 : h4[h.length]? = some (.cells ⟨[I t.1, I t.2.1, I t.2.2], 0, 0, false⟩) := by rw [f4.get (fun z => z.2 rfl) (by omega)]; exact r3
        obtain ⟨h5, s1, w5, f5⟩ := w4.setE hyn t.2.2
        obtain ⟨h6, s2, w6, f6⟩ := w5.setF hyn id
        simp -implicitDefEqProofs (maxSteps := 1000000) (disch := first | assumption | omega | (simp only [gL] <;> omega) | ((repeat (first | exact Ext.refl _ | assumption | apply Ext.app | apply Ext.mk | (refine Ext.setr ?_ (by (first | omega | (simp only [gL] <;> omega))) _))); done) | (simp only [gL, gA, ro4, r4, w4.ge.sl.idxG, w4.gf.sl.idxG, w4.le, w4.lf, s1, s2] <;> omega) | fail) only [gB, setAll, partL, fldV, reduceIte, Nat.reduceAdd, Nat.reduceMul, ro4, r4, w4.ge.sl.idxG, w4.gf.sl.idxG, w4.le, w4.lf, s1, s2]
        refine ih (i + 1) h6 _ _ _ (by omega) ((f4b.trans (f5.mono fun o _ z => z ▸ w.we)).trans (f6.mono fun o _ z => z ▸ w.wv)) w6 ?_
        have := di.put hg hid (by show 0 ≤ gi cs id; omega) hA (by show gi cs y < 0; omega) (fun v z => by have := m1 v z; show gi cs id + ed.co < v; omega) (by show gi cs id ≤ _; omega)
        rw [show gf (M.set y (some (key + ed.co))) = _ from gset (by omega) _, show gf (ds.set y t.2.2) = _ from gset (by rw [w.le]; omega) _, show gf (fs.set y (id : Int)) = _ from gset (by rw [w.lf]; omega) _]
        have hcc : gf cs id = key := hc
        have hti2 : ((t.2.2.toNat : Nat) : Int) = t.2.2 := by omega
        rw [hcc, hti2] at this
        exact this
end
end Go.Gm.A9

namespace Go.Gm.A9
open Go Go.Gm
section
variable {h0 h : Heap} {g : AV} {N : Nat} {es : List E} {D : List (List Int)} {acc : List Bool}
structure HopsOk (h0 : Heap) (g : AV) (N : Nat) (es : List E) (D : List (List Int)) (fh : FuncId) (L : Int → Int → List Tr) : Prop where
  call : ∀ h, Ext h0 h → ∀ v s : Int, 0 ≤ v → v < N → 0 ≤ s → s < D.length → Tot tab fh [g, .agg [I v, I s]] h fun r h' => Ext h h' ∧ Gr h.length h'.length h' 3 r ((L v s).map encT)
  tr : ∀ v s : Int, 0 ≤ v → v < N → 0 ≤ s → s < D.length → ∀ t ∈ L v s, TrOk N es D t
  len : ∀ v s : Int, 0 ≤ v → v < N → 0 ≤ s → s < D.length → (L v s).length ≤ 10000000
theorem dm {N S x : Nat} (hx : x < N * S) : x / S < N ∧ x % S < S := by
  have h1 : 0 < S := by
    rcases Nat.eq_zero_or_pos S with q | q
    · subst q; simp at hx
    · exact q
  exact ⟨(Nat.div_lt_iff_lt_mul h1).2 hx, Nat.mod_lt _ h1⟩
theorem HopsOk.gok {fh : FuncId} {L : Int → Int → List Tr} (hh : HopsOk h0 g N es D fh L) (co : COk es) : GOk (N * D.length) 2147483647 (hopA es D.length L) := by
  refine ⟨by omega, fun x hx y e w hm => ?_⟩
  obtain ⟨q1, q2⟩ := dm hx
  obtain ⟨t, ht, h1⟩ := List.mem_map.1 hm
  obtain ⟨t1, t2, t3, t4, t5, t6⟩ := hh.tr _ _ (Int.natCast_nonneg _) (Int.ofNat_lt.2 q1) (Int.natCast_nonneg _) (Int.ofNat_lt.2 q2) t ht
  have hs := a8P (S := D.length) t1 t2 t3 t4
  have hc := co.c _ (b4_ (xs := es) t5 t6)
  simp only [hopOf] at h1
  cases h1
  exact ⟨by omega, hc.1, hc.2⟩
theorem b4N {n : Nat} {c : Nat → Int} {y : Nat} (hy : y < n) (hc : c y < 0) : 1 ≤ un n c := by
  have h1 := o7_ n (up c y 0)
  rw [un_up hy (Int.le_refl 0), if_pos hc] at h1
  omega
theorem a8A {W : Nat → Prop} {os oc oe ov : Nat} {q sc se sf : AV} {n : Nat} {fh : FuncId} {L : Int → Int → List Tr} {st : Nat → Prop} {id0 k : Nat} {ls : Int} {rk : Nat → Nat} {cs ds fs : List Int} {M : List (Option Int)}
    (e0 : Ext h0 h) (hW : ∀ o, W o → h0.length ≤ o) (gv : GV h0 g N es D acc) (ok : DOk D acc) (co : COk es) (hN : N ≤ 100000) (hn : n = N * D.length) (hn2 : n ≤ 1000000) (hh : HopsOk h0 g N es D fh L) (hst : ∀ x, st x → x < n)
    (w : SW W h os g (.fn fh [] []) q sc se sf oc oe ov n cs ds fs M ls) (di : DI n 2147483647 (hopA es D.length L) st id0 [] (gf cs) (gf M) (gf ds) (gf fs) rk k) (hk : un n (gf cs) + k = n) :
    Tot tab b6_ [.ptr os 0 7 0] h fun r h' => FrS W h h' ∧
      ((r = .tup [I 0, .bool false] ∧ (∀ x : Nat, x < n → gf M x = none) ∧ SW (fun o => W o ∨ h.length ≤ o) h' os g (.fn fh [] []) q sc se sf oc oe ov n cs ds fs M ls) ∨
       ∃ id key ds2 fs2 M2 rk2, id < n ∧ gf M id = some key ∧ (∀ z : Nat, z < n → ∀ u, gf M z = some u → key ≤ u) ∧ r = .tup [I id, .bool true] ∧ SW (fun o => W o ∨ h.length ≤ o) h' os g (.fn fh [] []) q sc se sf oc oe ov n (cs.set id key) ds2 fs2 M2 key ∧
         DI n 2147483647 (hopA es D.length L) st id [] (gf (cs.set id key)) (gf M2) (gf ds2) (gf fs2) rk2 (k + 1) ∧ un n (gf (cs.set id key)) + ((k + 1 : Nat) : Int) = n) := by
  have hg := hh.gok co
  rw [← hn] at hg
  have hml := w.qv.lm
  have wa : SW (fun o => W o ∧ o < h.length) h os g (.fn fh [] []) q sc se sf oc oe ov n cs ds fs M ls := w.mono fun o z1 z2 => ⟨z2, z1⟩
  refine WP.tot (fun k => (a4w k _ h).trans (a5N tab k _ h)) ?_
  have ro := w.row
  simp -implicitDefEqProofs (maxSteps := 1000000) (disch := first | assumption | omega | (simp only [gL] <;> omega) | ((repeat (first | exact Ext.refl _ | assumption | apply Ext.app | apply Ext.mk | (refine Ext.setr ?_ (by (first | omega | (simp only [gL] <;> omega))) _))); done) | (simp only [gL, gA, ro] <;> omega) | fail) only [gB, setAll, partL, fldV, reduceIte, Nat.reduceAdd, Nat.reduceMul, ro]
  refine WP.call (wa.qv.pop hn2) ?_
  rintro r h1 ⟨M2, pq, v1, f1⟩
  have w1 := wa.q' f1 (fun o z => z.2) v1
  have ro1 := w1.row
  have f1W : FrS W h h1 := f1.mono fun o _ z => z.1.1
  rcases pq with ⟨p1, rfl, rfl⟩ | ⟨idI, key, p1, rfl, rfl⟩
  · simp -implicitDefEqProofs (maxSteps := 1000000) (disch := first | assumption | omega | (simp only [gL] <;> omega) | ((repeat (first | exact Ext.refl _ | assumption | apply Ext.app | apply Ext.mk | (refine Ext.setr ?_ (by (first | omega | (simp only [gL] <;> omega))) _))); done) | (simp only [gL, gA, a4_, a5_, b0c] <;> omega) | fail) only [gB, setAll, partL, fldV, reduceIte, Nat.reduceAdd, Nat.reduceMul, a4_, a5_, b0c]
    refine WP.ret ⟨f1W, .inl ⟨rfl, fun x hx => a9B p1 (by omega) (by omega), w1.mono fun o _ z => .inl z.1⟩⟩
  · obtain ⟨id, rfl⟩ : ∃ id : Nat, idI = id := ⟨idI.toNat, by have := p1.i0; omega⟩
    have hid : id < n := by have := p1.i1; omega
    have hmin : ∀ z : Nat, z < n → ∀ u, gf M z = some u → key ≤ u := by
      intro z hz u hu
      have := p1.m z u (by omega) (by omega) hu
      simp only [ltI] at this
      omega
    have di2 := di.pop hg hst hid p1.k hmin
    obtain ⟨q1, q2, q3⟩ := di.que id hid key p1.k
    have hk1 := di.bnd id hid key (.inr p1.k)
    have hup := b4N (c := gf cs) hid (by omega)
    have hkn : k < n := by omega
    rw [show (id : Int).toNat = id by omega] at w1
    obtain ⟨h2, s2, w2, f2⟩ := w1.setC hid key
    have ro2 := w2.row
    obtain ⟨w3, f3⟩ := w2.setL key
    obtain ⟨h3, hh3⟩ : ∃ h3, h3 = h2.set os (.cells ⟨[g, .fn fh [] [], q, sc, se, sf, I key], 0, 0, false⟩) := ⟨_, rfl⟩
    rw [← hh3] at w3 f3
    have ro3 := w3.row
    have f3W : FrS W h h3 := (f1W.trans (f2.mono fun o _ z => z ▸ w.wc)).trans (f3.mono fun o _ z => z ▸ w.ws)
    have ex3 : Ext h0 h3 := f3W.ext e0 fun o z1 z2 => by have := hW o z2; omega
    have gr1 : Gr oc (oc + 1) h1 1 sc (cs.map encI) := w1.gc
    simp -implicitDefEqProofs (maxSteps := 1000000) (disch := first | assumption | omega | (simp only [gL] <;> omega) | ((repeat (first | exact Ext.refl _ | assumption | apply Ext.app | apply Ext.mk | (refine Ext.setr ?_ (by (first | omega | (simp only [gL] <;> omega))) _))); done) | (simp only [gL, gA, a4_, a5_, b0c, ro1, gr1.sl.idxG, w.lc, s2, ro2] <;> omega) | fail) only [gB, setAll, partL, fldV, reduceIte, Nat.reduceAdd, Nat.reduceMul, a4_, a5_, b0c, ro1, gr1.sl.idxG, w.lc, s2, ro2]
    rw [← hh3]
    simp -implicitDefEqProofs (maxSteps := 1000000) (disch := first | assumption | omega | (simp only [gL] <;> omega) | ((repeat (first | exact Ext.refl _ | assumption | apply Ext.app | apply Ext.mk | (refine Ext.setr ?_ (by (first | omega | (simp only [gL] <;> omega))) _))); done) | (simp only [gL, gA, ro3] <;> omega) | fail) only [gB, setAll, partL, fldV, reduceIte, Nat.reduceAdd, Nat.reduceMul, ro3]
    refine WP.call (b0P (gv.ext ex3) ok (by omega)) ?_
    rintro _ h4 ⟨rfl, e4⟩
    have w4 := w3.ext e4
    have ro4 := w4.row
    obtain ⟨d1, d2⟩ := dm (N := N) (S := D.length) (hn ▸ hid)
    simp -implicitDefEqProofs (maxSteps := 1000000) (disch := first | assumption | omega | (simp only [gL] <;> omega) | ((repeat (first | exact Ext.refl _ | assumption | apply Ext.app | apply Ext.mk | (refine Ext.setr ?_ (by (first | omega | (simp only [gL] <;> omega))) _))); done) | (simp only [gL, gA, ro4] <;> omega) | fail) only [gB, setAll, partL, fldV, reduceIte, Nat.reduceAdd, Nat.reduceMul, ro4]
    refine WP.call (hh.call h4 (ex3.trans e4) _ _ (Int.natCast_nonneg _) (Int.ofNat_lt.2 d1) (Int.natCast_nonneg _) (Int.ofNat_lt.2 d2)) ?_
    rintro t46 h5 ⟨e5, g5⟩
    have w5 := w4.ext e5
    simp -implicitDefEqProofs (maxSteps := 1000000) (disch := first | assumption | omega | (simp only [gL] <;> omega) | ((repeat (first | exact Ext.refl _ | assumption | apply Ext.app | apply Ext.mk | (refine Ext.setr ?_ (by (first | omega | (simp only [gL] <;> omega))) _))); done) | (simp only [gL, gA, g5.sl.lenG] <;> omega) | fail) only [gB, setAll, partL, fldV, reduceIte, Nat.reduceAdd, Nat.reduceMul, g5.sl.lenG]
    have hl5 : h.length ≤ h5.length := by have := f3W.len; have := e4.len; have := e5.len; omega
    have hl4 : h.length ≤ h4.length := by have := f3W.len; have := e4.len; omega
    have w6 := w5.mono (W' := fun o => (W o ∧ o < h.length) ∨ h5.length ≤ o) fun o _ z => .inl z
    have hcid : gi (cs.set id key) (id : Int) = key := by
      rw [show (id : Int) = ((id : Nat) : Int) from rfl]
      have := congrFun (gset (xs := cs) (y := id) (by rw [w.lc]; exact hid) key) id
      rw [if_pos rfl] at this
      exact this
    have hA : ∀ t ∈ L ((id / D.length : Nat) : Int) ((id % D.length : Nat) : Int), hopOf es D.length t ∈ hopA es D.length L id := fun t z => List.mem_map_of_mem z
    refine WP.ent ((b4q (W := fun o => (W o ∧ o < h.length) ∨ h5.length ≤ o) (hb := h5) (st := st) (A := hopA es D.length L) (rk := fun x => if x = id then k else rk x) (k := k) ((ex3.trans e4).trans e5)
      (fun o z => ?_) (fun o z => .inr z) gv ok co hN hn hn2 hg (hh.tr _ _ (Int.natCast_nonneg _) (Int.ofNat_lt.2 d1) (Int.natCast_nonneg _) (Int.ofNat_lt.2 d2)) hA (fun h' fr => ?_) hid (hh.len _ _ (Int.natCast_nonneg _) (Int.ofNat_lt.2 d1) (Int.natCast_nonneg _) (Int.ofNat_lt.2 d2)) hcid q2 hk1 hkn _ 0 h5 _ _ _ (Nat.zero_add _) (FrS.refl _ _) w6 ?_).mono ?_) fun i => rfl
    · rcases z with z | z
      · exact hW o z.1
      · have := (((ex3.trans e4).trans e5)).len; omega
    · exact (g5.frs fr fun o z1 z2 z3 => by rcases z3 with z3 | z3 <;> omega).sl
    · rw [List.drop_zero, show gf (cs.set id key) = _ from gset (by rw [w.lc]; exact hid) _, show gf (M.set id none) = _ from gset (by omega) _]
      exact di2
    · rintro r h6 ⟨rfl, f6, ds2, fs2, M3, w7, d7⟩
      have f5W : FrS W h h5 := (f3W.trans (FrS.ofExt e4)).trans (FrS.ofExt e5)
      refine ⟨f5W.trans (f6.mono fun o z1 z2 => ?_), .inr ⟨id, key, ds2, fs2, M3, _, hid, p1.k, hmin, rfl, w7.mono fun o z1 z2 => ?_, d7, ?_⟩⟩
      · rcases z2 with z2 | z2
        · exact z2.1
        · omega
      · rcases z2 with z2 | z2
        · exact .inl z2.1
        · exact .inr (by omega)
      · have : gf (cs.set id key) = up (gf cs) id key := gset (by rw [w.lc]; exact hid) _
        rw [this, un_up hid q2, if_pos (by show gf cs id < 0; omega)]
        omega
end
end Go.Gm.A9

namespace Go.Gm.A9
open Go Go.Gm
section
variable {h0 h : Heap} {g : AV} {N : Nat} {es : List E} {D : List (List Int)} {acc : List Bool}
theorem b4O {W : Nat → Prop} {hb : Heap} {os oc oe ov : Nat} {q sc se sf : AV} {n : Nat} {fh : FuncId} {L : Int → Int → List Tr} {st : Nat → Prop}
    (e0 : Ext h0 hb) (hW : ∀ o, W o → h0.length ≤ o) (hWn : ∀ o, hb.length ≤ o → W o) (gv : GV h0 g N es D acc) (ok : DOk D acc) (co : COk es) (hN : N ≤ 100000) (hn : n = N * D.length) (hn2 : n ≤ 1000000) (hh : HopsOk h0 g N es D fh L) (hst : ∀ x, st x → x < n) :
    ∀ (d : Nat) (h : Heap) (id0 k : Nat) (ls : Int) (rk : Nat → Nat) (cs ds fs : List Int) (M : List (Option Int)), n ≤ d + k → FrS W hb h → SW W h os g (.fn fh [] []) q sc se sf oc oe ov n cs ds fs M ls → DI n 2147483647 (hopA es D.length L) st id0 [] (gf cs) (gf M) (gf ds) (gf fs) rk k → un n (gf cs) + k = n →
      WP (fun p : Nat × Nat => n4_ tab p.1 p.2 (.ptr os 0 7 0) h) fun r h' => r = .tup [] ∧ FrS W hb h' ∧ ∃ id2 k2 ls2 rk2 cs2 ds2 fs2 M2, SW W h' os g (.fn fh [] []) q sc se sf oc oe ov n cs2 ds2 fs2 M2 ls2 ∧
        DI n 2147483647 (hopA es D.length L) st id2 [] (gf cs2) (gf M2) (gf ds2) (gf fs2) rk2 k2 ∧ (∀ x : Nat, x < n → gf M2 x = none) ∧ un n (gf cs2) + (k2 : Int) = n := by
  intro d
  induction d with
  | zero =>
    intro h id0 k ls rk cs ds fs M hd f w di hk
    refine WP.rnd (fun i j => a0r tab i j (.ptr os 0 7 0) h) ?_
    have ex : Ext h0 h := f.ext e0 fun o q1 q2 => by have := hW o q2; omega
    have hb2 := f.len
    refine WP.call (a8A ex hW gv ok co hN hn hn2 hh hst w di hk) ?_
    rintro r h2 ⟨f2, ⟨rfl, m, w2⟩ | ⟨id, key, ds2, fs2, M2, rk2, i1, i2, _, rfl, w2, d2, k2⟩⟩
    · simp -implicitDefEqProofs (maxSteps := 1000000) (disch := first | assumption | omega | (simp only [gL] <;> omega) | ((repeat (first | exact Ext.refl _ | assumption | apply Ext.app | apply Ext.mk | (refine Ext.setr ?_ (by (first | omega | (simp only [gL] <;> omega))) _))); done) | (simp only [gL, gA, a4_, a5_] <;> omega) | fail) only [gB, setAll, partL, fldV, reduceIte, Nat.reduceAdd, Nat.reduceMul, a4_, a5_]
      exact WP.ret ⟨rfl, f.trans f2, id0, k, ls, rk, cs, ds, fs, M, w2.mono fun o _ z => z.elim (fun z => z) fun z => hWn o (by omega), di, m, hk⟩
    · have := o7_ n (gf (cs.set id key))
      omega
  | succ d ih =>
    intro h id0 k ls rk cs ds fs M hd f w di hk
    refine WP.rnd (fun i j => a0r tab i j (.ptr os 0 7 0) h) ?_
    have ex : Ext h0 h := f.ext e0 fun o q1 q2 => by have := hW o q2; omega
    have hb2 := f.len
    refine WP.call (a8A ex hW gv ok co hN hn hn2 hh hst w di hk) ?_
    rintro r h2 ⟨f2, ⟨rfl, m, w2⟩ | ⟨id, key, ds2, fs2, M2, rk2, i1, i2, _, rfl, w2, d2, k2⟩⟩
    · simp -implicitDefEqProofs (maxSteps := 1000000) (disch := first | assumption | omega | (simp only [gL] <;> omega) | ((repeat (first | exact Ext.refl _ | assumption | apply Ext.app | apply Ext.mk | (refine Ext.setr ?_ (by (first | omega | (simp only [gL] <;> omega))) _))); done) | (simp only [gL, gA, a4_, a5_] <;> omega) | fail) only [gB, setAll, partL, fldV, reduceIte, Nat.reduceAdd, Nat.reduceMul, a4_, a5_]
      exact WP.ret ⟨rfl, f.trans f2, id0, k, ls, rk, cs, ds, fs, M, w2.mono fun o _ z => z.elim (fun z => z) fun z => hWn o (by omega), di, m, hk⟩
    · simp -implicitDefEqProofs (maxSteps := 1000000) (disch := first | assumption | omega | (simp only [gL] <;> omega) | ((repeat (first | exact Ext.refl _ | assumption | apply Ext.app | apply Ext.mk | (refine Ext.setr ?_ (by (first | omega | (simp only [gL] <;> omega))) _))); done) | (simp only [gL, gA, a4_, a5_] <;> omega) | fail) only [gB, setAll, partL, fldV, reduceIte, Nat.reduceAdd, Nat.reduceMul, a4_, a5_]
      exact ih h2 id (k + 1) key rk2 _ ds2 fs2 M2 (by omega) (f.trans f2) (w2.mono fun o _ z => z.elim (fun z => z) fun z => hWn o (by omega)) d2 k2
theorem a9C {W : Nat → Prop} {os oc oe ov : Nat} {q sc se sf : AV} {n : Nat} {fh : FuncId} {L : Int → Int → List Tr} {st : Nat → Prop} {id0 k : Nat} {ls : Int} {rk : Nat → Nat} {cs ds fs : List Int} {M : List (Option Int)}
    (e0 : Ext h0 h) (hW : ∀ o, W o → h0.length ≤ o) (gv : GV h0 g N es D acc) (ok : DOk D acc) (co : COk es) (hN : N ≤ 100000) (hn : n = N * D.length) (hn2 : n ≤ 1000000) (hh : HopsOk h0 g N es D fh L) (hst : ∀ x, st x → x < n)
    (w : SW W h os g (.fn fh [] []) q sc se sf oc oe ov n cs ds fs M ls) (di : DI n 2147483647 (hopA es D.length L) st id0 [] (gf cs) (gf M) (gf ds) (gf fs) rk k) (hk : un n (gf cs) + k = n) :
    Tot tab b1_ [.ptr os 0 7 0] h fun r h' => r = .tup [] ∧ FrS W h h' ∧ ∃ id2 k2 ls2 rk2 cs2 ds2 fs2 M2, SW (fun o => W o ∨ h.length ≤ o) h' os g (.fn fh [] []) q sc se sf oc oe ov n cs2 ds2 fs2 M2 ls2 ∧
        DI n 2147483647 (hopA es D.length L) st id2 [] (gf cs2) (gf M2) (gf ds2) (gf fs2) rk2 k2 ∧ (∀ x : Nat, x < n → gf M2 x = none) ∧ un n (gf cs2) + (k2 : Int) = n := by
  refine WP.tot (fun k => (a5b k _ h).trans (a6v tab k _ h)) ?_
  refine WP.ent ((b4O (W := fun o => W o ∨ h.length ≤ o) e0 (fun o z => z.elim (hW o) fun z => by have := e0.len; omega) (fun o z => .inr z) gv ok co hN hn hn2 hh hst n h id0 k ls rk cs ds fs M (by omega) (FrS.refl _ _) (w.mono fun o _ z => .inl z) di hk).mono ?_) fun i => rfl
  rintro r h' ⟨rfl, f, z⟩
  exact ⟨rfl, f.mono fun o z1 z2 => z2.elim (fun z => z) fun z => by omega, z⟩
def encP2 (p : Int × Int) : List AV := [I p.1, I p.2]
theorem b3r {n : Nat} {c : Nat → Int} (hc : ∀ x, x < n → c x = -1) : un n c = n := by
  have : un n c = sumN (fun _ => (1 : Int)) n := a0C n fun x hx => by rw [if_pos (by have := hc x hx; omega)]
  rw [this]
  clear this hc
  induction n with
  | zero => rfl
  | succ n ih => rw [sumN, ih]; omega
theorem DI.start {n : Nat} {W : Int} {A : Nat → List Hop} {st : Nat → Prop} {c e f : Nat → Int} {m : Nat → Option Int} (hc : ∀ x, x < n → c x = -1) (hf : ∀ x, x < n → f x = -1) (hm : ∀ x, x < n → (st x ∧ m x = some 0) ∨ (¬ st x ∧ m x = none)) : DI n W A st 0 [] c m e f (fun _ => 0) 0 := by
  refine ⟨fun x hx h => ?_, fun x hx _ => hc x hx, fun x hx v h => ?_, fun x hx h => ?_, fun x hx h => ?_, fun x y hx hy h => ?_, fun y hy v h => ?_, fun x hx h => ?_, fun x hx v h => ?_, fun x hx h => ?_⟩
  · have := hc x hx; omega
  · rcases hm x hx with ⟨m1, m2⟩ | ⟨m1, m2⟩
    · rw [m2] at h
      injection h with h
      subst h
      exact ⟨hc x hx, Int.le_refl _, [], .nil m1⟩
    · rw [m2] at h; cases h
  · have := hc x hx; omega
  · rcases hm x hx with ⟨m1, m2⟩ | ⟨m1, m2⟩
    · exact .inr m2
    · exact absurd h m1
  · have := hc x hx; omega
  · rcases h with h | h
    · have := hc y hy; omega
    · rcases hm y hy with ⟨m1, m2⟩ | ⟨m1, m2⟩
      · rw [m2] at h
        injection h with h
        exact .inl ⟨hf y hy, m1, h.symm⟩
      · rw [m2] at h; cases h
  · have := hc x hx; omega
  · rcases h with h | h
    · have := hc x hx; omega
    · rcases hm x hx with ⟨m1, m2⟩ | ⟨m1, m2⟩
      · rw [m2] at h
        injection h with h
        subst h
        simp
      · rw [m2] at h; cases h
  · have := hc x hx; omega
end
end Go.Gm.A9

namespace Go.Gm.A9
open Go Go.Gm
section
variable {h0 h : Heap} {g : AV} {N : Nat} {es : List E} {D : List (List Int)} {acc : List Bool}
def atSt (S : Nat) (al : List (Int × Int)) (x : Nat) : Prop := ∃ a ∈ al, a.1 * S + a.2 = (x : Int)
theorem b3J {hb : Heap} {W : Nat → Prop} {os oc oe ov n : Nat} {fh q sc se sf atv : AV} {cs ds fs : List Int} {al : List (Int × Int)} {Q : AV → Heap → Prop} (gv : GV hb g N es D acc) (ok : DOk D acc) (hN : N ≤ 100000) (hn : n = N * D.length) (hn2 : n ≤ 1000000)
    (hWn : ∀ o, hb.length ≤ o → W o) (hW : ∀ o, W o → hb.length ≤ o) (ha : Sl hb 2 atv (al.map encP2)) (has : ∀ a ∈ al, 0 ≤ a.1 ∧ a.1 < N ∧ 0 ≤ a.2 ∧ a.2 < D.length) (hal : al.length ≤ 100000) :
    ∀ (d i : Nat) (h : Heap) (M : List (Option Int)), i + d = al.length → Ext hb h → SW W h os g fh q sc se sf oc oe ov n cs ds fs M 0 → (∀ x : Nat, x < n → (atSt D.length (al.take i) x ∧ gf M x = some 0) ∨ (¬ atSt D.length (al.take i) x ∧ gf M x = none)) →
      (∀ h' M', Ext hb h' → SW W h' os g fh q sc se sf oc oe ov n cs ds fs M' 0 → (∀ x : Nat, x < n → (atSt D.length al x ∧ gf M' x = some 0) ∨ (¬ atSt D.length al x ∧ gf M' x = none)) → Q (.ptr os 0 7 0) h') →
      WP (fun p : Nat × Nat => l6_ tab p.1 p.2 g (.ptr os 0 7 0) atv (I al.length) (I i) h) Q := by
  intro d
  induction d with
  | zero =>
    intro i h M h1 e w hm hQ
    refine WP.rnd (fun i' j => z2_ tab i' j g (.ptr os 0 7 0) atv (I al.length) (I i) h) ?_
    rw [List.take_of_length_le (by omega)] at hm
    simp -implicitDefEqProofs (maxSteps := 1000000) (disch := first | assumption | omega | (simp only [gL] <;> omega) | ((repeat (first | exact Ext.refl _ | assumption | apply Ext.app | apply Ext.mk | (refine Ext.setr ?_ (by (first | omega | (simp only [gL] <;> omega))) _))); done) | (simp only [gL, gA] <;> omega) | fail) only [gB, setAll, partL, fldV, reduceIte, Nat.reduceAdd, Nat.reduceMul]
    exact WP.ret (hQ h M e w hm)
  | succ d ih =>
    intro i h M h1 e w hm hQ
    refine WP.rnd (fun i' j => z2_ tab i' j g (.ptr os 0 7 0) atv (I al.length) (I i) h) ?_
    obtain ⟨a, hai⟩ : ∃ a, gi al i = a := ⟨_, rfl⟩
    obtain ⟨a1, a2, a3, a4⟩ := has a (hai ▸ b4_ (by omega) (by omega))
    obtain ⟨sp1, sp2⟩ := a8P (S := D.length) a1 a2 a3 a4
    obtain ⟨y, hy⟩ : ∃ y : Nat, a.1 * (D.length : Int) + a.2 = y := ⟨(a.1 * (D.length : Int) + a.2).toNat, by omega⟩
    have hyn : y < n := by omega
    have htk : al.take (i + 1) = al.take i ++ [a] := by
      rw [List.take_add_one, show al[i]? = some a by
        have := d5_ (xs := al) (i := (i : Int)) (by omega) (by omega)
        rw [hai] at this; simpa using this]
      rfl
    have hos := w.os_lt
    have hlb := e.len
    have hl2 : ((h ++ [AObj.cells ⟨[I 0, I 0], 0, 0, false⟩]).set h.length (.cells ⟨[I a.1, I a.2], 0, 0, false⟩)).length = h.length + 1 := by simp
    obtain ⟨h2, hh2⟩ : ∃ h2, h2 = ((h ++ [AObj.cells ⟨[I 0, I 0], 0, 0, false⟩]).set h.length (.cells ⟨[I a.1, I a.2], 0, 0, false⟩)) := ⟨_, rfl⟩
    have e2 : Ext h h2 := by rw [hh2]; ((repeat (first | exact Ext.refl _ | assumption | apply Ext.app | apply Ext.mk | (refine Ext.setr ?_ (by (first | omega | (simp only [gL] <;> omega))) _))))
    rw [← hh2] at hl2
    have w2 := w.ext e2
    have ro := w.row
    simp -implicitDefEqProofs (maxSteps := 1000000) (disch := first | assumption | omega | (simp only [gL] <;> omega) | ((repeat (first | exact Ext.refl _ | assumption | apply Ext.app | apply Ext.mk | (refine Ext.setr ?_ (by (first | omega | (simp only [gL] <;> omega))) _))); done) | (simp only [gL, gA, ha.idxG, ha.ldN, hai, encP2, ro] <;> omega) | fail) only [gB, setAll, partL, fldV, reduceIte, Nat.reduceAdd, Nat.reduceMul, ha.idxG, ha.ldN, hai, encP2, ro]
    rw [show AV.int .i64 0 = I 0 from rfl, ← hh2]
    refine WP.call (a8O (gv.ext (e.trans e2)) ok a1 (by omega) a3 (by have := ok.l1; omega)) ?_
    rintro _ h3 ⟨rfl, e3⟩
    rw [hy]
    have w3 := w2.ext e3
    have ro2 := w2.row
    have ro3 := w3.row
    have hl3 := e3.len
    simp -implicitDefEqProofs (maxSteps := 1000000) (disch := first | assumption | omega | (simp only [gL] <;> omega) | ((repeat (first | exact Ext.refl _ | assumption | apply Ext.app | apply Ext.mk | (refine Ext.setr ?_ (by (first | omega | (simp only [gL] <;> omega))) _))); done) | (simp only [gL, gA, ro2, ro3] <;> omega) | fail) only [gB, setAll, partL, fldV, reduceIte, Nat.reduceAdd, Nat.reduceMul, ro2, ro3]
    have o1 := w3.o1
    have o2 := w3.o2
    have o3 := w3.o3
    refine WP.call (w3.qv.put hn2 (fun o ho => ⟨hWn o (by omega), by omega⟩) (y : Int) 0) ?_
    rintro _ h4 ⟨rfl, v4, f4⟩
    have w4 := w3.q' f4 (fun o z => z.2) v4
    have hml := w.qv.lm
    have e4 : Ext hb h4 := f4.ext ((e.trans e2).trans e3) fun o q1 q2 => by have := hW o q2.1; omega
    refine ih (i + 1) h4 _ (by omega) e4 w4 ?_ hQ
    have key : ∀ x : Nat, atSt D.length (al.take (i + 1)) x ↔ atSt D.length (al.take i) x ∨ x = y := by
      intro x
      rw [htk]
      constructor
      · rintro ⟨b, b1, b2⟩
        rcases List.mem_append.1 b1 with b1 | b1
        · exact .inl ⟨b, b1, b2⟩
        · obtain rfl := List.mem_singleton.1 b1
          right; omega
      · rintro (⟨b, b1, b2⟩ | rfl)
        · exact ⟨b, List.mem_append.2 (.inl b1), b2⟩
        · exact ⟨a, List.mem_append.2 (.inr (List.mem_singleton.2 rfl)), hy⟩
    intro x hx
    rw [key x]
    rcases hm y hyn with ⟨m1, m2⟩ | ⟨m1, m2⟩
    · have hp : putM n M y 0 = (M, false) := by
        rw [putM, if_pos ⟨by omega, by omega⟩, show gi M (y : Int) = some 0 from m2]
        rfl
      rw [hp]
      rcases hm x hx with ⟨n1, n2⟩ | ⟨n1, n2⟩
      · exact .inl ⟨.inl n1, n2⟩
      · refine .inr ⟨fun z => ?_, n2⟩
        rcases z with z | z
        · exact n1 z
        · exact n1 (z ▸ m1)
    · have hp : putM n M y 0 = (M.set y (some 0), true) := by
        rw [putM, if_pos ⟨by omega, by omega⟩, show gi M (y : Int) = none from m2]
        rfl
      rw [hp]
      show (_ ∧ gf (M.set y (some 0)) x = _) ∨ (_ ∧ gf (M.set y (some 0)) x = _)
      rw [show gf (M.set y (some 0)) = _ from gset (by omega) _]
      by_cases qx : x = y
      · left
        exact ⟨.inr qx, if_pos qx⟩
      · simp only [if_neg qx]
        rcases hm x hx with ⟨n1, n2⟩ | ⟨n1, n2⟩
        · exact .inl ⟨.inl n1, n2⟩
        · exact .inr ⟨fun z => z.elim n1 qx, n2⟩
theorem b3K {hb : Heap} {W : Nat → Prop} {os oc oe ov n : Nat} {fh q sc se sf atv : AV} {M : List (Option Int)} {Q : AV → Heap → Prop} (hn2 : n ≤ 1000000)
    (hW : ∀ o, W o → hb.length ≤ o)
    (hQ : ∀ h cs ds fs, Ext hb h → SW W h os g fh q sc se sf oc oe ov n cs ds fs M 0 → (∀ x : Nat, x < n → gf cs x = -1 ∧ gf ds x = -1 ∧ gf fs x = -1) → WP (fun i : Nat => s1_ tab i g atv (.ptr os 0 7 0) h) Q) :
    ∀ (d i : Nat) (h : Heap) (cs ds fs : List Int), i + d = n → Ext hb h → SW W h os g fh q sc se sf oc oe ov n cs ds fs M 0 → (∀ x : Nat, x < i → gf cs x = -1 ∧ gf ds x = -1 ∧ gf fs x = -1) →
      WP (fun p : Nat × Nat => l5_ tab p.1 p.2 g atv (.ptr os 0 7 0) (I n) (I i) h) Q := by
  intro d
  induction d with
  | zero =>
    intro i h cs ds fs h1 e w hm
    refine WP.rnd (fun i' j => z3_ tab i' j g atv (.ptr os 0 7 0) (I n) (I i) h) ?_
    obtain rfl : i = n := by omega
    simp -implicitDefEqProofs (maxSteps := 1000000) (disch := first | assumption | omega | (simp only [gL] <;> omega) | ((repeat (first | exact Ext.refl _ | assumption | apply Ext.app | apply Ext.mk | (refine Ext.setr ?_ (by (first | omega | (simp only [gL] <;> omega))) _))); done) | (simp only [gL, gA] <;> omega) | fail) only [gB, setAll, partL, fldV, reduceIte, Nat.reduceAdd, Nat.reduceMul]
    exact WP.lv (hQ h cs ds fs e w hm) fun i j => rfl
  | succ d ih =>
    intro i h cs ds fs h1 e w hm
    refine WP.rnd (fun i' j => z3_ tab i' j g atv (.ptr os 0 7 0) (I n) (I i) h) ?_
    have hin : i < n := by omega
    have ro := w.row
    obtain ⟨h2, s2, w2, f2⟩ := w.setC hin (-1)
    obtain ⟨h3, s3, w3, f3⟩ := w2.setE hin (-1)
    obtain ⟨h4, s4, w4, f4⟩ := w3.setF hin (-1)
    have gc := w.gc.sl
    have ge := w.ge.sl
    have gf' := w.gf.sl
    simp -implicitDefEqProofs (maxSteps := 1000000) (disch := first | assumption | omega | (simp only [gL] <;> omega) | ((repeat (first | exact Ext.refl _ | assumption | apply Ext.app | apply Ext.mk | (refine Ext.setr ?_ (by (first | omega | (simp only [gL] <;> omega))) _))); done) | (simp only [gL, gA, ro, gc.idxG, ge.idxG, gf'.idxG, w.lc, w.le, w.lf, s2, s3, s4] <;> omega) | fail) only [gB, setAll, partL, fldV, reduceIte, Nat.reduceAdd, Nat.reduceMul, ro, gc.idxG, ge.idxG, gf'.idxG, w.lc, w.le, w.lf, s2, s3, s4]
    have e2 := f2.ext e fun o q1 q2 => by have := hW _ w.wc; omega
    have e3 := f3.ext e2 fun o q1 q2 => by have := hW _ w.we; omega
    have e4 := f4.ext e3 fun o q1 q2 => by have := hW _ w.wv; omega
    refine ih (i + 1) h4 _ _ _ (by omega) e4 w4 fun x hx => ?_
    have lc := w.lc
    have le := w.le
    have lf := w.lf
    rw [show gf (cs.set i (-1)) = _ from gset (by omega) _, show gf (ds.set i (-1)) = _ from gset (by omega) _, show gf (fs.set i (-1)) = _ from gset (by omega) _]
    by_cases qx : x = i
    · simp [qx]
    · simp only [if_neg qx]
      exact hm x (by omega)
theorem a3T {atv : AV} {fh : FuncId} {al : List (Int × Int)} (gv : GV h g N es D acc) (ok : DOk D acc) (hN : N ≤ 100000) {n : Nat} (hn : n = N * D.length) (hn2 : n ≤ 1000000)
    (ha : Sl h 2 atv (al.map encP2)) (has : ∀ a ∈ al, 0 ≤ a.1 ∧ a.1 < N ∧ 0 ≤ a.2 ∧ a.2 < D.length) (hal : al.length ≤ 100000) (A : Nat → List Hop) :
    Tot tab a7_ [g, .fn fh [] [], atv] h fun r h' => Ext h h' ∧ ∃ os q sc se sf oc oe ov cs ds fs M, r = .ptr os 0 7 0 ∧ SW (fun o => h.length ≤ o) h' os g (.fn fh [] []) q sc se sf oc oe ov n cs ds fs M 0 ∧
      DI n 2147483647 A (atSt D.length al) 0 [] (gf cs) (gf M) (gf ds) (gf fs) (fun _ => 0) 0 ∧ un n (gf cs) + (0 : Nat) = n := by
  obtain ⟨sE, a, sD, sA, sB, B, k1, k2, k3, k4, k5, k6, k7, k8⟩ := gv.ex
  refine WP.tot (fun k => (a4t k _ _ _ h).trans (a5K tab k _ _ _ h)) ?_
  have hw : IntKind.i64.wrap ((N : Int) * (D.length : Int)) = (n : Int) := by
    rw [hn, Int.natCast_mul]
    have := ok.l1
    refine o8_ ?_ ?_
    · have : 0 ≤ (N : Int) * (D.length : Int) := Int.mul_nonneg (by omega) (by omega)
      omega
    · have : (N : Int) * (D.length : Int) ≤ 100000 * 2000 := Int.mul_le_mul (by omega) (by omega) (by omega) (by omega)
      omega
  obtain ⟨s1, h1, a1, g1, e1, _, l1⟩ := q4_ (zero := [AV.int .i64 0]) (sz := 1) (bytes := 8) (n := (n : Int)) h (by omega) (by omega) (by omega) rfl rfl
  obtain ⟨s2, h2, a2, g2, e2, _, l2⟩ := q4_ (zero := [AV.int .i64 0]) (sz := 1) (bytes := 8) (n := (n : Int)) h1 (by omega) (by omega) (by omega) rfl rfl
  obtain ⟨s3, h3, a3, g3, e3, _, l3⟩ := q4_ (zero := [AV.int .i64 0]) (sz := 1) (bytes := 8) (n := (n : Int)) h2 (by omega) (by omega) (by omega) rfl rfl
  have hre : List.replicate (n : Int).toNat [AV.int .i64 0] = (List.replicate n (0 : Int)).map encI := by simp [encI, I]
  rw [hre] at g1 g2 g3
  have mx : max (N : Int) 0 = N := by omega
  simp -implicitDefEqProofs (maxSteps := 1000000) (disch := first | assumption | omega | (simp only [gL] <;> omega) | ((repeat (first | exact Ext.refl _ | assumption | apply Ext.app | apply Ext.mk | (refine Ext.setr ?_ (by (first | omega | (simp only [gL] <;> omega))) _))); done) | (simp only [gL, gA, k1.nil, k1.fldA0, k1.fldAf, k1.ld0, k1.ldfE, k4.lenG, hw, a1, a2, a3, mx] <;> omega) | fail) only [gB, setAll, partL, fldV, reduceIte, Nat.reduceAdd, Nat.reduceMul, k1.nil, k1.fldA0, k1.fldAf, k1.ld0, k1.ldfE, k4.lenG, hw, a1, a2, a3, mx]
  refine WP.call (b3q n hn2 h3) ?_
  rintro q h4 ⟨v4, e4⟩
  have l4 := e4.len
  have hqp : q.one = true ∧ q.cells = [q] := by
    obtain ⟨oq, _, _, hq, _⟩ := v4
    rw [hq]; exact ⟨rfl, rfl⟩
  have hgp : g.one = true ∧ g.cells = [g] := by
    obtain ⟨_, _, _, _, _, hq, _⟩ := k1
    rw [hq]; exact ⟨rfl, rfl⟩
  obtain ⟨fv, hfv⟩ : ∃ fv, fv = AV.fn fh [] [] := ⟨_, rfl⟩
  have hfp : fv.one = true ∧ fv.cells = [fv] := by rw [hfv]; exact ⟨rfl, rfl⟩
  rw [← hfv]
  simp -implicitDefEqProofs (maxSteps := 1000000) (disch := first | assumption | omega | (simp only [gL] <;> omega) | ((repeat (first | exact Ext.refl _ | assumption | apply Ext.app | apply Ext.mk | (refine Ext.setr ?_ (by (first | omega | (simp only [gL] <;> omega))) _))); done) | (simp only [gL, gA, hqp.1, hqp.2, hgp.1, hgp.2, hfp.1, hfp.2, g1.sl.one, g1.sl.cells, g2.sl.one, g2.sl.cells, g3.sl.one, g3.sl.cells] <;> omega) | fail) only [gB, setAll, partL, fldV, reduceIte, Nat.reduceAdd, Nat.reduceMul, hqp.1, hqp.2, hgp.1, hgp.2, hfp.1, hfp.2, g1.sl.one, g1.sl.cells, g2.sl.one, g2.sl.cells, g3.sl.one, g3.sl.cells]
  obtain ⟨h5, hh5⟩ : ∃ h5, h5 = h4 ++ [AObj.cells ⟨[g, fv, q, s1, s2, s3, AV.int .i64 0], 0, 0, false⟩] := ⟨_, rfl⟩
  have e5 : Ext h4 h5 := by rw [hh5]; exact Ext.push _ _
  have ro : h5[h4.length]? = some (.cells ⟨[g, fv, q, s1, s2, s3, I 0], 0, 0, false⟩) := by rw [hh5]; simp
  rw [← hh5]
  have e35 := e4.trans e5
  have e05 := ((e1.trans e2).trans e3).trans e35
  have w : SW (fun o => h.length ≤ o) h5 h4.length g fv q s1 s2 s3 h.length h1.length h2.length n (List.replicate n 0) (List.replicate n 0) (List.replicate n 0) (List.replicate n none) 0 := by
    refine ⟨ro, ((g1.ext e2).ext e3).ext e35, (g2.ext e3).ext e35, g3.ext e35, by simp, by simp, by simp, by omega, by omega, by omega, Nat.le_refl _, by show h.length ≤ _; omega, by show h.length ≤ _; omega, by show h.length ≤ _; omega, ?_⟩
    refine (SQ.ext (P := fun o => (h.length ≤ o ∧ o ≠ h.length ∧ o ≠ h1.length ∧ o ≠ h2.length ∧ o ≠ h4.length)) (v4.sq fun o z1 z2 => ?_) e5)
    omega
  simp -implicitDefEqProofs (maxSteps := 1000000) (disch := first | assumption | omega | (simp only [gL] <;> omega) | ((repeat (first | exact Ext.refl _ | assumption | apply Ext.app | apply Ext.mk | (refine Ext.setr ?_ (by (first | omega | (simp only [gL] <;> omega))) _))); done) | (simp only [gL, gA, ro, w.gc.sl.lenG, List.length_replicate] <;> omega) | fail) only [gB, setAll, partL, fldV, reduceIte, Nat.reduceAdd, Nat.reduceMul, ro, w.gc.sl.lenG, List.length_replicate]
  rw [hfv] at w ⊢
  refine WP.ent (b3K (hb := h) (W := fun o => h.length ≤ o) (n := n) hn2 (fun o z => z) (fun h6 cs ds fs e6 w6 m6 => ?_) n 0 h5 _ _ _ (by omega) e05 w fun x hx => by omega) fun i => rfl
  refine WP.congr (fun i => a3E tab i g atv (.ptr h4.length 0 7 0) h6) ?_
  simp -implicitDefEqProofs (maxSteps := 1000000) (disch := first | assumption | omega | (simp only [gL] <;> omega) | ((repeat (first | exact Ext.refl _ | assumption | apply Ext.app | apply Ext.mk | (refine Ext.setr ?_ (by (first | omega | (simp only [gL] <;> omega))) _))); done) | (simp only [gL, gA, ha.lenG] <;> omega) | fail) only [gB, setAll, partL, fldV, reduceIte, Nat.reduceAdd, Nat.reduceMul, ha.lenG]
  refine WP.ent (b3J gv ok hN hn hn2 (W := fun o => h.length ≤ o) (hb := h) (fun o z => z) (fun o z => z) ha has hal al.length 0 h6 _ (by omega) e6 w6 (fun x hx => ?_) fun h7 M7 e7 w7 m7 => ?_) fun i => rfl
  · refine .inr ⟨fun ⟨b, b1, b2⟩ => by simp at b1, ?_⟩
    show gi (List.replicate n none) (x : Int) = none
    exact a3h (by omega) (by omega)
  · exact ⟨e7, _, q, s1, s2, s3, _, _, _, cs, ds, fs, M7, rfl, w7, DI.start (fun x hx => (m6 x hx).1) (fun x hx => (m6 x hx).2.2) m7, by rw [b3r fun x hx => (m6 x hx).1]; omega⟩
end
end Go.Gm.A9

namespace Go.Gm.A9
open Go Go.Gm
def JI (hb : Heap) (q : Nat) (sB : AV) (S : Nat) (X : Nat × Nat → List Int) (h : Heap) : Prop :=
  ∃ B : List (List AV), Gr q (q + 1) h 5 sB (B.map id) ∧ B.length = S ∧ (∀ t : Nat, t < S → (gi B t).length = 5) ∧
    Fam (fun o => hb.length ≤ o) h 1 (fun t : Nat × Nat => t.1 < S ∧ t.2 < 5) (fun t => gi (gi B t.1) t.2) (fun t => (X t).map encI) ∧ FrS (fun o => o = q ∨ hb.length ≤ o) hb h
theorem giset2 {α : Type} [Inhabited α] {xs : List α} {i j : Nat} (hi : i < xs.length) (x : α) : gi (xs.set i x) (j : Int) = if j = i then x else gi xs j := congrFun (gset hi x) j
theorem JI.step {hb h : Heap} {q : Nat} {sB : AV} {S : Nat} {X : Nat × Nat → List Int} (j : JI hb q sB S X h) (hq : q < hb.length) {to m : Nat} (ht : to < S) (hm : m < 5) (v : Int) (hl : (X (to, m)).length ≤ 100000) :
    ∃ p s1 s2 h2 h3, idxS 5 sB (I to) = some (elP 5 sB to) ∧ idxA 5 1 (elP 5 sB to) (I m) = some p ∧ ld1 h p = some s1 ∧ apnd 1 8 s1 (.sl h.length 0 1 1 none 0) (h ++ [AObj.cells ⟨[I v], 0, 0, false⟩]) = some (s2, h2) ∧ stN 1 h2 p s2 = some h3 ∧
      JI hb q sB S (fun t => if t = (to, m) then X t ++ [v] else X t) h3 ∧ FrS (fun o => hb.length ≤ o) h h2 := by
  obtain ⟨B, g, lB, rB, f, fr⟩ := j
  have hlb := fr.len
  obtain ⟨p, p1, p2, p3⟩ := cellA (H := h) g.sl (Ext.refl _) (i := (to : Int)) (j := (m : Int)) (by omega) (by omega) (by omega) (by omega)
  have r5 := rB to ht
  have p2' : ld1 h p = some (gi (gi B to) m) := by
    rw [p2, id, List.getD_eq_getElem?_getD, d5_ (by omega) (by omega)]; rfl
  have b1 : Sl (h ++ [AObj.cells ⟨[I v], 0, 0, false⟩]) 1 (.sl h.length 0 1 1 none 0) [[I v]] := by
    have := (Gr.lit (h := h) (sz := 1) (v := [I v]) rfl).sl
    rwa [a9_] at this
  have e1 : Ext h (h ++ [AObj.cells ⟨[I v], 0, 0, false⟩]) := Ext.push _ _
  have f' : Fam (fun o => hb.length ≤ o) (h ++ [AObj.cells ⟨[I v], 0, 0, false⟩]) 1 (fun t : Nat × Nat => t.1 < S ∧ t.2 < 5) (fun t => gi (gi B t.1) t.2) (fun t => (X t).map encI) := f.frs (D := fun _ => False) (FrS.ofExt e1) fun _ _ _ z => z
  obtain ⟨s2, h2, k1, k2, k3, k4⟩ := f'.append (bytes := 8) (t := (to, m)) ⟨ht, hm⟩ b1 (by simp) (by omega) (by omega) (by simp; omega)
  have g2 := (g.ext e1).frs k4 fun o z1 z2 => by omega
  have c2 : s2.cells = [s2] := by
    have := (k3.sl (t := (to, m)) ⟨ht, hm⟩).cells
    simpa using this
  obtain ⟨h3, n1, n2, n3, n4⟩ := g2.write (i := (to : Int)) (by omega) (x := gi B to) (by rw [List.map_id, d5_ (by omega) (by omega)]) m 1 (v := s2) (by rw [c2]; rfl) (by omega) (by rw [c2]; simp [k2])
  refine ⟨p, _, s2, h2, h3, g.sl.idxG (by omega) (by omega), p1, p2', k1, ?_, ?_, ?_⟩
  · rw [p3, show ((m : Int)).toNat = m by omega]; exact n1
  · have hlq := k4.len
    have f3 := k3.frs n3.s (fun o z1 z2 z3 => by rcases z2 with z2 | z2 <;> simp only [List.length_append] at * <;> omega)
    refine ⟨B.set to (setAll (gi B to) m [s2]), ?_, by rw [List.length_set]; exact lB, fun t ht' => ?_, ?_, ?_⟩
    · refine n2.cong ?_
      rw [c2, List.map_id, List.map_id, show ((to : Int)).toNat = to by omega]
    · rw [giset2 (by omega)]
      by_cases qt : t = to
      · rw [if_pos qt]; simp [setAll, r5]
      · rw [if_neg qt]; exact rB t ht'
    · refine (f3.mono fun o z1 z2 => ?_).congr fun t ht' => ⟨?_, ?_⟩
      · rcases z2 with z2 | z2
        · exact z2
        · simp only [List.length_append] at z2; omega
      · show gi (gi (B.set to (setAll (gi B to) m [s2])) t.1) t.2 = if t = (to, m) then s2 else gi (gi B t.1) t.2
        rw [giset2 (by omega)]
        obtain ⟨t1, t2⟩ := t
        by_cases qt : t1 = to
        · subst qt
          simp only [if_true, setAll]
          rw [giset2 (by omega)]
          by_cases q2 : t2 = m
          · subst q2; simp
          · rw [if_neg q2, if_neg (by simp [q2])]
        · rw [if_neg qt, if_neg (by simp [qt])]
      · show (if t = (to, m) then X t ++ [v] else X t).map encI = if t = (to, m) then (X (to, m)).map encI ++ [[I v]] else (X t).map encI
        by_cases qt : t = (to, m)
        · subst qt; simp [encI]
        · rw [if_neg qt, if_neg qt]
    · have z1 : FrS (fun o => o = q ∨ hb.length ≤ o) h (h ++ [AObj.cells ⟨[I v], 0, 0, false⟩]) := FrS.ofExt e1
      exact ((fr.trans z1).trans (k4.mono fun o _ z => .inr z)).trans (n3.s.mono fun o _ z => .inl (by omega))
  · exact (FrS.ofExt e1).trans k4
theorem b2w (D : List (List Int)) (t m : Int) (n : Nat) : befTo D t m (n + 1) = befTo D t m n ++ if nx D n m = t then [(n : Int)] else [] := by
  simp only [befTo, List.range_succ, List.filter_append, List.map_append]
  congr 1
  by_cases h : nx D n m = t <;> simp [h]
theorem a5B (D : List (List Int)) (t m : Int) (n : Nat) : (befTo D t m n).length ≤ n := by
  simp only [befTo, List.length_map]
  exact Nat.le_trans (List.length_filter_le ..) (by simp)
section
variable {h0 h : Heap} {g : AV} {N : Nat} {es : List E} {D : List (List Int)} {acc : List Bool}
def XX (D : List (List Int)) (n m : Nat) (t : Nat × Nat) : List Int := befTo D t.1 t.2 n ++ if t.2 < m ∧ nx D n t.2 = t.1 then [(n : Int)] else []
theorem b3s {r : List Int} {m : Nat} (hr : r.length = 5) (hm : m < 5) : ixA 5 1 none (.agg (encR r)) (I m) = some (I (gi r m)) := by
  rw [ixA_i (by omega) (by omega)]
  simp only [partL, encR, List.getElem?_map, Nat.mul_one]
  rw [d5_ (by omega) (by omega)]; rfl
theorem b4r {hb : Heap} {q og n : Nat} {sE a sD sA sB t21 t22 : AV} (ok : DOk D acc) (hq : q < hb.length) (hog : og < hb.length) (hne : og ≠ q) (hrow : hb[og]? = some (.cells ⟨[I N, sE, a, sD, sA, sB], 0, 0, false⟩)) (hn : n < D.length) {Q : AV → Heap → Prop}
    (hQ : ∀ h, JI hb q sB D.length (XX D n 5) h → WP (fun p : Nat × Nat => r2_ tab p.1 p.2 (.ptr og 0 6 0) t21 t22 (I (n + 1)) h) Q) :
    ∀ (d m : Nat) (h : Heap), m + d = 5 → JI hb q sB D.length (XX D n m) h →
      WP (fun p : (Nat × Nat) × Nat => z1_ tab p.1.1 p.1.2 p.2 (.ptr og 0 6 0) (I n) t21 t22 (I n) (.agg (encR (gi D n))) (I m) h) Q := by
  have l1 := ok.l1
  intro d
  induction d with
  | zero =>
    intro m h h1 w
    refine WP.rnd (fun i j => a2W tab i.1 i.2 j (.ptr og 0 6 0) (I n) t21 t22 (I n) (.agg (encR (gi D n))) (I m) h) ?_
    obtain rfl : m = 5 := by omega
    simp -implicitDefEqProofs (maxSteps := 1000000) (disch := first | assumption | omega | (simp only [gL] <;> omega) | ((repeat (first | exact Ext.refl _ | assumption | apply Ext.app | apply Ext.mk | (refine Ext.setr ?_ (by (first | omega | (simp only [gL] <;> omega))) _))); done) | (simp only [gL, gA] <;> omega) | fail) only [gB, setAll, partL, fldV, reduceIte, Nat.reduceAdd, Nat.reduceMul]
    exact WP.lv (hQ h w) fun i j => rfl
  | succ d ih =>
    intro m h h1 w
    refine WP.rnd (fun i j => a2W tab i.1 i.2 j (.ptr og 0 6 0) (I n) t21 t22 (I n) (.agg (encR (gi D n))) (I m) h) ?_
    have hr5 := ok.row n (by omega) (by omega)
    obtain ⟨u0, u1⟩ := ok.to n m (by omega) (by omega) (by omega) (by omega)
    obtain ⟨to, hto⟩ : ∃ to : Nat, gi (gi D n) m = to := ⟨(gi (gi D n) m).toNat, by omega⟩
    have htl : to < D.length := by omega
    have hX : (XX D n m (to, m)).length ≤ 100000 := by
      have := a5B D to m n
      simp only [XX, List.length_append]
      split <;> simp <;> omega
    obtain ⟨p, s1, s2, h2, h3, k1, k2, k3, k4, k5, k6, k7⟩ := w.step hq htl (m := m) (by omega) n hX
    have fr : FrS (fun o => o = q ∨ hb.length ≤ o) hb h := w.choose_spec.2.2.2.2
    have hlb := fr.len
    have r1 : h[og]? = some (.cells ⟨[I N, sE, a, sD, sA, sB], 0, 0, false⟩) := by rw [fr.get (by omega) hog]; exact hrow
    have r2 : h2[og]? = some (.cells ⟨[I N, sE, a, sD, sA, sB], 0, 0, false⟩) := by rw [k7.get (by omega) (by omega)]; exact r1
    simp -implicitDefEqProofs (maxSteps := 1000000) (disch := first | assumption | omega | (simp only [gL] <;> omega) | ((repeat (first | exact Ext.refl _ | assumption | apply Ext.app | apply Ext.mk | (refine Ext.setr ?_ (by (first | omega | (simp only [gL] <;> omega))) _))); done) | (simp only [gL, gA, b3s hr5 (show m < 5 by omega), hto, r1, k1, k2, k3, k4, r2, k5] <;> omega) | fail) only [gB, setAll, partL, fldV, reduceIte, Nat.reduceAdd, Nat.reduceMul, b3s hr5 (show m < 5 by omega), hto, r1, k1, k2, k3, k4, r2, k5]
    refine ih (m + 1) h3 (by omega) ?_
    have : (fun t => if t = (to, m) then XX D n m t ++ [(n : Int)] else XX D n m t) = XX D n (m + 1) := by
      funext t
      obtain ⟨t1, t2⟩ := t
      simp only [XX]
      by_cases q1 : t2 = m
      · subst q1
        by_cases q2 : t1 = to
        · subst q2
          rw [if_pos rfl, if_neg (by omega), if_pos ⟨by omega, hto⟩, List.append_nil]
        · rw [if_neg (by simp [q2]), if_neg (by omega), if_neg]
          rintro ⟨_, z⟩
          rw [nx, hto] at z
          omega
      · rw [if_neg (by simp [q1])]
        congr 1
        by_cases q3 : nx D n t2 = t1
        · by_cases q4 : t2 < m
          · rw [if_pos ⟨q4, q3⟩, if_pos ⟨by omega, q3⟩]
          · rw [if_neg (fun z => q4 z.1), if_neg (fun z => by omega)]
        · rw [if_neg (fun z => q3 z.2), if_neg (fun z => q3 z.2)]
    rw [← this]
    exact k6
theorem b4s (D : List (List Int)) (n : Nat) (t : Nat × Nat) (h : t.2 < 5) : XX D n 5 t = XX D (n + 1) 0 t := by
  simp only [XX]
  rw [b2w, if_neg (fun z : t.2 < 0 ∧ _ => by omega), List.append_nil]
  congr 1
  by_cases q : nx D n t.2 = t.1
  · rw [if_pos ⟨h, q⟩, if_pos q]
  · rw [if_neg (fun z => q z.2), if_neg q]
theorem JI.congr {hb h : Heap} {q : Nat} {sB : AV} {S : Nat} {X Y : Nat × Nat → List Int} (j : JI hb q sB S X h) (e : ∀ t : Nat × Nat, t.2 < 5 → Y t = X t) : JI hb q sB S Y h := by
  obtain ⟨B, g, lB, rB, f, fr⟩ := j
  exact ⟨B, g, lB, rB, f.congr fun t ht => ⟨rfl, by rw [e t ht.2]⟩, fr⟩
theorem JI.ext {hb h h' : Heap} {q : Nat} {sB : AV} {S : Nat} {X : Nat × Nat → List Int} (j : JI hb q sB S X h) (e : Ext h h') : JI hb q sB S X h' := by
  obtain ⟨B, g, lB, rB, f, fr⟩ := j
  exact ⟨B, g.ext e, lB, rB, f.frs (D := fun _ => False) (FrS.ofExt e) (fun _ _ _ z => z), fr.trans (FrS.ofExt e)⟩
theorem b4t {hb : Heap} {q og : Nat} {sE a sD sA sB : AV} (ok : DOk D acc) (hq : q < hb.length) (hog : og < hb.length) (hne : og ≠ q) (hrow : hb[og]? = some (.cells ⟨[I N, sE, a, sD, sA, sB], 0, 0, false⟩))
    (hD : ∀ h, FrS (fun o => o = q ∨ hb.length ≤ o) hb h → Sl h 5 sD (D.map encR)) {Q : AV → Heap → Prop} (hQ : ∀ h, JI hb q sB D.length (XX D D.length 0) h → Q (.ptr og 0 6 0) h) :
    ∀ (d n : Nat) (h : Heap), n + d = D.length → JI hb q sB D.length (XX D n 0) h → WP (fun p : Nat × Nat => r2_ tab p.1 p.2 (.ptr og 0 6 0) sD (I D.length) (I n) h) Q := by
  have l1 := ok.l1
  intro d
  induction d with
  | zero =>
    intro n h h1 w
    refine WP.rnd (fun i j => a2X tab i j (.ptr og 0 6 0) sD (I D.length) (I n) h) ?_
    obtain rfl : n = D.length := by omega
    simp -implicitDefEqProofs (maxSteps := 1000000) (disch := first | assumption | omega | (simp only [gL] <;> omega) | ((repeat (first | exact Ext.refl _ | assumption | apply Ext.app | apply Ext.mk | (refine Ext.setr ?_ (by (first | omega | (simp only [gL] <;> omega))) _))); done) | (simp only [gL, gA] <;> omega) | fail) only [gB, setAll, partL, fldV, reduceIte, Nat.reduceAdd, Nat.reduceMul]
    exact WP.ret (hQ h w)
  | succ d ih =>
    intro n h h1 w
    refine WP.rnd (fun i j => a2X tab i j (.ptr og 0 6 0) sD (I D.length) (I n) h) ?_
    have fr : FrS (fun o => o = q ∨ hb.length ≤ o) hb h := w.choose_spec.2.2.2.2
    have sl := hD h fr
    have hr5 := ok.row n (by omega) (by omega)
    obtain ⟨r, hr⟩ : ∃ r, encR (gi D n) = r := ⟨_, rfl⟩
    obtain ⟨x0, x1, x2, x3, x4, hx⟩ : ∃ x0 x1 x2 x3 x4, gi D n = [x0, x1, x2, x3, x4] := by
      generalize gi D n = l at hr5
      match l, hr5 with
      | [x0, x1, x2, x3, x4], _ => exact ⟨x0, x1, x2, x3, x4, rfl⟩
    simp -implicitDefEqProofs (maxSteps := 1000000) (disch := first | assumption | omega | (simp only [gL] <;> omega) | ((repeat (first | exact Ext.refl _ | assumption | apply Ext.app | apply Ext.mk | (refine Ext.setr ?_ (by (first | omega | (simp only [gL] <;> omega))) _))); done) | (simp only [gL, gA, sl.idxG, sl.ldN, hx, encR, List.map_cons, List.map_nil] <;> omega) | fail) only [gB, setAll, partL, fldV, reduceIte, Nat.reduceAdd, Nat.reduceMul, sl.idxG, sl.ldN, hx, encR, List.map_cons, List.map_nil]
    obtain ⟨h2, hh2⟩ : ∃ h2, h2 = ((h ++ [AObj.cells ⟨[AV.int .i64 0, AV.int .i64 0, AV.int .i64 0, AV.int .i64 0, AV.int .i64 0], 0, 0, false⟩]).set h.length (.cells ⟨[I x0, I x1, I x2, I x3, I x4], 0, 0, false⟩)) := ⟨_, rfl⟩
    have e2 : Ext h h2 := by rw [hh2]; ((repeat (first | exact Ext.refl _ | assumption | apply Ext.app | apply Ext.mk | (refine Ext.setr ?_ (by (first | omega | (simp only [gL] <;> omega))) _))))
    rw [← hh2]
    refine WP.ent (b4r ok hq hog hne hrow (n := n) (by omega) (t21 := sD) (t22 := I D.length) (fun h w2 => ?_) 5 0 h2 (by omega) (w.ext e2)) fun i => ?_
    · exact ih (n + 1) h (by omega) (w2.congr fun t ht => (b4s D n t ht).symm)
    · rw [hx]; rfl
theorem a8B {sE sD sA : AV} (no : NetOk N es) (hs : Sl h 4 sE (es.map encE)) (ok : DOk D acc) (hD : Sl h 5 sD (D.map encR)) (hA : Sl h 1 sA (acc.map encB)) :
    Tot tab e4_ [.agg [I N, sE], .agg [sD, sA]] h fun r h' => Ext h h' ∧ GV h' r N es D acc := by
  refine WP.tot (fun k => (a8Z k _ _ h).trans (a9Q tab k _ _ h)) ?_
  obtain ⟨h1, hh1⟩ : ∃ h1, h1 = (h ++ [AObj.cells ⟨[I N, sE], 0, 0, false⟩]) ++ [AObj.cells ⟨[sD, sA], 0, 0, false⟩] := ⟨_, rfl⟩
  have l1 := ok.l1
  have hl1 : h1.length = h.length + 2 := by rw [hh1]; simp
  have e1 : Ext h h1 := by rw [hh1]; ((repeat (first | exact Ext.refl _ | assumption | apply Ext.app | apply Ext.mk | (refine Ext.setr ?_ (by (first | omega | (simp only [gL] <;> omega))) _))))
  have r0 : h1[h.length]? = some (.cells ⟨[I N, sE], 0, 0, false⟩) := by rw [hh1]; simp
  have r1 : h1[h.length + 1]? = some (.cells ⟨[sD, sA], 0, 0, false⟩) := by rw [hh1]; simp
  obtain ⟨sB, h2, k1, k2, k3, k4, k5⟩ := q4_ (zero := [.nils, .nils, .nils, .nils, .nils]) (sz := 5) (bytes := 120) (n := (D.length : Int)) h1 (by omega) (by omega) (by omega) rfl rfl
  have hsD := (hD.ext e1).ext k3
  simp -implicitDefEqProofs (maxSteps := 1000000) (disch := first | assumption | omega | (simp only [gL] <;> omega) | ((repeat (first | exact Ext.refl _ | assumption | apply Ext.app | apply Ext.mk | (refine Ext.setr ?_ (by (first | omega | (simp only [gL] <;> omega))) _))); done) | (simp only [gL, gA, hs.one, hs.cells, hD.one, hD.cells, hA.one, hA.cells, hD.lenG] <;> omega) | fail) only [gB, setAll, partL, fldV, reduceIte, Nat.reduceAdd, Nat.reduceMul, hs.one, hs.cells, hD.one, hD.cells, hA.one, hA.cells, hD.lenG]
  rw [← hh1]
  simp -implicitDefEqProofs (maxSteps := 1000000) (disch := first | assumption | omega | (simp only [gL] <;> omega) | ((repeat (first | exact Ext.refl _ | assumption | apply Ext.app | apply Ext.mk | (refine Ext.setr ?_ (by (first | omega | (simp only [gL] <;> omega))) _))); done) | (simp only [gL, gA, k1] <;> omega) | fail) only [gB, setAll, partL, fldV, reduceIte, Nat.reduceAdd, Nat.reduceMul, k1]
  refine WP.call (b3b no (hs.ext (e1.trans k3))) ?_
  rintro _ h3 ⟨e3, hadj, oa, hoa, rfl⟩
  have l3 := e3.len
  obtain ⟨h4, hh4⟩ : ∃ h4, h4 = h3 ++ [AObj.cells ⟨[I N, sE, .ptr oa 0 4 0, sD, sA, sB], 0, 0, false⟩] := ⟨_, rfl⟩
  have e4 : Ext h3 h4 := by rw [hh4]; exact Ext.push _ _
  have hl4 : h4.length = h3.length + 1 := by rw [hh4]; simp
  have ro : h4[h3.length]? = some (.cells ⟨[I N, sE, .ptr oa 0 4 0, sD, sA, sB], 0, 0, false⟩) := by rw [hh4]; simp
  have r03 := e3.get (k3.get r0)
  have r13 := e3.get (k3.get r1)
  have r14 := e4.get r13
  have one1 := hs.one
  simp -implicitDefEqProofs (maxSteps := 1000000) (disch := first | assumption | omega | (simp only [gL] <;> omega) | ((repeat (first | exact Ext.refl _ | assumption | apply Ext.app | apply Ext.mk | (refine Ext.setr ?_ (by (first | omega | (simp only [gL] <;> omega))) _))); done) | (simp only [gL, gA, r03, r13, k2.sl.one, k2.sl.cells, hs.one, hs.cells, hD.one, hD.cells, hA.one, hA.cells] <;> omega) | fail) only [gB, setAll, partL, fldV, reduceIte, Nat.reduceAdd, Nat.reduceMul, r03, r13, k2.sl.one, k2.sl.cells, hs.one, hs.cells, hD.one, hD.cells, hA.one, hA.cells]
  rw [← hh4]
  simp -implicitDefEqProofs (maxSteps := 1000000) (disch := first | assumption | omega | (simp only [gL] <;> omega) | ((repeat (first | exact Ext.refl _ | assumption | apply Ext.app | apply Ext.mk | (refine Ext.setr ?_ (by (first | omega | (simp only [gL] <;> omega))) _))); done) | (simp only [gL, gA, r14, hD.lenG] <;> omega) | fail) only [gB, setAll, partL, fldV, reduceIte, Nat.reduceAdd, Nat.reduceMul, r14, hD.lenG]
  have e14 := (e1.trans k3).trans (e3.trans e4)
  refine WP.ent (b4t (hb := h4) (q := h1.length) (og := h3.length) (sE := sE) (a := .ptr oa 0 4 0) (sA := sA) (sB := sB) ok (by omega) (by omega) (by omega) ro (fun h' f => hD.ext (f.ext e14 fun o z1 z2 => by omega)) (fun h' w => ?_) D.length 0 h4 (by omega) ?_) fun i => rfl
  · obtain ⟨B, g, lB, rB, f, fr⟩ := w
    have eh : Ext h h' := fr.ext e14 fun o z1 z2 => by omega
    have ho : h'[h3.length]? = some (.cells ⟨[I N, sE, .ptr oa 0 4 0, sD, sA, sB], 0, 0, false⟩) := by rw [fr.get (by omega) (by omega)]; exact ro
    refine ⟨eh, ⟨sE, .ptr oa 0 4 0, sD, sA, sB, B, At.row ho (Nat.le_refl _) rfl, hs.ext eh, hadj h' fun o z1 z2 => ?_, hD.ext eh, hA.ext eh, g.sl, lB, fun t m t0 t1 m0 m1 => ⟨?_, ?_⟩⟩⟩
    · rw [fr.get (by omega) (by omega), hh4, a0l z2]
    · have := rB t.toNat (by omega)
      rwa [show ((t.toNat : Nat) : Int) = t by omega] at this
    · have := f.sl (t := (t.toNat, m.toNat)) ⟨by show t.toNat < _; omega, by show m.toNat < 5; omega⟩
      simp only [XX] at this
      rw [if_neg (fun z => by omega), List.append_nil, show ((t.toNat : Nat) : Int) = t by omega, show ((m.toNat : Nat) : Int) = m by omega] at this
      exact this
  · refine ⟨List.replicate D.length [.nils, .nils, .nils, .nils, .nils], ?_, by simp, fun t ht => ?_, Fam.nil _ _ _ fun t ht => ⟨?_, ?_⟩, FrS.refl _ _⟩
    · refine ((k2.ext e3).ext e4).cong ?_
      rw [List.map_id]; simp
    · rw [a3h (by omega) (by omega)]; rfl
    · rw [a3h (by omega) (by omega)]
      match t.2, ht.2 with
      | 0, _ => rfl
      | 1, _ => rfl
      | 2, _ => rfl
      | 3, _ => rfl
      | 4, _ => rfl
    · simp [XX, befTo]
end
end Go.Gm.A9

