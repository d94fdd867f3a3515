/- A part of the proof (GmA9B): an abstract machine, what it does, and what the functions of the program come to on it. -/
import Derived.Test.YtidaobchfmnjpaaGmA9A
set_option linter.unusedVariables false
set_option linter.unusedSimpArgs false
set_option linter.unusedSectionVars false
namespace Go.Gm.A9
open Go Go.Gm
section
variable {W : Nat → Prop} {oq : Nat} {N : Nat} {M : List (Option Int)}

theorem QS.len {h : Heap} {xs : List (Int × Int)} {at' : List Int} (q : QS W h oq xs at') : xs.length ≤ 10000000 := by
  obtain ⟨s1, s2, o1, o2, q⟩ := q; exact q.len
theorem swapR {h : Heap} {xs : List (Int × Int)} {at' : List Int} (q : QS W h oq xs at') (r : Rep N xs at' M) {i j : Int} (i0 : 0 ≤ i) (i1 : i < xs.length) (j0 : 0 ≤ j) (j1 : j < xs.length) :
    Tot tab f_queue_heaped_Swap [.ptr oq 0 2 0, I i, I j] h fun _ h' => ∃ at2, QS W h' oq (sw xs i j) at2 ∧ Rep N (sw xs i j) at2 M ∧ FrS W h h' := by
  have ai := r.a i i0 i1
  have aj := r.a j j0 j1
  have la := r.la
  exact (Swap_spec q i0 i1 j0 j1 ⟨ai.1, by omega⟩ ⟨aj.1, by omega⟩).mono fun _ h' ⟨a, b⟩ => ⟨_, a, r.swap i0 i1 j0 j1, b⟩

theorem up_loop {h0 : Heap} {L : Nat} : ∀ (d : Nat) (j : Int) (h : Heap) (xs : List (Int × Int)) (at' : List Int), j ≤ d → 0 ≤ j → j < L → xs.length = L → QS W h oq xs at' → Rep N xs at' M → UpI L xs j → FrS W h0 h →
    WP (fun p : Nat × Nat => container_heap_up_l1 tab p.1 p.2 (.ifc tyHp (.ptr oq 0 2 0)) (I j) h) fun _ h' => ∃ xs2 at2, QS W h' oq xs2 at2 ∧ Rep N xs2 at2 M ∧ Hp L xs2 ∧ xs2.length = L ∧ FrS W h0 h' := by
  intro d
  induction d with
  | zero =>
    intro j h xs at' hd j0 j1 hl q r u fr
    refine WP.rnd (fun i' j' => container_heap_up_l1_eq tab i' j' (.ifc tyHp (.ptr oq 0 2 0)) (I j) h) ?_
    obtain rfl : j = 0 := by omega
    have hw : IntKind.i64.wrap (((0 : Int) - 1).tdiv 2) = 0 := by decide
    simp -implicitDefEqProofs (disch := first | assumption | omega | (simp only [gL] <;> omega) | ((repeat (first | exact Ext.refl _ | assumption | apply Ext.app | apply Ext.mk | (refine Ext.setr ?_ (by (first | omega | (simp only [gL] <;> omega))) _))); done) | (simp only [gL, gA, hw] <;> omega) | fail) only [gB, setAll, partL, fldV, reduceIte, Nat.reduceAdd, Nat.reduceMul, hw]
    exact WP.ret ⟨xs, at', q, r, u.done (.inl rfl), hl, fr⟩
  | succ d ih =>
    intro j h xs at' hd j0 j1 hl q r u fr
    refine WP.rnd (fun i' j' => container_heap_up_l1_eq tab i' j' (.ifc tyHp (.ptr oq 0 2 0)) (I j) h) ?_
    by_cases hj : j = 0
    · subst hj
      have hw : IntKind.i64.wrap (((0 : Int) - 1).tdiv 2) = 0 := by decide
      simp -implicitDefEqProofs (disch := first | assumption | omega | (simp only [gL] <;> omega) | ((repeat (first | exact Ext.refl _ | assumption | apply Ext.app | apply Ext.mk | (refine Ext.setr ?_ (by (first | omega | (simp only [gL] <;> omega))) _))); done) | (simp only [gL, gA, hw] <;> omega) | fail) only [gB, setAll, partL, fldV, reduceIte, Nat.reduceAdd, Nat.reduceMul, hw]
      exact WP.ret ⟨xs, at', q, r, u.done (.inl rfl), hl, fr⟩
    · have hlen := q.len
      have hp := par_lt (i := j) (by omega)
      have hw : IntKind.i64.wrap ((j - 1).tdiv 2) = par j := by
        rw [Int.tdiv_eq_ediv_of_nonneg (by omega)]
        exact wrap_id (by omega) (by omega)
      simp -implicitDefEqProofs (disch := first | assumption | omega | (simp only [gL] <;> omega) | ((repeat (first | exact Ext.refl _ | assumption | apply Ext.app | apply Ext.mk | (refine Ext.setr ?_ (by (first | omega | (simp only [gL] <;> omega))) _))); done) | (simp only [gL, gA, hw, meth_Less] <;> omega) | fail) only [gB, setAll, partL, fldV, reduceIte, Nat.reduceAdd, Nat.reduceMul, hw, meth_Less]
      refine WP.call (Less_spec q j0 (by omega) hp.1 (by omega)) ?_
      rintro _ h1 ⟨rfl, e1⟩
      have fr1 := fr.trans (FrS.ofExt (D := W) e1)
      by_cases hlt : ltI (gi xs j) (gi xs (par j))
      · simp -implicitDefEqProofs (disch := first | assumption | omega | (simp only [gL] <;> omega) | ((repeat (first | exact Ext.refl _ | assumption | apply Ext.app | apply Ext.mk | (refine Ext.setr ?_ (by (first | omega | (simp only [gL] <;> omega))) _))); done) | (simp only [gL, gA, decide_eq_true hlt, meth_Swap] <;> omega) | fail) only [gB, setAll, partL, fldV, reduceIte, Nat.reduceAdd, Nat.reduceMul, decide_eq_true hlt, meth_Swap]
        refine WP.call (swapR (q.ext e1) r hp.1 (by omega) j0 (by omega)) ?_
        rintro _ h2 ⟨at2, q2, r2, f2⟩
        exact ih (par j) h2 (sw xs (par j) j) at2 (by omega) hp.1 (by omega) (by rw [sw_len]; exact hl) q2 r2 (u.swap (by omega) j1 (by omega) hlt) (fr1.trans f2)
      · simp -implicitDefEqProofs (disch := first | assumption | omega | (simp only [gL] <;> omega) | ((repeat (first | exact Ext.refl _ | assumption | apply Ext.app | apply Ext.mk | (refine Ext.setr ?_ (by (first | omega | (simp only [gL] <;> omega))) _))); done) | (simp only [gL, gA, decide_eq_false hlt] <;> omega) | fail) only [gB, setAll, partL, fldV, reduceIte, Nat.reduceAdd, Nat.reduceMul, decide_eq_false hlt]
        exact WP.ret ⟨xs, at', q.ext e1, r, u.done (.inr hlt), hl, fr1⟩
theorem up_spec {h : Heap} {xs : List (Int × Int)} {at' : List Int} {j : Int} (j0 : 0 ≤ j) (j1 : j < xs.length) (q : QS W h oq xs at') (r : Rep N xs at' M) (u : UpI xs.length xs j) :
    Tot tab f_container_heap_up [.ifc tyHp (.ptr oq 0 2 0), I j] h fun _ h' => ∃ xs2 at2, QS W h' oq xs2 at2 ∧ Rep N xs2 at2 M ∧ Hp xs.length xs2 ∧ xs2.length = xs.length ∧ FrS W h h' :=
  WP.tot (fun k => (call_container_heap_up k _ _ h).trans (container_heap_up_eq tab k _ _ h)) (WP.ent (up_loop j.toNat j h xs at' (by omega) j0 j1 rfl q r u (FrS.refl _ _)) fun i => rfl)

theorem down_loop {h0 : Heap} {L n : Nat} {i0 : Int} {rt : Int × Int} (hn : n ≤ L) : ∀ (d : Nat) (i : Int) (h : Heap) (xs : List (Int × Int)) (at' : List Int), (n : Int) - i ≤ d → 0 ≤ i → i ≤ n → xs.length = L → QS W h oq xs at' → Rep N xs at' M → DnI n xs i → (∀ p : Int, n ≤ p → p < L → gi xs p = rt) → FrS W h0 h →
    WP (fun p : Nat × Nat => container_heap_down_l1 tab p.1 p.2 (.ifc tyHp (.ptr oq 0 2 0)) (I i0) (I n) (I i) h) fun r h' => (∃ b, r = .bool b) ∧ ∃ xs2 at2, QS W h' oq xs2 at2 ∧ Rep N xs2 at2 M ∧ Hp n xs2 ∧ xs2.length = L ∧ (∀ p : Int, n ≤ p → p < L → gi xs2 p = rt) ∧ FrS W h0 h' := by
  have fin : ∀ (i : Int) (h : Heap) (xs : List (Int × Int)) (at' : List Int), xs.length = L → QS W h oq xs at' → Rep N xs at' M → Hp n xs → (∀ p : Int, n ≤ p → p < L → gi xs p = rt) → FrS W h0 h →
      WP (fun k : Nat => container_heap_down_b2 tab k (I i0) (I i) h) fun r h' => (∃ b, r = .bool b) ∧ ∃ xs2 at2, QS W h' oq xs2 at2 ∧ Rep N xs2 at2 M ∧ Hp n xs2 ∧ xs2.length = L ∧ (∀ p : Int, n ≤ p → p < L → gi xs2 p = rt) ∧ FrS W h0 h' := by
    intro i h xs at' hl q r hp hrt fr
    refine WP.congr (fun k => container_heap_down_b2_eq tab k (I i0) (I i) h) ?_
    refine WP.oa (bin_gtr _ _) ?_
    exact WP.ret ⟨⟨_, rfl⟩, xs, at', q, r, hp, hl, hrt, fr⟩
  intro d
  induction d with
  | zero =>
    intro i h xs at' hd hi0 hin hl q r u hrt fr
    refine WP.rnd (fun i' j' => container_heap_down_l1_eq tab i' j' (.ifc tyHp (.ptr oq 0 2 0)) (I i0) (I n) (I i) h) ?_
    have hlen := q.len
    have hw : IntKind.i64.wrap (2 * i) = 2 * i := wrap_id (by omega) (by omega)
    simp -implicitDefEqProofs (disch := first | assumption | omega | (simp only [gL] <;> omega) | ((repeat (first | exact Ext.refl _ | assumption | apply Ext.app | apply Ext.mk | (refine Ext.setr ?_ (by (first | omega | (simp only [gL] <;> omega))) _))); done) | (simp only [gL, gA, hw] <;> omega) | fail) only [gB, setAll, partL, fldV, reduceIte, Nat.reduceAdd, Nat.reduceMul, hw]
    exact WP.lv (fin i h xs at' hl q r (u.done fun c c0 c1 hc => by unfold par at hc; omega) hrt fr) fun i j => rfl
  | succ d ih =>
    intro i h xs at' hd hi0 hin hl q r u hrt fr
    refine WP.rnd (fun i' j' => container_heap_down_l1_eq tab i' j' (.ifc tyHp (.ptr oq 0 2 0)) (I i0) (I n) (I i) h) ?_
    have hlen := q.len
    have hw : IntKind.i64.wrap (2 * i) = 2 * i := wrap_id (by omega) (by omega)
    by_cases hc1 : 2 * i + 1 < n
    · -- the lesser child
      have part : ∀ (j : Int) (h : Heap), par j = i → 0 < j → j < n → (∀ c : Int, 0 < c → c < n → par c = i → ¬ ltI (gi xs c) (gi xs j)) → QS W h oq xs at' → FrS W h0 h →
          WP (fun p : Nat × Nat => container_heap_down_b3 tab p.1 p.2 (.ifc tyHp (.ptr oq 0 2 0)) (I i0) (I n) (I i) (I j) h) fun r h' => (∃ b, r = .bool b) ∧ ∃ xs2 at2, QS W h' oq xs2 at2 ∧ Rep N xs2 at2 M ∧ Hp n xs2 ∧ xs2.length = L ∧ (∀ p : Int, n ≤ p → p < L → gi xs2 p = rt) ∧ FrS W h0 h' := by
        intro j h hj j0 j1 hs q fr
        have hpj := par_lt j0
        refine WP.congr (fun p => container_heap_down_b3_eq tab p.1 p.2 (.ifc tyHp (.ptr oq 0 2 0)) (I i0) (I n) (I i) (I j) h) ?_
        simp -implicitDefEqProofs (disch := first | assumption | omega | (simp only [gL] <;> omega) | ((repeat (first | exact Ext.refl _ | assumption | apply Ext.app | apply Ext.mk | (refine Ext.setr ?_ (by (first | omega | (simp only [gL] <;> omega))) _))); done) | (simp only [gL, gA, meth_Less] <;> omega) | fail) only [gB, setAll, partL, fldV, reduceIte, Nat.reduceAdd, Nat.reduceMul, meth_Less]
        refine WP.call (Less_spec q (i := j) (j := i) (by omega) (by omega) hi0 (by omega)) ?_
        rintro _ h1 ⟨rfl, e1⟩
        have fr1 := fr.trans (FrS.ofExt (D := W) e1)
        by_cases hlt : ltI (gi xs j) (gi xs i)
        · simp -implicitDefEqProofs (disch := first | assumption | omega | (simp only [gL] <;> omega) | ((repeat (first | exact Ext.refl _ | assumption | apply Ext.app | apply Ext.mk | (refine Ext.setr ?_ (by (first | omega | (simp only [gL] <;> omega))) _))); done) | (simp only [gL, gA, decide_eq_true hlt, meth_Swap] <;> omega) | fail) only [gB, setAll, partL, fldV, reduceIte, Nat.reduceAdd, Nat.reduceMul, decide_eq_true hlt, meth_Swap]
          refine WP.call (swapR (q.ext e1) r hi0 (by omega) (by omega) (by omega)) ?_
          rintro _ h2 ⟨at2, q2, r2, f2⟩
          refine ih j h2 (sw xs i j) at2 (by omega) (by omega) (by omega) (by rw [sw_len]; exact hl) q2 r2 (u.swap hi0 hj j0 j1 (by omega) hlt hs) (fun p p0 p1 => ?_) (fr1.trans f2)
          rw [gi_sw hi0 (by omega) (by omega) (by omega) (by omega), if_neg (by omega), if_neg (by omega)]
          exact hrt p p0 p1
        · simp -implicitDefEqProofs (disch := first | assumption | omega | (simp only [gL] <;> omega) | ((repeat (first | exact Ext.refl _ | assumption | apply Ext.app | apply Ext.mk | (refine Ext.setr ?_ (by (first | omega | (simp only [gL] <;> omega))) _))); done) | (simp only [gL, gA, decide_eq_false hlt] <;> omega) | fail) only [gB, setAll, partL, fldV, reduceIte, Nat.reduceAdd, Nat.reduceMul, decide_eq_false hlt]
          refine WP.lv (fin i h1 xs at' hl (q.ext e1) r (u.done fun c c0 c1 hc => ?_) hrt fr1) fun i j => rfl
          have := hs c c0 c1 hc
          unfold ltI at *; omega
      have hpar : ∀ c, par c = i → c = 2 * i + 1 ∨ c = 2 * i + 1 + 1 := fun c hc => by unfold par at hc; omega
      by_cases hc2 : 2 * i + 1 + 1 < n
      · simp -implicitDefEqProofs (disch := first | assumption | omega | (simp only [gL] <;> omega) | ((repeat (first | exact Ext.refl _ | assumption | apply Ext.app | apply Ext.mk | (refine Ext.setr ?_ (by (first | omega | (simp only [gL] <;> omega))) _))); done) | (simp only [gL, gA, hw, meth_Less] <;> omega) | fail) only [gB, setAll, partL, fldV, reduceIte, Nat.reduceAdd, Nat.reduceMul, hw, meth_Less]
        refine WP.call (Less_spec q (i := 2 * i + 1 + 1) (j := 2 * i + 1) (by omega) (by omega) (by omega) (by omega)) ?_
        rintro _ h1 ⟨rfl, e1⟩
        have fr1 := fr.trans (FrS.ofExt (D := W) e1)
        by_cases hlt : ltI (gi xs (2 * i + 1 + 1)) (gi xs (2 * i + 1))
        · simp -implicitDefEqProofs (disch := first | assumption | omega | (simp only [gL] <;> omega) | ((repeat (first | exact Ext.refl _ | assumption | apply Ext.app | apply Ext.mk | (refine Ext.setr ?_ (by (first | omega | (simp only [gL] <;> omega))) _))); done) | (simp only [gL, gA, decide_eq_true hlt] <;> omega) | fail) only [gB, setAll, partL, fldV, reduceIte, Nat.reduceAdd, Nat.reduceMul, decide_eq_true hlt]
          refine part (2 * i + 1 + 1) h1 (by unfold par; omega) (by omega) hc2 (fun c c0 c1 hc => ?_) (q.ext e1) fr1
          rcases hpar c hc with rfl | rfl <;> (unfold ltI at *; omega)
        · simp -implicitDefEqProofs (disch := first | assumption | omega | (simp only [gL] <;> omega) | ((repeat (first | exact Ext.refl _ | assumption | apply Ext.app | apply Ext.mk | (refine Ext.setr ?_ (by (first | omega | (simp only [gL] <;> omega))) _))); done) | (simp only [gL, gA, decide_eq_false hlt] <;> omega) | fail) only [gB, setAll, partL, fldV, reduceIte, Nat.reduceAdd, Nat.reduceMul, decide_eq_false hlt]
          refine part (2 * i + 1) h1 (by unfold par; omega) (by omega) hc1 (fun c c0 c1 hc => ?_) (q.ext e1) fr1
          rcases hpar c hc with rfl | rfl <;> (unfold ltI at *; omega)
      · simp -implicitDefEqProofs (disch := first | assumption | omega | (simp only [gL] <;> omega) | ((repeat (first | exact Ext.refl _ | assumption | apply Ext.app | apply Ext.mk | (refine Ext.setr ?_ (by (first | omega | (simp only [gL] <;> omega))) _))); done) | (simp only [gL, gA, hw] <;> omega) | fail) only [gB, setAll, partL, fldV, reduceIte, Nat.reduceAdd, Nat.reduceMul, hw]
        refine part (2 * i + 1) h (by unfold par; omega) (by omega) hc1 (fun c c0 c1 hc => ?_) q fr
        rcases hpar c hc with rfl | rfl
        · unfold ltI; omega
        · omega
    · simp -implicitDefEqProofs (disch := first | assumption | omega | (simp only [gL] <;> omega) | ((repeat (first | exact Ext.refl _ | assumption | apply Ext.app | apply Ext.mk | (refine Ext.setr ?_ (by (first | omega | (simp only [gL] <;> omega))) _))); done) | (simp only [gL, gA, hw] <;> omega) | fail) only [gB, setAll, partL, fldV, reduceIte, Nat.reduceAdd, Nat.reduceMul, hw]
      exact WP.lv (fin i h xs at' hl q r (u.done fun c c0 c1 hc => by unfold par at hc; omega) hrt fr) fun i j => rfl
theorem down_spec {h : Heap} {xs : List (Int × Int)} {at' : List Int} {n : Nat} {i : Int} {rt : Int × Int} (hn : n ≤ xs.length) (i0 : 0 ≤ i) (i1 : i ≤ n) (q : QS W h oq xs at') (r : Rep N xs at' M) (u : DnI n xs i) (hrt : ∀ p : Int, n ≤ p → p < xs.length → gi xs p = rt) :
    Tot tab f_container_heap_down [.ifc tyHp (.ptr oq 0 2 0), I i, I n] h fun r h' => (∃ b, r = .bool b) ∧ ∃ xs2 at2, QS W h' oq xs2 at2 ∧ Rep N xs2 at2 M ∧ Hp n xs2 ∧ xs2.length = xs.length ∧ (∀ p : Int, n ≤ p → p < xs.length → gi xs2 p = rt) ∧ FrS W h h' :=
  WP.tot (fun k => (call_container_heap_down k _ _ _ h).trans (container_heap_down_eq tab k _ _ _ h)) (WP.ent (down_loop hn ((n : Int) - i).toNat i h xs at' (by omega) i0 i1 rfl q r u hrt (FrS.refl _ _)) fun i => rfl)
/-- None of the children is less: it stays. -/
theorem down_stay {h : Heap} {xs : List (Int × Int)} {at' : List Int} {i : Int} (i0 : 0 ≤ i) (i1 : i < xs.length) (q : QS W h oq xs at') (hc : ∀ c, 0 < c → c < (xs.length : Int) → par c = i → ¬ ltI (gi xs c) (gi xs i)) :
    Tot tab f_container_heap_down [.ifc tyHp (.ptr oq 0 2 0), I i, I xs.length] h fun r h' => r = .bool false ∧ Ext h h' := by
  refine WP.tot (fun k => (call_container_heap_down k _ _ _ h).trans (container_heap_down_eq tab k _ _ _ h)) ?_
  have hlen := q.len
  have hw : IntKind.i64.wrap (2 * i) = 2 * i := wrap_id (by omega) (by omega)
  refine WP.ent (c2 := fun p => container_heap_down_l1 tab p.1 p.2 (.ifc tyHp (.ptr oq 0 2 0)) (I i) (I xs.length) (I i) h) ?_ fun i => rfl
  refine WP.rnd (fun i' j' => container_heap_down_l1_eq tab i' j' (.ifc tyHp (.ptr oq 0 2 0)) (I i) (I xs.length) (I i) h) ?_
  have fin : ∀ h', Ext h h' → WP (fun k : Nat => container_heap_down_b2 tab k (I i) (I i) h') fun r h' => r = .bool false ∧ Ext h h' := by
    intro h' e
    refine WP.congr (fun k => container_heap_down_b2_eq tab k (I i) (I i) h') ?_
    simp -implicitDefEqProofs (disch := first | assumption | omega | (simp only [gL] <;> omega) | ((repeat (first | exact Ext.refl _ | assumption | apply Ext.app | apply Ext.mk | (refine Ext.setr ?_ (by (first | omega | (simp only [gL] <;> omega))) _))); done) | (simp only [gL, gA] <;> omega) | fail) only [gB, setAll, partL, fldV, reduceIte, Nat.reduceAdd, Nat.reduceMul]
    exact WP.ret ⟨rfl, e⟩
  by_cases hc1 : 2 * i + 1 < xs.length
  · have part : ∀ (j : Int) (h' : Heap), par j = i → 0 < j → j < xs.length → Ext h h' →
        WP (fun p : Nat × Nat => container_heap_down_b3 tab p.1 p.2 (.ifc tyHp (.ptr oq 0 2 0)) (I i) (I xs.length) (I i) (I j) h') fun r h' => r = .bool false ∧ Ext h h' := by
      intro j h' hj j0 j1 e
      refine WP.congr (fun p => container_heap_down_b3_eq tab p.1 p.2 (.ifc tyHp (.ptr oq 0 2 0)) (I i) (I xs.length) (I i) (I j) h') ?_
      simp -implicitDefEqProofs (disch := first | assumption | omega | (simp only [gL] <;> omega) | ((repeat (first | exact Ext.refl _ | assumption | apply Ext.app | apply Ext.mk | (refine Ext.setr ?_ (by (first | omega | (simp only [gL] <;> omega))) _))); done) | (simp only [gL, gA, meth_Less] <;> omega) | fail) only [gB, setAll, partL, fldV, reduceIte, Nat.reduceAdd, Nat.reduceMul, meth_Less]
      refine WP.call (Less_spec (q.ext e) (i := j) (j := i) (by omega) (by omega) i0 (by omega)) ?_
      rintro _ h1 ⟨rfl, e1⟩
      simp -implicitDefEqProofs (disch := first | assumption | omega | (simp only [gL] <;> omega) | ((repeat (first | exact Ext.refl _ | assumption | apply Ext.app | apply Ext.mk | (refine Ext.setr ?_ (by (first | omega | (simp only [gL] <;> omega))) _))); done) | (simp only [gL, gA, decide_eq_false (hc j j0 j1 hj)] <;> omega) | fail) only [gB, setAll, partL, fldV, reduceIte, Nat.reduceAdd, Nat.reduceMul, decide_eq_false (hc j j0 j1 hj)]
      exact WP.lv (fin h1 (e.trans e1)) fun i j => rfl
    by_cases hc2 : 2 * i + 1 + 1 < xs.length
    · simp -implicitDefEqProofs (disch := first | assumption | omega | (simp only [gL] <;> omega) | ((repeat (first | exact Ext.refl _ | assumption | apply Ext.app | apply Ext.mk | (refine Ext.setr ?_ (by (first | omega | (simp only [gL] <;> omega))) _))); done) | (simp only [gL, gA, hw, meth_Less] <;> omega) | fail) only [gB, setAll, partL, fldV, reduceIte, Nat.reduceAdd, Nat.reduceMul, hw, meth_Less]
      refine WP.call (Less_spec q (i := 2 * i + 1 + 1) (j := 2 * i + 1) (by omega) (by omega) (by omega) (by omega)) ?_
      rintro _ h1 ⟨rfl, e1⟩
      by_cases hlt : ltI (gi xs (2 * i + 1 + 1)) (gi xs (2 * i + 1))
      · simp -implicitDefEqProofs (disch := first | assumption | omega | (simp only [gL] <;> omega) | ((repeat (first | exact Ext.refl _ | assumption | apply Ext.app | apply Ext.mk | (refine Ext.setr ?_ (by (first | omega | (simp only [gL] <;> omega))) _))); done) | (simp only [gL, gA, decide_eq_true hlt] <;> omega) | fail) only [gB, setAll, partL, fldV, reduceIte, Nat.reduceAdd, Nat.reduceMul, decide_eq_true hlt]
        exact part (2 * i + 1 + 1) h1 (by unfold par; omega) (by omega) hc2 e1
      · simp -implicitDefEqProofs (disch := first | assumption | omega | (simp only [gL] <;> omega) | ((repeat (first | exact Ext.refl _ | assumption | apply Ext.app | apply Ext.mk | (refine Ext.setr ?_ (by (first | omega | (simp only [gL] <;> omega))) _))); done) | (simp only [gL, gA, decide_eq_false hlt] <;> omega) | fail) only [gB, setAll, partL, fldV, reduceIte, Nat.reduceAdd, Nat.reduceMul, decide_eq_false hlt]
        exact part (2 * i + 1) h1 (by unfold par; omega) (by omega) hc1 e1
    · simp -implicitDefEqProofs (disch := first | assumption | omega | (simp only [gL] <;> omega) | ((repeat (first | exact Ext.refl _ | assumption | apply Ext.app | apply Ext.mk | (refine Ext.setr ?_ (by (first | omega | (simp only [gL] <;> omega))) _))); done) | (simp only [gL, gA, hw] <;> omega) | fail) only [gB, setAll, partL, fldV, reduceIte, Nat.reduceAdd, Nat.reduceMul, hw]
      exact part (2 * i + 1) h (by unfold par; omega) (by omega) hc1 (Ext.refl _)
  · simp -implicitDefEqProofs (disch := first | assumption | omega | (simp only [gL] <;> omega) | ((repeat (first | exact Ext.refl _ | assumption | apply Ext.app | apply Ext.mk | (refine Ext.setr ?_ (by (first | omega | (simp only [gL] <;> omega))) _))); done) | (simp only [gL, gA, hw] <;> omega) | fail) only [gB, setAll, partL, fldV, reduceIte, Nat.reduceAdd, Nat.reduceMul, hw]
    exact WP.lv (fin h (Ext.refl _)) fun i j => rfl
end
end Go.Gm.A9
