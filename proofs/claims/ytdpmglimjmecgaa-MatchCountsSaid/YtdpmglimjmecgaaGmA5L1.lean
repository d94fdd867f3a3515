/- A part of the proof: GmA5L1: an abstract machine, what it does, and what the functions of the program come to on it. -/
import Derived.Test.YtdpmglimjmecgaaGmA5O
set_option linter.unusedVariables false
set_option linter.unusedSimpArgs false
namespace Go.Gm.A5
open Go Go.Gm

theorem lss_u (a b : Int) : binV .lss .scalar (.int .u64 a) (.int .u64 b) = some (.bool (decide (a < b))) := rfl
theorem add_u {a : Int} (h0 : 0 ≤ a) (h1 : a ≤ 100) : binV .add .scalar (.int .u64 a) (.int .u64 1) = some (.int .u64 (a + 1)) := by
  show some (AV.int .u64 (IntKind.u64.wrap (a + 1))) = _
  congr 2
  simp [IntKind.wrap, IntKind.bits, IntKind.signed]
  omega
theorem manyN_le (x : Nat) : manyN x ≤ 5 := by
  have h : ∀ b, bN b ≤ 1 := fun b => by cases b <;> simp [bN]
  have := h (x.testBit 0); have := h (x.testBit 1); have := h (x.testBit 2); have := h (x.testBit 3); have := h (x.testBit 4)
  simp only [manyN]; omega
def manyT (x : Nat) : Nat → Nat
  | 0 => 0
  | t + 1 => manyT x t + bN (x.testBit t)
theorem manyT_le (x : Nat) : ∀ t, manyT x t ≤ t
  | 0 => Nat.le_refl _
  | t + 1 => by
    have := manyT_le x t
    have : bN (x.testBit t) ≤ 1 := by cases x.testBit t <;> simp [bN]
    simp only [manyT]; omega
theorem many_l1 {x : Nat} (hx : x < 2 ^ 62) (h : Heap) : ∀ (d i : Nat), i + d = 5 → WP (fun p : Nat × Nat => milestonelaw5_many_l1 tab p.1 p.2 (I x) (I (manyT x i)) (.int .u64 i) h) fun r h' => r = I (manyN x) ∧ h' = h := by
  intro d
  induction d with
  | zero =>
    intro i hi
    refine WP.rnd (fun i' j => milestonelaw5_many_l1_eq tab i' j (I x) (I (manyT x i)) (.int .u64 i) h) ?_
    obtain rfl : i = 5 := by omega
    simp -implicitDefEqProofs (disch := first | assumption | omega | (simp -implicitDefEqProofs only [gL] <;> omega) | ((repeat (first | exact Ext.refl _ | assumption | apply Ext.app | apply Ext.mk | (refine Ext.setr ?_ (by (first | omega | (simp -implicitDefEqProofs only [gL] <;> omega))) _))); done) | (simp -implicitDefEqProofs only [gL, gA, lss_u, show decide (((5 : Nat) : Int) < 5) = false from rfl] <;> omega) | fail) only [gB, setAll, partL, fldV, reduceIte, Nat.reduceAdd, Nat.reduceMul, lss_u, show decide (((5 : Nat) : Int) < 5) = false from rfl]
    exact WP.lv (WP.ret ⟨by simp [manyT, manyN], rfl⟩) fun i j => rfl
  | succ d ih =>
    intro i hi
    refine WP.rnd (fun i' j => milestonelaw5_many_l1_eq tab i' j (I x) (I (manyT x i)) (.int .u64 i) h) ?_
    have hlt : decide ((i : Int) < 5) = true := decide_eq_true (by omega)
    have hle := manyT_le x i
    have hand : binV .and .scalar (I ((x >>> i : Nat) : Int)) (.int .i64 1) = some (I (bN (x.testBit i) : Nat)) := by
      have h1 : x >>> i < 2 ^ 62 := by
        rw [Nat.shiftRight_eq_div_pow]
        exact Nat.lt_of_le_of_lt (Nat.div_le_self _ _) hx
      have := and_i (a := x >>> i) (b := 1) h1 (by omega)
      rw [bit_one] at this
      exact this
    have hb : bN (x.testBit i) ≤ 1 := by cases x.testBit i <;> simp [bN]
    simp -implicitDefEqProofs (disch := first | assumption | omega | (simp -implicitDefEqProofs only [gL] <;> omega) | ((repeat (first | exact Ext.refl _ | assumption | apply Ext.app | apply Ext.mk | (refine Ext.setr ?_ (by (first | omega | (simp -implicitDefEqProofs only [gL] <;> omega))) _))); done) | (simp -implicitDefEqProofs only [gL, gA, lss_u, hlt, hand, add_u] <;> omega) | fail) only [gB, setAll, partL, fldV, reduceIte, Nat.reduceAdd, Nat.reduceMul, lss_u, hlt, hand, add_u]
    refine WP.mono (WP.congr (fun p => ?_) (ih (i + 1) (by omega))) fun v h q => q
    simp only [manyT, Int.natCast_add]; rfl
theorem many_spec {x : Nat} (hx : x < 2 ^ 62) (h : Heap) : Tot tab f_milestonelaw5_many [I x] h fun r h' => r = I (manyN x) ∧ h' = h := by
  refine WP.tot (fun k => (call_milestonelaw5_many k _ h).trans (milestonelaw5_many_eq tab k _ h)) ?_
  exact WP.ent (many_l1 hx h 5 0 rfl) fun i => rfl
def sumP : Nat → Nat
  | 0 => 0
  | t + 1 => sumP t + 5 ^ t
theorem len_all (most : Nat) : ((List.range (most + 1)).flatMap wl).length = sumP (most + 1) := by
  have : ∀ m, ((List.range m).flatMap wl).length = sumP m := by
    intro m
    induction m with
    | zero => rfl
    | succ m ih => rw [List.range_succ, List.flatMap_append, List.length_append, ih]; simp [sumP, wl_len]
  exact this _
theorem counts_b2 {k x y : Nat} (hk : k ≤ 3) (hx : x ≤ 31) (hy : y ≤ 31) (h : Heap) :
    WP (fun i : Nat => milestonelaw5_MatchCounts_b2 tab i (I k) (I x) (I y) (I ((manyN x * manyN y : Nat) : Int)) (I (sumP (k + 1))) h) fun r _ => r = .bool true := by
  refine WP.congr (fun i => milestonelaw5_MatchCounts_b2_eq tab i (I k) (I x) (I y) (I ((manyN x * manyN y : Nat) : Int)) (I (sumP (k + 1))) h) ?_
  obtain ⟨h2, hh2⟩ : ∃ h2, h2 = ((((h ++ [AObj.cells ⟨[I 1, I x, I 0, I 0, .nils], 0, 0, false⟩]) ++ [AObj.cells ⟨[I 1, I x, I 0, I 0, .nils, I 1, I y, I 0, I 0, .nils], 0, 0, false⟩]) ++ [AObj.cells ⟨[I 4, I 0, I 0, I 0, .sl (h.length + 1) 0 2 5 none 0], 0, 0, false⟩]) ++ [AObj.cells ⟨[I 1, I 31, I 0, I 0, .nils], 0, 0, false⟩]) ++ [AObj.cells ⟨[I 6, I 0, I 0, I 0, .sl (h.length + 3) 0 1 5 none 0], 0, 0, false⟩] := ⟨_, rfl⟩
  have r0 : h2[h.length]? = some (.cells ⟨[I 1, I x, I 0, I 0, .nils], 0, 0, false⟩) := by rw [hh2]; simp
  have r1 : h2[h.length + 1]? = some (.cells ⟨[I 1, I x, I 0, I 0, .nils] ++ [I 1, I y, I 0, I 0, .nils], 0, 0, false⟩) := by rw [hh2]; simp
  have r2 : h2[h.length + 2]? = some (.cells ⟨[I 4, I 0, I 0, I 0, .sl (h.length + 1) 0 2 5 none 0], 0, 0, false⟩) := by rw [hh2]; simp
  have r3 : h2[h.length + 3]? = some (.cells ⟨[I 1, I 31, I 0, I 0, .nils], 0, 0, false⟩) := by rw [hh2]; simp
  have nS : NV h2 (.star (.set 31)) [I 6, I 0, I 0, I 0, .sl (h.length + 3) 0 1 5 none 0] := nv_one rfl r3 (nv_set 31)
  have nJ : NV h2 (.join [.set x, .set y]) [I 4, I 0, I 0, I 0, .sl (h.length + 1) 0 2 5 none 0] := nv_two rfl r1 (nv_set x) (nv_set y)
  have oS : Ok (.star (.set 31)) := (fine_mk (by simp [Nd.st]) (Nat.le_refl _) (Nat.zero_le _) (by simp [Nd.kids]) (by simp [Nd.kids]; exact fine_set (by omega))).1
  have oJ : Ok (.join [.set x, .set y]) := (fine_mk (by simp [Nd.st]) (Nat.le_refl _) (Nat.zero_le _) (by simp [Nd.kids]) (by simp [Nd.kids]; exact ⟨fine_set (by omega), fine_set (by omega)⟩)).1
  have hp2 : h.length + 1 + 1 = h.length + 2 := rfl
  have hp3 : h.length + 1 + 1 + 1 = h.length + 3 := rfl
  have hm := manyN_le x
  simp -implicitDefEqProofs (disch := first | assumption | omega | (simp -implicitDefEqProofs only [gL] <;> omega) | ((repeat (first | exact Ext.refl _ | assumption | apply Ext.app | apply Ext.mk | (refine Ext.setr ?_ (by (first | omega | (simp -implicitDefEqProofs only [gL] <;> omega))) _))); done) | (simp -implicitDefEqProofs only [gL, gA, set_lastO, hp2, hp3] <;> omega) | fail) only [gB, setAll, partL, fldV, reduceIte, Nat.reduceAdd, Nat.reduceMul, set_lastO, hp2, hp3]
  rw [← hh2]
  refine WP.call (words_spec nS oS (by simp [cntN]) (most := k) (by omega)) ?_
  rintro ws h3 ⟨e3, rows, hr, wv⟩
  have hl := hr.lenG
  rw [wv.1, count_all, len_all] at hl
  have x0 := e3.get r0
  have x2 := e3.get r2
  simp -implicitDefEqProofs (disch := first | assumption | omega | (simp -implicitDefEqProofs only [gL] <;> omega) | ((repeat (first | exact Ext.refl _ | assumption | apply Ext.app | apply Ext.mk | (refine Ext.setr ?_ (by (first | omega | (simp -implicitDefEqProofs only [gL] <;> omega))) _))); done) | (simp -implicitDefEqProofs only [gL, gA, hl, x0, x2] <;> omega) | fail) only [gB, setAll, partL, fldV, reduceIte, Nat.reduceAdd, Nat.reduceMul, hl, x0, x2]
  refine WP.call (words_spec (nv_set x) (fine_set (by omega)).1 (by simp [cntN]) (most := k) (by omega)) ?_
  rintro wt h4 ⟨e4, rows4, hr4, wv4⟩
  have y2 := e4.get x2
  have hl4 := hr4.lenG
  obtain ⟨cx, hcx⟩ : ∃ c, (if k < 1 then 0 else manyN x) = c := ⟨_, rfl⟩
  obtain ⟨cj, hcj⟩ : ∃ c, (if k < 2 then 0 else manyN x * manyN y) = c := ⟨_, rfl⟩
  have h3 : manyN x * manyN y ≤ 25 := Nat.mul_le_mul hm (manyN_le y)
  rw [wv4.1, count_set hk, hcx] at hl4
  simp -implicitDefEqProofs (disch := first | assumption | omega | (simp -implicitDefEqProofs only [gL] <;> omega) | ((repeat (first | exact Ext.refl _ | assumption | apply Ext.app | apply Ext.mk | (refine Ext.setr ?_ (by (first | omega | (simp -implicitDefEqProofs only [gL] <;> omega))) _))); done) | (simp -implicitDefEqProofs only [gL, gA, y2, hl4] <;> omega) | fail) only [gB, setAll, partL, fldV, reduceIte, Nat.reduceAdd, Nat.reduceMul, y2, hl4]
  refine WP.call (words_spec (nJ.keeps (.ofExt (e3.trans e4))) oJ (by simp [cntN, cntL]) (most := k) (by omega)) ?_
  rintro wu h5 ⟨e5, rows5, hr5, wv5⟩
  have hl5 := hr5.lenG
  rw [wv5.1, count_join hk, hcj] at hl5
  have hkk : k = 0 ∨ k = 1 ∨ k = 2 ∨ k = 3 := by omega
  rcases hkk with rfl | rfl | rfl | rfl
  · simp only [if_pos (show (0 : Nat) < 1 by omega), if_pos (show (0 : Nat) < 2 by omega)] at hcx hcj
    subst hcx hcj
    simp -implicitDefEqProofs (disch := first | assumption | omega | (simp -implicitDefEqProofs only [gL] <;> omega) | ((repeat (first | exact Ext.refl _ | assumption | apply Ext.app | apply Ext.mk | (refine Ext.setr ?_ (by (first | omega | (simp -implicitDefEqProofs only [gL] <;> omega))) _))); done) | (simp -implicitDefEqProofs only [gL, gA, hl5] <;> omega) | fail) only [gB, setAll, partL, fldV, reduceIte, Nat.reduceAdd, Nat.reduceMul, hl5]
    exact WP.ret rfl
  · simp only [if_neg (show ¬ (1 : Nat) < 1 by omega), if_pos (show (1 : Nat) < 2 by omega)] at hcx hcj
    subst hcx hcj
    simp -implicitDefEqProofs (disch := first | assumption | omega | (simp -implicitDefEqProofs only [gL] <;> omega) | ((repeat (first | exact Ext.refl _ | assumption | apply Ext.app | apply Ext.mk | (refine Ext.setr ?_ (by (first | omega | (simp -implicitDefEqProofs only [gL] <;> omega))) _))); done) | (simp -implicitDefEqProofs only [gL, gA, hl5] <;> omega) | fail) only [gB, setAll, partL, fldV, reduceIte, Nat.reduceAdd, Nat.reduceMul, hl5]
    refine WP.call (many_spec (x := x) (by omega) h5) ?_
    rintro _ _ ⟨rfl, rfl⟩
    simp -implicitDefEqProofs (disch := first | assumption | omega | (simp -implicitDefEqProofs only [gL] <;> omega) | ((repeat (first | exact Ext.refl _ | assumption | apply Ext.app | apply Ext.mk | (refine Ext.setr ?_ (by (first | omega | (simp -implicitDefEqProofs only [gL] <;> omega))) _))); done) | (simp -implicitDefEqProofs only [gL, gA] <;> omega) | fail) only [gB, setAll, partL, fldV, reduceIte, Nat.reduceAdd, Nat.reduceMul]
    exact WP.ret rfl
  · simp only [if_neg (show ¬ (2 : Nat) < 1 by omega), if_neg (show ¬ (2 : Nat) < 2 by omega)] at hcx hcj
    subst hcx hcj
    simp -implicitDefEqProofs (disch := first | assumption | omega | (simp -implicitDefEqProofs only [gL] <;> omega) | ((repeat (first | exact Ext.refl _ | assumption | apply Ext.app | apply Ext.mk | (refine Ext.setr ?_ (by (first | omega | (simp -implicitDefEqProofs only [gL] <;> omega))) _))); done) | (simp -implicitDefEqProofs only [gL, gA, hl5] <;> omega) | fail) only [gB, setAll, partL, fldV, reduceIte, Nat.reduceAdd, Nat.reduceMul, hl5]
    refine WP.call (many_spec (x := x) (by omega) h5) ?_
    rintro _ _ ⟨rfl, rfl⟩
    simp -implicitDefEqProofs (disch := first | assumption | omega | (simp -implicitDefEqProofs only [gL] <;> omega) | ((repeat (first | exact Ext.refl _ | assumption | apply Ext.app | apply Ext.mk | (refine Ext.setr ?_ (by (first | omega | (simp -implicitDefEqProofs only [gL] <;> omega))) _))); done) | (simp -implicitDefEqProofs only [gL, gA] <;> omega) | fail) only [gB, setAll, partL, fldV, reduceIte, Nat.reduceAdd, Nat.reduceMul]
    exact WP.ret rfl
  · simp only [if_neg (show ¬ (3 : Nat) < 1 by omega), if_neg (show ¬ (3 : Nat) < 2 by omega)] at hcx hcj
    subst hcx hcj
    simp -implicitDefEqProofs (disch := first | assumption | omega | (simp -implicitDefEqProofs only [gL] <;> omega) | ((repeat (first | exact Ext.refl _ | assumption | apply Ext.app | apply Ext.mk | (refine Ext.setr ?_ (by (first | omega | (simp -implicitDefEqProofs only [gL] <;> omega))) _))); done) | (simp -implicitDefEqProofs only [gL, gA, hl5] <;> omega) | fail) only [gB, setAll, partL, fldV, reduceIte, Nat.reduceAdd, Nat.reduceMul, hl5]
    refine WP.call (many_spec (x := x) (by omega) h5) ?_
    rintro _ _ ⟨rfl, rfl⟩
    simp -implicitDefEqProofs (disch := first | assumption | omega | (simp -implicitDefEqProofs only [gL] <;> omega) | ((repeat (first | exact Ext.refl _ | assumption | apply Ext.app | apply Ext.mk | (refine Ext.setr ?_ (by (first | omega | (simp -implicitDefEqProofs only [gL] <;> omega))) _))); done) | (simp -implicitDefEqProofs only [gL, gA] <;> omega) | fail) only [gB, setAll, partL, fldV, reduceIte, Nat.reduceAdd, Nat.reduceMul]
    exact WP.ret rfl
theorem counts_l1 {k x y : Nat} (hk : k ≤ 3) (hx : x ≤ 31) (hy : y ≤ 31) (h : Heap) : ∀ (d i : Nat), i + d = k + 1 →
    WP (fun p : Nat × Nat => milestonelaw5_MatchCounts_l1 tab p.1 p.2 (I k) (I x) (I y) (I ((manyN x * manyN y : Nat) : Int)) (I (sumP i)) (I (5 ^ i : Nat)) (I i) h) fun r _ => r = .bool true := by
  intro d
  induction d with
  | zero =>
    intro i hi
    refine WP.rnd (fun i' j => milestonelaw5_MatchCounts_l1_eq tab i' j (I k) (I x) (I y) (I ((manyN x * manyN y : Nat) : Int)) (I (sumP i)) (I (5 ^ i : Nat)) (I i) h) ?_
    obtain rfl : i = k + 1 := by omega
    simp -implicitDefEqProofs (disch := first | assumption | omega | (simp -implicitDefEqProofs only [gL] <;> omega) | ((repeat (first | exact Ext.refl _ | assumption | apply Ext.app | apply Ext.mk | (refine Ext.setr ?_ (by (first | omega | (simp -implicitDefEqProofs only [gL] <;> omega))) _))); done) | (simp -implicitDefEqProofs only [gL, gA] <;> omega) | fail) only [gB, setAll, partL, fldV, reduceIte, Nat.reduceAdd, Nat.reduceMul]
    exact WP.lv (counts_b2 hk hx hy h) fun i j => rfl
  | succ d ih =>
    intro i hi
    refine WP.rnd (fun i' j => milestonelaw5_MatchCounts_l1_eq tab i' j (I k) (I x) (I y) (I ((manyN x * manyN y : Nat) : Int)) (I (sumP i)) (I (5 ^ i : Nat)) (I i) h) ?_
    have hb : sumP i + 5 ^ i ≤ 1000 ∧ 5 ^ (i + 1) = 5 ^ i * 5 ∧ 5 ^ i ≤ 1000 := by
      have : i = 0 ∨ i = 1 ∨ i = 2 ∨ i = 3 := by omega
      rcases this with rfl | rfl | rfl | rfl <;> decide
    have hmul : binV .mul .scalar (I (5 ^ i : Nat)) (.int .i64 5) = some (I ((5 ^ (i + 1) : Nat) : Int)) := by
      have : binV .mul .scalar (I (5 ^ i : Nat)) (.int .i64 5) = some (I (IntKind.i64.wrap (((5 ^ i : Nat) : Int) * 5))) := mul_w
      rw [this, wrap_id (by omega) (by omega), hb.2.1]
      simp
    simp -implicitDefEqProofs (disch := first | assumption | omega | (simp -implicitDefEqProofs only [gL] <;> omega) | ((repeat (first | exact Ext.refl _ | assumption | apply Ext.app | apply Ext.mk | (refine Ext.setr ?_ (by (first | omega | (simp -implicitDefEqProofs only [gL] <;> omega))) _))); done) | (simp -implicitDefEqProofs only [gL, gA, hmul] <;> omega) | fail) only [gB, setAll, partL, fldV, reduceIte, Nat.reduceAdd, Nat.reduceMul, hmul]
    exact ih (i + 1) (by omega)
theorem counts_spec {a b most : Int} : Tot tab f_milestonelaw5_MatchCounts [I a, I b, I most] [] fun r _ => r = .bool true := by
  refine WP.tot (fun k => (call_milestonelaw5_MatchCounts k _ _ _ []).trans (milestonelaw5_MatchCounts_eq tab k _ _ _ [])) ?_
  refine WP.call (known_spec []) ?_
  rintro _ h ⟨rfl, _⟩
  simp -implicitDefEqProofs (disch := first | assumption | omega | (simp -implicitDefEqProofs only [gL] <;> omega) | ((repeat (first | exact Ext.refl _ | assumption | apply Ext.app | apply Ext.mk | (refine Ext.setr ?_ (by (first | omega | (simp -implicitDefEqProofs only [gL] <;> omega))) _))); done) | (simp -implicitDefEqProofs only [gL, gA] <;> omega) | fail) only [gB, setAll, partL, fldV, reduceIte, Nat.reduceAdd, Nat.reduceMul]
  refine WP.call (within5_spec (n := 4) (by omega) (by unfold Fit; omega) h) ?_
  rintro _ _ ⟨rfl, rfl⟩
  refine WP.call (within5_spec (n := 31) (by omega) (by unfold Fit; omega) h) ?_
  rintro _ _ ⟨rfl, rfl⟩
  have a1 : 0 ≤ a % 31 ∧ a % 31 < 31 := ⟨Int.emod_nonneg _ (by omega), Int.emod_lt_of_pos _ (by omega)⟩
  have a2 : 0 ≤ b % 31 ∧ b % 31 < 31 := ⟨Int.emod_nonneg _ (by omega), Int.emod_lt_of_pos _ (by omega)⟩
  have a3 : 0 ≤ most % 4 ∧ most % 4 < 4 := ⟨Int.emod_nonneg _ (by omega), Int.emod_lt_of_pos _ (by omega)⟩
  obtain ⟨x, hx⟩ : ∃ x : Nat, 1 + a % 31 = x := ⟨(1 + a % 31).toNat, by omega⟩
  obtain ⟨y, hy⟩ : ∃ y : Nat, 1 + b % 31 = y := ⟨(1 + b % 31).toNat, by omega⟩
  obtain ⟨k, hk⟩ : ∃ k : Nat, most % 4 = k := ⟨(most % 4).toNat, by omega⟩
  simp -implicitDefEqProofs (disch := first | assumption | omega | (simp -implicitDefEqProofs only [gL] <;> omega) | ((repeat (first | exact Ext.refl _ | assumption | apply Ext.app | apply Ext.mk | (refine Ext.setr ?_ (by (first | omega | (simp -implicitDefEqProofs only [gL] <;> omega))) _))); done) | (simp -implicitDefEqProofs only [gL, gA, hx] <;> omega) | fail) only [gB, setAll, partL, fldV, reduceIte, Nat.reduceAdd, Nat.reduceMul, hx]
  refine WP.call (within5_spec (n := 31) (by omega) (by unfold Fit; omega) h) ?_
  rintro _ _ ⟨rfl, rfl⟩
  simp -implicitDefEqProofs (disch := first | assumption | omega | (simp -implicitDefEqProofs only [gL] <;> omega) | ((repeat (first | exact Ext.refl _ | assumption | apply Ext.app | apply Ext.mk | (refine Ext.setr ?_ (by (first | omega | (simp -implicitDefEqProofs only [gL] <;> omega))) _))); done) | (simp -implicitDefEqProofs only [gL, gA, hy] <;> omega) | fail) only [gB, setAll, partL, fldV, reduceIte, Nat.reduceAdd, Nat.reduceMul, hy]
  refine WP.call (many_spec (x := x) (by omega) h) ?_
  rintro _ _ ⟨rfl, rfl⟩
  refine WP.call (many_spec (x := y) (by omega) _) ?_
  rintro _ _ ⟨rfl, rfl⟩
  have h1 := manyN_le x
  have h2 := manyN_le y
  have h3 : manyN x * manyN y ≤ 25 := Nat.mul_le_mul h1 h2
  have hmul : binV .mul .scalar (I (manyN x)) (I (manyN y)) = some (I ((manyN x * manyN y : Nat) : Int)) := by
    rw [mul_w, show ((manyN x : Nat) : Int) * ((manyN y : Nat) : Int) = ((manyN x * manyN y : Nat) : Int) by simp, wrap_id (by omega) (by omega)]
  simp -implicitDefEqProofs (disch := first | assumption | omega | (simp -implicitDefEqProofs only [gL] <;> omega) | ((repeat (first | exact Ext.refl _ | assumption | apply Ext.app | apply Ext.mk | (refine Ext.setr ?_ (by (first | omega | (simp -implicitDefEqProofs only [gL] <;> omega))) _))); done) | (simp -implicitDefEqProofs only [gL, gA, hmul, hk] <;> omega) | fail) only [gB, setAll, partL, fldV, reduceIte, Nat.reduceAdd, Nat.reduceMul, hmul, hk]
  exact WP.ent (counts_l1 (k := k) (by omega) (by omega) (by omega) _ (k + 1) 0 (by omega)) fun i => rfl
end Go.Gm.A5
