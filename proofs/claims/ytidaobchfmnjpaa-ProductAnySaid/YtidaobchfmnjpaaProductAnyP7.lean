/- A part of the proof: an abstract machine, what it does, and what the functions of the program come to on it (GmA9U, GmA9RV, GmA9RT, GmA9KN, GmBi, GmA9V, GmA9X, GmA9Y, GmA9Z, GmA9MA, GmA9MB, GmA9BK, GmA9BM, GmA9BN). -/
import Derived.Test.YtidaobchfmnjpaaProductAnyP6
set_option linter.unusedVariables false
set_option linter.unusedSimpArgs false
set_option linter.unusedSectionVars false
namespace Go.Gm.A9
open Go Go.Gm
def bv (c : Nat → Int) (acc : List Bool) (b : Nat) : Nat → Int
  | 0 => -1
  | s + 1 => if gi acc s = true ∧ 0 ≤ c (b + s) ∧ (bv c acc b s < 0 ∨ c (b + s) < bv c acc b s) then c (b + s) else bv c acc b s
def BestQ (c : Nat → Int) (acc : List Bool) (b n : Nat) (out : Int) : Prop :=
  (out = -1 ∧ bv c acc b n = -1) ∨ ∃ q : Nat, q < n ∧ out = ((b + q : Nat) : Int) ∧ gi acc q = true ∧ 0 ≤ c (b + q) ∧ bv c acc b n = c (b + q)
theorem BestQ.skip {c : Nat → Int} {acc : List Bool} {b n : Nat} {out : Int} (h : BestQ c acc b n out) (hn : ¬ (gi acc n = true ∧ 0 ≤ c (b + n) ∧ (bv c acc b n < 0 ∨ c (b + n) < bv c acc b n))) : BestQ c acc b (n + 1) out := by
  have e : bv c acc b (n + 1) = bv c acc b n := if_neg hn
  rcases h with ⟨h1, h2⟩ | ⟨q, h1, h2, h3, h4, h5⟩
  · exact .inl ⟨h1, by rw [e]; exact h2⟩
  · exact .inr ⟨q, by omega, h2, h3, h4, by rw [e]; exact h5⟩
theorem BestQ.take {c : Nat → Int} {acc : List Bool} {b n : Nat} (h1 : gi acc n = true) (h2 : 0 ≤ c (b + n)) (h3 : bv c acc b n < 0 ∨ c (b + n) < bv c acc b n) : BestQ c acc b (n + 1) ((b + n : Nat) : Int) :=
  .inr ⟨n, by omega, rfl, h1, h2, if_pos ⟨h1, h2, h3⟩⟩
theorem BestQ.neg {c : Nat → Int} {acc : List Bool} {b n : Nat} {out : Int} (h : BestQ c acc b n out) : (out < 0 ↔ bv c acc b n < 0) ∧ (out < 0 → out = -1 ∧ bv c acc b n = -1) ∧ (¬ out < 0 → out = (out.toNat : Int) ∧ b ≤ out.toNat ∧ out.toNat < b + n ∧ c out.toNat = bv c acc b n ∧ gi acc (out - b) = true) := by
  rcases h with ⟨rfl, h2⟩ | ⟨q, h1, rfl, h3, h4, h5⟩
  · exact ⟨by omega, fun _ => ⟨rfl, h2⟩, fun z => absurd (by omega) z⟩
  · refine ⟨by omega, fun z => by omega, fun _ => ⟨by omega, by omega, by omega, ?_, ?_⟩⟩
    · rw [h5, Int.toNat_natCast]
    · rw [show ((b + q : Nat) : Int) - b = q by omega]; exact h3
theorem b1x {c d : Nat → Int} {acc : List Bool} {b : Nat} : ∀ n, (∀ s, s < n → c (b + s) = d (b + s)) → bv c acc b n = bv d acc b n
  | 0, _ => rfl
  | n + 1, h => by rw [bv, bv, b1x n fun s hs => h s (by omega), h n (by omega)]
def costL (N S : Nat) (c : Nat → Int) (acc : List Bool) : List Int := (List.range N).map fun v => bv c acc (v * S) S
theorem a5C (N S : Nat) (c : Nat → Int) (acc : List Bool) : (costL N S c acc).length = N := by simp [costL]
theorem a9D {N S : Nat} {c : Nat → Int} {acc : List Bool} {v : Nat} (hv : v < N) : gi (costL N S c acc) (v : Int) = bv c acc (v * S) S := by
  rw [q8_ (by simpa [costL] using hv)]
  simp [costL]
theorem spotN {N S v s : Nat} (hv : v < N) (hs : s < S) : v * S + s < N * S := by
  have : (v + 1) * S ≤ N * S := Nat.mul_le_mul_right _ hv
  rw [Nat.add_mul, Nat.one_mul] at this
  omega
theorem b1J {N S : Nat} {c d : Nat → Int} {acc : List Bool} (h : ∀ x, x < N * S → c x = d x) : costL N S c acc = costL N S d acc := by
  refine List.map_congr_left fun v hv => b1x S fun s hs => h _ (spotN (List.mem_range.1 hv) hs)
section
variable {h0 h : Heap} {g : AV} {N : Nat} {es : List E} {D : List (List Int)} {acc : List Bool}
theorem b4u {W : Nat → Prop} {hb : Heap} {os oc oe ov n v : Nat} {fh q sc se sf sA : AV} {cs ds fs : List Int} {M : List (Option Int)} {ls : Int}
    (gv : GV hb g N es D acc) (ok : DOk D acc) (hN : N ≤ 100000) (hn : n = N * D.length) (hn2 : n ≤ 1000000) (hv : v < N) (hA : Sl hb 1 sA (acc.map encB)) (w0 : SW W hb os g fh q sc se sf oc oe ov n cs ds fs M ls) :
    ∀ (d i : Nat) (h : Heap) (out : Int), i + d = acc.length → Ext hb h → BestQ (gf cs) acc (v * D.length) i out →
      WP (fun p : Nat × Nat => f5_ tab p.1 p.2 (.ptr os 0 7 0) (I v) (I out) sA (I acc.length) (I i) h) fun r h' => Ext hb h' ∧ ∃ out, r = I out ∧ BestQ (gf cs) acc (v * D.length) acc.length out := by
  have la := ok.la
  have l1 := ok.l1
  intro d
  induction d with
  | zero =>
    intro i h out h1 e b
    refine WP.rnd (fun i' j => z4_ tab i' j (.ptr os 0 7 0) (I v) (I out) sA (I acc.length) (I i) h) ?_
    obtain rfl : i = acc.length := by omega
    simp -implicitDefEqProofs (maxSteps := 1000000) (disch := first | assumption | omega | (simp only [gL] <;> omega) | ((repeat (first | exact Ext.refl _ | assumption | apply Ext.app | apply Ext.mk | (refine Ext.setr ?_ (by (first | omega | (simp only [gL] <;> omega))) _))); done) | (simp only [gL, gA] <;> omega) | fail) only [gB, setAll, partL, fldV, reduceIte, Nat.reduceAdd, Nat.reduceMul]
    exact WP.ret ⟨e, out, rfl, b⟩
  | succ d ih =>
    intro i h out h1 e b
    refine WP.rnd (fun i' j => z4_ tab i' j (.ptr os 0 7 0) (I v) (I out) sA (I acc.length) (I i) h) ?_
    have w := w0.ext e
    have ro := w.row
    have hsp := spotN (S := D.length) hv (show i < D.length by omega)
    rw [← hn] at hsp
    have hcast : (v : Int) * (D.length : Int) + (i : Int) = ((v * D.length + i : Nat) : Int) := by push_cast; rfl
    simp -implicitDefEqProofs (maxSteps := 1000000) (disch := first | assumption | omega | (simp only [gL] <;> omega) | ((repeat (first | exact Ext.refl _ | assumption | apply Ext.app | apply Ext.mk | (refine Ext.setr ?_ (by (first | omega | (simp only [gL] <;> omega))) _))); done) | (simp only [gL, gA, hA.idxG, hA.ld0, encB, ro] <;> omega) | fail) only [gB, setAll, partL, fldV, reduceIte, Nat.reduceAdd, Nat.reduceMul, hA.idxG, hA.ld0, encB, ro]
    refine WP.call (a8O (gv.ext e) ok (v := (v : Int)) (s := (i : Int)) (by omega) (by omega) (by omega) (by omega)) ?_
    rintro _ h2 ⟨rfl, e2⟩
    rw [hcast]
    have w2 := w.ext e2
    have ro2 := w2.row
    have lc := w2.lc
    obtain ⟨x, hx⟩ : ∃ x, v * D.length + i = x := ⟨_, rfl⟩
    rw [hx] at hsp ⊢
    have e02 := e.trans e2
    obtain ⟨bn1, bn2, bn3⟩ := b.neg
    have bq : gf cs x = gi cs (x : Int) := rfl
    cases hac : gi acc (i : Int) with
    | false =>
      simp -implicitDefEqProofs (maxSteps := 1000000) (disch := first | assumption | omega | (simp only [gL] <;> omega) | ((repeat (first | exact Ext.refl _ | assumption | apply Ext.app | apply Ext.mk | (refine Ext.setr ?_ (by (first | omega | (simp only [gL] <;> omega))) _))); done) | (simp only [gL, gA, ro2] <;> omega) | fail) only [gB, setAll, partL, fldV, reduceIte, Nat.reduceAdd, Nat.reduceMul, ro2]
      exact ih (i + 1) h2 out (by omega) e02 (b.skip fun z => by rw [hac] at z; cases z.1)
    | true =>
      by_cases hc0 : 0 ≤ gi cs (x : Int)
      · by_cases ho : out < 0
        · simp -implicitDefEqProofs (maxSteps := 1000000) (disch := first | assumption | omega | (simp only [gL] <;> omega) | ((repeat (first | exact Ext.refl _ | assumption | apply Ext.app | apply Ext.mk | (refine Ext.setr ?_ (by (first | omega | (simp only [gL] <;> omega))) _))); done) | (simp only [gL, gA, ro2, w2.gc.sl.idxG, w2.gc.sl.ld0, encI] <;> omega) | fail) only [gB, setAll, partL, fldV, reduceIte, Nat.reduceAdd, Nat.reduceMul, ro2, w2.gc.sl.idxG, w2.gc.sl.ld0, encI]
          refine ih (i + 1) h2 _ (by omega) e02 ?_
          rw [← hx]
          exact BestQ.take hac (by rw [hx]; exact hc0) (.inl (bn1.1 ho))
        · obtain ⟨o1, o2, o3, o4, o5⟩ := bn3 ho
          have hob : v * D.length + i ≤ n := by omega
          have o4' : gi cs out = bv (gf cs) acc (v * D.length) i := by rw [← o4]; show gi cs out = gi cs ((out.toNat : Nat) : Int); rw [← o1]
          by_cases hlt : gi cs (x : Int) < gi cs out
          · simp -implicitDefEqProofs (maxSteps := 1000000) (disch := first | assumption | omega | (simp only [gL] <;> omega) | ((repeat (first | exact Ext.refl _ | assumption | apply Ext.app | apply Ext.mk | (refine Ext.setr ?_ (by (first | omega | (simp only [gL] <;> omega))) _))); done) | (simp only [gL, gA, ro2, w2.gc.sl.idxG, w2.gc.sl.ld0, encI] <;> omega) | fail) only [gB, setAll, partL, fldV, reduceIte, Nat.reduceAdd, Nat.reduceMul, ro2, w2.gc.sl.idxG, w2.gc.sl.ld0, encI]
            refine ih (i + 1) h2 _ (by omega) e02 ?_
            rw [← hx]
            exact BestQ.take hac (by rw [hx]; exact hc0) (.inr (by rw [hx, ← o4']; exact hlt))
          · simp -implicitDefEqProofs (maxSteps := 1000000) (disch := first | assumption | omega | (simp only [gL] <;> omega) | ((repeat (first | exact Ext.refl _ | assumption | apply Ext.app | apply Ext.mk | (refine Ext.setr ?_ (by (first | omega | (simp only [gL] <;> omega))) _))); done) | (simp only [gL, gA, ro2, w2.gc.sl.idxG, w2.gc.sl.ld0, encI] <;> omega) | fail) only [gB, setAll, partL, fldV, reduceIte, Nat.reduceAdd, Nat.reduceMul, ro2, w2.gc.sl.idxG, w2.gc.sl.ld0, encI]
            refine ih (i + 1) h2 out (by omega) e02 (b.skip fun z => ?_)
            rw [hx, bq, ← o4'] at z
            omega
      · simp -implicitDefEqProofs (maxSteps := 1000000) (disch := first | assumption | omega | (simp only [gL] <;> omega) | ((repeat (first | exact Ext.refl _ | assumption | apply Ext.app | apply Ext.mk | (refine Ext.setr ?_ (by (first | omega | (simp only [gL] <;> omega))) _))); done) | (simp only [gL, gA, ro2, w2.gc.sl.idxG, w2.gc.sl.ld0, encI] <;> omega) | fail) only [gB, setAll, partL, fldV, reduceIte, Nat.reduceAdd, Nat.reduceMul, ro2, w2.gc.sl.idxG, w2.gc.sl.ld0, encI]
        exact ih (i + 1) h2 out (by omega) e02 (b.skip fun z => hc0 (by rw [hx] at z; exact z.2.1))
theorem b0Q {W : Nat → Prop} {os oc oe ov n v : Nat} {fh q sc se sf : AV} {cs ds fs : List Int} {M : List (Option Int)} {ls : Int}
    (gv : GV h g N es D acc) (ok : DOk D acc) (hN : N ≤ 100000) (hn : n = N * D.length) (hn2 : n ≤ 1000000) (hv : v < N) (w : SW W h os g fh q sc se sf oc oe ov n cs ds fs M ls) :
    Tot tab c6_ [.ptr os 0 7 0, I v] h fun r h' => Ext h h' ∧ ∃ out, r = I out ∧ BestQ (gf cs) acc (v * D.length) D.length out := by
  obtain ⟨sE, a, sD, sA, sB, B, k1, k2, k3, k4, k5, k6, k7, k8⟩ := gv.ex
  refine WP.tot (fun k => (a4u k _ _ h).trans (a5L tab k _ _ h)) ?_
  have ro := w.row
  simp -implicitDefEqProofs (maxSteps := 1000000) (disch := first | assumption | omega | (simp only [gL] <;> omega) | ((repeat (first | exact Ext.refl _ | assumption | apply Ext.app | apply Ext.mk | (refine Ext.setr ?_ (by (first | omega | (simp only [gL] <;> omega))) _))); done) | (simp only [gL, gA, ro, k1.nil, k1.fldA0, k1.fldAf, k1.ldfE, k5.lenG] <;> omega) | fail) only [gB, setAll, partL, fldV, reduceIte, Nat.reduceAdd, Nat.reduceMul, ro, k1.nil, k1.fldA0, k1.fldAf, k1.ldfE, k5.lenG]
  refine WP.ent ((b4u gv ok hN hn hn2 hv k5 w acc.length 0 h (-1) (by omega) (Ext.refl _) (.inl ⟨rfl, rfl⟩)).mono ?_) fun i => rfl
  rintro r h' ⟨e, out, rfl, b⟩
  rw [ok.la] at b
  exact ⟨e, out, rfl, b⟩
theorem a8C {S : Nat} {v : Nat} {x : Nat} : atSt S [((v : Int), 0)] x ↔ x = v * S := by
  constructor
  · rintro ⟨b, b1, b2⟩
    obtain rfl := List.mem_singleton.1 b1
    simp only [Int.add_zero] at b2
    have : ((v * S : Nat) : Int) = (x : Int) := by rw [Int.natCast_mul]; exact b2
    omega
  · rintro rfl
    exact ⟨_, List.mem_singleton.2 rfl, by simp⟩
theorem a6Y (gv : GV h0 g N es D acc) (ok : DOk D acc) (no : NetOk N es) : HopsOk h0 g N es D a8_ (onL es D) := by
  refine ⟨fun h e v s v0 v1 s0 s1 => b4p (gv.ext e) ok no s0 s1, fun v s v0 v1 s0 s1 t ht => ?_, fun v s v0 v1 s0 s1 => ?_⟩
  · obtain ⟨k, hk, rfl⟩ := List.mem_map.1 ht
    obtain ⟨k0, k1, _⟩ := i0_.1 hk
    have he := no.edge _ (b4_ k0 k1)
    have ht := ok.to s (gi es k).md s0 s1 he.2.2.2.2.1 he.2.2.2.2.2
    exact ⟨he.2.2.1, he.2.2.2.1, ht.1, ht.2, k0, k1⟩
  · rw [onL, List.length_map]
    have := o5_ (fun e => e.fr == v) es es.length
    have := no.len
    show (idxTo _ es es.length).length ≤ _
    omega
theorem b3L {W : Nat → Prop} {os oc oe ov n oo : Nat} {fh q sc se sf o : AV} {cs ds fs : List Int} {M : List (Option Int)} {ls : Int}
    (gv : GV h0 g N es D acc) (ok : DOk D acc) (hN : N ≤ 100000) (hn : n = N * D.length) (hn2 : n ≤ 1000000) (hoo : h0.length ≤ oo) (hWo : ¬ W oo) :
    ∀ (d i : Nat) (h : Heap) (xs : List Int), i + d = N → Ext h0 h → SW W h os g fh q sc se sf oc oe ov n cs ds fs M ls → Gr oo (oo + 1) h 1 o (xs.map encI) → xs.length = N → (∀ u : Nat, u < i → gi xs (u : Int) = bv (gf cs) acc (u * D.length) D.length) →
      WP (fun p : Nat × Nat => o9_ tab p.1 p.2 (.ptr os 0 7 0) o (I N) (I i) h) fun r h' => Ext h0 h' ∧ Gr oo (oo + 1) h' 1 r ((costL N D.length (gf cs) acc).map encI) := by
  intro d
  induction d with
  | zero =>
    intro i h xs h1 e w gr lx hx
    refine WP.rnd (fun i' j => a2s tab i' j (.ptr os 0 7 0) o (I N) (I i) h) ?_
    obtain rfl : i = N := by omega
    simp -implicitDefEqProofs (maxSteps := 1000000) (disch := first | assumption | omega | (simp only [gL] <;> omega) | ((repeat (first | exact Ext.refl _ | assumption | apply Ext.app | apply Ext.mk | (refine Ext.setr ?_ (by (first | omega | (simp only [gL] <;> omega))) _))); done) | (simp only [gL, gA] <;> omega) | fail) only [gB, setAll, partL, fldV, reduceIte, Nat.reduceAdd, Nat.reduceMul]
    refine WP.ret ⟨e, gr.cong ?_⟩
    congr 1
    apply List.ext_getElem (by rw [lx, a5C])
    intro u u1 u2
    have a1 := hx u (by omega)
    have a2 := a9D (S := D.length) (c := gf cs) (acc := acc) (N := i) (v := u) (by omega)
    rw [q8_ u1] at a1
    rw [q8_ u2] at a2
    rw [a1, a2]
  | succ d ih =>
    intro i h xs h1 e w gr lx hx
    refine WP.rnd (fun i' j => a2s tab i' j (.ptr os 0 7 0) o (I N) (I i) h) ?_
    obtain ⟨h2, s2, g2, f2, l2⟩ := gr.write0 (i := (i : Int)) (v := I (-1)) (by omega) (by rw [List.length_map]; omega) rfl rfl
    have f2s : FrS (fun p => p = oo) h h2 := f2.s.mono fun p z1 z2 => by omega
    have g2' : Gr oo (oo + 1) h2 1 o ((xs.set i (-1)).map encI) := g2.cong (by rw [List.map_set]; simp [encI]; rfl)
    have e2 : Ext h0 h2 := f2s.ext e fun p z1 z2 => by omega
    have w2 := w.frs f2s fun p z1 z2 z3 => hWo (z3 ▸ z2)
    have gs := gr.sl
    simp -implicitDefEqProofs (maxSteps := 1000000) (disch := first | assumption | omega | (simp only [gL] <;> omega) | ((repeat (first | exact Ext.refl _ | assumption | apply Ext.app | apply Ext.mk | (refine Ext.setr ?_ (by (first | omega | (simp only [gL] <;> omega))) _))); done) | (simp only [gL, gA, gs.idxG, s2] <;> omega) | fail) only [gB, setAll, partL, fldV, reduceIte, Nat.reduceAdd, Nat.reduceMul, gs.idxG, s2]
    refine WP.call (b0Q (gv.ext e2) ok hN hn hn2 (v := i) (by omega) w2) ?_
    rintro _ h3 ⟨e3, out, rfl, b⟩
    have w3 := w2.ext e3
    have g3 := g2'.ext e3
    have ro3 := w3.row
    have lc := w3.lc
    obtain ⟨bn1, bn2, bn3⟩ := b.neg
    by_cases ho : out < 0
    · simp -implicitDefEqProofs (maxSteps := 1000000) (disch := first | assumption | omega | (simp only [gL] <;> omega) | ((repeat (first | exact Ext.refl _ | assumption | apply Ext.app | apply Ext.mk | (refine Ext.setr ?_ (by (first | omega | (simp only [gL] <;> omega))) _))); done) | (simp only [gL, gA] <;> omega) | fail) only [gB, setAll, partL, fldV, reduceIte, Nat.reduceAdd, Nat.reduceMul]
      refine ih (i + 1) h3 _ (by omega) (e2.trans e3) w3 g3 (by simpa using lx) fun u hu => ?_
      rw [giset2 (by omega)]
      by_cases qu : u = i
      · rw [if_pos qu, qu, (bn2 ho).2]
      · rw [if_neg qu]; exact hx u (by omega)
    · obtain ⟨o1, o2, o3, o4, o5⟩ := bn3 ho
      have hsp := spotN (N := N) (S := D.length) (v := i) (s := D.length - 1) (by omega) (by have := ok.l0; omega)
      have hob : out < n := by omega
      have hgo : gi cs out = bv (gf cs) acc (i * D.length) D.length := by rw [← o4]; show gi cs out = gi cs ((out.toNat : Nat) : Int); rw [← o1]
      obtain ⟨h4, s4, g4, f4, l4⟩ := g3.write0 (i := (i : Int)) (v := I (gi cs out)) (by omega) (by rw [List.length_map, List.length_set]; omega) rfl rfl
      have f4s : FrS (fun p => p = oo) h3 h4 := f4.s.mono fun p z1 z2 => by omega
      have g4' : Gr oo (oo + 1) h4 1 o ((xs.set i (gi cs out)).map encI) := g4.cong (by rw [List.map_set, List.map_set]; simp [encI]; rfl)
      have e4 : Ext h0 h4 := f4s.ext (e2.trans e3) fun p z1 z2 => by omega
      have w4 := w3.frs f4s fun p z1 z2 z3 => hWo (z3 ▸ z2)
      have gs3 := g3.sl
      simp -implicitDefEqProofs (maxSteps := 1000000) (disch := first | assumption | omega | (simp only [gL] <;> omega) | ((repeat (first | exact Ext.refl _ | assumption | apply Ext.app | apply Ext.mk | (refine Ext.setr ?_ (by (first | omega | (simp only [gL] <;> omega))) _))); done) | (simp only [gL, gA, ro3, w3.gc.sl.idxG, w3.gc.sl.ld0, encI, gs3.idxG, s4] <;> omega) | fail) only [gB, setAll, partL, fldV, reduceIte, Nat.reduceAdd, Nat.reduceMul, ro3, w3.gc.sl.idxG, w3.gc.sl.ld0, encI, gs3.idxG, s4]
      refine ih (i + 1) h4 _ (by omega) e4 w4 g4' (by simpa using lx) fun u hu => ?_
      rw [giset2 (by omega)]
      by_cases qu : u = i
      · rw [if_pos qu, qu, hgo]
      · rw [if_neg qu]; exact hx u (by omega)
theorem b0e {sE sD sA : AV} (no : NetOk N es) (co : COk es) (hn2 : N * D.length ≤ 1000000) (hs : Sl h 4 sE (es.map encE)) (ok : DOk D acc) (hD : Sl h 5 sD (D.map encR)) (hA : Sl h 1 sA (acc.map encB)) {v : Nat} (hv : v < N) :
    Tot tab e8_ [.agg [I N, sE], .agg [sD, sA], I v] h fun r h' => Ext h h' ∧ ∃ c, LC (N * D.length) (hopA es D.length (onL es D)) (fun x => x = v * D.length) c ∧ Gr h.length h'.length h' 1 r ((costL N D.length c acc).map encI) := by
  refine WP.tot (fun k => (a8v k _ _ _ h).trans (a9r tab k _ _ _ h)) ?_
  have hN : N ≤ 100000 := by have := no.n1; omega
  obtain ⟨h1, hh1⟩ : ∃ h1, h1 = (h ++ [AObj.cells ⟨[I N, sE], 0, 0, false⟩]) ++ [AObj.cells ⟨[sD, sA], 0, 0, false⟩] := ⟨_, rfl⟩
  have e1 : Ext h h1 := by rw [hh1]; ((repeat (first | exact Ext.refl _ | assumption | apply Ext.app | apply Ext.mk | (refine Ext.setr ?_ (by (first | omega | (simp only [gL] <;> omega))) _))))
  have r0 : h1[h.length]? = some (.cells ⟨[I N, sE], 0, 0, false⟩) := by rw [hh1]; simp
  simp -implicitDefEqProofs (maxSteps := 1000000) (disch := first | assumption | omega | (simp only [gL] <;> omega) | ((repeat (first | exact Ext.refl _ | assumption | apply Ext.app | apply Ext.mk | (refine Ext.setr ?_ (by (first | omega | (simp only [gL] <;> omega))) _))); done) | (simp only [gL, gA, hs.one, hs.cells, hD.one, hD.cells, hA.one, hA.cells] <;> omega) | fail) only [gB, setAll, partL, fldV, reduceIte, Nat.reduceAdd, Nat.reduceMul, hs.one, hs.cells, hD.one, hD.cells, hA.one, hA.cells]
  rw [← hh1]
  refine WP.call (a8B no (hs.ext e1) ok (hD.ext e1) (hA.ext e1)) ?_
  rintro g h2 ⟨e2, gv⟩
  obtain ⟨h3, hh3⟩ : ∃ h3, h3 = h2 ++ [AObj.cells ⟨[I v, AV.int .i64 0], 0, 0, false⟩] := ⟨_, rfl⟩
  have e3 : Ext h2 h3 := by rw [hh3]; exact Ext.push _ _
  have ha : Sl h3 2 (.sl h2.length 0 1 2 none 0) ([((v : Int), (0 : Int))].map encP2) := by
    have := (Gr.lit (h := h2) (sz := 2) (v := [I v, I 0]) rfl).sl
    rw [a9_] at this
    rw [hh3]; exact this
  rw [show AV.int .i64 0 = I 0 from rfl] at hh3
  rw [← hh3]
  have gv3 := gv.ext e3
  refine WP.call (a3T (n := N * D.length) gv3 ok hN rfl hn2 ha (fun a z => ?_) (by simp) (hopA es D.length (onL es D))) ?_
  · obtain rfl := List.mem_singleton.1 z
    have := ok.l0
    exact ⟨by show (0 : Int) ≤ v; omega, by show (v : Int) < N; omega, Int.le_refl _, by show (0 : Int) < D.length; omega⟩
  rintro _ h4 ⟨e4, os, q, sc, se, sf, oc, oe, ov, cs, ds, fs, M, rfl, w4, d4, u4⟩
  refine WP.call (a9C e4 (fun o z => z) gv3 ok co hN rfl hn2 (a6Y gv3 ok no) (fun x z => ?_) w4 d4 u4) ?_
  · obtain rfl := a8C.1 z
    have := spotN (S := D.length) hv ok.l0
    omega
  rintro _ h5 ⟨rfl, f5, id2, k2, ls2, rk2, cs2, ds2, fs2, M2, w5, d5, m5, u5⟩
  have e35 : Ext h3 h5 := f5.ext e4 fun o z1 z2 => by omega
  have e05 := ((e1.trans e2).trans e3).trans e35
  have r5 := ((e2.trans e3).trans e35).get r0
  obtain ⟨s6, h6, a6, g6, e6, _, l6⟩ := q4_ (zero := [AV.int .i64 0]) (sz := 1) (bytes := 8) (n := (N : Int)) h5 (by omega) (by omega) (by omega) rfl rfl
  have hre : List.replicate (N : Int).toNat [AV.int .i64 0] = (List.replicate N (0 : Int)).map encI := by simp [encI, I]
  rw [hre] at g6
  simp -implicitDefEqProofs (maxSteps := 1000000) (disch := first | assumption | omega | (simp only [gL] <;> omega) | ((repeat (first | exact Ext.refl _ | assumption | apply Ext.app | apply Ext.mk | (refine Ext.setr ?_ (by (first | omega | (simp only [gL] <;> omega))) _))); done) | (simp only [gL, gA, r5, a6, g6.sl.lenG, List.length_replicate] <;> omega) | fail) only [gB, setAll, partL, fldV, reduceIte, Nat.reduceAdd, Nat.reduceMul, r5, a6, g6.sl.lenG, List.length_replicate]
  have hl := e05.len
  refine WP.ent ((b3L (W := fun o => o < h5.length) (gv3) ok hN rfl hn2 (oo := h5.length) (by have := e35.len; omega) (by omega) N 0 h6 _ (by omega) (e35.trans e6) ((w5.mono fun o z1 _ => z1).ext e6) g6 (by simp) fun u hu => by omega).mono ?_) fun i => rfl
  rintro r h7 ⟨e7, g7⟩
  have hg := (a6Y gv3 ok no).gok co
  refine ⟨((e1.trans e2).trans e3).trans e7, gf cs2, ?_, (g7.mono (by omega) (Nat.le_refl _)).low _ ?_⟩
  · have := DI.lc hg (fun x z => by obtain rfl := a8C.1 z; have := spotN (S := D.length) hv ok.l0; omega) d5 m5
    intro x hx
    have h8 := this x hx
    have hst : atSt D.length [((v : Int), (0 : Int))] = fun x => x = v * D.length := by
      funext x; exact propext a8C
    rw [hst] at h8
    exact h8
  · exact Nat.le_refl _
end
end Go.Gm.A9

namespace Go.Gm.A9
open Go Go.Gm
theorem b4P {xs : List Int} {k : Int} (h0 : 0 ≤ k) (h1 : k < xs.length) : gi xs.reverse k = gi xs (xs.length - 1 - k) := by
  obtain ⟨i, rfl⟩ : ∃ i : Nat, k = i := ⟨k.toNat, by omega⟩
  rw [q8_ (by simpa using h1), List.getElem_reverse]
  have := q8_ (xs := xs) (n := xs.length - 1 - i) (by omega)
  rw [← this]
  congr 1
  omega
theorem b4Q {lo hi : Nat} {hb : Heap} {s : AV} {xs : List Int} (hl : xs.length ≤ 1000000) : ∀ (d : Nat) (i j : Int) (h : Heap) (ys : List Int), j - i < d → 0 ≤ i → i + j = xs.length - 1 → ys.length = xs.length → Fr lo hi hb h → Gr lo hi h 1 s (ys.map encI) →
    (∀ k : Int, 0 ≤ k → k < xs.length → gi ys k = if i ≤ k ∧ k ≤ j then gi xs k else gi xs (xs.length - 1 - k)) →
    WP (fun p : Nat × Nat => n6_ tab p.1 p.2 s (I i) (I j) h) fun r h' => r = .tup [] ∧ Fr lo hi hb h' ∧ Gr lo hi h' 1 s (xs.reverse.map encI) := by
  have fin : ∀ (i j : Int) (ys : List Int), ¬ i < j → 0 ≤ i → i + j = xs.length - 1 → ys.length = xs.length → (∀ k : Int, 0 ≤ k → k < xs.length → gi ys k = if i ≤ k ∧ k ≤ j then gi xs k else gi xs (xs.length - 1 - k)) → ys = xs.reverse := by
    intro i j ys hij h0 hs hy hk
    apply List.ext_getElem (by simpa using hy)
    intro k k1 k2
    have a1 := hk k (by omega) (by omega)
    have a2 := b4P (xs := xs) (k := (k : Int)) (by omega) (by omega)
    rw [q8_ k1] at a1
    rw [q8_ k2] at a2
    rw [a1, a2]
    split
    · rw [show (xs.length : Int) - 1 - k = k by omega]
    · rfl
  intro d
  induction d with
  | zero =>
    intro i j h ys hd h0 hs hy f g hk
    refine WP.rnd (fun i' j' => a0w tab i' j' s (I i) (I j) h) ?_
    have hij : ¬ i < j := by omega
    simp -implicitDefEqProofs (maxSteps := 1000000) (disch := first | assumption | omega | (simp only [gL] <;> omega) | ((repeat (first | exact Ext.refl _ | assumption | apply Ext.app | apply Ext.mk | (refine Ext.setr ?_ (by (first | omega | (simp only [gL] <;> omega))) _))); done) | (simp only [gL, gA] <;> omega) | fail) only [gB, setAll, partL, fldV, reduceIte, Nat.reduceAdd, Nat.reduceMul]
    exact WP.ret ⟨rfl, f, g.cong (by rw [fin i j ys hij h0 hs hy hk])⟩
  | succ d ih =>
    intro i j h ys hd h0 hs hy f g hk
    refine WP.rnd (fun i' j' => a0w tab i' j' s (I i) (I j) h) ?_
    by_cases hij : i < j
    · obtain ⟨a, ha⟩ : ∃ a, gi ys i = a := ⟨_, rfl⟩
      obtain ⟨b, hb⟩ : ∃ b, gi ys j = b := ⟨_, rfl⟩
      obtain ⟨h2, s2, g2, f2, l2⟩ := g.write0 (i := i) (v := I b) h0 (by rw [List.length_map]; omega) rfl rfl
      obtain ⟨h3, s3, g3, f3, l3⟩ := g2.write0 (i := j) (v := I a) (by omega) (by rw [List.length_set, List.length_map]; omega) rfl rfl
      have gs := g.sl
      simp -implicitDefEqProofs (maxSteps := 1000000) (disch := first | assumption | omega | (simp only [gL] <;> omega) | ((repeat (first | exact Ext.refl _ | assumption | apply Ext.app | apply Ext.mk | (refine Ext.setr ?_ (by (first | omega | (simp only [gL] <;> omega))) _))); done) | (simp only [gL, gA, gs.idxG, gs.ld0, ha, hb, encI, s2, s3] <;> omega) | fail) only [gB, setAll, partL, fldV, reduceIte, Nat.reduceAdd, Nat.reduceMul, gs.idxG, gs.ld0, ha, hb, encI, s2, s3]
      have e1 : ((ys.map encI).set i.toNat (I b).cells).set j.toNat (I a).cells = ((ys.set i.toNat b).set j.toNat a).map encI := by
        rw [List.map_set, List.map_set]; rfl
      rw [e1] at g3
      refine ih (i + 1) (j - 1) h3 _ (by omega) (by omega) (by omega) (by simpa using hy) ((f.trans f2).trans f3) g3 fun k k0 k1 => ?_
      rw [k8_ (by omega) (by simp; omega) k0, k8_ h0 (by omega) k0]
      have hi := hk i h0 (by omega)
      have hj := hk j (by omega) (by omega)
      rw [if_pos ⟨by omega, by omega⟩, ha] at hi
      rw [if_pos ⟨by omega, by omega⟩, hb] at hj
      by_cases q1 : k = j
      · rw [if_pos q1, if_neg (by omega), hi]; congr 1; omega
      · rw [if_neg q1]
        by_cases q2 : k = i
        · rw [if_pos q2, if_neg (by omega), hj]; congr 1; omega
        · rw [if_neg q2, hk k k0 k1]
          by_cases q3 : i ≤ k ∧ k ≤ j
          · rw [if_pos q3, if_pos ⟨by omega, by omega⟩]
          · rw [if_neg q3, if_neg (by omega)]
    · simp -implicitDefEqProofs (maxSteps := 1000000) (disch := first | assumption | omega | (simp only [gL] <;> omega) | ((repeat (first | exact Ext.refl _ | assumption | apply Ext.app | apply Ext.mk | (refine Ext.setr ?_ (by (first | omega | (simp only [gL] <;> omega))) _))); done) | (simp only [gL, gA] <;> omega) | fail) only [gB, setAll, partL, fldV, reduceIte, Nat.reduceAdd, Nat.reduceMul]
      exact WP.ret ⟨rfl, f, g.cong (by rw [fin i j ys hij h0 hs hy hk])⟩
theorem b3M {lo hi : Nat} {h : Heap} {s : AV} {xs : List Int} (hl : xs.length ≤ 1000000) (g : Gr lo hi h 1 s (xs.map encI)) : Tot tab j2_ [s] h fun r h' => r = .tup [] ∧ Fr lo hi h h' ∧ Gr lo hi h' 1 s (xs.reverse.map encI) := by
  refine WP.tot (fun k => (a5f k _ h).trans (a6A tab k _ h)) ?_
  have gs := g.sl
  simp -implicitDefEqProofs (maxSteps := 1000000) (disch := first | assumption | omega | (simp only [gL] <;> omega) | ((repeat (first | exact Ext.refl _ | assumption | apply Ext.app | apply Ext.mk | (refine Ext.setr ?_ (by (first | omega | (simp only [gL] <;> omega))) _))); done) | (simp only [gL, gA, gs.lenG] <;> omega) | fail) only [gB, setAll, partL, fldV, reduceIte, Nat.reduceAdd, Nat.reduceMul, gs.lenG]
  exact WP.ent (b4Q hl (xs.length + 1) 0 (xs.length - 1) h xs (by omega) (by omega) (by omega) rfl (Fr.refl _ _ _) g fun k k0 k1 => by rw [if_pos ⟨by omega, by omega⟩]) fun i => rfl
section
variable {h0 h : Heap} {g : AV} {N : Nat} {es : List E} {D : List (List Int)} {acc : List Bool}
theorem b3N {W : Nat → Prop} {hb : Heap} {os oc oe ov n : Nat} {fh q sc se sf : AV} {cs ds fs : List Int} {M : List (Option Int)} {ls : Int} {A : Nat → List Hop} {st : Nat → Prop} {id0 k : Nat} {rk : Nat → Nat}
    (hn2 : n ≤ 1000000) (hW : ∀ o, W o → o < hb.length) (w0 : SW W hb os g fh q sc se sf oc oe ov n cs ds fs M ls) (di : DI n 2147483647 A st id0 [] (gf cs) (gf M) (gf ds) (gf fs) rk k) {x0 : Nat} {Q : AV → Heap → Prop} {k0 : Nat} (hk0 : k ≤ k0) (hk1 : k0 ≤ 1000000)
    (hQ : ∀ (l : List Nat) (h' : Heap) (out' : AV), Ext hb h' → Gr hb.length h'.length h' 1 out' ((l.reverse.map fun (e : Nat) => (e : Int)).map encI) → l.length ≤ 1000000 → Wk A st x0 l (gf cs x0) → WP (fun i : Nat => q0_ tab i out' h') Q) :
    ∀ (d x : Nat) (h : Heap) (out : AV) (l : List Nat), rk x < d → d + l.length ≤ k0 + 1 → x < n → 0 ≤ gf cs x → Ext hb h → Gr hb.length h.length h 1 out ((l.reverse.map fun (e : Nat) => (e : Int)).map encI) → (∀ l', Wk A st x l' (gf cs x) → Wk A st x0 (l' ++ l) (gf cs x0)) →
      WP (fun p : Nat × Nat => j9_ tab p.1 p.2 (.ptr os 0 7 0) (I x) out h) Q := by
  intro d
  induction d with
  | zero => intro x h out l h1; omega
  | succ d ih =>
    intro x h out l h1 h2 hx hc e gr hw
    refine WP.rnd (fun i j => a3n tab i j (.ptr os 0 7 0) (I x) out h) ?_
    have w := w0.ext e
    have ro := w.row
    have lf := w.lf
    have le := w.le
    have gfs := w.gf.sl
    have ges := w.ge.sl
    rcases di.par x hx (gf cs x) (.inl ⟨hc, rfl⟩) with ⟨p1, p2, p3⟩ | ⟨y, v, y1, y2, y3, y4, y5, y6, y7⟩
    · have p1' : gi fs (x : Int) = -1 := p1
      simp -implicitDefEqProofs (maxSteps := 1000000) (disch := first | assumption | omega | (simp only [gL] <;> omega) | ((repeat (first | exact Ext.refl _ | assumption | apply Ext.app | apply Ext.mk | (refine Ext.setr ?_ (by (first | omega | (simp only [gL] <;> omega))) _))); done) | (simp only [gL, gA, ro, gfs.idxG, gfs.ld0, encI, p1'] <;> omega) | fail) only [gB, setAll, partL, fldV, reduceIte, Nat.reduceAdd, Nat.reduceMul, ro, gfs.idxG, gfs.ld0, encI, p1']
      refine WP.lv (hQ l h out e gr (by omega) ?_) fun i j => rfl
      have := hw [] (by rw [p3]; exact .nil p2)
      simpa using this
    · have y2' : gi fs (x : Int) = y := y2
      obtain ⟨e1, he1⟩ : ∃ e1 : Nat, gi ds (x : Int) = e1 := ⟨(gi ds (x : Int)).toNat, by have : 0 ≤ gi ds (x : Int) := y4; omega⟩
      have hlb := e.len
      obtain ⟨s', h', q1, q2, q3⟩ := Gr.append1 (bytes := 8) gr (v := [I e1]) rfl (by omega) (by omega) (by simp; omega) (by omega) (by omega)
      rw [a9_] at q1
      have e' : Ext hb h' := q3.ext e (by omega)
      have w' := w0.ext e'
      have ro' := w'.row
      have gfs' := w'.gf.sl
      simp -implicitDefEqProofs (maxSteps := 1000000) (disch := first | assumption | omega | (simp only [gL] <;> omega) | ((repeat (first | exact Ext.refl _ | assumption | apply Ext.app | apply Ext.mk | (refine Ext.setr ?_ (by (first | omega | (simp only [gL] <;> omega))) _))); done) | (simp only [gL, gA, ro, gfs.idxG, gfs.ld0, ges.idxG, ges.ld0, encI, y2', he1, q1, ro', gfs'.idxG, gfs'.ld0] <;> omega) | fail) only [gB, setAll, partL, fldV, reduceIte, Nat.reduceAdd, Nat.reduceMul, ro, gfs.idxG, gfs.ld0, ges.idxG, ges.ld0, encI, y2', he1, q1, ro', gfs'.idxG, gfs'.ld0]
      have hr := y7 hc
      refine ih y h' s' (e1 :: l) (by omega) (by simp; omega) y1 y3 e' (q2.cong (by simp [encI])) fun l' hl' => ?_
      have := hw (l' ++ [e1]) (by
        rw [y6]
        refine .snoc hl' ?_
        have he2 : gf ds x = (e1 : Int) := he1
        rw [he2, Int.toNat_natCast] at y5
        exact y5)
      simpa using this
theorem b2x {W : Nat → Prop} {os oc oe ov n : Nat} {fh q sc se sf : AV} {cs ds fs : List Int} {M : List (Option Int)} {ls : Int} {A : Nat → List Hop} {st : Nat → Prop} {id0 k : Nat} {rk : Nat → Nat}
    (hn2 : n ≤ 1000000) (w : SW W h os g fh q sc se sf oc oe ov n cs ds fs M ls) (di : DI n 2147483647 A st id0 [] (gf cs) (gf M) (gf ds) (gf fs) rk k) (hk : k ≤ n) {x : Nat} (hx : x < n) (hc : 0 ≤ gf cs x) :
    Tot tab e9_ [.ptr os 0 7 0, I x] h fun r h' => Ext h h' ∧ ∃ l : List Nat, Wk A st x l (gf cs x) ∧ l.length ≤ 1000000 ∧ Gr h.length h'.length h' 1 r ((l.map fun (e : Nat) => (e : Int)).map encI) := by
  refine WP.tot (fun k => (a3P k _ _ h).trans (a4I tab k _ _ h)) ?_
  have hr := di.rk x hx hc
  refine WP.ent (b3N (x0 := x) (k0 := n) (k := k) hn2 (W := fun o => W o ∧ o < h.length) (fun o z => z.2) (w.mono fun o z1 z2 => ⟨z2, z1⟩) di hk (by omega) (fun l h2 out e2 g2 hl hw => ?_) (rk x + 1) x h .nils [] (by omega) (by simp; omega) hx hc (Ext.refl _) (Gr.nil ..) fun l' hl' => by simpa using hl') fun i => rfl
  refine WP.congr (fun i => a3m tab i out h2) ?_
  refine WP.call (b3M (by simpa using hl) g2) ?_
  rintro _ h3 ⟨rfl, f3, g3⟩
  have e3 : Ext h h3 := f3.ext e2 (Nat.le_refl _)
  refine WP.call (b0a g3.sl (by simpa using (show l.length ≤ 10000000 by omega))) ?_
  rintro r h4 ⟨e4, g4⟩
  refine WP.ret ⟨e3.trans e4, l, hw, hl, (g4.mono e3.len (Nat.le_refl _)).cong ?_⟩
  rw [← List.map_reverse, List.reverse_reverse]
end
end Go.Gm.A9

namespace Go.Gm.A9
open Go Go.Gm
section
variable {h : Heap} {N : Nat} {es : List E} {D : List (List Int)} {acc : List Bool}
def RouteQ (N : Nat) (es : List E) (D : List (List Int)) (acc : List Bool) (v u : Nat) (c : Nat → Int) (lo : Nat) (r : AV) (h' : Heap) : Prop :=
  (bv c acc (u * D.length) D.length < 0 ∧ r = .tup [.agg [I 0, .nils], .bool false]) ∨
  (0 ≤ bv c acc (u * D.length) D.length ∧ ∃ (q : Nat) (l : List Nat) (sl : AV), q < D.length ∧ gi acc (q : Int) = true ∧ bv c acc (u * D.length) D.length = c (u * D.length + q) ∧ Wk (hopA es D.length (onL es D)) (fun x => x = v * D.length) (u * D.length + q) l (bv c acc (u * D.length) D.length) ∧
    l.length ≤ 1000000 ∧ r = .tup [.agg [I (bv c acc (u * D.length) D.length), sl], .bool true] ∧ Gr lo h'.length h' 1 sl ((l.map fun (e : Nat) => (e : Int)).map encI))
theorem a7E {sE sD sA : AV} (no : NetOk N es) (co : COk es) (hn2 : N * D.length ≤ 1000000) (hs : Sl h 4 sE (es.map encE)) (ok : DOk D acc) (hD : Sl h 5 sD (D.map encR)) (hA : Sl h 1 sA (acc.map encB)) {v u : Nat} (hv : v < N) (hu : u < N) :
    Tot tab b8_ [.agg [I N, sE], .agg [sD, sA], I v, I u] h fun r h' => Ext h h' ∧ ∃ c, LC (N * D.length) (hopA es D.length (onL es D)) (fun x => x = v * D.length) c ∧ RouteQ N es D acc v u c h.length r h' := by
  refine WP.tot (fun k => (a8w k _ _ _ _ h).trans (a9t tab k _ _ _ _ h)) ?_
  have hN : N ≤ 100000 := by have := no.n1; omega
  obtain ⟨h1, hh1⟩ : ∃ h1, h1 = ((h ++ [AObj.cells ⟨[I N, sE], 0, 0, false⟩]) ++ [AObj.cells ⟨[sD, sA], 0, 0, false⟩]) ++ [AObj.cells ⟨[AV.int .i64 0, .nils], 0, 0, false⟩] := ⟨_, rfl⟩
  have e1 : Ext h h1 := by rw [hh1]; ((repeat (first | exact Ext.refl _ | assumption | apply Ext.app | apply Ext.mk | (refine Ext.setr ?_ (by (first | omega | (simp only [gL] <;> omega))) _))))
  have hl1 : h1.length = h.length + 3 := by rw [hh1]; simp
  have r8 : h1[h.length + 1 + 1]? = some (.cells ⟨[I 0, .nils], 0, 0, false⟩) := by rw [hh1, a2N (by simp)]; simp [I]
  simp -implicitDefEqProofs (maxSteps := 1000000) (disch := first | assumption | omega | (simp only [gL] <;> omega) | ((repeat (first | exact Ext.refl _ | assumption | apply Ext.app | apply Ext.mk | (refine Ext.setr ?_ (by (first | omega | (simp only [gL] <;> omega))) _))); done) | (simp only [gL, gA, hs.one, hs.cells, hD.one, hD.cells, hA.one, hA.cells] <;> omega) | fail) only [gB, setAll, partL, fldV, reduceIte, Nat.reduceAdd, Nat.reduceMul, hs.one, hs.cells, hD.one, hD.cells, hA.one, hA.cells]
  rw [← hh1]
  refine WP.call (a8B no (hs.ext e1) ok (hD.ext e1) (hA.ext e1)) ?_
  rintro g h2 ⟨e2, gv⟩
  obtain ⟨h3, hh3⟩ : ∃ h3, h3 = h2 ++ [AObj.cells ⟨[I v, AV.int .i64 0], 0, 0, false⟩] := ⟨_, rfl⟩
  have e3 : Ext h2 h3 := by rw [hh3]; exact Ext.push _ _
  have ha : Sl h3 2 (.sl h2.length 0 1 2 none 0) ([((v : Int), (0 : Int))].map encP2) := by
    have := (Gr.lit (h := h2) (sz := 2) (v := [I v, I 0]) rfl).sl
    rw [a9_] at this
    rw [hh3]; exact this
  rw [show AV.int .i64 0 = I 0 from rfl] at hh3
  rw [← hh3]
  have gv3 := gv.ext e3
  refine WP.call (a3T (n := N * D.length) gv3 ok hN rfl hn2 ha (fun a z => ?_) (by simp) (hopA es D.length (onL es D))) ?_
  · obtain rfl := List.mem_singleton.1 z
    have := ok.l0
    exact ⟨by show (0 : Int) ≤ v; omega, by show (v : Int) < N; omega, Int.le_refl _, by show (0 : Int) < D.length; omega⟩
  rintro _ h4 ⟨e4, os, q, sc, se, sf, oc, oe, ov, cs, ds, fs, M, rfl, w4, d4, u4⟩
  have hst : atSt D.length [((v : Int), (0 : Int))] = fun x => x = v * D.length := by
    funext x; exact propext a8C
  rw [hst] at d4
  have hstn : ∀ x, x = v * D.length → x < N * D.length := fun x z => by
    have := spotN (S := D.length) hv ok.l0
    omega
  refine WP.call (a9C e4 (fun o z => z) gv3 ok co hN rfl hn2 (a6Y gv3 ok no) hstn w4 d4 u4) ?_
  rintro _ h5 ⟨rfl, f5, id2, k2, ls2, rk2, cs2, ds2, fs2, M2, w5, d5, m5, u5⟩
  have e35 : Ext h3 h5 := f5.ext e4 fun o z1 z2 => by omega
  have lc := DI.lc ((a6Y gv3 ok no).gok co) hstn d5 m5
  refine WP.call (b0Q (gv3.ext e35) ok hN rfl hn2 hu w5) ?_
  rintro _ h6 ⟨e6, out, rfl, b⟩
  have e06 := (((e1.trans e2).trans e3).trans e35).trans e6
  have r86 := (((e2.trans e3).trans e35).trans e6).get r8
  have b86 := (List.getElem?_eq_some_iff.1 r86).1
  obtain ⟨bn1, bn2, bn3⟩ := b.neg
  by_cases ho : out < 0
  · simp -implicitDefEqProofs (maxSteps := 1000000) (disch := first | assumption | omega | (simp only [gL] <;> omega) | ((repeat (first | exact Ext.refl _ | assumption | apply Ext.app | apply Ext.mk | (refine Ext.setr ?_ (by (first | omega | (simp only [gL] <;> omega))) _))); done) | (simp only [gL, gA, r86] <;> omega) | fail) only [gB, setAll, partL, fldV, reduceIte, Nat.reduceAdd, Nat.reduceMul, r86]
    refine WP.ret ⟨e06.setr (by omega) _, gf cs2, lc, .inl ⟨bn1.1 ho, rfl⟩⟩
  · have w6 := w5.ext e6
    have ro6 := w6.row
    have lc6 := w6.lc
    rcases b with ⟨b1, _⟩ | ⟨qq, q1, rfl, q3, q4, q5⟩
    · omega
    have hx : u * D.length + qq < N * D.length := spotN hu q1
    have hun := o7_ (N * D.length) (gf cs2)
    have gcs := w6.gc.sl
    have hgc : gi cs2 ((u * D.length + qq : Nat) : Int) = bv (gf cs2) acc (u * D.length) D.length := q5.symm
    obtain ⟨x, hxx⟩ : ∃ x, u * D.length + qq = x := ⟨_, rfl⟩
    rw [hxx] at hx hgc q4 q5 ho ⊢
    simp -implicitDefEqProofs (maxSteps := 1000000) (disch := first | assumption | omega | (simp only [gL] <;> omega) | ((repeat (first | exact Ext.refl _ | assumption | apply Ext.app | apply Ext.mk | (refine Ext.setr ?_ (by (first | omega | (simp only [gL] <;> omega))) _))); done) | (simp only [gL, gA, ro6, gcs.idxG, gcs.ld0, encI, hgc] <;> omega) | fail) only [gB, setAll, partL, fldV, reduceIte, Nat.reduceAdd, Nat.reduceMul, ro6, gcs.idxG, gcs.ld0, encI, hgc]
    refine WP.call (b2x hn2 w6 d5 (by omega) hx q4) ?_
    rintro sl h7 ⟨e7, l, hw, hl, g7⟩
    have w7 := w6.ext e7
    have ro7 := w7.row
    have gcs7 := w7.gc.sl
    have r87 := e7.get r86
    have b87 := (List.getElem?_eq_some_iff.1 r87).1
    simp -implicitDefEqProofs (maxSteps := 1000000) (disch := first | assumption | omega | (simp only [gL] <;> omega) | ((repeat (first | exact Ext.refl _ | assumption | apply Ext.app | apply Ext.mk | (refine Ext.setr ?_ (by (first | omega | (simp only [gL] <;> omega))) _))); done) | (simp only [gL, gA, ro7, gcs7.ld0, encI, hgc, g7.sl.one, g7.sl.cells, r87] <;> omega) | fail) only [gB, setAll, partL, fldV, reduceIte, Nat.reduceAdd, Nat.reduceMul, ro7, gcs7.ld0, encI, hgc, g7.sl.one, g7.sl.cells, r87]
    refine WP.ret ⟨(e06.trans e7).setr (by omega) _, gf cs2, lc, .inr ⟨by rw [q5]; exact q4, qq, l, sl, q1, q3, ?_, ?_, hl, rfl, ?_⟩⟩
    · rw [hxx]; exact q5
    · rw [hxx, q5]; exact hw
    · have h67 := e06.len
      exact (g7.set (by omega) _).mono h67 (by simp)
end
end Go.Gm.A9

namespace Go.Gm.A9
open Go Go.Gm
def kE : List E := [⟨0, 1, 0, 4⟩]
def kD : List (List Int) := [[0, 0, 0, 0, 0]]
theorem kA0 : hopA kE 1 (onL kE kD) 0 = [(1, 0, 4)] := by decide
theorem kA1 : hopA kE 1 (onL kE kD) 1 = [] := by decide
theorem kNet : NetOk (2 : Nat) kE := ⟨by omega, by omega, by simp [kE], fun e he => by simp [kE] at he; subst he; simp⟩
theorem kCo : COk kE := ⟨fun e he => by simp [kE] at he; subst he; simp⟩
theorem kDok : DOk kD [true] := by
  refine ⟨by simp [kD], by simp [kD], by simp [kD], fun s s0 s1 => ?_, fun s m s0 s1 m0 m1 => ?_⟩
  · simp [kD] at s1
    obtain rfl : s = 0 := by omega
    rfl
  · simp [kD] at s1
    obtain rfl : s = 0 := by omega
    have : m = 0 ∨ m = 1 ∨ m = 2 ∨ m = 3 ∨ m = 4 := by omega
    rcases this with rfl | rfl | rfl | rfl | rfl <;> decide
abbrev kA := hopA kE 1 (onL kE kD)
theorem kHop {x y e : Nat} {w : Int} (hx : x < 2) (h : (y, e, w) ∈ kA x) : x = 0 ∧ y = 1 ∧ e = 0 ∧ w = 4 := by
  have : x = 0 ∨ x = 1 := by omega
  rcases this with rfl | rfl
  · rw [kA, kA0] at h; simp at h; exact ⟨rfl, h.1, h.2.1, h.2.2⟩
  · rw [kA, kA1] at h; simp at h
theorem kRange {st : Nat → Prop} (hs : ∀ x, st x → x < 2) {x : Nat} {l : List Nat} {c : Int} (h : Wk kA st x l c) : x < 2 ∧ 0 ≤ c :=
  Wk.range (n := 2) (W := 2147483647) (⟨by omega, fun x hx y e w h => by obtain ⟨rfl, rfl, rfl, rfl⟩ := kHop hx h; omega⟩) hs h
theorem kOne {l : List Nat} {c : Int} (h : Wk kA (fun x => x = 1 * 1) 1 l c) : (l = [] ∧ c = 0) ∨ 4 ≤ c := by
  cases h with
  | nil _ => exact .inl ⟨rfl, rfl⟩
  | snoc h1 h2 =>
    have hr := kRange (fun x z => by omega) h1
    obtain ⟨rfl, _, rfl, rfl⟩ := kHop hr.1 h2
    right; omega
theorem kZero {l : List Nat} {c : Int} (h : Wk kA (fun x => x = 0 * 1) 0 l c) : l = [] ∧ c = 0 := by
  cases h with
  | nil _ => exact ⟨rfl, rfl⟩
  | snoc h1 h2 =>
    have hr := kRange (fun x z => by omega) h1
    obtain ⟨rfl, q, _⟩ := kHop hr.1 h2
    cases q
theorem kFour {l : List Nat} {c : Int} (h : Wk kA (fun x => x = 0 * 1) 1 l c) : l = [0] ∧ c = 4 := by
  cases h with
  | nil h => simp at h
  | snoc h1 h2 =>
    have hr := kRange (fun x z => by omega) h1
    obtain ⟨rfl, _, rfl, rfl⟩ := kHop hr.1 h2
    obtain ⟨rfl, rfl⟩ := kZero h1
    exact ⟨rfl, rfl⟩
theorem kBv {c : Nat → Int} {b : Nat} (hc : 0 ≤ c b) : bv c [true] b 1 = c b := if_pos ⟨rfl, hc, .inl (show (-1 : Int) < 0 by decide)⟩
theorem kLc1 {c : Nat → Int} (lc : LC 2 kA (fun x => x = 1 * 1) c) : c 1 = 0 := by
  rcases lc 1 (by omega) with ⟨h1, ⟨l, h2⟩, h3⟩ | ⟨h1, h2⟩
  · have := h3 [] 0 (.nil rfl)
    omega
  · exact absurd (Wk.nil (A := kA) (st := fun x => x = 1 * 1) (x := 1) rfl) (h2 _ _)
theorem kLc4 {c : Nat → Int} (lc : LC 2 kA (fun x => x = 0 * 1) c) : c 1 = 4 := by
  have hw : Wk kA (fun x => x = 0 * 1) 1 ([] ++ [0]) (0 + 4) := .snoc (.nil rfl) (by rw [kA, kA0]; simp)
  rcases lc 1 (by omega) with ⟨h1, ⟨l, h2⟩, h3⟩ | ⟨h1, h2⟩
  · exact (kFour h2).2
  · exact absurd hw (h2 _ _)
section
variable {h : Heap} {sE sD sA : AV}
theorem kRoute1 (hs : Sl h 4 sE (kE.map encE)) (hD : Sl h 5 sD (kD.map encR)) (hA : Sl h 1 sA ([true].map encB)) : Tot tab b8_ [.agg [I 2, sE], .agg [sD, sA], I 1, I 1] h fun r h' => Ext h h' ∧ ∃ sl, r = .tup [.agg [I 0, sl], .bool true] ∧ Sl h' 1 sl [] := by
  refine (a7E (N := 2) (v := 1) (u := 1) kNet kCo (by simp [kD]) hs kDok hD hA (by omega) (by omega)).mono ?_
  rintro r h' ⟨e, c, lc, rq⟩
  have h1 : c 1 = 0 := kLc1 lc
  have h2 : bv c [true] (1 * kD.length) kD.length = 0 := by
    show bv c [true] 1 1 = 0
    rw [kBv (by omega), h1]
  refine ⟨e, ?_⟩
  rcases rq with ⟨q, _⟩ | ⟨_, q, l, sl, q1, q2, q3, q4, q5, q6, q7⟩
  · omega
  · rw [h2] at q4 q6
    have hq : q = 0 := by simp [kD] at q1; omega
    subst hq
    have : l = [] := by
      rcases kOne (l := l) (c := 0) q4 with ⟨z, _⟩ | z
      · exact z
      · omega
    subst this
    exact ⟨sl, q6, q7.sl⟩
theorem kRoute4 (hs : Sl h 4 sE (kE.map encE)) (hD : Sl h 5 sD (kD.map encR)) (hA : Sl h 1 sA ([true].map encB)) : Tot tab b8_ [.agg [I 2, sE], .agg [sD, sA], I 0, I 1] h fun r h' => Ext h h' ∧ ∃ sl, r = .tup [.agg [I 4, sl], .bool true] ∧ Sl h' 1 sl [[I 0]] := by
  refine (a7E (N := 2) (v := 0) (u := 1) kNet kCo (by simp [kD]) hs kDok hD hA (by omega) (by omega)).mono ?_
  rintro r h' ⟨e, c, lc, rq⟩
  have h1 : c 1 = 4 := kLc4 lc
  have h2 : bv c [true] (1 * kD.length) kD.length = 4 := by
    show bv c [true] 1 1 = 4
    rw [kBv (by omega), h1]
  refine ⟨e, ?_⟩
  rcases rq with ⟨q, _⟩ | ⟨_, q, l, sl, q1, q2, q3, q4, q5, q6, q7⟩
  · omega
  · rw [h2] at q4 q6
    have hq : q = 0 := by simp [kD] at q1; omega
    subst hq
    obtain ⟨rfl, _⟩ := kFour (l := l) (c := 4) q4
    exact ⟨sl, q6, q7.sl⟩
theorem kCosts (hs : Sl h 4 sE (kE.map encE)) (hD : Sl h 5 sD (kD.map encR)) (hA : Sl h 1 sA ([true].map encB)) : Tot tab e8_ [.agg [I 2, sE], .agg [sD, sA], I 0] h fun r h' => Ext h h' ∧ ∃ x, Sl h' 1 r ([x, (4 : Int)].map encI) := by
  refine (b0e (N := 2) (v := 0) kNet kCo (by simp [kD]) hs kDok hD hA (by omega)).mono ?_
  rintro r h' ⟨e, c, lc, g⟩
  have h1 : c 1 = 4 := kLc4 lc
  have h2 : costL 2 kD.length c [true] = [bv c [true] 0 1, 4] := by
    show [bv c [true] (0 * 1) 1, bv c [true] (1 * 1) 1] = _
    rw [show 0 * 1 = 0 from rfl, show 1 * 1 = 1 from rfl, kBv (b := 1) (by omega), h1]
  rw [h2] at g
  exact ⟨e, _, g.sl⟩
theorem b1y {h : Heap} {o sz : Nat} {v : List AV} (hr : h[o]? = some (.cells ⟨v, 0, 0, false⟩)) (hv : v.length = sz) : Sl h sz (.sl o 0 1 sz none 0) [v] :=
  .inr ⟨o, 0, none, 0, _, rfl, hr, Nat.le_refl _, by simp [List.take_of_length_le (Nat.le_of_eq hv)], by simp [hv]⟩
end
theorem b2y (h : Heap) : Tot tab h0_ [] h fun r h' => r = .bool true ∧ Ext h h' := by
  refine WP.tot (fun k => (a4q k h).trans (a5G tab k h)) ?_
  simp -implicitDefEqProofs (maxSteps := 1000000) (disch := first | assumption | omega | (simp only [gL] <;> omega) | ((repeat (first | exact Ext.refl _ | assumption | apply Ext.app | apply Ext.mk | (refine Ext.setr ?_ (by (first | omega | (simp only [gL] <;> omega))) _))); done) | (simp only [gL, gA] <;> omega) | fail) only [gB, setAll, partL, fldV, reduceIte, Nat.reduceAdd, Nat.reduceMul]
  obtain ⟨h1, hh1⟩ : ∃ h1, h1 = (List.set (List.set (h ++ [AObj.cells ⟨[AV.int .i64 0, AV.int .i64 1, AV.int .i64 0, AV.int .i64 4], 0, 0, false⟩] ++ [AObj.cells ⟨[AV.int .i64 0, .nils], 0, 0, false⟩]) (h.length + 1) (AObj.cells ⟨[AV.int .i64 2, AV.sl h.length 0 1 4 none 0], 0, 0, false⟩) ++
      [AObj.cells ⟨[AV.int .i64 0, AV.int .i64 0, AV.int .i64 0, AV.int .i64 0, AV.int .i64 0], 0, 0, false⟩] ++ [AObj.cells ⟨[AV.bool true], 0, 0, false⟩] ++ [AObj.cells ⟨[.nils, .nils], 0, 0, false⟩])
      (h.length + 1 + 1 + 1 + 1) (AObj.cells ⟨[AV.sl (h.length + 1 + 1) 0 1 5 none 0, AV.sl (h.length + 1 + 1 + 1) 0 1 1 none 0], 0, 0, false⟩)) := ⟨_, rfl⟩
  have e1 : Ext h h1 := by rw [hh1]; ((repeat (first | exact Ext.refl _ | assumption | apply Ext.app | apply Ext.mk | (refine Ext.setr ?_ (by (first | omega | (simp only [gL] <;> omega))) _))))
  have r0 : h1[h.length]? = some (.cells ⟨encE ⟨0, 1, 0, 4⟩, 0, 0, false⟩) := by rw [hh1]; simp -implicitDefEqProofs (maxSteps := 1000000) (disch := first | assumption | omega | (simp only [gL] <;> omega) | ((repeat (first | exact Ext.refl _ | assumption | apply Ext.app | apply Ext.mk | (refine Ext.setr ?_ (by (first | omega | (simp only [gL] <;> omega))) _))); done) | (simp only [gL, gA] <;> omega) | fail) only [gB, setAll, partL, fldV, reduceIte, Nat.reduceAdd, Nat.reduceMul]; try rfl
  have r1 : h1[h.length + 1]? = some (.cells ⟨[I 2, AV.sl h.length 0 1 4 none 0], 0, 0, false⟩) := by rw [hh1]; simp -implicitDefEqProofs (maxSteps := 1000000) (disch := first | assumption | omega | (simp only [gL] <;> omega) | ((repeat (first | exact Ext.refl _ | assumption | apply Ext.app | apply Ext.mk | (refine Ext.setr ?_ (by (first | omega | (simp only [gL] <;> omega))) _))); done) | (simp only [gL, gA] <;> omega) | fail) only [gB, setAll, partL, fldV, reduceIte, Nat.reduceAdd, Nat.reduceMul]; try rfl
  have r2 : h1[h.length + 1 + 1]? = some (.cells ⟨encR [0, 0, 0, 0, 0], 0, 0, false⟩) := by rw [hh1]; simp -implicitDefEqProofs (maxSteps := 1000000) (disch := first | assumption | omega | (simp only [gL] <;> omega) | ((repeat (first | exact Ext.refl _ | assumption | apply Ext.app | apply Ext.mk | (refine Ext.setr ?_ (by (first | omega | (simp only [gL] <;> omega))) _))); done) | (simp only [gL, gA] <;> omega) | fail) only [gB, setAll, partL, fldV, reduceIte, Nat.reduceAdd, Nat.reduceMul]; try rfl
  have r3 : h1[h.length + 1 + 1 + 1]? = some (.cells ⟨encB true, 0, 0, false⟩) := by rw [hh1]; simp -implicitDefEqProofs (maxSteps := 1000000) (disch := first | assumption | omega | (simp only [gL] <;> omega) | ((repeat (first | exact Ext.refl _ | assumption | apply Ext.app | apply Ext.mk | (refine Ext.setr ?_ (by (first | omega | (simp only [gL] <;> omega))) _))); done) | (simp only [gL, gA] <;> omega) | fail) only [gB, setAll, partL, fldV, reduceIte, Nat.reduceAdd, Nat.reduceMul]; try rfl
  have r4 : h1[h.length + 1 + 1 + 1 + 1]? = some (.cells ⟨[AV.sl (h.length + 1 + 1) 0 1 5 none 0, AV.sl (h.length + 1 + 1 + 1) 0 1 1 none 0], 0, 0, false⟩) := by rw [hh1]; simp -implicitDefEqProofs (maxSteps := 1000000) (disch := first | assumption | omega | (simp only [gL] <;> omega) | ((repeat (first | exact Ext.refl _ | assumption | apply Ext.app | apply Ext.mk | (refine Ext.setr ?_ (by (first | omega | (simp only [gL] <;> omega))) _))); done) | (simp only [gL, gA] <;> omega) | fail) only [gB, setAll, partL, fldV, reduceIte, Nat.reduceAdd, Nat.reduceMul]; try rfl
  have hs : Sl h1 4 (.sl h.length 0 1 4 none 0) (kE.map encE) := b1y r0 rfl
  have hD : Sl h1 5 (.sl (h.length + 1 + 1) 0 1 5 none 0) (kD.map encR) := b1y r2 rfl
  have hA : Sl h1 1 (.sl (h.length + 1 + 1 + 1) 0 1 1 none 0) ([true].map encB) := b1y r3 rfl
  rw [← hh1]
  refine WP.call (kRoute1 hs hD hA) ?_
  rintro _ h2 ⟨e2, s2, rfl, z2⟩
  have r12 := e2.get r1
  have r42 := e2.get r4
  have b1 := (List.getElem?_eq_some_iff.1 r12).1
  have b4 := (List.getElem?_eq_some_iff.1 r42).1
  simp -implicitDefEqProofs (maxSteps := 1000000) (disch := first | assumption | omega | (simp only [gL] <;> omega) | ((repeat (first | exact Ext.refl _ | assumption | apply Ext.app | apply Ext.mk | (refine Ext.setr ?_ (by (first | omega | (simp only [gL] <;> omega))) _))); done) | (simp only [gL, gA, a4_, a5_, z2.one, z2.cells, r12, r42] <;> omega) | fail) only [gB, setAll, partL, fldV, reduceIte, Nat.reduceAdd, Nat.reduceMul, a4_, a5_, z2.one, z2.cells, r12, r42]
  obtain ⟨h3, hh3⟩ : ∃ h3, h3 = ((h2 ++ [AObj.cells ⟨[AV.int .i64 0, .nils], 0, 0, false⟩]).set h2.length (.cells ⟨[I 0, s2], 0, 0, false⟩)) := ⟨_, rfl⟩
  have e3 : Ext h2 h3 := by rw [hh3]; ((repeat (first | exact Ext.refl _ | assumption | apply Ext.app | apply Ext.mk | (refine Ext.setr ?_ (by (first | omega | (simp only [gL] <;> omega))) _))))
  have q3 : h3[h2.length]? = some (.cells ⟨[I 0, s2], 0, 0, false⟩) := by rw [hh3]; exact a3_ (by simp)
  have e13 := e2.trans e3
  rw [← hh3]
  refine WP.call (kRoute4 (hs.ext e13) (hD.ext e13) (hA.ext e13)) ?_
  rintro _ h4 ⟨e4, s4, rfl, z4⟩
  have r14 := (e3.trans e4).get r12
  have r44 := (e3.trans e4).get r42
  have q34 := e4.get q3
  have c1 := (List.getElem?_eq_some_iff.1 r14).1
  have c4 := (List.getElem?_eq_some_iff.1 r44).1
  have cq := (List.getElem?_eq_some_iff.1 q34).1
  simp -implicitDefEqProofs (maxSteps := 1000000) (disch := first | assumption | omega | (simp only [gL] <;> omega) | ((repeat (first | exact Ext.refl _ | assumption | apply Ext.app | apply Ext.mk | (refine Ext.setr ?_ (by (first | omega | (simp only [gL] <;> omega))) _))); done) | (simp only [gL, gA, a4_, a5_, z4.one, z4.cells, r14, r44] <;> omega) | fail) only [gB, setAll, partL, fldV, reduceIte, Nat.reduceAdd, Nat.reduceMul, a4_, a5_, z4.one, z4.cells, r14, r44]
  obtain ⟨h5, hh5⟩ : ∃ h5, h5 = ((h4 ++ [AObj.cells ⟨[AV.int .i64 0, .nils], 0, 0, false⟩]).set h4.length (.cells ⟨[I 4, s4], 0, 0, false⟩)) := ⟨_, rfl⟩
  have e5 : Ext h4 h5 := by rw [hh5]; ((repeat (first | exact Ext.refl _ | assumption | apply Ext.app | apply Ext.mk | (refine Ext.setr ?_ (by (first | omega | (simp only [gL] <;> omega))) _))))
  have q5 : h5[h4.length]? = some (.cells ⟨[I 4, s4], 0, 0, false⟩) := by rw [hh5]; exact a3_ (by simp)
  have e15 := (e13.trans e4).trans e5
  rw [← hh5]
  refine WP.call (kCosts (hs.ext e15) (hD.ext e15) (hA.ext e15)) ?_
  rintro r h6 ⟨e6, x, z6⟩
  have q36 := (e5.trans e6).get q34
  have q56 := e6.get q5
  have l2 := z2.len
  have l4 := z4.len
  simp only [List.length_nil, List.length_cons] at l2 l4
  have g1 : gi [x, (4 : Int)] 1 = 4 := rfl
  simp -implicitDefEqProofs (maxSteps := 1000000) (disch := first | assumption | omega | (simp only [gL] <;> omega) | ((repeat (first | exact Ext.refl _ | assumption | apply Ext.app | apply Ext.mk | (refine Ext.setr ?_ (by (first | omega | (simp only [gL] <;> omega))) _))); done) | (simp only [gL, gA, a4_, a5_, q36, q56, l2, l4, z6.lenG, z6.idxG, z6.ld0, g1, encI] <;> omega) | fail) only [gB, setAll, partL, fldV, reduceIte, Nat.reduceAdd, Nat.reduceMul, a4_, a5_, q36, q56, l2, l4, z6.lenG, z6.idxG, z6.ld0, g1, encI]
  exact WP.ret ⟨rfl, (e1.trans e15).trans e6⟩
end Go.Gm.A9

namespace Go.Gm
section
variable {n : Nat} {W : Int} {A A' : Nat → List Hop} {st en : Nat → Prop}
structure Rev (n : Nat) (A A' : Nat → List Hop) : Prop where
  to : ∀ x y e w, x < n → (y, e, w) ∈ A x → ∃ e', (x, e', w) ∈ A' y
  fro : ∀ x y e w, y < n → (x, e, w) ∈ A' y → ∃ e', (y, e', w) ∈ A x
theorem Rev.symm (r : Rev n A A') : Rev n A' A := ⟨fun x y e w hx h => r.fro y x e w hx h, fun x y e w hy h => r.to y x e w hy h⟩
theorem Wk.join (g : GOk n W A) (g' : GOk n W A') (r : Rev n A A') (hs : ∀ x, st x → x < n) (he : ∀ x, en x → x < n) {x : Nat} {l : List Nat} {u : Int} (h : Wk A' en x l u) : ∀ {l' v}, Wk A st x l' v → ∃ z, en z ∧ ∃ l'', Wk A st z l'' (v + u) := by
  induction h with
  | @nil x h =>
    intro l' v k
    exact ⟨x, h, l', by rw [Int.add_zero]; exact k⟩
  | @snoc y x e l u w h1 h2 ih =>
    intro l' v k
    have hy := (Wk.range g' he h1).1
    obtain ⟨e', h3⟩ := r.fro x y e w hy h2
    obtain ⟨z, z1, l'', z2⟩ := ih (.snoc k h3)
    exact ⟨z, z1, l'', by rw [show v + (u + w) = v + w + u by omega]; exact z2⟩
structure Half (n : Nat) (A : Nat → List Hop) (st : Nat → Prop) (c : Nat → Int) (t : Int) : Prop where
  front : ∀ y l v, Wk A st y l v → (0 ≤ c y ∧ c y ≤ v) ∨ t ≤ v
theorem DI.half {c : Nat → Int} {m : Nat → Option Int} {e f : Nat → Int} {r : Nat → Nat} {k id : Nat} (g : GOk n W A) (hs : ∀ x, st x → x < n) (d : DI n W A st id [] c m e f r k) {t : Int} (ht : ∀ x, x < n → ∀ v, m x = some v → t ≤ v) : Half n A st c t := by
  refine ⟨fun y l v h => ?_⟩
  rcases d.front g hs h with h1 | ⟨z, u, z1, z2, z3⟩
  · exact .inl h1
  · have := ht z z1 u z2
    exact .inr (by omega)
structure Met (n : Nat) (A : Nat → List Hop) (st en : Nat → Prop) (c d : Nat → Int) (L : Int) : Prop where
  a : ∀ x, x < n → 0 ≤ c x → en x → 0 ≤ L ∧ L ≤ c x
  b : ∀ x, x < n → 0 ≤ d x → st x → 0 ≤ L ∧ L ≤ d x
  m : ∀ x y e w, x < n → (y, e, w) ∈ A x → 0 ≤ c x → 0 ≤ d y → 0 ≤ L ∧ L ≤ c x + w + d y
theorem Met.low (g : GOk n W A) (g' : GOk n W A') (r : Rev n A A') (hs : ∀ x, st x → x < n) (he : ∀ x, en x → x < n) {c d : Nat → Int} {t t' L : Int} (p : Half n A st c t) (q : Half n A' en d t') (mt : Met n A st en c d L) (hL : L ≤ t + t') {x : Nat} {l : List Nat} {u : Int} (h : Wk A' en x l u) :
    ∀ {v l'}, Wk A st x l' v → 0 ≤ c x → c x ≤ v → L ≤ v + u := by
  induction h with
  | @nil x h =>
    intro v l' k h0 h1
    have := mt.a x (he x h) h0 h
    omega
  | @snoc y x e l u w h1 h2 ih =>
    intro v l' k h0 h3
    have hy := (Wk.range g' he h1).1
    obtain ⟨e', h4⟩ := r.fro x y e w hy h2
    have hx := (Wk.range g hs k).1
    rcases p.front y _ _ (.snoc k h4) with ⟨p1, p2⟩ | p1
    · have := ih (.snoc k h4) p1 p2
      omega
    · rcases q.front y _ _ h1 with ⟨q1, q2⟩ | q1
      · have := mt.m x y e' w hx h4 h0 q1
        omega
      · omega
theorem Met.all (g : GOk n W A) (g' : GOk n W A') (r : Rev n A A') (hs : ∀ x, st x → x < n) (he : ∀ x, en x → x < n) {c d : Nat → Int} {t t' L : Int} (p : Half n A st c t) (q : Half n A' en d t') (mt : Met n A st en c d L) (hL : L ≤ t + t') (hst : ∀ x, st x → 0 ≤ c x → c x ≤ 0) {x : Nat} (hx : st x) {l : List Nat} {u : Int} (h : Wk A' en x l u) : L ≤ u := by
  by_cases h0 : 0 ≤ c x
  · have := mt.low g g' r hs he p q hL h (.nil hx) h0 (hst x hx h0)
    omega
  · rcases p.front x _ _ (.nil hx) with ⟨p1, _⟩ | p1
    · exact absurd p1 h0
    · rcases q.front x _ _ h with ⟨q1, q2⟩ | q1
      · have := mt.b x (hs x hx) q1 hx
        omega
      · omega
theorem Met.least (g : GOk n W A) (g' : GOk n W A') (r : Rev n A A') (hs : ∀ x, st x → x < n) (he : ∀ x, en x → x < n) {c d : Nat → Int} {t t' L : Int} (p : Half n A st c t) (q : Half n A' en d t') (mt : Met n A st en c d L) (hL : L ≤ t + t') (hst : ∀ x, st x → 0 ≤ c x → c x ≤ 0) {z : Nat} (hz : en z) {l : List Nat} {v : Int} (h : Wk A st z l v) : L ≤ v := by
  obtain ⟨x, hx, l', h'⟩ := Wk.join g' g r.symm he hs h (.nil hz)
  have := mt.all g g' r hs he p q hL hst hx h'
  omega
theorem Met.symm (g : GOk n W A) (g' : GOk n W A') (r : Rev n A A') {c d : Nat → Int} {L : Int} (mt : Met n A st en c d L) : Met n A' en st d c L := by
  refine ⟨mt.b, mt.a, fun x y e w hx h h1 h2 => ?_⟩
  have hy := (g'.hop x hx _ _ _ h).1
  obtain ⟨e', h3⟩ := r.fro y x e w hx h
  have := mt.m y x e' w hy h3 h2 h1
  omega
theorem Met.step {c c' d : Nat → Int} {L L' : Int} {id : Nat} (mt : Met n A st en c d L) (hc : ∀ x, x < n → x ≠ id → c' x = c x) (hmono : 0 ≤ L → 0 ≤ L' ∧ L' ≤ L) (ha : en id → 0 ≤ L' ∧ L' ≤ c' id) (hm : ∀ y e w, (y, e, w) ∈ A id → 0 ≤ d y → 0 ≤ L' ∧ L' ≤ c' id + w + d y) : Met n A st en c' d L' := by
  refine ⟨fun x hx h1 h2 => ?_, fun x hx h1 h2 => ?_, fun x y e w hx h h1 h2 => ?_⟩
  · by_cases q : x = id
    · subst q; exact ha h2
    · rw [hc x hx q] at h1 ⊢
      have h3 := mt.a x hx h1 h2
      have h4 := hmono h3.1
      exact ⟨h4.1, by omega⟩
  · have h3 := mt.b x hx h1 h2
    have h4 := hmono h3.1
    exact ⟨h4.1, by omega⟩
  · by_cases q : x = id
    · subst q; exact hm y e w h h2
    · rw [hc x hx q] at h1 ⊢
      have h3 := mt.m x y e w hx h h1 h2
      have h4 := hmono h3.1
      exact ⟨h4.1, by omega⟩
def fnd (c : Nat → Int) (m : Nat → Option Int) (x : Nat) : Int := if 0 ≤ c x then c x else (m x).getD (-1)
def mtL (L a b : Int) : Int := if 0 ≤ a ∧ 0 ≤ b ∧ (L < 0 ∨ a + b < L) then a + b else L
theorem a9E {L a b : Int} (h : 0 ≤ L) : 0 ≤ mtL L a b ∧ mtL L a b ≤ L := by
  unfold mtL; split <;> omega
theorem b1z {L a b : Int} (ha : 0 ≤ a) (hb : 0 ≤ b) : 0 ≤ mtL L a b ∧ mtL L a b ≤ a + b := by
  unfold mtL; split <;> omega
theorem b3O {c : Nat → Int} {m : Nat → Option Int} {e f : Nat → Int} {r : Nat → Nat} {k id : Nat} {todo : List Hop} (d : DI n W A st id todo c m e f r k) {x : Nat} (hx : x < n) (h : 0 ≤ fnd c m x) : ∃ l, Wk A st x l (fnd c m x) := by
  unfold fnd at h ⊢
  by_cases q : 0 ≤ c x
  · rw [if_pos q]; exact (d.fin x hx q).1
  · rw [if_neg q] at h ⊢
    cases hm : m x with
    | none => rw [hm] at h; simp at h
    | some v => exact (d.que x hx v hm).2.2
theorem b4R {c : Nat → Int} {m : Nat → Option Int} {e f : Nat → Int} {r : Nat → Nat} {k id : Nat} (d : DI n W A st id [] c m e f r k) {x : Nat} (hx : x < n) (h : 0 ≤ c x) {y e' : Nat} {w : Int} (hh : (y, e', w) ∈ A x) (hy : y < n) : 0 ≤ fnd c m y ∧ (fnd c m y ≤ c x + w ∨ 0 ≤ c y) := by
  unfold fnd
  rcases d.rel x hx h _ _ _ hh with ⟨_, q⟩ | q | ⟨v, q1, q2⟩
  · simp at q
  · rw [if_pos q]; exact ⟨q, .inr q⟩
  · by_cases q : 0 ≤ c y
    · rw [if_pos q]; exact ⟨q, .inr q⟩
    · rw [if_neg q, q1]
      have := (d.que y hy v q1).2.1
      exact ⟨this, .inl q2⟩
theorem b4v {c : Nat → Int} {m : Nat → Option Int} {e f : Nat → Int} {r : Nat → Nat} {k id : Nat} (d : DI n W A st id [] c m e f r k) {x : Nat} (hx : x < n) (h : 0 ≤ c x) {y e' : Nat} {w : Int} (hh : (y, e', w) ∈ A x) (hy : y < n) : 0 ≤ fnd c m y ∧ fnd c m y ≤ c x + w := by
  obtain ⟨h1, h2⟩ := b4R d hx h hh hy
  refine ⟨h1, h2.elim (fun z => z) fun z => ?_⟩
  obtain ⟨⟨l, hl⟩, _⟩ := d.fin x hx h
  have := (d.fin y hy z).2 _ _ (.snoc hl hh)
  unfold fnd
  rw [if_pos z]; exact this
theorem b4S {c : Nat → Int} {m : Nat → Option Int} {e f : Nat → Int} {r : Nat → Nat} {k id : Nat} {todo : List Hop} (d : DI n W A st id todo c m e f r k) {x : Nat} (hx : x < n) (h : st x) : fnd c m x = 0 := by
  unfold fnd
  rcases d.sta x hx h with q | q
  · have := (d.fin x hx q).2 [] 0 (.nil h)
    rw [if_pos q]; omega
  · have := (d.que x hx 0 q).1
    rw [if_neg (by omega), q]; rfl
theorem b4w {c : Nat → Int} {m : Nat → Option Int} {e f : Nat → Int} {r : Nat → Nat} {k id : Nat} {todo : List Hop} (hW : 0 ≤ W) (d : DI n W A st id todo c m e f r k) {x : Nat} (hx : x < n) : fnd c m x ≤ k * W := by
  have h0 : 0 ≤ (k : Int) * W := Int.mul_nonneg (by omega) hW
  unfold fnd
  by_cases q : 0 ≤ c x
  · rw [if_pos q]; exact d.bnd x hx _ (.inl ⟨q, rfl⟩)
  · rw [if_neg q]
    cases hm : m x with
    | none => simp; omega
    | some v => exact d.bnd x hx v (.inr hm)
end
end Go.Gm

namespace Go.Gm.A9
open Go Go.Gm
def rowL (c : Nat → Int) (S v : Nat) : List Int := (List.range S).map fun s => c (v * S + s)
theorem c9_ (c : Nat → Int) (S v : Nat) : (rowL c S v).length = S := by simp [rowL]
theorem a8Q {c : Nat → Int} {S v s : Nat} (hs : s < S) : gi (rowL c S v) (s : Int) = c (v * S + s) := by
  rw [q8_ (by simpa [rowL] using hs)]
  simp [rowL]
theorem a9F {S v s v' s' : Nat} (h : s < S) (h' : s' < S) (e : v * S + s = v' * S + s') : v = v' ∧ s = s' := by
  have h1 : (v * S + s) / S = v := by rw [Nat.mul_comm, Nat.mul_add_div (by omega), Nat.div_eq_of_lt h, Nat.add_zero]
  have h2 : (v' * S + s') / S = v' := by rw [Nat.mul_comm, Nat.mul_add_div (by omega), Nat.div_eq_of_lt h', Nat.add_zero]
  have : v = v' := by rw [← h1, ← h2, e]
  subst this
  exact ⟨rfl, by omega⟩
theorem b4x {c : Nat → Int} {S V t : Nat} (ht : t < S) (x : Int) (v : Nat) : rowL (up c (V * S + t) x) S v = if v = V then (rowL c S V).set t x else rowL c S v := by
  apply List.ext_getElem
  · split <;> simp [rowL]
  intro s h1 h2
  have hs : s < S := by simpa [rowL] using h1
  by_cases q : v = V
  · subst q
    simp only [if_true, rowL, List.getElem_map, List.getElem_range, List.getElem_set, up]
    by_cases q2 : t = s
    · subst q2; simp
    · rw [if_neg q2, if_neg (fun z => q2 (by omega))]
  · simp only [if_neg q, rowL, List.getElem_map, List.getElem_range, up]
    rw [if_neg fun z => q (a9F hs ht z).1]
theorem Fam.write0 {κ : Type} [DecidableEq κ] {W : Nat → Prop} {h : Heap} {A : κ → Prop} {S : κ → AV} {X : κ → List (List AV)} (f : Fam W h 1 A S X) {t : κ} (ht : A t) {i : Nat} (hi : i < (X t).length) {v : AV} (hv : v.cells.length = 1) (h1 : v.cells.all AV.one = true) :
    ∃ h', stN 1 h (elP 1 (S t) i) v = some h' ∧ Fam W h' 1 A S (fun t' => if t' = t then (X t).set i v.cells else X t') ∧ FrS W h h' := by
  obtain ⟨ob, f1, f2⟩ := f
  obtain ⟨g, g2⟩ := f1 t ht
  have hn : S t ≠ .nils := g.nnil (by intro q; rw [q] at hi; simp at hi)
  obtain ⟨w1, w2⟩ := g2 hn
  obtain ⟨h', k1, k2, k3, k4⟩ := g.write0 (i := (i : Int)) (by omega) (by omega) hv h1
  have fr : FrS (fun o => o = ob t) h h' := k3.s.mono fun o z1 z2 => by omega
  refine ⟨h', k1, ⟨ob, fun t' ht' => ?_, f2⟩, fr.mono fun o _ z => z ▸ w1⟩
  show Gr (ob t') (ob t' + 1) h' 1 (S t') (if t' = t then (X t).set i v.cells else X t') ∧ _
  by_cases q : t' = t
  · subst q
    rw [if_pos rfl]
    refine ⟨k2.cong (by rw [Int.toNat_natCast]), fun z => ⟨w1, by omega⟩⟩
  · rw [if_neg q]
    obtain ⟨g', g2'⟩ := f1 t' ht'
    by_cases z : S t' = .nils
    · refine ⟨?_, fun q => absurd z q⟩
      have hx : X t' = [] := by rw [z] at g'; exact g'.isNil
      rw [hx, z]; exact Gr.nil ..
    · refine ⟨g'.frs fr fun o q1 q2 q3 => f2 t' t ht' ht q z hn (by omega), fun q => ⟨(g2' q).1, by have := (g2' q).2; omega⟩⟩
structure MatW (W : Nat → Prop) (oc : Nat) (c7 : AV) (N S : Nat) (rows : List AV) (c : Nat → Int) (h : Heap) : Prop where
  gc : Sl h 1 c7 (rows.map fun s => [s])
  oc : ∀ h', FrS W h h' → Sl h' 1 c7 (rows.map fun s => [s])
  lr : rows.length = N
  f : Fam W h 1 (fun v : Nat => v < N) (fun v : Nat => gi rows (v : Int)) (fun v => (rowL c S v).map encI)
theorem MatW.row {W : Nat → Prop} {oc : Nat} {c7 : AV} {N S : Nat} {rows : List AV} {c : Nat → Int} {h : Heap} (w : MatW W oc c7 N S rows c h) {v : Nat} (hv : v < N) : Sl h 1 (gi rows (v : Int)) ((rowL c S v).map encI) := w.f.sl hv
theorem MatW.set {W : Nat → Prop} {oc : Nat} {c7 : AV} {N S : Nat} {rows : List AV} {c : Nat → Int} {h : Heap} (w : MatW W oc c7 N S rows c h) {v s : Nat} (hv : v < N) (hs : s < S) (x : Int) :
    ∃ h', stN 1 h (elP 1 (gi rows (v : Int)) s) (I x) = some h' ∧ MatW W oc c7 N S rows (up c (v * S + s) x) h' ∧ FrS W h h' := by
  obtain ⟨h', k1, k2, k3⟩ := Fam.write0 w.f (t := v) hv (i := s) (by rw [List.length_map, c9_]; exact hs) (v := I x) rfl rfl
  refine ⟨h', k1, ⟨w.oc h' k3, fun h2 f2 => w.oc h2 (k3.trans f2), w.lr, k2.congr fun t ht => ⟨rfl, ?_⟩⟩, k3⟩
  show (rowL (up c (v * S + s) x) S t).map encI = if t = v then _ else _
  rw [b4x hs]
  by_cases q : t = v
  · rw [if_pos q, if_pos q, List.map_set]; rfl
  · rw [if_neg q, if_neg q]
theorem MatW.ext {W : Nat → Prop} {oc : Nat} {c7 : AV} {N S : Nat} {rows : List AV} {c : Nat → Int} {h h' : Heap} (w : MatW W oc c7 N S rows c h) (e : Ext h h') : MatW W oc c7 N S rows c h' :=
  ⟨w.oc h' (FrS.ofExt e), fun h2 f2 => w.oc h2 ((FrS.ofExt e).trans f2), w.lr, w.f.frs (D := fun _ => False) (FrS.ofExt e) fun _ _ _ z => z⟩
section
variable {h0 : Heap} {N : Nat} {es : List E} {D : List (List Int)} {acc : List Bool}
abbrev eg (es : List E) (i : Nat) : E := gi es (i : Int)
def src (es : List E) (S i s : Nat) : Nat := (eg es i).fr.toNat * S + s
def dst (es : List E) (D : List (List Int)) (i s : Nat) : Nat := (eg es i).to.toNat * D.length + (nx D s (eg es i).md).toNat
def Rx (es : List E) (D : List (List Int)) (c : Nat → Int) (i s : Nat) : Prop := 0 ≤ c (src es D.length i s) → 0 ≤ c (dst es D i s) ∧ c (dst es D i s) ≤ c (src es D.length i s) + (eg es i).co
def SatUp (es : List E) (D : List (List Int)) (c : Nat → Int) (i s : Nat) : Prop := (∀ i' s', i' < i → s' < D.length → Rx es D c i' s') ∧ ∀ s', s' < s → Rx es D c i s'
structure PI (es : List E) (D : List (List Int)) (N : Nat) (st : Nat → Prop) (b : Bool) (c0 c : Nat → Int) (i s : Nat) : Prop where
  r : RI (N * D.length) 2147483647 (hopA es D.length (onL es D)) st c
  p : (b = false ∧ c = c0 ∧ SatUp es D c i s) ∨ (b = true ∧ mu (N * D.length) 2147483647 c < mu (N * D.length) 2147483647 c0)
theorem b0t (ok : DOk D acc) (no : NetOk N es) {i s : Nat} (hi : i < es.length) (hs : s < D.length) : (dst es D i s, i, (eg es i).co) ∈ hopA es D.length (onL es D) (src es D.length i s) := by
  have he : 0 ≤ (eg es i).fr ∧ (eg es i).fr < N ∧ 0 ≤ (eg es i).to ∧ (eg es i).to < N ∧ 0 ≤ (eg es i).md ∧ (eg es i).md < 5 := no.edge _ (b4_ (xs := es) (i := (i : Int)) (by omega) (by omega))
  have ht : 0 ≤ nx D s (eg es i).md ∧ nx D s (eg es i).md < D.length := ok.to s (eg es i).md (by omega) (by omega) he.2.2.2.2.1 he.2.2.2.2.2
  have hsp := a9F (S := D.length) (v := (eg es i).fr.toNat) (s := s) (v' := src es D.length i s / D.length) (s' := src es D.length i s % D.length) hs (Nat.mod_lt _ (by omega)) (by
    rw [Nat.mul_comm (src es D.length i s / D.length), Nat.div_add_mod]; rfl)
  refine List.mem_map.2 ⟨((eg es i).to, nx D s (eg es i).md, (i : Int)), List.mem_map.2 ⟨(i : Int), ?_, ?_⟩, ?_⟩
  · refine i0_.2 ⟨by omega, by omega, ?_⟩
    rw [← hsp.1]
    simp only [beq_iff_eq]
    show (eg es i).fr = _
    omega
  · rw [← hsp.2]
  · simp only [hopOf, dst]
    congr 1
    have h1 : (eg es i).to = ((eg es i).to.toNat : Int) := by omega
    have h2 : nx D s (eg es i).md = ((nx D s (eg es i).md).toNat : Int) := by omega
    generalize (eg es i).to.toNat = a at h1
    generalize (nx D s (eg es i).md).toNat = b at h2
    rw [h1, h2, ← Int.natCast_mul, ← Int.natCast_add, Int.toNat_natCast]
theorem b0u (ok : DOk D acc) (no : NetOk N es) {x y e : Nat} {w : Int} (hx : x < N * D.length) (h : (y, e, w) ∈ hopA es D.length (onL es D) x) : ∃ i s, i < es.length ∧ s < D.length ∧ x = src es D.length i s ∧ y = dst es D i s ∧ w = (eg es i).co := by
  obtain ⟨q1, q2⟩ := dm hx
  obtain ⟨t, ht, h1⟩ := List.mem_map.1 h
  obtain ⟨k, hk, rfl⟩ := List.mem_map.1 ht
  obtain ⟨k0, k1, k2⟩ := i0_.1 hk
  obtain ⟨i, rfl⟩ : ∃ i : Nat, k = i := ⟨k.toNat, by omega⟩
  simp only [beq_iff_eq] at k2
  have he : 0 ≤ (eg es i).fr ∧ (eg es i).fr < N ∧ 0 ≤ (eg es i).to ∧ (eg es i).to < N ∧ 0 ≤ (eg es i).md ∧ (eg es i).md < 5 := no.edge _ (b4_ (xs := es) (i := (i : Int)) (by omega) (by omega))
  have htt : 0 ≤ nx D ((x % D.length : Nat) : Int) (eg es i).md ∧ nx D ((x % D.length : Nat) : Int) (eg es i).md < D.length := ok.to _ (eg es i).md (Int.natCast_nonneg _) (Int.ofNat_lt.2 q2) he.2.2.2.2.1 he.2.2.2.2.2
  refine ⟨i, x % D.length, by omega, q2, ?_, ?_⟩
  · have : (eg es i).fr.toNat = x / D.length := by
      show (gi es (i : Int)).fr.toNat = _
      rw [k2, Int.toNat_natCast]
    rw [src, this, Nat.mul_comm, Nat.div_add_mod]
  · simp only [hopOf] at h1
    cases h1
    refine ⟨?_, rfl⟩
    rw [dst]
    have h1 : (eg es i).to = ((eg es i).to.toNat : Int) := by omega
    have h2 : nx D ((x % D.length : Nat) : Int) (eg es i).md = ((nx D ((x % D.length : Nat) : Int) (eg es i).md).toNat : Int) := by omega
    generalize (eg es i).to.toNat = a at h1
    generalize (nx D ((x % D.length : Nat) : Int) (eg es i).md).toNat = b at h2
    show ((eg es i).to * (D.length : Int) + nx D ((x % D.length : Nat) : Int) (eg es i).md).toNat = _
    rw [h1, h2, ← Int.natCast_mul, ← Int.natCast_add, Int.toNat_natCast]
theorem PI.done {st : Nat → Prop} {b : Bool} {c0 c : Nat → Int} (ok : DOk D acc) (no : NetOk N es) (co : COk es) (hg : GOk (N * D.length) 2147483647 (hopA es D.length (onL es D))) (hst : ∀ x, st x → x < N * D.length) (p : PI es D N st false c0 c es.length 0) : LC (N * D.length) (hopA es D.length (onL es D)) st c := by
  obtain ⟨_, _, hs, _⟩ := p.p.resolve_right (by simp)
  refine p.r.lst hg hst fun x hx h0 y e w hm => ?_
  obtain ⟨i, s, i1, s1, rfl, rfl, rfl⟩ := b0u ok no hx hm
  exact hs i s i1 s1 h0
theorem PI.keep {st : Nat → Prop} {b : Bool} {c0 c : Nat → Int} {i s : Nat} (p : PI es D N st b c0 c i s) (h : Rx es D c i s) : PI es D N st b c0 c i (s + 1) := by
  refine ⟨p.r, p.p.imp (fun ⟨z1, z2, z3, z4⟩ => ⟨z1, z2, z3, fun s' hs' => ?_⟩) fun z => z⟩
  by_cases q : s' = s
  · subst q; exact h
  · exact z4 s' (by omega)
theorem PI.next {st : Nat → Prop} {b : Bool} {c0 c : Nat → Int} {i : Nat} (p : PI es D N st b c0 c i D.length) : PI es D N st b c0 c (i + 1) 0 := by
  refine ⟨p.r, p.p.imp (fun ⟨z1, z2, z3, z4⟩ => ⟨z1, z2, fun i' s' hi hs => ?_, fun s' hs => by omega⟩) fun z => z⟩
  by_cases q : i' = i
  · subst q; exact z4 s' hs
  · exact z3 i' s' (by omega) hs
theorem PI.relax {st : Nat → Prop} {b : Bool} {c0 c : Nat → Int} {i s : Nat} (ok : DOk D acc) (no : NetOk N es) (hg : GOk (N * D.length) 2147483647 (hopA es D.length (onL es D))) (hst : ∀ x, st x → x < N * D.length) (hi : i < es.length) (hs : s < D.length) (hx : src es D.length i s < N * D.length) (p : PI es D N st b c0 c i s)
    (h0 : 0 ≤ c (src es D.length i s)) (hr : c (dst es D i s) < 0 ∨ c (src es D.length i s) + (eg es i).co < c (dst es D i s)) : PI es D N st true c0 (up c (dst es D i s) (c (src es D.length i s) + (eg es i).co)) i (s + 1) := by
  obtain ⟨r1, r2⟩ := p.r.relax hg hst hx (b0t ok no hi hs) h0 hr
  refine ⟨r1, .inr ⟨rfl, ?_⟩⟩
  rcases p.p with ⟨_, rfl, _⟩ | ⟨_, z⟩
  · exact r2
  · omega
end
end Go.Gm.A9

namespace Go.Gm.A9
open Go Go.Gm
section
variable {N : Nat} {es : List E} {D : List (List Int)} {acc : List Bool}
theorem b3P {W : Nat → Prop} {hb : Heap} {o3 o4 oe hcl i : Nat} {sE sD sA c7 : AV} {rows : List AV} {st : Nat → Prop} {c0 : Nat → Int} {Q : AV → Heap → Prop}
    (ok : DOk D acc) (no : NetOk N es) (co : COk es) (hn2 : N * D.length ≤ 1000000) (hg : GOk (N * D.length) 2147483647 (hopA es D.length (onL es D))) (hst : ∀ x, st x → x < N * D.length)
    (hW : ∀ o, W o → hb.length ≤ o ∧ o < hcl) (hD : Sl hb 5 sD (D.map encR)) (r4 : hb[o4]? = some (.cells ⟨[sD, sA], 0, 0, false⟩)) (hi : i < es.length) (hoe : hcl ≤ oe) (hbe : hb.length ≤ hcl)
    (hQ : ∀ h b c, Ext hb h → hcl ≤ h.length → MatW W 0 c7 N D.length rows c h → PI es D N st b c0 c i D.length → WP (fun p : (Nat × Nat) × Nat => s8_ tab p.1.1 p.1.2 p.2 (.ptr o3 0 2 0) (.ptr o4 0 2 0) c7 (.bool b) (I i) h) Q) :
    ∀ (d s : Nat) (h : Heap) (b : Bool) (c : Nat → Int), s + d = D.length → Ext hb h → hcl ≤ h.length → MatW W 0 c7 N D.length rows c h → h[oe]? = some (.cells ⟨encE (eg es i), 0, 0, false⟩) → PI es D N st b c0 c i s →
      WP (fun p : ((Nat × Nat) × Nat) × Nat => g0_ tab p.1.1.1 p.1.1.2 p.1.2 p.2 (.ptr o3 0 2 0) (.ptr o4 0 2 0) c7 (.bool b) (I i) (.ptr oe 0 4 0) (I s) h) Q := by
  intro d
  induction d with
  | zero =>
    intro s h b c h1 e hl w re p
    refine WP.rnd (fun i' j => z6_ tab i'.1.1 i'.1.2 i'.2 j (.ptr o3 0 2 0) (.ptr o4 0 2 0) c7 (.bool b) (I i) (.ptr oe 0 4 0) (I s) h) ?_
    obtain rfl : s = D.length := by omega
    have r4' := e.get r4
    simp -implicitDefEqProofs (maxSteps := 1000000) (disch := first | assumption | omega | (simp only [gL] <;> omega) | ((repeat (first | exact Ext.refl _ | assumption | apply Ext.app | apply Ext.mk | (refine Ext.setr ?_ (by (first | omega | (simp only [gL] <;> omega))) _))); done) | (simp only [gL, gA, r4', hD.lenG] <;> omega) | fail) only [gB, setAll, partL, fldV, reduceIte, Nat.reduceAdd, Nat.reduceMul, r4', hD.lenG]
    exact WP.lv (hQ h b c e hl w p) fun i j => rfl
  | succ d ih =>
    intro s h b c h1 e hl w re p
    refine WP.rnd (fun i' j => z6_ tab i'.1.1 i'.1.2 i'.2 j (.ptr o3 0 2 0) (.ptr o4 0 2 0) c7 (.bool b) (I i) (.ptr oe 0 4 0) (I s) h) ?_
    have hs : s < D.length := by omega
    have r4' := e.get r4
    have he : 0 ≤ (eg es i).fr ∧ (eg es i).fr < N ∧ 0 ≤ (eg es i).to ∧ (eg es i).to < N ∧ 0 ≤ (eg es i).md ∧ (eg es i).md < 5 := no.edge _ (b4_ (xs := es) (i := (i : Int)) (by omega) (by omega))
    have ht : 0 ≤ nx D s (eg es i).md ∧ nx D s (eg es i).md < D.length := ok.to s (eg es i).md (by omega) (by omega) he.2.2.2.2.1 he.2.2.2.2.2
    have hco : 0 ≤ (eg es i).co ∧ (eg es i).co ≤ 2147483647 := co.c _ (b4_ (xs := es) (i := (i : Int)) (by omega) (by omega))
    obtain ⟨pp, p1, p2, -⟩ := cellA (H := h) hD e (i := (s : Int)) (j := (eg es i).md) (by omega) (by omega) he.2.2.2.2.1 he.2.2.2.2.2
    rw [show (encR (gi D s)).getD (eg es i).md.toNat .undef = I (nx D s (eg es i).md) by
      have hr := ok.row s (by omega) (by omega)
      simp only [encR, nx, List.getD_eq_getElem?_getD, List.getElem?_map]
      have := d5_ (xs := gi D s) he.2.2.2.2.1 (by omega)
      rw [this]; rfl] at p2
    have hx1 : src es D.length i s = (eg es i).fr.toNat * D.length + s := rfl
    have hx2 : dst es D i s = (eg es i).to.toNat * D.length + (nx D s (eg es i).md).toNat := rfl
    have hsn : src es D.length i s < N * D.length := by rw [hx1]; exact spotN (by omega) hs
    have hdn : dst es D i s < N * D.length := by rw [hx2]; exact spotN (by omega) (by omega)
    have hW0 : (0 : Int) ≤ 2147483647 := by omega
    have bs := p.r.le hW0 hsn
    have bd := p.r.le hW0 hdn
    have hnn : ((N * D.length : Nat) : Int) * 2147483647 ≤ 1000000 * 2147483647 := by omega
    have kp := p.keep
    have rl := p.relax ok no hg hst hi hs hsn
    simp only [Rx] at kp
    rw [hx1, hx2] at kp rl
    rw [hx1] at bs
    rw [hx2] at bd
    obtain ⟨f, hf⟩ : ∃ f : Nat, (eg es i).fr = f := ⟨(eg es i).fr.toNat, by omega⟩
    obtain ⟨t, hto⟩ : ∃ t : Nat, (eg es i).to = t := ⟨(eg es i).to.toNat, by omega⟩
    obtain ⟨u, hu⟩ : ∃ u : Nat, nx D s (eg es i).md = u := ⟨(nx D s (eg es i).md).toNat, by omega⟩
    obtain ⟨m, hm⟩ : ∃ m : Int, (eg es i).md = m := ⟨_, rfl⟩
    obtain ⟨y, hy⟩ : ∃ y : Int, (eg es i).co = y := ⟨_, rfl⟩
    have ncf : ((f : Nat) : Int).toNat = f := Int.toNat_natCast f
    have nct : ((t : Nat) : Int).toNat = t := Int.toNat_natCast t
    have ncu : ((u : Nat) : Int).toNat = u := Int.toNat_natCast u
    rw [hu] at p2
    rw [hm] at p1
    simp only [hf, hto, hu, hy, ncf, nct, ncu] at kp rl bs bd hco
    simp only [encE, hf, hto, hm, hy] at re
    have hfN : f < N := by omega
    have htN : t < N := by omega
    have huS : u < D.length := by omega
    have lr := w.lr
    have rf := w.row hfN
    have rt := w.row htN
    have gf1 := a8Q (c := c) (v := f) hs
    have gt1 := a8Q (c := c) (v := t) huS
    obtain ⟨x1, hx1'⟩ : ∃ x1, c (f * D.length + s) = x1 := ⟨_, rfl⟩
    obtain ⟨x2, hx2'⟩ : ∃ x2, c (t * D.length + u) = x2 := ⟨_, rfl⟩
    simp only [hx1', hx2'] at kp rl bs bd gf1 gt1
    by_cases c1 : 0 ≤ x1
    · by_cases c2 : x2 < 0
      · obtain ⟨h', s1, w1, f1⟩ := w.set htN huS (x1 + y)
        simp -implicitDefEqProofs (maxSteps := 1000000) (disch := first | assumption | omega | (simp only [gL] <;> omega) | ((repeat (first | exact Ext.refl _ | assumption | apply Ext.app | apply Ext.mk | (refine Ext.setr ?_ (by (first | omega | (simp only [gL] <;> omega))) _))); done) | (simp only [gL, gA, r4', hD.lenG, hD.idxG, re, p1, p2, w.gc.idxG, w.gc.ld0, lr, rf.idxG, rf.ld0, rt.idxG, rt.ld0, c9_, encI, gf1, gt1, s1] <;> omega) | fail) only [gB, setAll, partL, fldV, reduceIte, Nat.reduceAdd, Nat.reduceMul, r4', hD.lenG, hD.idxG, re, p1, p2, w.gc.idxG, w.gc.ld0, lr, rf.idxG, rf.ld0, rt.idxG, rt.ld0, c9_, encI, gf1, gt1, s1]
        have e1 : Ext hb h' := f1.ext e fun o z1 z2 => by have := hW o z2; omega
        have hl1 := f1.len
        refine ih (s + 1) h' true _ (by omega) e1 (by omega) w1 ?_ (rl c1 (.inl c2))
        rw [f1.get (fun z => by have := hW _ z; omega) (List.getElem?_eq_some_iff.1 re).1, re]
        simp only [encE, hf, hto, hm, hy]
      · by_cases c3 : x1 + y < x2
        · obtain ⟨h', s1, w1, f1⟩ := w.set htN huS (x1 + y)
          simp -implicitDefEqProofs (maxSteps := 1000000) (disch := first | assumption | omega | (simp only [gL] <;> omega) | ((repeat (first | exact Ext.refl _ | assumption | apply Ext.app | apply Ext.mk | (refine Ext.setr ?_ (by (first | omega | (simp only [gL] <;> omega))) _))); done) | (simp only [gL, gA, r4', hD.lenG, hD.idxG, re, p1, p2, w.gc.idxG, w.gc.ld0, lr, rf.idxG, rf.ld0, rt.idxG, rt.ld0, c9_, encI, gf1, gt1, s1] <;> omega) | fail) only [gB, setAll, partL, fldV, reduceIte, Nat.reduceAdd, Nat.reduceMul, r4', hD.lenG, hD.idxG, re, p1, p2, w.gc.idxG, w.gc.ld0, lr, rf.idxG, rf.ld0, rt.idxG, rt.ld0, c9_, encI, gf1, gt1, s1]
          have e1 : Ext hb h' := f1.ext e fun o z1 z2 => by have := hW o z2; omega
          have hl1 := f1.len
          refine ih (s + 1) h' true _ (by omega) e1 (by omega) w1 ?_ (rl c1 (.inr c3))
          rw [f1.get (fun z => by have := hW _ z; omega) (List.getElem?_eq_some_iff.1 re).1, re]
          simp only [encE, hf, hto, hm, hy]
        · simp -implicitDefEqProofs (maxSteps := 1000000) (disch := first | assumption | omega | (simp only [gL] <;> omega) | ((repeat (first | exact Ext.refl _ | assumption | apply Ext.app | apply Ext.mk | (refine Ext.setr ?_ (by (first | omega | (simp only [gL] <;> omega))) _))); done) | (simp only [gL, gA, r4', hD.lenG, hD.idxG, re, p1, p2, w.gc.idxG, w.gc.ld0, lr, rf.idxG, rf.ld0, rt.idxG, rt.ld0, c9_, encI, gf1, gt1] <;> omega) | fail) only [gB, setAll, partL, fldV, reduceIte, Nat.reduceAdd, Nat.reduceMul, r4', hD.lenG, hD.idxG, re, p1, p2, w.gc.idxG, w.gc.ld0, lr, rf.idxG, rf.ld0, rt.idxG, rt.ld0, c9_, encI, gf1, gt1]
          refine ih (s + 1) h b c (by omega) e hl w ?_ (kp fun _ => ⟨by omega, by omega⟩)
          simp only [encE, hf, hto, hm, hy]; exact re
    · simp -implicitDefEqProofs (maxSteps := 1000000) (disch := first | assumption | omega | (simp only [gL] <;> omega) | ((repeat (first | exact Ext.refl _ | assumption | apply Ext.app | apply Ext.mk | (refine Ext.setr ?_ (by (first | omega | (simp only [gL] <;> omega))) _))); done) | (simp only [gL, gA, r4', hD.lenG, hD.idxG, re, p1, p2, w.gc.idxG, w.gc.ld0, lr, rf.idxG, rf.ld0, rt.idxG, rt.ld0, c9_, encI, gf1, gt1] <;> omega) | fail) only [gB, setAll, partL, fldV, reduceIte, Nat.reduceAdd, Nat.reduceMul, r4', hD.lenG, hD.idxG, re, p1, p2, w.gc.idxG, w.gc.ld0, lr, rf.idxG, rf.ld0, rt.idxG, rt.ld0, c9_, encI, gf1, gt1]
      refine ih (s + 1) h b c (by omega) e hl w ?_ (kp fun z => absurd z c1)
      simp only [encE, hf, hto, hm, hy]; exact re
end
end Go.Gm.A9

namespace Go.Gm.A9
open Go Go.Gm
section
variable {N : Nat} {es : List E} {D : List (List Int)} {acc : List Bool}
theorem b1A {W : Nat → Prop} {hb : Heap} {o3 o4 hcl : Nat} {sE sD sA c7 : AV} {rows : List AV} {st : Nat → Prop} {c0 : Nat → Int} {Q : AV → Heap → Prop}
    (ok : DOk D acc) (no : NetOk N es) (co : COk es) (hn2 : N * D.length ≤ 1000000) (hg : GOk (N * D.length) 2147483647 (hopA es D.length (onL es D))) (hst : ∀ x, st x → x < N * D.length)
    (hW : ∀ o, W o → hb.length ≤ o ∧ o < hcl) (hE : Sl hb 4 sE (es.map encE)) (hD : Sl hb 5 sD (D.map encR)) (r3 : hb[o3]? = some (.cells ⟨[I N, sE], 0, 0, false⟩)) (r4 : hb[o4]? = some (.cells ⟨[sD, sA], 0, 0, false⟩)) (hbe : hb.length ≤ hcl)
    (hQ : ∀ h b c, Ext hb h → hcl ≤ h.length → MatW W 0 c7 N D.length rows c h → PI es D N st b c0 c es.length 0 → WP (fun p : Nat × Nat => f9_ tab p.1 p.2 (.ptr o3 0 2 0) (.ptr o4 0 2 0) c7 (.bool b) h) Q) :
    ∀ (d i : Nat) (h : Heap) (b : Bool) (c : Nat → Int), i + d = es.length → Ext hb h → hcl ≤ h.length → MatW W 0 c7 N D.length rows c h → PI es D N st b c0 c i 0 →
      WP (fun p : (Nat × Nat) × Nat => m0_ tab p.1.1 p.1.2 p.2 (.ptr o3 0 2 0) (.ptr o4 0 2 0) c7 (.bool b) (I i) h) Q := by
  have hle := no.len
  intro d
  induction d with
  | zero =>
    intro i h b c h1 e hl w p
    refine WP.rnd (fun i' j => z7_ tab i'.1 i'.2 j (.ptr o3 0 2 0) (.ptr o4 0 2 0) c7 (.bool b) (I i) h) ?_
    obtain rfl : i = es.length := by omega
    have r3' := e.get r3
    simp -implicitDefEqProofs (maxSteps := 1000000) (disch := first | assumption | omega | (simp only [gL] <;> omega) | ((repeat (first | exact Ext.refl _ | assumption | apply Ext.app | apply Ext.mk | (refine Ext.setr ?_ (by (first | omega | (simp only [gL] <;> omega))) _))); done) | (simp only [gL, gA, r3', hE.lenG] <;> omega) | fail) only [gB, setAll, partL, fldV, reduceIte, Nat.reduceAdd, Nat.reduceMul, r3', hE.lenG]
    exact WP.lv (hQ h b c e hl w p) fun i j => rfl
  | succ d ih =>
    intro i h b c h1 e hl w p
    refine WP.rnd (fun i' j => z7_ tab i'.1 i'.2 j (.ptr o3 0 2 0) (.ptr o4 0 2 0) c7 (.bool b) (I i) h) ?_
    have r3' := e.get r3
    obtain ⟨ed, hed⟩ : ∃ ed, gi es (i : Int) = ed := ⟨_, rfl⟩
    simp -implicitDefEqProofs (maxSteps := 1000000) (disch := first | assumption | omega | (simp only [gL] <;> omega) | ((repeat (first | exact Ext.refl _ | assumption | apply Ext.app | apply Ext.mk | (refine Ext.setr ?_ (by (first | omega | (simp only [gL] <;> omega))) _))); done) | (simp only [gL, gA, r3', hE.lenG, hE.idxG, hE.ldN, hed, encE] <;> omega) | fail) only [gB, setAll, partL, fldV, reduceIte, Nat.reduceAdd, Nat.reduceMul, r3', hE.lenG, hE.idxG, hE.ldN, hed, encE]
    obtain ⟨h2, hh2⟩ : ∃ h2, h2 = ((h ++ [AObj.cells ⟨[AV.int .i64 0, AV.int .i64 0, AV.int .i64 0, AV.int .i64 0], 0, 0, false⟩]).set h.length (.cells ⟨[I ed.fr, I ed.to, I ed.md, I ed.co], 0, 0, false⟩)) := ⟨_, rfl⟩
    have e2 : Ext h h2 := by rw [hh2]; ((repeat (first | exact Ext.refl _ | assumption | apply Ext.app | apply Ext.mk | (refine Ext.setr ?_ (by (first | omega | (simp only [gL] <;> omega))) _))))
    have r2 : h2[h.length]? = some (.cells ⟨[I ed.fr, I ed.to, I ed.md, I ed.co], 0, 0, false⟩) := by rw [hh2]; exact a3_ (by simp)
    rw [← hh2]
    have hl2 := e2.len
    refine WP.ent (b3P (sE := sE) (c0 := c0) (N := N) (acc := acc) (st := st) (rows := rows) ok no co hn2 hg hst hW hD r4 (i := i) (by omega) (oe := h.length) hl hbe (fun h3 b3 c3 e3 hl3 w3 p3 => ?_) D.length 0 h2 b c (by omega) (e.trans e2) (by omega) (w.ext e2) ?_ p) fun i => rfl
    · refine WP.congr (fun p => a3G tab p.1.1 p.1.2 p.2 (.ptr o3 0 2 0) (.ptr o4 0 2 0) c7 (.bool b3) (I i) h3) ?_
      simp -implicitDefEqProofs (maxSteps := 1000000) (disch := first | assumption | omega | (simp only [gL] <;> omega) | ((repeat (first | exact Ext.refl _ | assumption | apply Ext.app | apply Ext.mk | (refine Ext.setr ?_ (by (first | omega | (simp only [gL] <;> omega))) _))); done) | (simp only [gL, gA] <;> omega) | fail) only [gB, setAll, partL, fldV, reduceIte, Nat.reduceAdd, Nat.reduceMul]
      exact ih (i + 1) h3 b3 c3 (by omega) e3 hl3 w3 p3.next
    · show h2[h.length]? = some (.cells ⟨encE (gi es (i : Int)), 0, 0, false⟩)
      rw [hed]; exact r2
theorem b3Q {W : Nat → Prop} {hb : Heap} {o3 o4 hcl : Nat} {sE sD sA c7 : AV} {rows : List AV} {st : Nat → Prop} {Q : AV → Heap → Prop}
    (ok : DOk D acc) (no : NetOk N es) (co : COk es) (hn2 : N * D.length ≤ 1000000) (hg : GOk (N * D.length) 2147483647 (hopA es D.length (onL es D))) (hst : ∀ x, st x → x < N * D.length)
    (hW : ∀ o, W o → hb.length ≤ o ∧ o < hcl) (hE : Sl hb 4 sE (es.map encE)) (hD : Sl hb 5 sD (D.map encR)) (r3 : hb[o3]? = some (.cells ⟨[I N, sE], 0, 0, false⟩)) (r4 : hb[o4]? = some (.cells ⟨[sD, sA], 0, 0, false⟩)) (hbe : hb.length ≤ hcl)
    (hQ : ∀ h c, Ext hb h → MatW W 0 c7 N D.length rows c h → LC (N * D.length) (hopA es D.length (onL es D)) st c → Q c7 h) :
    ∀ (d : Nat) (h : Heap) (c : Nat → Int), mu (N * D.length) 2147483647 c ≤ d → Ext hb h → hcl ≤ h.length → MatW W 0 c7 N D.length rows c h → RI (N * D.length) 2147483647 (hopA es D.length (onL es D)) st c →
      WP (fun p : Nat × Nat => f9_ tab p.1 p.2 (.ptr o3 0 2 0) (.ptr o4 0 2 0) c7 (.bool true) h) Q := by
  intro d
  induction d with
  | zero =>
    intro h c hm e hl w r
    refine WP.rnd (fun i j => i5_ tab i j (.ptr o3 0 2 0) (.ptr o4 0 2 0) c7 (.bool true) h) ?_
    simp -implicitDefEqProofs (maxSteps := 1000000) (disch := first | assumption | omega | (simp only [gL] <;> omega) | ((repeat (first | exact Ext.refl _ | assumption | apply Ext.app | apply Ext.mk | (refine Ext.setr ?_ (by (first | omega | (simp only [gL] <;> omega))) _))); done) | (simp only [gL, gA] <;> omega) | fail) only [gB, setAll, partL, fldV, reduceIte, Nat.reduceAdd, Nat.reduceMul]
    refine WP.ent (b1A (c0 := c) (st := st) (N := N) (acc := acc) (rows := rows) ok no co hn2 hg hst hW hE hD r3 r4 hbe (fun h3 b3 c3 e3 hl3 w3 p3 => ?_) es.length 0 h false c (by omega) e hl w ⟨r, .inl ⟨rfl, rfl, fun i' s' hi _ => by omega, fun s' hs => by omega⟩⟩) fun i => rfl
    cases b3 with
    | false =>
      refine WP.rnd (fun i j => i5_ tab i j (.ptr o3 0 2 0) (.ptr o4 0 2 0) c7 (.bool false) h3) ?_
      simp -implicitDefEqProofs (maxSteps := 1000000) (disch := first | assumption | omega | (simp only [gL] <;> omega) | ((repeat (first | exact Ext.refl _ | assumption | apply Ext.app | apply Ext.mk | (refine Ext.setr ?_ (by (first | omega | (simp only [gL] <;> omega))) _))); done) | (simp only [gL, gA] <;> omega) | fail) only [gB, setAll, partL, fldV, reduceIte, Nat.reduceAdd, Nat.reduceMul]
      exact WP.ret (hQ h3 c3 e3 w3 (p3.done (b := false) ok no co hg hst))
    | true =>
      have := b0O (n := N * D.length) (W := 2147483647) (by omega) c3
      rcases p3.p with ⟨z, _⟩ | ⟨_, z⟩
      · cases z
      · omega
  | succ d ih =>
    intro h c hm e hl w r
    refine WP.rnd (fun i j => i5_ tab i j (.ptr o3 0 2 0) (.ptr o4 0 2 0) c7 (.bool true) h) ?_
    simp -implicitDefEqProofs (maxSteps := 1000000) (disch := first | assumption | omega | (simp only [gL] <;> omega) | ((repeat (first | exact Ext.refl _ | assumption | apply Ext.app | apply Ext.mk | (refine Ext.setr ?_ (by (first | omega | (simp only [gL] <;> omega))) _))); done) | (simp only [gL, gA] <;> omega) | fail) only [gB, setAll, partL, fldV, reduceIte, Nat.reduceAdd, Nat.reduceMul]
    refine WP.ent (b1A (c0 := c) (st := st) (N := N) (acc := acc) (rows := rows) ok no co hn2 hg hst hW hE hD r3 r4 hbe (fun h3 b3 c3 e3 hl3 w3 p3 => ?_) es.length 0 h false c (by omega) e hl w ⟨r, .inl ⟨rfl, rfl, fun i' s' hi _ => by omega, fun s' hs => by omega⟩⟩) fun i => rfl
    cases b3 with
    | false =>
      refine WP.rnd (fun i j => i5_ tab i j (.ptr o3 0 2 0) (.ptr o4 0 2 0) c7 (.bool false) h3) ?_
      simp -implicitDefEqProofs (maxSteps := 1000000) (disch := first | assumption | omega | (simp only [gL] <;> omega) | ((repeat (first | exact Ext.refl _ | assumption | apply Ext.app | apply Ext.mk | (refine Ext.setr ?_ (by (first | omega | (simp only [gL] <;> omega))) _))); done) | (simp only [gL, gA] <;> omega) | fail) only [gB, setAll, partL, fldV, reduceIte, Nat.reduceAdd, Nat.reduceMul]
      exact WP.ret (hQ h3 c3 e3 w3 (p3.done (b := false) ok no co hg hst))
    | true =>
      rcases p3.p with ⟨z, _⟩ | ⟨_, z⟩
      · cases z
      · exact ih h3 c3 (by omega) e3 hl3 w3 p3.r
end
end Go.Gm.A9

namespace Go.Gm.A9
open Go Go.Gm
def BW (oc : Nat) (c7 : AV) (N : Nat) (k : Nat → Nat) (h : Heap) : Prop :=
  ∃ rows : List AV, Gr oc (oc + 1) h 1 c7 (rows.map fun s => [s]) ∧ rows.length = N ∧ Fam (fun o => oc < o) h 1 (fun v : Nat => v < N) (fun v : Nat => gi rows (v : Int)) (fun v => (List.replicate (k v) (-1 : Int)).map encI)
theorem BW.ext {oc : Nat} {c7 : AV} {N : Nat} {k : Nat → Nat} {h h' : Heap} (b : BW oc c7 N k h) (e : Ext h h') : BW oc c7 N k h' := by
  obtain ⟨rows, g, l, f⟩ := b
  exact ⟨rows, g.ext e, l, f.frs (D := fun _ => False) (FrS.ofExt e) fun _ _ _ z => z⟩
theorem BW.congr {oc : Nat} {c7 : AV} {N : Nat} {k k' : Nat → Nat} {h : Heap} (b : BW oc c7 N k h) (e : ∀ v, v < N → k' v = k v) : BW oc c7 N k' h := by
  obtain ⟨rows, g, l, f⟩ := b
  exact ⟨rows, g, l, f.congr fun v hv => ⟨rfl, by rw [e v hv]⟩⟩
theorem BW.step {oc : Nat} {c7 : AV} {N : Nat} {k : Nat → Nat} {h : Heap} (b : BW oc c7 N k h) {v : Nat} (hv : v < N) (hk : k v ≤ 100000) (hoc : oc < h.length) :
    ∃ s1 s2 h2 h3, idxS 1 c7 (I v) = some (elP 1 c7 v) ∧ ld1 h (elP 1 c7 v) = some s1 ∧ apnd 1 8 s1 (.sl h.length 0 1 1 none 0) (h ++ [AObj.cells ⟨[I (-1)], 0, 0, false⟩]) = some (s2, h2) ∧ stN 1 h2 (elP 1 c7 v) s2 = some h3 ∧
      BW oc c7 N (fun t => if t = v then k t + 1 else k t) h3 ∧ FrS (fun o => oc ≤ o) h h3 := by
  obtain ⟨rows, g, lr, f⟩ := b
  have b1 : Sl (h ++ [AObj.cells ⟨[I (-1)], 0, 0, false⟩]) 1 (.sl h.length 0 1 1 none 0) [[I (-1)]] := by
    have := (Gr.lit (h := h) (sz := 1) (v := [I (-1)]) rfl).sl
    rwa [a9_] at this
  have e1 : Ext h (h ++ [AObj.cells ⟨[I (-1)], 0, 0, false⟩]) := Ext.push _ _
  have f' := f.frs (D := fun _ => False) (FrS.ofExt e1) fun _ _ _ z => z
  obtain ⟨s2, h2, k1, k2, k3, k4⟩ := f'.append (bytes := 8) (t := v) hv b1 (by simp) (by omega) (by omega) (by simp; omega)
  have g2 := (g.ext e1).frs k4 fun o z1 z2 => by omega
  have c2 : s2.cells = [s2] := by
    have := (k3.sl (t := v) hv).cells
    simpa using this
  obtain ⟨h3, n1, n2, n3, n4⟩ := g2.write0 (i := (v : Int)) (by omega) (by rw [List.length_map]; omega) (v := s2) (by rw [c2]; rfl) (by rw [c2]; simp [k2])
  have hlq := k4.len
  have gs := g.sl
  refine ⟨gi rows (v : Int), s2, h2, h3, gs.idxG (by omega) (by omega), ?_, k1, n1, ?_, ?_⟩
  · have := gs.ld0 (Ext.refl _) (i := (v : Int)) (by omega) (by omega) (by omega)
    exact this
  · refine ⟨rows.set v s2, n2.cong ?_, by rw [List.length_set]; exact lr, ?_⟩
    · rw [c2, List.map_set, Int.toNat_natCast]
    · have f3 := k3.frs n3.s (fun o z1 z2 z3 => by rcases z2 with z2 | z2 <;> simp only [List.length_append] at * <;> omega)
      refine (f3.mono fun o z1 z2 => ?_).congr fun t ht => ⟨?_, ?_⟩
      · rcases z2 with z2 | z2
        · exact z2
        · simp only [List.length_append] at z2; omega
      · show gi (rows.set v s2) (t : Int) = if t = v then s2 else gi rows (t : Int)
        rw [giset2 (by omega)]
      · show (List.replicate (if t = v then k t + 1 else k t) (-1 : Int)).map encI = if t = v then (List.replicate (k v) (-1 : Int)).map encI ++ [[I (-1)]] else (List.replicate (k t) (-1 : Int)).map encI
        by_cases qt : t = v
        · subst qt
          rw [if_pos rfl, if_pos rfl, List.replicate_succ', List.map_append]; rfl
        · rw [if_neg qt, if_neg qt]
  · have z1 : FrS (fun o => oc ≤ o) h (h ++ [AObj.cells ⟨[I (-1)], 0, 0, false⟩]) := FrS.ofExt e1
    exact (z1.trans (k4.mono fun o _ z => Nat.le_of_lt z)).trans (n3.s.mono fun o _ z => z.1)
section
variable {N : Nat} {es : List E} {D : List (List Int)} {acc : List Bool}
def kk (S V s t : Nat) : Nat := if t < V then S else if t = V then s else 0
theorem b4T {hb : Heap} {o3 o4 oc V : Nat} {sD sA c7 vf : AV} (ok : DOk D acc) (hoc : hb.length ≤ oc) (hD : Sl hb 5 sD (D.map encR)) (r4 : hb[o4]? = some (.cells ⟨[sD, sA], 0, 0, false⟩)) (hV : V < N) (hN : V ≤ 1000000) {Q : AV → Heap → Prop}
    (hQ : ∀ h, Ext hb h → oc < h.length → BW oc c7 N (kk D.length (V + 1) 0) h → WP (fun p : Nat × Nat => f8_ tab p.1 p.2 vf (.ptr o3 0 2 0) (.ptr o4 0 2 0) c7 (I (V + 1)) h) Q) :
    ∀ (d s : Nat) (h : Heap), s + d = D.length → Ext hb h → oc < h.length → BW oc c7 N (kk D.length V s) h →
      WP (fun p : (Nat × Nat) × Nat => l9_ tab p.1.1 p.1.2 p.2 vf (.ptr o3 0 2 0) (.ptr o4 0 2 0) c7 (I V) (I s) h) Q := by
  have l1 := ok.l1
  intro d
  induction d with
  | zero =>
    intro s h h1 e ho b
    refine WP.rnd (fun i j => z5_ tab i.1 i.2 j vf (.ptr o3 0 2 0) (.ptr o4 0 2 0) c7 (I V) (I s) h) ?_
    obtain rfl : s = D.length := by omega
    have r4' := e.get r4
    simp -implicitDefEqProofs (maxSteps := 1000000) (disch := first | assumption | omega | (simp only [gL] <;> omega) | ((repeat (first | exact Ext.refl _ | assumption | apply Ext.app | apply Ext.mk | (refine Ext.setr ?_ (by (first | omega | (simp only [gL] <;> omega))) _))); done) | (simp only [gL, gA, r4', hD.lenG] <;> omega) | fail) only [gB, setAll, partL, fldV, reduceIte, Nat.reduceAdd, Nat.reduceMul, r4', hD.lenG]
    have hb3 : WP (fun p : Nat × Nat => s6_ tab p.1 p.2 vf (.ptr o3 0 2 0) (.ptr o4 0 2 0) c7 (I V) h) Q := by
      refine WP.congr (fun p => a3F tab p.1 p.2 vf (.ptr o3 0 2 0) (.ptr o4 0 2 0) c7 (I V) h) ?_
      have : V ≤ 1000000 := hN
      simp -implicitDefEqProofs (maxSteps := 1000000) (disch := first | assumption | omega | (simp only [gL] <;> omega) | ((repeat (first | exact Ext.refl _ | assumption | apply Ext.app | apply Ext.mk | (refine Ext.setr ?_ (by (first | omega | (simp only [gL] <;> omega))) _))); done) | (simp only [gL, gA] <;> omega) | fail) only [gB, setAll, partL, fldV, reduceIte, Nat.reduceAdd, Nat.reduceMul]
      refine hQ h e ho (b.congr fun t ht => ?_)
      simp only [kk]
      by_cases q : t < V
      · rw [if_pos q, if_pos (by omega)]
      · by_cases q2 : t = V
        · rw [if_neg q, if_pos (by omega), if_pos q2]
        · rw [if_neg q, if_neg (by omega), if_neg q2]
          split <;> rfl
    exact WP.lv hb3 fun i j => rfl
  | succ d ih =>
    intro s h h1 e ho b
    refine WP.rnd (fun i j => z5_ tab i.1 i.2 j vf (.ptr o3 0 2 0) (.ptr o4 0 2 0) c7 (I V) (I s) h) ?_
    have r4' := e.get r4
    have hkv : kk D.length V s V = s := by simp [kk]
    obtain ⟨s1, s2, h2, h3, k1, k2, k3, k4, k5, k6⟩ := b.step hV (by rw [hkv]; omega) ho
    simp -implicitDefEqProofs (maxSteps := 1000000) (disch := first | assumption | omega | (simp only [gL] <;> omega) | ((repeat (first | exact Ext.refl _ | assumption | apply Ext.app | apply Ext.mk | (refine Ext.setr ?_ (by (first | omega | (simp only [gL] <;> omega))) _))); done) | (simp only [gL, gA, r4', hD.lenG, k1, k2, k3, k4] <;> omega) | fail) only [gB, setAll, partL, fldV, reduceIte, Nat.reduceAdd, Nat.reduceMul, r4', hD.lenG, k1, k2, k3, k4]
    have hl := k6.len
    refine ih (s + 1) h3 (by omega) (k6.ext e fun o z1 z2 => by omega) (by omega) (k5.congr fun t ht => ?_)
    simp only [kk]
    by_cases q : t = V
    · subst q; simp
    · by_cases q2 : t < V
      · simp [q, q2]
      · simp [q, q2]
theorem b4U (ok : DOk D acc) (no : NetOk N es) (co : COk es) : GOk (N * D.length) 2147483647 (hopA es D.length (onL es D)) := by
  refine ⟨by omega, fun x hx y e w hm => ?_⟩
  obtain ⟨i, s, i1, s1, rfl, rfl, rfl⟩ := b0u ok no hx hm
  have he : 0 ≤ (eg es i).fr ∧ (eg es i).fr < N ∧ 0 ≤ (eg es i).to ∧ (eg es i).to < N ∧ 0 ≤ (eg es i).md ∧ (eg es i).md < 5 := no.edge _ (b4_ (xs := es) (i := (i : Int)) (by omega) (by omega))
  have ht : 0 ≤ nx D s (eg es i).md ∧ nx D s (eg es i).md < D.length := ok.to s (eg es i).md (by omega) (by omega) he.2.2.2.2.1 he.2.2.2.2.2
  have hco : 0 ≤ (eg es i).co ∧ (eg es i).co ≤ 2147483647 := co.c _ (b4_ (xs := es) (i := (i : Int)) (by omega) (by omega))
  exact ⟨spotN (by omega) (by omega), hco.1, hco.2⟩
theorem b2z {h : Heap} {sE sD sA : AV} (no : NetOk N es) (co : COk es) (hn2 : N * D.length ≤ 1000000) (hs : Sl h 4 sE (es.map encE)) (ok : DOk D acc) (hD : Sl h 5 sD (D.map encR)) (hA : Sl h 1 sA (acc.map encB)) {v : Nat} (hv : v < N) :
    Tot tab h2_ [.agg [I N, sE], .agg [sD, sA], I v] h fun r h' => Ext h h' ∧ ∃ c rows W, LC (N * D.length) (hopA es D.length (onL es D)) (fun x => x = v * D.length) c ∧ MatW W 0 r N D.length rows c h' := by
  refine WP.tot (fun k => (a4v k _ _ _ h).trans (a5M tab k _ _ _ h)) ?_
  have hN : N ≤ 100000 := by have := no.n1; omega
  obtain ⟨h1, hh1⟩ : ∃ h1, h1 = (h ++ [AObj.cells ⟨[I N, sE], 0, 0, false⟩]) ++ [AObj.cells ⟨[sD, sA], 0, 0, false⟩] := ⟨_, rfl⟩
  have e1 : Ext h h1 := by rw [hh1]; ((repeat (first | exact Ext.refl _ | assumption | apply Ext.app | apply Ext.mk | (refine Ext.setr ?_ (by (first | omega | (simp only [gL] <;> omega))) _))))
  have hl1 : h1.length = h.length + 2 := by rw [hh1]; simp
  have r3 : h1[h.length]? = some (.cells ⟨[I N, sE], 0, 0, false⟩) := by rw [hh1]; simp
  have r4 : h1[h.length + 1]? = some (.cells ⟨[sD, sA], 0, 0, false⟩) := by rw [hh1]; simp
  obtain ⟨c7, h2, a2, g2, e2, _, l2⟩ := q4_ (zero := [AV.nils]) (sz := 1) (bytes := 24) (n := (N : Int)) h1 (by omega) (by omega) (by omega) rfl rfl
  simp -implicitDefEqProofs (maxSteps := 1000000) (disch := first | assumption | omega | (simp only [gL] <;> omega) | ((repeat (first | exact Ext.refl _ | assumption | apply Ext.app | apply Ext.mk | (refine Ext.setr ?_ (by (first | omega | (simp only [gL] <;> omega))) _))); done) | (simp only [gL, gA, hs.one, hs.cells, hD.one, hD.cells, hA.one, hA.cells] <;> omega) | fail) only [gB, setAll, partL, fldV, reduceIte, Nat.reduceAdd, Nat.reduceMul, hs.one, hs.cells, hD.one, hD.cells, hA.one, hA.cells]
  rw [← hh1]
  simp -implicitDefEqProofs (maxSteps := 1000000) (disch := first | assumption | omega | (simp only [gL] <;> omega) | ((repeat (first | exact Ext.refl _ | assumption | apply Ext.app | apply Ext.mk | (refine Ext.setr ?_ (by (first | omega | (simp only [gL] <;> omega))) _))); done) | (simp only [gL, gA, a2] <;> omega) | fail) only [gB, setAll, partL, fldV, reduceIte, Nat.reduceAdd, Nat.reduceMul, a2]
  have b0 : BW h1.length c7 N (kk D.length 0 0) h2 := by
    refine ⟨List.replicate N .nils, g2.cong (by simp), by simp, Fam.nil _ _ _ fun t ht => ⟨a3h (by omega) (by omega), by simp [kk]⟩⟩
  have hg := b4U ok no co
  have main : ∀ (d V : Nat) (h' : Heap), V + d = N → Ext h1 h' → h1.length < h'.length → BW h1.length c7 N (kk D.length V 0) h' →
      WP (fun p : Nat × Nat => f8_ tab p.1 p.2 (I v) (.ptr h.length 0 2 0) (.ptr (h.length + 1) 0 2 0) c7 (I V) h') fun r h' => Ext h h' ∧ ∃ c rows W, LC (N * D.length) (hopA es D.length (onL es D)) (fun x => x = v * D.length) c ∧ MatW W 0 r N D.length rows c h' := by
    intro d
    induction d with
    | zero =>
      intro V h' hV e ho b
      refine WP.rnd (fun i j => z8_ tab i j (I v) (.ptr h.length 0 2 0) (.ptr (h.length + 1) 0 2 0) c7 (I V) h') ?_
      obtain rfl : V = N := by omega
      have r3' := e.get r3
      simp -implicitDefEqProofs (maxSteps := 1000000) (disch := first | assumption | omega | (simp only [gL] <;> omega) | ((repeat (first | exact Ext.refl _ | assumption | apply Ext.app | apply Ext.mk | (refine Ext.setr ?_ (by (first | omega | (simp only [gL] <;> omega))) _))); done) | (simp only [gL, gA, r3'] <;> omega) | fail) only [gB, setAll, partL, fldV, reduceIte, Nat.reduceAdd, Nat.reduceMul, r3']
      obtain ⟨rows, gc, lr, f⟩ := b
      have w : MatW (fun o => h1.length < o ∧ o < h'.length) 0 c7 V D.length rows (fun _ => -1) h' := by
        refine ⟨gc.sl, fun h'' fr => (gc.frs fr fun o z1 z2 z3 => by omega).sl, lr, (f.mono fun o z1 z2 => ⟨z2, z1⟩).congr fun t ht => ⟨rfl, ?_⟩⟩
        congr 1
        simp only [rowL, kk]
        rw [if_pos ht]
        apply List.ext_getElem <;> simp
      obtain ⟨h3, s3, w3, f3⟩ := w.set hv ok.l0 0
      have e3 : Ext h1 h3 := f3.ext e fun o z1 z2 => by omega
      have rv := w.row hv
      have gv0 := a8Q (c := fun _ => (-1 : Int)) (v := v) ok.l0
      have hb4 : WP (fun i : Nat => s7_ tab i (I v) (.ptr h.length 0 2 0) (.ptr (h.length + 1) 0 2 0) c7 h') fun r h' => Ext h h' ∧ ∃ c rows W, LC (V * D.length) (hopA es D.length (onL es D)) (fun x => x = v * D.length) c ∧ MatW W 0 r V D.length rows c h' := by
        refine WP.congr (fun i => a3H tab i (I v) (.ptr h.length 0 2 0) (.ptr (h.length + 1) 0 2 0) c7 h') ?_
        have l0 := ok.l0
        have s3' : stN 1 h' (elP 1 (gi rows (v : Int)) 0) (I 0) = some h3 := s3
        simp -implicitDefEqProofs (maxSteps := 1000000) (disch := first | assumption | omega | (simp only [gL] <;> omega) | ((repeat (first | exact Ext.refl _ | assumption | apply Ext.app | apply Ext.mk | (refine Ext.setr ?_ (by (first | omega | (simp only [gL] <;> omega))) _))); done) | (simp only [gL, gA, w.gc.idxG, w.gc.ld0, lr, rv.idxG, c9_, s3'] <;> omega) | fail) only [gB, setAll, partL, fldV, reduceIte, Nat.reduceAdd, Nat.reduceMul, w.gc.idxG, w.gc.ld0, lr, rv.idxG, c9_, s3']
        have hst : ∀ x, x = v * D.length → x < V * D.length := fun x z => by
          have := spotN (S := D.length) hv ok.l0
          omega
        refine WP.ent (b3Q (hb := h1) (hcl := h'.length) (st := fun x => x = v * D.length) (rows := rows) (W := fun o => h1.length < o ∧ o < h'.length) (acc := acc) ok no co hn2 hg hst (fun o z => ⟨by omega, z.2⟩) (hs.ext e1) (hD.ext e1) r3 r4 e.len (fun h4 c4 e4 w4 lc4 => ⟨e1.trans e4, c4, rows, _, lc4, w4⟩) (mu (V * D.length) 2147483647 (up (fun _ => -1) (v * D.length + 0) 0)).toNat h3 _ (by have := b0O (n := V * D.length) (W := 2147483647) (by omega) (up (fun _ => -1) (v * D.length + 0) 0); omega) e3 f3.len w3 ?_) fun i => rfl
        refine RI.start hg (hst _ rfl) (fun x => Iff.rfl) fun x hx => ?_
        simp only [up, Nat.add_zero]
      exact WP.lv hb4 fun i j => rfl
    | succ d ih =>
      intro V h' hV e ho b
      refine WP.rnd (fun i j => z8_ tab i j (I v) (.ptr h.length 0 2 0) (.ptr (h.length + 1) 0 2 0) c7 (I V) h') ?_
      have r3' := e.get r3
      simp -implicitDefEqProofs (maxSteps := 1000000) (disch := first | assumption | omega | (simp only [gL] <;> omega) | ((repeat (first | exact Ext.refl _ | assumption | apply Ext.app | apply Ext.mk | (refine Ext.setr ?_ (by (first | omega | (simp only [gL] <;> omega))) _))); done) | (simp only [gL, gA, r3'] <;> omega) | fail) only [gB, setAll, partL, fldV, reduceIte, Nat.reduceAdd, Nat.reduceMul, r3']
      exact WP.ent (b4T ok (Nat.le_refl _) (hD.ext e1) r4 (V := V) (N := N) (by omega) (by omega) (fun h4 e4 ho4 b4 => ih (V + 1) h4 (by omega) e4 ho4 b4) D.length 0 h' (by omega) e ho b) fun i => rfl
  exact WP.ent (main N 0 h2 (by omega) e2 (by omega) b0) fun i => rfl
theorem b3t {hb : Heap} {o3 o4 lo v : Nat} {sD sA c7 : AV} {rows : List AV} {W : Nat → Prop} {c : Nat → Int} {xs : List Int} (ok : DOk D acc) (hN : N ≤ 100000) (hlo : hb.length ≤ lo) (w0 : MatW W 0 c7 N D.length rows c hb) (hD : Sl hb 5 sD (D.map encR)) (hA : Sl hb 1 sA (acc.map encB)) (r4 : hb[o4]? = some (.cells ⟨[sD, sA], 0, 0, false⟩)) (hv : v < N) (hx : xs.length = v) {out : AV} {h : Heap} (e : Ext hb h) (g : Gr hb.length h.length h 1 out (xs.map encI)) {Q : AV → Heap → Prop}
    (hQ : ∀ h' out', Ext hb h' → Gr hb.length h'.length h' 1 out' ((xs ++ [bv c acc (v * D.length) D.length]).map encI) → WP (fun p : Nat × Nat => f3_ tab p.1 p.2 (.ptr o3 0 2 0) (.ptr o4 0 2 0) c7 out' (I (v + 1)) h') Q) :
    ∀ (d s : Nat), s + d = D.length →
      WP (fun p : (Nat × Nat) × Nat => f4_ tab p.1.1 p.1.2 p.2 (.ptr o3 0 2 0) (.ptr o4 0 2 0) c7 out (I v) (I (bv c acc (v * D.length) s)) (I s) h) Q := by
  have l1 := ok.l1
  have la := ok.la
  have r4' := e.get r4
  have w := w0.ext e
  intro d
  induction d with
  | zero =>
    intro s h1
    refine WP.rnd (fun i j => y2_ tab i.1 i.2 j (.ptr o3 0 2 0) (.ptr o4 0 2 0) c7 out (I v) (I (bv c acc (v * D.length) s)) (I s) h) ?_
    obtain rfl : s = D.length := by omega
    simp -implicitDefEqProofs (maxSteps := 1000000) (disch := first | assumption | omega | (simp only [gL] <;> omega) | ((repeat (first | exact Ext.refl _ | assumption | apply Ext.app | apply Ext.mk | (refine Ext.setr ?_ (by (first | omega | (simp only [gL] <;> omega))) _))); done) | (simp only [gL, gA, r4', hD.lenG] <;> omega) | fail) only [gB, setAll, partL, fldV, reduceIte, Nat.reduceAdd, Nat.reduceMul, r4', hD.lenG]
    have hb3 : WP (fun p : Nat × Nat => r7_ tab p.1 p.2 (.ptr o3 0 2 0) (.ptr o4 0 2 0) c7 out (I v) (I (bv c acc (v * D.length) D.length)) h) Q := by
      refine WP.congr (fun p => a3C tab p.1 p.2 (.ptr o3 0 2 0) (.ptr o4 0 2 0) c7 out (I v) (I (bv c acc (v * D.length) D.length)) h) ?_
      have hlb := e.len
      obtain ⟨s', h', q1, q2, q3⟩ := Gr.append1 (bytes := 8) g (v := [I (bv c acc (v * D.length) D.length)]) rfl (by omega) (by omega) (by simp; omega) (by omega) (by omega)
      rw [a9_] at q1
      simp -implicitDefEqProofs (maxSteps := 1000000) (disch := first | assumption | omega | (simp only [gL] <;> omega) | ((repeat (first | exact Ext.refl _ | assumption | apply Ext.app | apply Ext.mk | (refine Ext.setr ?_ (by (first | omega | (simp only [gL] <;> omega))) _))); done) | (simp only [gL, gA, q1] <;> omega) | fail) only [gB, setAll, partL, fldV, reduceIte, Nat.reduceAdd, Nat.reduceMul, q1]
      refine WP.congr (fun p => a3B tab p.1 p.2 (.ptr o3 0 2 0) (.ptr o4 0 2 0) c7 s' (I v) h') ?_
      simp -implicitDefEqProofs (maxSteps := 1000000) (disch := first | assumption | omega | (simp only [gL] <;> omega) | ((repeat (first | exact Ext.refl _ | assumption | apply Ext.app | apply Ext.mk | (refine Ext.setr ?_ (by (first | omega | (simp only [gL] <;> omega))) _))); done) | (simp only [gL, gA] <;> omega) | fail) only [gB, setAll, partL, fldV, reduceIte, Nat.reduceAdd, Nat.reduceMul]
      exact hQ h' s' (q3.ext e (by omega)) (q2.cong (by simp [encI]))
    exact WP.lv hb3 fun i j => rfl
  | succ d ih =>
    intro s h1
    refine WP.rnd (fun i j => y2_ tab i.1 i.2 j (.ptr o3 0 2 0) (.ptr o4 0 2 0) c7 out (I v) (I (bv c acc (v * D.length) s)) (I s) h) ?_
    have hs : s < D.length := by omega
    have lr := w.lr
    have rf := w.row hv
    have gf1 := a8Q (c := c) (v := v) hs
    have hbs : bv c acc (v * D.length) (s + 1) = if gi acc s = true ∧ 0 ≤ c (v * D.length + s) ∧ (bv c acc (v * D.length) s < 0 ∨ c (v * D.length + s) < bv c acc (v * D.length) s) then c (v * D.length + s) else bv c acc (v * D.length) s := rfl
    have ihs := ih (s + 1) (by omega)
    rw [hbs] at ihs
    obtain ⟨b, hbb⟩ : ∃ b, bv c acc (v * D.length) s = b := ⟨_, rfl⟩
    obtain ⟨x, hxx⟩ : ∃ x, c (v * D.length + s) = x := ⟨_, rfl⟩
    rw [hbb, hxx] at ihs
    rw [hxx] at gf1
    rw [hbb]
    have hA' := hA.ext e
    cases hac : gi acc (s : Int) with
    | false =>
      rw [if_neg (by rw [hac]; simp)] at ihs
      simp -implicitDefEqProofs (maxSteps := 1000000) (disch := first | assumption | omega | (simp only [gL] <;> omega) | ((repeat (first | exact Ext.refl _ | assumption | apply Ext.app | apply Ext.mk | (refine Ext.setr ?_ (by (first | omega | (simp only [gL] <;> omega))) _))); done) | (simp only [gL, gA, r4', hD.lenG, hA'.idxG, hA'.ld0, encB, hac] <;> omega) | fail) only [gB, setAll, partL, fldV, reduceIte, Nat.reduceAdd, Nat.reduceMul, r4', hD.lenG, hA'.idxG, hA'.ld0, encB, hac]
      exact ihs
    | true =>
      by_cases c1 : 0 ≤ x
      · by_cases c2 : b < 0
        · rw [if_pos ⟨hac, c1, .inl c2⟩] at ihs
          simp -implicitDefEqProofs (maxSteps := 1000000) (disch := first | assumption | omega | (simp only [gL] <;> omega) | ((repeat (first | exact Ext.refl _ | assumption | apply Ext.app | apply Ext.mk | (refine Ext.setr ?_ (by (first | omega | (simp only [gL] <;> omega))) _))); done) | (simp only [gL, gA, r4', hD.lenG, hA'.idxG, hA'.ld0, encB, hac, w.gc.idxG, w.gc.ld0, lr, rf.idxG, rf.ld0, c9_, encI, gf1] <;> omega) | fail) only [gB, setAll, partL, fldV, reduceIte, Nat.reduceAdd, Nat.reduceMul, r4', hD.lenG, hA'.idxG, hA'.ld0, encB, hac, w.gc.idxG, w.gc.ld0, lr, rf.idxG, rf.ld0, c9_, encI, gf1]
          exact ihs
        · by_cases c3 : x < b
          · rw [if_pos ⟨hac, c1, .inr c3⟩] at ihs
            simp -implicitDefEqProofs (maxSteps := 1000000) (disch := first | assumption | omega | (simp only [gL] <;> omega) | ((repeat (first | exact Ext.refl _ | assumption | apply Ext.app | apply Ext.mk | (refine Ext.setr ?_ (by (first | omega | (simp only [gL] <;> omega))) _))); done) | (simp only [gL, gA, r4', hD.lenG, hA'.idxG, hA'.ld0, encB, hac, w.gc.idxG, w.gc.ld0, lr, rf.idxG, rf.ld0, c9_, encI, gf1] <;> omega) | fail) only [gB, setAll, partL, fldV, reduceIte, Nat.reduceAdd, Nat.reduceMul, r4', hD.lenG, hA'.idxG, hA'.ld0, encB, hac, w.gc.idxG, w.gc.ld0, lr, rf.idxG, rf.ld0, c9_, encI, gf1]
            exact ihs
          · rw [if_neg (fun z => by omega)] at ihs
            simp -implicitDefEqProofs (maxSteps := 1000000) (disch := first | assumption | omega | (simp only [gL] <;> omega) | ((repeat (first | exact Ext.refl _ | assumption | apply Ext.app | apply Ext.mk | (refine Ext.setr ?_ (by (first | omega | (simp only [gL] <;> omega))) _))); done) | (simp only [gL, gA, r4', hD.lenG, hA'.idxG, hA'.ld0, encB, hac, w.gc.idxG, w.gc.ld0, lr, rf.idxG, rf.ld0, c9_, encI, gf1] <;> omega) | fail) only [gB, setAll, partL, fldV, reduceIte, Nat.reduceAdd, Nat.reduceMul, r4', hD.lenG, hA'.idxG, hA'.ld0, encB, hac, w.gc.idxG, w.gc.ld0, lr, rf.idxG, rf.ld0, c9_, encI, gf1]
            exact ihs
      · rw [if_neg (fun z => by omega)] at ihs
        simp -implicitDefEqProofs (maxSteps := 1000000) (disch := first | assumption | omega | (simp only [gL] <;> omega) | ((repeat (first | exact Ext.refl _ | assumption | apply Ext.app | apply Ext.mk | (refine Ext.setr ?_ (by (first | omega | (simp only [gL] <;> omega))) _))); done) | (simp only [gL, gA, r4', hD.lenG, hA'.idxG, hA'.ld0, encB, hac, w.gc.idxG, w.gc.ld0, lr, rf.idxG, rf.ld0, c9_, encI, gf1] <;> omega) | fail) only [gB, setAll, partL, fldV, reduceIte, Nat.reduceAdd, Nat.reduceMul, r4', hD.lenG, hA'.idxG, hA'.ld0, encB, hac, w.gc.idxG, w.gc.ld0, lr, rf.idxG, rf.ld0, c9_, encI, gf1]
        exact ihs
theorem b2A (N S : Nat) (c : Nat → Int) (acc : List Bool) (v : Nat) : costL (v + 1) S c acc = costL v S c acc ++ [bv c acc (v * S) S] := by
  simp [costL, List.range_succ]
theorem a9g {h : Heap} {sE sD sA : AV} (no : NetOk N es) (co : COk es) (hn2 : N * D.length ≤ 1000000) (hs : Sl h 4 sE (es.map encE)) (ok : DOk D acc) (hD : Sl h 5 sD (D.map encR)) (hA : Sl h 1 sA (acc.map encB)) {v : Nat} (hv : v < N) :
    Tot tab c5_ [.agg [I N, sE], .agg [sD, sA], I v] h fun r h' => Ext h h' ∧ ∃ c, LC (N * D.length) (hopA es D.length (onL es D)) (fun x => x = v * D.length) c ∧ Gr h.length h'.length h' 1 r ((costL N D.length c acc).map encI) := by
  refine WP.tot (fun k => (a4r k _ _ _ h).trans (a5H tab k _ _ _ h)) ?_
  have hN : N ≤ 100000 := by have := no.n1; omega
  obtain ⟨h1, hh1⟩ : ∃ h1, h1 = (h ++ [AObj.cells ⟨[I N, sE], 0, 0, false⟩]) ++ [AObj.cells ⟨[sD, sA], 0, 0, false⟩] := ⟨_, rfl⟩
  have e1 : Ext h h1 := by rw [hh1]; ((repeat (first | exact Ext.refl _ | assumption | apply Ext.app | apply Ext.mk | (refine Ext.setr ?_ (by (first | omega | (simp only [gL] <;> omega))) _))))
  have r3 : h1[h.length]? = some (.cells ⟨[I N, sE], 0, 0, false⟩) := by rw [hh1]; simp
  have r4 : h1[h.length + 1]? = some (.cells ⟨[sD, sA], 0, 0, false⟩) := by rw [hh1]; simp
  simp -implicitDefEqProofs (maxSteps := 1000000) (disch := first | assumption | omega | (simp only [gL] <;> omega) | ((repeat (first | exact Ext.refl _ | assumption | apply Ext.app | apply Ext.mk | (refine Ext.setr ?_ (by (first | omega | (simp only [gL] <;> omega))) _))); done) | (simp only [gL, gA, hs.one, hs.cells, hD.one, hD.cells, hA.one, hA.cells] <;> omega) | fail) only [gB, setAll, partL, fldV, reduceIte, Nat.reduceAdd, Nat.reduceMul, hs.one, hs.cells, hD.one, hD.cells, hA.one, hA.cells]
  rw [← hh1]
  refine WP.call (b2z no co hn2 (hs.ext e1) ok (hD.ext e1) (hA.ext e1) hv) ?_
  rintro c7 h2 ⟨e2, c, rows, W, lc, w⟩
  have e12 := e1.trans e2
  have main : ∀ (d v' : Nat) (h' : Heap) (out : AV), v' + d = N → Ext h2 h' → Gr h2.length h'.length h' 1 out ((costL v' D.length c acc).map encI) →
      WP (fun p : Nat × Nat => f3_ tab p.1 p.2 (.ptr h.length 0 2 0) (.ptr (h.length + 1) 0 2 0) c7 out (I v') h') fun r h' => Ext h h' ∧ ∃ c, LC (N * D.length) (hopA es D.length (onL es D)) (fun x => x = v * D.length) c ∧ Gr h.length h'.length h' 1 r ((costL N D.length c acc).map encI) := by
    intro d
    induction d with
    | zero =>
      intro v' h' out hV e g
      refine WP.rnd (fun i j => y3_ tab i j (.ptr h.length 0 2 0) (.ptr (h.length + 1) 0 2 0) c7 out (I v') h') ?_
      obtain rfl : v' = N := by omega
      have r3' := e.get (e2.get r3)
      simp -implicitDefEqProofs (maxSteps := 1000000) (disch := first | assumption | omega | (simp only [gL] <;> omega) | ((repeat (first | exact Ext.refl _ | assumption | apply Ext.app | apply Ext.mk | (refine Ext.setr ?_ (by (first | omega | (simp only [gL] <;> omega))) _))); done) | (simp only [gL, gA, r3'] <;> omega) | fail) only [gB, setAll, partL, fldV, reduceIte, Nat.reduceAdd, Nat.reduceMul, r3']
      exact WP.ret ⟨e12.trans e, c, lc, g.mono e12.len (Nat.le_refl _)⟩
    | succ d ih =>
      intro v' h' out hV e g
      refine WP.rnd (fun i j => y3_ tab i j (.ptr h.length 0 2 0) (.ptr (h.length + 1) 0 2 0) c7 out (I v') h') ?_
      have r3' := e.get (e2.get r3)
      simp -implicitDefEqProofs (maxSteps := 1000000) (disch := first | assumption | omega | (simp only [gL] <;> omega) | ((repeat (first | exact Ext.refl _ | assumption | apply Ext.app | apply Ext.mk | (refine Ext.setr ?_ (by (first | omega | (simp only [gL] <;> omega))) _))); done) | (simp only [gL, gA, r3'] <;> omega) | fail) only [gB, setAll, partL, fldV, reduceIte, Nat.reduceAdd, Nat.reduceMul, r3']
      refine WP.ent (b3t (hb := h2) (lo := h2.length) (c := c) (v := v') ok hN (Nat.le_refl _) w (hD.ext e12) (hA.ext e12) (e2.get r4) (by omega) (a5C v' D.length c acc) e g (fun h3 out3 e3 g3 => ih (v' + 1) h3 out3 (by omega) e3 (g3.cong (by rw [b2A N]))) D.length 0 (by omega)) fun i => rfl
  exact WP.ent (main N 0 h2 .nils (by omega) (Ext.refl _) (Gr.nil ..)) fun i => rfl
end
end Go.Gm.A9

namespace Go.Gm
theorem Gr.frsN {D : Nat → Prop} {o : Nat} {h h' : Heap} {sz : Nat} {s : AV} {xs : List (List AV)} (a : Gr o (o + 1) h sz s xs) (f : FrS D h h') (hd : s ≠ .nils → ¬ D o) : Gr o (o + 1) h' sz s xs := by
  by_cases hn : s = .nils
  · subst hn
    have := Gr.isNil a
    subst this
    exact Gr.nil ..
  · exact Gr.frs a f fun p z1 z2 => by rw [show p = o by omega]; exact hd hn
end Go.Gm
namespace Go.Gm.A9
open Go Go.Gm
theorem add_w (a b : Int) : binV .add .scalar (I a) (I b) = some (I (IntKind.i64.wrap (a + b))) := rfl
theorem b4V (a : Int) {m : Int} (h0 : 0 ≤ m) : ∃ w, binV .shr .scalar (I a) (.int .u64 m) = some (I w) := by
  show ∃ w, shiftI .shr .i64 a m = some (I w)
  simp only [shiftI]
  rw [if_neg (by omega)]
  exact ⟨_, rfl⟩
structure MK (h0 : Heap) (n i : Nat) (D : List (List Int)) (acc : List Bool) (sD sA : AV) (oD oA : Nat) (h : Heap) : Prop where
  ex : Ext h0 h
  r6 : h[h0.length]? = some (.cells ⟨[.nils, .nils], 0, 0, false⟩)
  r7 : h[h0.length + 1]? = some (.cells ⟨[sD, sA], 0, 0, false⟩)
  gD : Gr oD (oD + 1) h 5 sD (D.map encR)
  gA : Gr oA (oA + 1) h 1 sA (acc.map encB)
  pD : sD ≠ .nils → h0.length + 2 ≤ oD ∧ oD < h.length
  pA : sA ≠ .nils → h0.length + 2 ≤ oA ∧ oA < h.length
  ne : sD ≠ .nils → sA ≠ .nils → oD ≠ oA
  lD : D.length = i
  lA : acc.length = i
  row : ∀ s : Int, 0 ≤ s → s < i → (gi D s).length = 5
  to : ∀ s m : Int, 0 ≤ s → s < i → 0 ≤ m → m < 5 → 0 ≤ gi (gi D s) m ∧ gi (gi D s) m < n
theorem MK.frs {h0 h h' : Heap} {n i : Nat} {D : List (List Int)} {acc : List Bool} {sD sA : AV} {oD oA : Nat} (w : MK h0 n i D acc sD sA oD oA h) {P : Nat → Prop} (f : FrS P h h') (hp : ∀ o, o < h.length → ¬ P o) : MK h0 n i D acc sD sA oD oA h' := by
  have hl := f.len
  have b6 := (List.getElem?_eq_some_iff.1 w.r6).1
  have b7 := (List.getElem?_eq_some_iff.1 w.r7).1
  exact ⟨f.ext w.ex fun o z1 z2 => hp o (by omega) z2, by rw [f.get (hp _ b6) b6]; exact w.r6, by rw [f.get (hp _ b7) b7]; exact w.r7, w.gD.frsN f fun z => hp _ (w.pD z).2, w.gA.frsN f fun z => hp _ (w.pA z).2, fun z => ⟨(w.pD z).1, by have := (w.pD z).2; omega⟩, fun z => ⟨(w.pA z).1, by have := (w.pA z).2; omega⟩, w.ne, w.lD, w.lA, w.row, w.to⟩
theorem mk_b3 {h0 : Heap} {n i on : Nat} {acc2 : Int} {ns : AV} {D : List (List Int)} {acc : List Bool} {sD sA : AV} {oD oA : Nat} {vals : List Int} {Q : AV → Heap → Prop} (hn : n ≤ 9) (hi : i < n)
    (hQ : ∀ h D acc sD sA oD oA, MK h0 n (i + 1) D acc sD sA oD oA h → WP (fun p : Nat × Nat => d9_ tab p.1 p.2 ns (I acc2) (.ptr h0.length 0 2 0) (.ptr (h0.length + 1) 0 2 0) (I n) (I (i + 1)) h) Q)
    {h : Heap} (w : MK h0 n i D acc sD sA oD oA h) (hv : vals.length = 5) (hvr : ∀ j : Int, 0 ≤ j → j < 5 → 0 ≤ gi vals j ∧ gi vals j < n) (ro : h[on]? = some (.cells ⟨encR vals, 0, 0, false⟩)) :
    WP (fun p : Nat × Nat => u4_ tab p.1 p.2 ns (I acc2) (.ptr h0.length 0 2 0) (.ptr (h0.length + 1) 0 2 0) (I n) (I i) (.ptr on 0 5 0) h) Q := by
  refine WP.congr (fun p => a4c tab p.1 p.2 ns (I acc2) (.ptr h0.length 0 2 0) (.ptr (h0.length + 1) 0 2 0) (I n) (I i) (.ptr on 0 5 0) h) ?_
  obtain ⟨x0, x1, x2, x3, x4, hx⟩ : ∃ x0 x1 x2 x3 x4, vals = [x0, x1, x2, x3, x4] := by
    match vals, hv with
    | [x0, x1, x2, x3, x4], _ => exact ⟨x0, x1, x2, x3, x4, rfl⟩
  have ro' : h[on]? = some (.cells ⟨[I x0, I x1, I x2, I x3, I x4], 0, 0, false⟩) := by rw [ro, hx]; rfl
  have lD := w.lD
  have lA := w.lA
  have b7 := (List.getElem?_eq_some_iff.1 w.r7).1
  have b6 := (List.getElem?_eq_some_iff.1 w.r6).1
  have r7 := w.r7
  -- the row
  obtain ⟨h1, hh1⟩ : ∃ h1, h1 = h ++ [AObj.cells ⟨[I x0, I x1, I x2, I x3, I x4], 0, 0, false⟩] := ⟨_, rfl⟩
  have e1 : Ext h h1 := by rw [hh1]; exact Ext.push _ _
  have l1 : h1.length = h.length + 1 := by rw [hh1]; simp
  have w1 := w.frs (P := fun _ => False) (FrS.ofExt e1) fun _ _ z => z
  have b1 : Sl h1 5 (.sl h.length 0 1 5 none 0) [[I x0, I x1, I x2, I x3, I x4]] := by
    have := (Gr.lit (h := h) (sz := 5) (v := [I x0, I x1, I x2, I x3, I x4]) rfl).sl
    rw [a9_] at this; rw [hh1]; exact this
  obtain ⟨sD2, h2, oD2, k1, k2, k3, k4⟩ := w1.gD.appP (bytes := 40) (fun z => (w1.pD z).2) b1 (by omega) (by omega) (by simp; omega)
  have hl2 := k4.len
  have hnn : sD2 ≠ .nils := by
    intro z
    rw [z] at k2
    have := k2.isNil
    simp at this
  have k3' := k3 hnn
  have r72 : h2[h0.length + 1]? = some (.cells ⟨[sD, sA], 0, 0, false⟩) := by
    rw [k4.get (fun z => by have := (w.pD z.1).1; omega) (by omega)]; exact w1.r7
  obtain ⟨h3, hh3⟩ : ∃ h3, h3 = h2.set (h0.length + 1) (.cells ⟨[sD2, sA], 0, 0, false⟩) := ⟨_, rfl⟩
  have l3 : h3.length = h2.length := by rw [hh3]; simp
  have r73 : h3[h0.length + 1]? = some (.cells ⟨[sD2, sA], 0, 0, false⟩) := by rw [hh3]; exact a3_ (by omega)
  have f3 : FrS (fun o => o = h0.length + 1) h2 h3 := by rw [hh3]; exact ⟨by simp, fun p p1 p2 => b0_ fun z => p1 z.symm⟩
  have gA3 : Gr oA (oA + 1) h3 1 sA (acc.map encB) := (w1.gA.frsN k4 fun z q => w.ne q.1 z q.2.symm).frsN f3 fun z => by have := (w.pA z).1; omega
  have gD3 : Gr oD2 (oD2 + 1) h3 5 sD2 (D.map encR ++ [[I x0, I x1, I x2, I x3, I x4]]) := k2.frsN f3 fun z => by
    rcases k3'.1 with ⟨q, z⟩ | q
    · have := (w.pD z).1; omega
    · omega
  have c2 : sD2.one = true := k2.sl.one
  have c2' : sD2.cells = [sD2] := k2.sl.cells
  rw [hh1] at k1
  obtain ⟨wv, hwv⟩ := b4V acc2 (m := (i : Int)) (by omega)
  have hcv := a9q (n := (i : Int)) (by omega) (by omega)
  simp -implicitDefEqProofs (maxSteps := 1000000) (disch := first | assumption | omega | (simp only [gL] <;> omega) | ((repeat (first | exact Ext.refl _ | assumption | apply Ext.app | apply Ext.mk | (refine Ext.setr ?_ (by (first | omega | (simp only [gL] <;> omega))) _))); done) | (simp only [gL, gA, r7, ro', k1, r72, c2, c2'] <;> omega) | fail) only [gB, setAll, partL, fldV, reduceIte, Nat.reduceAdd, Nat.reduceMul, r7, ro', k1, r72, c2, c2']
  rw [← hh3]
  simp -implicitDefEqProofs (maxSteps := 1000000) (disch := first | assumption | omega | (simp only [gL] <;> omega) | ((repeat (first | exact Ext.refl _ | assumption | apply Ext.app | apply Ext.mk | (refine Ext.setr ?_ (by (first | omega | (simp only [gL] <;> omega))) _))); done) | (simp only [gL, gA, r73, hcv, hwv] <;> omega) | fail) only [gB, setAll, partL, fldV, reduceIte, Nat.reduceAdd, Nat.reduceMul, r73, hcv, hwv]
  refine WP.call (a2q (by omega) (by unfold Fit; omega) _) ?_
  rintro _ _ ⟨rfl, rfl⟩
  obtain ⟨bb, hbb⟩ : ∃ bb : Bool, binV .eql .scalar (I (wv % 2)) (I 1) = some (.bool bb) := by
    by_cases q : wv % 2 = 1
    · exact ⟨true, by rw [q]; rfl⟩
    · exact ⟨false, eql_f q⟩
  obtain ⟨h4, hh4⟩ : ∃ h4, h4 = h3 ++ [AObj.cells ⟨[.bool bb], 0, 0, false⟩] := ⟨_, rfl⟩
  have e4 : Ext h3 h4 := by rw [hh4]; exact Ext.push _ _
  have l4 : h4.length = h3.length + 1 := by rw [hh4]; simp
  have b4 : Sl h4 1 (.sl h3.length 0 1 1 none 0) [[.bool bb]] := by
    have := (Gr.lit (h := h3) (sz := 1) (v := [.bool bb]) rfl).sl
    rw [a9_] at this; rw [hh4]; exact this
  obtain ⟨sA2, h5, oA2, m1, m2, m3, m4⟩ := (gA3.ext e4).appP (bytes := 1) (fun z => by have := (w.pA z).2; omega) b4 (by omega) (by omega) (by simp; omega)
  have hl5 := m4.len
  have hnA : sA2 ≠ .nils := by
    intro z
    rw [z] at m2
    have := m2.isNil
    simp at this
  have m3' := m3 hnA
  have r75 : h5[h0.length + 1]? = some (.cells ⟨[sD2, sA], 0, 0, false⟩) := by
    rw [m4.get (fun z => by have := (w.pA z.1).1; omega) (by omega)]; exact e4.get r73
  have c3 : sA2.one = true := m2.sl.one
  have c3' : sA2.cells = [sA2] := m2.sl.cells
  rw [hh4] at m1
  simp -implicitDefEqProofs (maxSteps := 1000000) (disch := first | assumption | omega | (simp only [gL] <;> omega) | ((repeat (first | exact Ext.refl _ | assumption | apply Ext.app | apply Ext.mk | (refine Ext.setr ?_ (by (first | omega | (simp only [gL] <;> omega))) _))); done) | (simp only [gL, gA, r73, hbb, m1, r75, c3, c3'] <;> omega) | fail) only [gB, setAll, partL, fldV, reduceIte, Nat.reduceAdd, Nat.reduceMul, r73, hbb, m1, r75, c3, c3']
  obtain ⟨h6, hh6⟩ : ∃ h6, h6 = h5.set (h0.length + 1) (.cells ⟨[sD2, sA2], 0, 0, false⟩) := ⟨_, rfl⟩
  have l6 : h6.length = h5.length := by rw [hh6]; simp
  have f6 : FrS (fun o => o = h0.length + 1) h5 h6 := by rw [hh6]; exact ⟨by simp, fun p p1 p2 => b0_ fun z => p1 z.symm⟩
  rw [← hh6]
  refine WP.congr (fun p => a4b tab p.1 p.2 ns (I acc2) (.ptr h0.length 0 2 0) (.ptr (h0.length + 1) 0 2 0) (I n) (I i) h6) ?_
  simp -implicitDefEqProofs (maxSteps := 1000000) (disch := first | assumption | omega | (simp only [gL] <;> omega) | ((repeat (first | exact Ext.refl _ | assumption | apply Ext.app | apply Ext.mk | (refine Ext.setr ?_ (by (first | omega | (simp only [gL] <;> omega))) _))); done) | (simp only [gL, gA] <;> omega) | fail) only [gB, setAll, partL, fldV, reduceIte, Nat.reduceAdd, Nat.reduceMul]
  have hoD2 : h0.length + 2 ≤ oD2 ∧ oD2 < h2.length := by
    rcases k3'.1 with ⟨q, z⟩ | q
    · have := (w.pD z).1; have := k3'.2; omega
    · have := k3'.2; omega
  have hoA2 : h0.length + 2 ≤ oA2 ∧ oA2 < h5.length := by
    rcases m3'.1 with ⟨q, z⟩ | q
    · have := (w.pA z).1; have := m3'.2; omega
    · have := m3'.2; omega
  have hDA : sA ≠ .nils → oD2 ≠ oA := fun z => by
    have := (w.pA z).2
    rcases k3'.1 with ⟨q, q2⟩ | q
    · rw [q]; exact w.ne q2 z
    · omega
  have e06 : Ext h0 h6 := by
    have z1 : Ext h0 h2 := k4.ext w1.ex fun o q1 q2 => by have := (w.pD q2.1).1; omega
    have z2 : Ext h0 h4 := (f3.ext z1 fun o q1 q2 => by omega).trans e4
    exact f6.ext (m4.ext z2 fun o q1 q2 => by have := (w.pA q2.1).1; omega) fun o q1 q2 => by omega
  have r65 : h6[h0.length]? = some (.cells ⟨[.nils, .nils], 0, 0, false⟩) := by
    rw [f6.get (by omega) (by omega), m4.get (fun z => by have := (w.pA z.1).1; omega) (by omega)]
    refine e4.get ?_
    rw [f3.get (by omega) (by omega), k4.get (fun z => by have := (w.pD z.1).1; omega) (by omega)]
    exact w1.r6
  refine hQ h6 (D ++ [vals]) (acc ++ [bb]) sD2 sA2 oD2 oA2 ⟨e06, r65, by rw [hh6]; exact a3_ (by omega), ?_, ?_, fun _ => by omega, fun _ => by omega, fun _ _ => ?_, by simp; omega, by simp; omega, fun s s0 s1 => ?_, fun s m s0 s1 m0 m1 => ?_⟩
  · refine (((gD3.ext e4).frsN m4 fun z q => hDA q.1 q.2).frsN f6 fun z => by omega).cong ?_
    rw [List.map_append, hx]; rfl
  · refine (m2.frsN f6 fun z => by omega).cong ?_
    rw [List.map_append]; rfl
  · rcases m3'.1 with ⟨q, z⟩ | q
    · rw [q]; exact hDA z
    · omega
  · by_cases q : s = i
    · subst q
      rw [q8_ (by simp; omega)]
      simp [← lD, hv]
    · have h8 : gi (D ++ [vals]) s = gi D s := by
        simp only [gi, List.getD_eq_getElem?_getD]
        rw [List.getElem?_append_left (by omega)]
      rw [h8]; exact w.row s s0 (by omega)
  · by_cases q : s = i
    · subst q
      have h8 : gi (D ++ [vals]) (i : Int) = vals := by
        rw [q8_ (by simp; omega)]
        simp [← lD]
      rw [h8]; exact hvr m m0 m1
    · have h8 : gi (D ++ [vals]) s = gi D s := by
        simp only [gi, List.getD_eq_getElem?_getD]
        rw [List.getElem?_append_left (by omega)]
      rw [h8]; exact w.to s m s0 (by omega) m0 m1
end Go.Gm.A9

namespace Go.Gm.A9
open Go Go.Gm
theorem b4W (size : Int) (zs : List Int) (modes : Int) : COk (mkE size zs modes) := by
  refine ⟨fun e he => ?_⟩
  simp only [mkE, List.mem_map] at he
  obtain ⟨k, _, rfl⟩ := he
  simp only [mkEdge]
  split <;> omega
theorem a8D {o m : Nat} (hm : m < 5) : idxA 5 1 (.ptr o 0 5 0) (I m) = some (.ptr o m (m + 1) 0) := by
  simp only [idxA, I]
  rw [if_pos ⟨by omega, by omega, by omega⟩]
  simp
theorem stP {h : Heap} {o m : Nat} {cs : List AV} {x : Int} (hr : h[o]? = some (.cells ⟨cs, 0, 0, false⟩)) : stN 1 h (.ptr o m (m + 1) 0) (I x) = some (h.set o (.cells ⟨cs.set m (I x), 0, 0, false⟩)) := by
  have c1 : (I x).cells = [I x] := rfl
  have c2 : (I x).one = true := rfl
  simp only [stN, wrc, hr, c1, List.length_cons, List.length_nil, List.all_cons, List.all_nil, c2, setAll]
  simp
theorem mk_l2 {h0 h2 : Heap} {n i : Nat} {acc2 : Int} {ns : AV} {zs : List Int} {D : List (List Int)} {acc : List Bool} {sD sA : AV} {oD oA on : Nat} {Q : AV → Heap → Prop} (hn : n ≤ 9) (hi : i < n) (hns : Sl h0 1 ns (zs.map encI)) (hon : h0.length ≤ on) (honl : on < h2.length)
    (e2 : Ext h0 h2) (w : ∀ h, FrS (fun o => o = on) h2 h → MK h0 n i D acc sD sA oD oA h)
    (hQ : ∀ h D acc sD sA oD oA, MK h0 n (i + 1) D acc sD sA oD oA h → WP (fun p : Nat × Nat => d9_ tab p.1 p.2 ns (I acc2) (.ptr h0.length 0 2 0) (.ptr (h0.length + 1) 0 2 0) (I n) (I (i + 1)) h) Q) :
    ∀ (d m : Nat) (h : Heap) (vals : List Int), m + d = 5 → FrS (fun o => o = on) h2 h → vals.length = 5 → (∀ j : Int, 0 ≤ j → j < m → 0 ≤ gi vals j ∧ gi vals j < n) → h[on]? = some (.cells ⟨encR vals, 0, 0, false⟩) →
      WP (fun p : (Nat × Nat) × Nat => e0_ tab p.1.1 p.1.2 p.2 ns (I acc2) (.ptr h0.length 0 2 0) (.ptr (h0.length + 1) 0 2 0) (I n) (I i) (.ptr on 0 5 0) (I m) h) Q := by
  intro d
  induction d with
  | zero =>
    intro m h vals h1 f lv hv ro
    refine WP.rnd (fun i' j => a0o tab i'.1 i'.2 j ns (I acc2) (.ptr h0.length 0 2 0) (.ptr (h0.length + 1) 0 2 0) (I n) (I i) (.ptr on 0 5 0) (I m) h) ?_
    obtain rfl : m = 5 := by omega
    simp -implicitDefEqProofs (maxSteps := 1000000) (disch := first | assumption | omega | (simp only [gL] <;> omega) | ((repeat (first | exact Ext.refl _ | assumption | apply Ext.app | apply Ext.mk | (refine Ext.setr ?_ (by (first | omega | (simp only [gL] <;> omega))) _))); done) | (simp only [gL, gA] <;> omega) | fail) only [gB, setAll, partL, fldV, reduceIte, Nat.reduceAdd, Nat.reduceMul]
    exact WP.lv (mk_b3 hn hi hQ (w h f) lv hv ro) fun i j => rfl
  | succ d ih =>
    intro m h vals h1 f lv hv ro
    refine WP.rnd (fun i' j => a0o tab i'.1 i'.2 j ns (I acc2) (.ptr h0.length 0 2 0) (.ptr (h0.length + 1) 0 2 0) (I n) (I i) (.ptr on 0 5 0) (I m) h) ?_
    have hm5 : m < 5 := by omega
    have e : Ext h0 h := by
      have := w h f
      exact this.ex
    have hw : IntKind.i64.wrap (5 * (i : Int)) = 5 * i := o8_ (by omega) (by omega)
    have key : ∀ (x : Int), WP (fun p : (Nat × Nat) × Nat => e0_ tab p.1.1 p.1.2 p.2 ns (I acc2) (.ptr h0.length 0 2 0) (.ptr (h0.length + 1) 0 2 0) (I n) (I i) (.ptr on 0 5 0) (I (m + 1)) (h.set on (.cells ⟨(encR vals).set m (I (x % n)), 0, 0, false⟩))) Q := by
      intro x
      have x0 := Int.emod_nonneg x (show (n : Int) ≠ 0 by omega)
      have x1 := Int.emod_lt_of_pos x (show (0 : Int) < n by omega)
      refine ih (m + 1) _ (vals.set m (x % n)) (by omega) (f.trans ⟨by simp, fun p p1 p2 => b0_ fun z => p1 z.symm⟩) (by simpa using lv) (fun j j0 j1 => ?_) ?_
      · obtain ⟨k, rfl⟩ : ∃ k : Nat, j = k := ⟨j.toNat, by omega⟩
        rw [giset2 (by omega)]
        by_cases q : k = m
        · rw [if_pos q]; exact ⟨x0, x1⟩
        · rw [if_neg q]; exact hv k j0 (by omega)
      · rw [a3_ (by have := f.len; omega)]
        simp only [encR, List.map_set]
    by_cases c1 : 5 * (i : Int) + m < zs.length
    · obtain ⟨x, hx⟩ : ∃ x, gi zs (5 * (i : Int) + m) = x := ⟨_, rfl⟩
      simp -implicitDefEqProofs (maxSteps := 1000000) (disch := first | assumption | omega | (simp only [gL] <;> omega) | ((repeat (first | exact Ext.refl _ | assumption | apply Ext.app | apply Ext.mk | (refine Ext.setr ?_ (by (first | omega | (simp only [gL] <;> omega))) _))); done) | (simp only [gL, gA, hw, hns.lenG, hns.idxG, hns.ld0, hx, encI] <;> omega) | fail) only [gB, setAll, partL, fldV, reduceIte, Nat.reduceAdd, Nat.reduceMul, hw, hns.lenG, hns.idxG, hns.ld0, hx, encI]
      refine WP.call (a2q (by omega) (by unfold Fit; omega) _) ?_
      rintro _ _ ⟨rfl, rfl⟩
      simp -implicitDefEqProofs (maxSteps := 1000000) (disch := first | assumption | omega | (simp only [gL] <;> omega) | ((repeat (first | exact Ext.refl _ | assumption | apply Ext.app | apply Ext.mk | (refine Ext.setr ?_ (by (first | omega | (simp only [gL] <;> omega))) _))); done) | (simp only [gL, gA, a8D hm5, stP ro] <;> omega) | fail) only [gB, setAll, partL, fldV, reduceIte, Nat.reduceAdd, Nat.reduceMul, a8D hm5, stP ro]
      exact key x
    · simp -implicitDefEqProofs (maxSteps := 1000000) (disch := first | assumption | omega | (simp only [gL] <;> omega) | ((repeat (first | exact Ext.refl _ | assumption | apply Ext.app | apply Ext.mk | (refine Ext.setr ?_ (by (first | omega | (simp only [gL] <;> omega))) _))); done) | (simp only [gL, gA, hw, hns.lenG, add_w] <;> omega) | fail) only [gB, setAll, partL, fldV, reduceIte, Nat.reduceAdd, Nat.reduceMul, hw, hns.lenG, add_w]
      refine WP.call (a2q (by omega) (by unfold Fit; omega) _) ?_
      rintro _ _ ⟨rfl, rfl⟩
      simp -implicitDefEqProofs (maxSteps := 1000000) (disch := first | assumption | omega | (simp only [gL] <;> omega) | ((repeat (first | exact Ext.refl _ | assumption | apply Ext.app | apply Ext.mk | (refine Ext.setr ?_ (by (first | omega | (simp only [gL] <;> omega))) _))); done) | (simp only [gL, gA, a8D hm5, stP ro] <;> omega) | fail) only [gB, setAll, partL, fldV, reduceIte, Nat.reduceAdd, Nat.reduceMul, a8D hm5, stP ro]
      exact key _
theorem mk_l1 {h0 : Heap} {n : Nat} {acc2 : Int} {ns : AV} {zs : List Int} {Q : AV → Heap → Prop} (hn : n ≤ 9) (hns : Sl h0 1 ns (zs.map encI))
    (hQ : ∀ h D acc sD sA oD oA, MK h0 n n D acc sD sA oD oA h → Q (.agg [sD, sA]) (h.set h0.length (.cells ⟨[sD, sA], 0, 0, false⟩))) :
    ∀ (d i : Nat) (h : Heap) (D : List (List Int)) (acc : List Bool) (sD sA : AV) (oD oA : Nat), i + d = n → MK h0 n i D acc sD sA oD oA h →
      WP (fun p : Nat × Nat => d9_ tab p.1 p.2 ns (I acc2) (.ptr h0.length 0 2 0) (.ptr (h0.length + 1) 0 2 0) (I n) (I i) h) Q := by
  intro d
  induction d with
  | zero =>
    intro i h D acc sD sA oD oA h1 w
    refine WP.rnd (fun i' j => a0p tab i' j ns (I acc2) (.ptr h0.length 0 2 0) (.ptr (h0.length + 1) 0 2 0) (I n) (I i) h) ?_
    obtain rfl : i = n := by omega
    have r6 := w.r6
    have r7 := w.r7
    have b6 := (List.getElem?_eq_some_iff.1 r6).1
    simp -implicitDefEqProofs (maxSteps := 1000000) (disch := first | assumption | omega | (simp only [gL] <;> omega) | ((repeat (first | exact Ext.refl _ | assumption | apply Ext.app | apply Ext.mk | (refine Ext.setr ?_ (by (first | omega | (simp only [gL] <;> omega))) _))); done) | (simp only [gL, gA, r6, r7, w.gD.sl.one, w.gD.sl.cells, w.gA.sl.one, w.gA.sl.cells] <;> omega) | fail) only [gB, setAll, partL, fldV, reduceIte, Nat.reduceAdd, Nat.reduceMul, r6, r7, w.gD.sl.one, w.gD.sl.cells, w.gA.sl.one, w.gA.sl.cells]
    exact WP.ret (hQ h D acc sD sA oD oA w)
  | succ d ih =>
    intro i h D acc sD sA oD oA h1 w
    refine WP.rnd (fun i' j => a0p tab i' j ns (I acc2) (.ptr h0.length 0 2 0) (.ptr (h0.length + 1) 0 2 0) (I n) (I i) h) ?_
    simp -implicitDefEqProofs (maxSteps := 1000000) (disch := first | assumption | omega | (simp only [gL] <;> omega) | ((repeat (first | exact Ext.refl _ | assumption | apply Ext.app | apply Ext.mk | (refine Ext.setr ?_ (by (first | omega | (simp only [gL] <;> omega))) _))); done) | (simp only [gL, gA] <;> omega) | fail) only [gB, setAll, partL, fldV, reduceIte, Nat.reduceAdd, Nat.reduceMul]
    obtain ⟨h2, hh2⟩ : ∃ h2, h2 = h ++ [AObj.cells ⟨[AV.int .i64 0, AV.int .i64 0, AV.int .i64 0, AV.int .i64 0, AV.int .i64 0], 0, 0, false⟩] := ⟨_, rfl⟩
    have e2 : Ext h h2 := by rw [hh2]; exact Ext.push _ _
    have l2 : h2.length = h.length + 1 := by rw [hh2]; simp
    have ro : h2[h.length]? = some (.cells ⟨encR [0, 0, 0, 0, 0], 0, 0, false⟩) := by rw [hh2]; simp [encR, I]
    rw [← hh2]
    refine WP.ent (mk_l2 (on := h.length) (h2 := h2) hn (by omega) hns (by have := w.ex.len; omega) (by omega) (w.ex.trans e2) (fun h3 f => w.frs (P := fun o => o = h.length) (⟨by have := e2.len; have := f.len; omega, fun o z1 z2 => by rw [f.get z1 (by omega), hh2, a0l z2]⟩) fun o z1 z2 => by omega) (fun h3 D3 acc3 sD3 sA3 oD3 oA3 w3 => ih (i + 1) h3 D3 acc3 sD3 sA3 oD3 oA3 (by omega) w3) 5 0 h2 [0, 0, 0, 0, 0] (by omega) (FrS.refl _ _) rfl (fun j j0 j1 => by omega) ro) fun i => rfl
theorem b0v {o lo hi : Nat} {h : Heap} {sz : Nat} {s : AV} {xs : List (List AV)} (a : Gr o (o + 1) h sz s xs) (ho : s ≠ .nils → lo ≤ o ∧ o < hi) : Gr lo hi h sz s xs := by
  by_cases hn : s = .nils
  · subst hn
    have := Gr.isNil a
    subst this
    exact Gr.nil ..
  · exact Gr.mono a (ho hn).1 (ho hn).2
theorem b2B {h : Heap} {size acc2 : Int} {ns : AV} {zs : List Int} (hns : Sl h 1 ns (zs.map encI)) :
    Tot tab i8_ [I size, ns, I acc2] h fun r h' => Ext h h' ∧ ∃ D acc sD sA, r = .agg [sD, sA] ∧ DOk D acc ∧ D.length ≤ 9 ∧ Gr h.length h'.length h' 5 sD (D.map encR) ∧ Gr h.length h'.length h' 1 sA (acc.map encB) := by
  refine WP.tot (fun k => (a4Y k _ _ _ h).trans (a6r tab k _ _ _ h)) ?_
  simp -implicitDefEqProofs (maxSteps := 1000000) (disch := first | assumption | omega | (simp only [gL] <;> omega) | ((repeat (first | exact Ext.refl _ | assumption | apply Ext.app | apply Ext.mk | (refine Ext.setr ?_ (by (first | omega | (simp only [gL] <;> omega))) _))); done) | (simp only [gL, gA] <;> omega) | fail) only [gB, setAll, partL, fldV, reduceIte, Nat.reduceAdd, Nat.reduceMul]
  refine WP.call (a2q (by omega) (by unfold Fit; omega) _) ?_
  rintro _ _ ⟨rfl, rfl⟩
  obtain ⟨n, hn⟩ : ∃ n : Nat, 1 + size % 9 = n := ⟨(1 + size % 9).toNat, by omega⟩
  simp -implicitDefEqProofs (maxSteps := 1000000) (disch := first | assumption | omega | (simp only [gL] <;> omega) | ((repeat (first | exact Ext.refl _ | assumption | apply Ext.app | apply Ext.mk | (refine Ext.setr ?_ (by (first | omega | (simp only [gL] <;> omega))) _))); done) | (simp only [gL, gA, hn] <;> omega) | fail) only [gB, setAll, partL, fldV, reduceIte, Nat.reduceAdd, Nat.reduceMul, hn]
  refine WP.ent (mk_l1 (n := n) (by omega) hns (fun h3 D acc sD sA oD oA w => ?_) n 0 _ [] [] .nils .nils 0 0 (by omega) ⟨?_, ?_, ?_, Gr.nil .., Gr.nil .., fun z => absurd rfl z, fun z => absurd rfl z, fun z => absurd rfl z, rfl, rfl, fun s s0 s1 => by omega, fun s m s0 s1 => by omega⟩) fun i => rfl
  · have f : FrS (fun o => o = h.length) h3 (h3.set h.length (.cells ⟨[sD, sA], 0, 0, false⟩)) := ⟨by simp, fun p p1 p2 => b0_ fun z => p1 z.symm⟩
    refine ⟨f.ext w.ex fun o z1 z2 => by omega, D, acc, sD, sA, rfl, ⟨?_, ?_, ?_, fun s s0 s1 => w.row s s0 (by rw [w.lD] at s1; exact s1), fun s m s0 s1 m0 m1 => ?_⟩, by rw [w.lD]; omega, b0v (w.gD.frsN f fun z q => by have := (w.pD z).1; omega) fun z => ⟨by have := (w.pD z).1; omega, by have := (w.pD z).2; have := f.len; omega⟩, b0v (w.gA.frsN f fun z q => by have := (w.pA z).1; omega) fun z => ⟨by have := (w.pA z).1; omega, by have := (w.pA z).2; have := f.len; omega⟩⟩
    · rw [w.lD]; omega
    · rw [w.lD]; omega
    · rw [w.lD, w.lA]
    · rw [w.lD] at s1 ⊢; exact w.to s m s0 s1 m0 m1
  · ((repeat (first | exact Ext.refl _ | assumption | apply Ext.app | apply Ext.mk | (refine Ext.setr ?_ (by (first | omega | (simp only [gL] <;> omega))) _))))
  · simp
  · simp
end Go.Gm.A9

namespace Go.Gm.A9
open Go Go.Gm
section
variable {h0 h : Heap} {g : AV} {N : Nat} {es : List E} {D : List (List Int)} {acc : List Bool}
theorem b4y {oe n : Nat} {x t17 t18 t41 : AV} {k : Int} {ed : E} {ps : List Int} {X : List Tr} {Q : AV → Heap → Prop} (hpl : ps.length ≤ 100000) (hX : X.length ≤ 1000000000) (ht : Sl h0 1 t41 (ps.map encI)) (hn : n ≤ 1000000)
    (hQ : ∀ h out, Ext h0 h → Gr h0.length h.length h 3 out ((X ++ ps.map fun s' => ((ed.fr, s', k) : Tr)).map encT) → WP (fun p : Nat × Nat => h8_ tab p.1 p.2 g x out t17 t18 (I (n + 1)) h) Q) :
    ∀ (d m : Nat) (h : Heap) (out : AV) (o : Nat), m + d = ps.length → Ext h0 h → h[oe]? = some (.cells ⟨encE ed, 0, 0, false⟩) → Gr o (o + 1) h 3 out ((X ++ (ps.take m).map fun s' => ((ed.fr, s', k) : Tr)).map encT) → (out ≠ .nils → h0.length ≤ o ∧ o < h.length ∧ o ≠ oe) →
      WP (fun p : (Nat × Nat) × Nat => n5_ tab p.1.1 p.1.2 p.2 g x out (I k) (.ptr oe 0 4 0) t17 t18 (I n) t41 (I ps.length) (I m) h) Q := by
  intro d
  induction d with
  | zero =>
    intro m h out o h1 e re g1 ho
    refine WP.rnd (fun i j => a0s tab i.1 i.2 j g x out (I k) (.ptr oe 0 4 0) t17 t18 (I n) t41 (I ps.length) (I m) h) ?_
    rw [List.take_of_length_le (by omega)] at g1
    simp -implicitDefEqProofs (maxSteps := 1000000) (disch := first | assumption | omega | (simp only [gL] <;> omega) | ((repeat (first | exact Ext.refl _ | assumption | apply Ext.app | apply Ext.mk | (refine Ext.setr ?_ (by (first | omega | (simp only [gL] <;> omega))) _))); done) | (simp only [gL, gA] <;> omega) | fail) only [gB, setAll, partL, fldV, reduceIte, Nat.reduceAdd, Nat.reduceMul]
    exact WP.lv (hQ h out e (b0v g1 fun z => ⟨(ho z).1, (ho z).2.1⟩)) fun i j => rfl
  | succ d ih =>
    intro m h out o h1 e re g1 ho
    refine WP.rnd (fun i j => a0s tab i.1 i.2 j g x out (I k) (.ptr oe 0 4 0) t17 t18 (I n) t41 (I ps.length) (I m) h) ?_
    obtain ⟨s', hs'⟩ : ∃ s', gi ps m = s' := ⟨_, rfl⟩
    have htk : ps.take (m + 1) = ps.take m ++ [s'] := by
      rw [List.take_add_one, show ps[m]? = some s' by
        have := d5_ (xs := ps) (i := (m : Int)) (by omega) (by omega)
        rw [hs'] at this; simpa using this]
      rfl
    have re' := re
    simp only [encE] at re'
    have boe := (List.getElem?_eq_some_iff.1 re).1
    have hlb := e.len
    have e1 : Ext h (h ++ [AObj.cells ⟨[I ed.fr, I s', I k], 0, 0, false⟩]) := Ext.push _ _
    have b1 : Sl (h ++ [AObj.cells ⟨[I ed.fr, I s', I k], 0, 0, false⟩]) 3 (.sl h.length 0 1 3 none 0) [[I ed.fr, I s', I k]] := by
      have := (Gr.lit (h := h) (sz := 3) (v := [I ed.fr, I s', I k]) rfl).sl
      rwa [a9_] at this
    obtain ⟨s2, h', o', q1, q2, q3, q4⟩ := (g1.ext e1).appP (bytes := 24) (fun z => by have := (ho z).2.1; simp; omega) b1 (by omega) (by omega) (by simp; omega)
    have hl' := q4.len
    simp only [List.length_append, List.length_cons, List.length_nil] at hl' q3
    simp -implicitDefEqProofs (maxSteps := 1000000) (disch := first | assumption | omega | (simp only [gL] <;> omega) | ((repeat (first | exact Ext.refl _ | assumption | apply Ext.app | apply Ext.mk | (refine Ext.setr ?_ (by (first | omega | (simp only [gL] <;> omega))) _))); done) | (simp only [gL, gA, ht.idxG, ht.ld0, hs', encI, re', q1] <;> omega) | fail) only [gB, setAll, partL, fldV, reduceIte, Nat.reduceAdd, Nat.reduceMul, ht.idxG, ht.ld0, hs', encI, re', q1]
    refine ih (m + 1) h' s2 o' (by omega) (q4.ext (e.trans e1) fun p z1 z2 => by have := (ho z2.1).1; omega) ?_ (q2.cong ?_) fun z => ?_
    · rw [q4.get (fun z => (ho z.1).2.2 z.2.symm) (by simp; omega)]
      exact e1.get re
    · rw [htk]
      simp [encT]
    · rcases (q3 z).1 with ⟨z1, z2⟩ | z1
      · rw [z1]; exact ⟨(ho z2).1, by have := (ho z2).2.1; omega, (ho z2).2.2⟩
      · exact ⟨by omega, (q3 z).2, by omega⟩
theorem b4z (gv : GV h0 g N es D acc) (ok : DOk D acc) (no : NetOk N es) {v s : Int} (s0 : 0 ≤ s) (s1 : s < D.length) {ks : List Int} (hks : ∀ k ∈ ks, 0 ≤ k ∧ k < es.length) (hlk : ks.length ≤ 100000) {x t15 : AV} (hx : At h0 x [I v, I s]) (ht : Sl h0 1 t15 (ks.map encI)) :
    ∀ (d n : Nat) (h : Heap) (out : AV), n + d = ks.length → Ext h0 h → Gr h0.length h.length h 3 out (((ks.take n).flatMap fun k => (bef D s (gi es k).md).map fun s' => (((gi es k).fr, s', k) : Tr)).map encT) →
      WP (fun p : Nat × Nat => h8_ tab p.1 p.2 g x out t15 (I ks.length) (I n) h) fun r h' => Ext h0 h' ∧ Gr h0.length h'.length h' 3 r ((ks.flatMap fun k => (bef D s (gi es k).md).map fun s' => (((gi es k).fr, s', k) : Tr)).map encT) := by
  obtain ⟨sE, a, sD, sA, sB, B, k1, k2, k3, k4, k5, k6, k7, k8⟩ := gv.ex
  have l1 := ok.l1
  intro d
  induction d with
  | zero =>
    intro n h out h1 e g1
    refine WP.rnd (fun i j => a0t tab i j g x out t15 (I ks.length) (I n) h) ?_
    rw [List.take_of_length_le (by omega)] at g1
    simp -implicitDefEqProofs (maxSteps := 1000000) (disch := first | assumption | omega | (simp only [gL] <;> omega) | ((repeat (first | exact Ext.refl _ | assumption | apply Ext.app | apply Ext.mk | (refine Ext.setr ?_ (by (first | omega | (simp only [gL] <;> omega))) _))); done) | (simp only [gL, gA] <;> omega) | fail) only [gB, setAll, partL, fldV, reduceIte, Nat.reduceAdd, Nat.reduceMul]
    exact WP.ret ⟨e, g1⟩
  | succ d ih =>
    intro n h out h1 e g1
    refine WP.rnd (fun i j => a0t tab i j g x out t15 (I ks.length) (I n) h) ?_
    obtain ⟨k, hk⟩ : ∃ k, gi ks n = k := ⟨_, rfl⟩
    have hkr := hks k (hk ▸ b4_ (by omega) (by omega))
    have he := no.edge _ (b4_ (xs := es) hkr.1 hkr.2)
    obtain ⟨ed, hed⟩ : ∃ ed, gi es k = ed := ⟨_, rfl⟩
    rw [hed] at he
    have htk : ks.take (n + 1) = ks.take n ++ [k] := by
      rw [List.take_add_one, show ks[n]? = some k by
        have := d5_ (xs := ks) (i := (n : Int)) (by omega) (by omega)
        rw [hk] at this; simpa using this]
      rfl
    have hlo := e.len
    obtain ⟨h2, hh2⟩ : ∃ h2, h2 = ((h ++ [AObj.cells ⟨[I 0, I 0, I 0, I 0], 0, 0, false⟩]).set h.length (.cells ⟨[I ed.fr, I ed.to, I ed.md, I ed.co], 0, 0, false⟩)) := ⟨_, rfl⟩
    have hl2 : h2.length = h.length + 1 := by rw [hh2]; simp
    have e2 : Ext h h2 := by rw [hh2]; ((repeat (first | exact Ext.refl _ | assumption | apply Ext.app | apply Ext.mk | (refine Ext.setr ?_ (by (first | omega | (simp only [gL] <;> omega))) _))))
    have r2 : h2[h.length]? = some (.cells ⟨[I ed.fr, I ed.to, I ed.md, I ed.co], 0, 0, false⟩) := by rw [hh2]; exact a3_ (by simp)
    have e02 := e.trans e2
    obtain ⟨b5, bs⟩ := k8 s ed.md s0 s1 he.2.2.2.2.1 he.2.2.2.2.2
    obtain ⟨p, p1, p2, -⟩ := cellA (H := h2) k6 e02 s0 (by rw [k7]; exact s1) he.2.2.2.2.1 he.2.2.2.2.2
    rw [show (id (gi B s)).getD ed.md.toNat .undef = gi (gi B s) ed.md by
      rw [id, List.getD_eq_getElem?_getD, d5_ he.2.2.2.2.1 (by omega)]; rfl] at p2
    have bs2 := bs.ext e02
    have hbl : (bef D s ed.md).length ≤ 100000 := by
      have := a5B D s ed.md D.length
      show (befTo D s ed.md D.length).length ≤ _
      omega
    have hXl : (((ks.take n).flatMap fun k => (bef D s (gi es k).md).map fun s' => (((gi es k).fr, s', k) : Tr))).length ≤ 1000000000 := by
      have : ∀ l : List Int, (l.flatMap fun k => (bef D s (gi es k).md).map fun s' => (((gi es k).fr, s', k) : Tr)).length ≤ l.length * 2000 := by
        intro l
        induction l with
        | nil => simp
        | cons a l ih =>
          have h3 := a5B D s (gi es a).md D.length
          have h4 : ((bef D s (gi es a).md).map fun s' => (((gi es a).fr, s', a) : Tr)).length ≤ 2000 := by
            rw [List.length_map]; show (befTo D s (gi es a).md D.length).length ≤ _; omega
          rw [List.flatMap_cons, List.length_append, List.length_cons, Nat.add_mul]
          omega
      have h5 := this (ks.take n)
      rw [List.length_take] at h5
      have : min n ks.length * 2000 ≤ 100000 * 2000 := Nat.mul_le_mul_right _ (by omega)
      omega
    simp -implicitDefEqProofs (maxSteps := 1000000) (disch := first | assumption | omega | (simp only [gL] <;> omega) | ((repeat (first | exact Ext.refl _ | assumption | apply Ext.app | apply Ext.mk | (refine Ext.setr ?_ (by (first | omega | (simp only [gL] <;> omega))) _))); done) | (simp only [gL, gA, k1.nil, k1.fldA0, k1.fldAf, k1.ldfE, ht.idxG, ht.ld0, hk, encI, k2.idxG, k2.ldN, hed, encE] <;> omega) | fail) only [gB, setAll, partL, fldV, reduceIte, Nat.reduceAdd, Nat.reduceMul, k1.nil, k1.fldA0, k1.fldAf, k1.ldfE, ht.idxG, ht.ld0, hk, encI, k2.idxG, k2.ldN, hed, encE]
    rw [show AV.int .i64 0 = I 0 from rfl, ← hh2]
    simp -implicitDefEqProofs (maxSteps := 1000000) (disch := first | assumption | omega | (simp only [gL] <;> omega) | ((repeat (first | exact Ext.refl _ | assumption | apply Ext.app | apply Ext.mk | (refine Ext.setr ?_ (by (first | omega | (simp only [gL] <;> omega))) _))); done) | (simp only [gL, gA, k1.nil, k1.fldA0, k1.fldAf, k1.ldfE, r2, hx.fldA0, hx.ldfE, k6.idxG, k7, p1, p2, bs2.lenG] <;> omega) | fail) only [gB, setAll, partL, fldV, reduceIte, Nat.reduceAdd, Nat.reduceMul, k1.nil, k1.fldA0, k1.fldAf, k1.ldfE, r2, hx.fldA0, hx.ldfE, k6.idxG, k7, p1, p2, bs2.lenG]
    obtain ⟨o, o1, o2⟩ := g1.point
    refine WP.ent (b4y (oe := h.length) (ed := ed) (k := k) hbl hXl bs (by omega) (fun h3 out3 e3 g3 => ih (n + 1) h3 out3 (by omega) e3 (g3.cong ?_)) (bef D s ed.md).length 0 h2 out o (by omega) e02 (by rw [r2]; rfl) ((o2.ext e2).cong (by simp)) (fun z => ⟨(o1 z).1, by have := (o1 z).2.1; omega, by have := (o1 z).2.1; omega⟩)) fun i => rfl
    rw [htk, List.flatMap_append]
    simp [hed]
theorem b3u (gv : GV h g N es D acc) (ok : DOk D acc) (no : NetOk N es) {v s : Int} (s0 : 0 ≤ s) (s1 : s < D.length) :
    Tot tab c7_ [g, .agg [I v, I s]] h fun r h' => Ext h h' ∧ Gr h.length h'.length h' 3 r ((backL es D v s).map encT) := by
  obtain ⟨sE, a, sD, sA, sB, B, k1, k2, k3, k4, k5, k6, k7, k8⟩ := gv.ex
  refine WP.tot (fun k => (a5c k _ _ h).trans (a6w tab k _ _ h)) ?_
  have e1 : Ext h (h ++ [AObj.cells ⟨[I v, I s], 0, 0, false⟩]) := by ((repeat (first | exact Ext.refl _ | assumption | apply Ext.app | apply Ext.mk | (refine Ext.setr ?_ (by (first | omega | (simp only [gL] <;> omega))) _))))
  simp -implicitDefEqProofs (maxSteps := 1000000) (disch := first | assumption | omega | (simp only [gL] <;> omega) | ((repeat (first | exact Ext.refl _ | assumption | apply Ext.app | apply Ext.mk | (refine Ext.setr ?_ (by (first | omega | (simp only [gL] <;> omega))) _))); done) | (simp only [gL, gA, k1.nil, k1.fldA0, k1.fldAf, k1.ldfE] <;> omega) | fail) only [gB, setAll, partL, fldV, reduceIte, Nat.reduceAdd, Nat.reduceMul, k1.nil, k1.fldA0, k1.fldAf, k1.ldfE]
  refine WP.call (b4i no (k3.ext e1)) ?_
  rintro r h2 ⟨e2, g2⟩
  have hl2 : (inL es v).length ≤ 100000 := Nat.le_trans (o5_ ..) no.len
  have hl := e2.len
  simp only [List.length_append, List.length_cons, List.length_nil] at hl
  have hx : At h2 (.ptr h.length 0 2 0) [I v, I s] := At.row (wg := 0) (g := 0) (ro := false) (e2.get (by simp)) (Nat.le_refl _) rfl
  simp -implicitDefEqProofs (maxSteps := 1000000) (disch := first | assumption | omega | (simp only [gL] <;> omega) | ((repeat (first | exact Ext.refl _ | assumption | apply Ext.app | apply Ext.mk | (refine Ext.setr ?_ (by (first | omega | (simp only [gL] <;> omega))) _))); done) | (simp only [gL, gA, g2.sl.lenG] <;> omega) | fail) only [gB, setAll, partL, fldV, reduceIte, Nat.reduceAdd, Nat.reduceMul, g2.sl.lenG]
  refine WP.ent ((b4z (gv.ext (e1.trans e2)) ok no s0 s1 (ks := inL es v) (fun k hk => ⟨(i0_.1 hk).1, (i0_.1 hk).2.1⟩) hl2 hx g2.sl (inL es v).length 0 h2 .nils (by omega) (Ext.refl _) (Gr.nil ..)).mono ?_) fun i => rfl
  rintro r h3 ⟨e3, g3⟩
  exact ⟨(e1.trans e2).trans e3, g3.mono (by omega) (Nat.le_refl _)⟩
end
end Go.Gm.A9

namespace Go.Gm.A9
open Go Go.Gm
section
variable {h0 h : Heap} {g : AV} {N : Nat} {es : List E} {D : List (List Int)} {acc : List Bool}
theorem a8E {D : List (List Int)} {t m : Int} {n : Nat} {s : Int} : s ∈ befTo D t m n ↔ 0 ≤ s ∧ s < n ∧ nx D s m = t := by
  simp only [befTo, List.mem_map, List.mem_filter, List.mem_range, beq_iff_eq]
  constructor
  · rintro ⟨a, ⟨h1, h2⟩, rfl⟩
    exact ⟨by omega, by omega, h2⟩
  · rintro ⟨h1, h2, h3⟩
    exact ⟨s.toNat, ⟨by omega, by rw [show ((s.toNat : Nat) : Int) = s by omega]; exact h3⟩, by omega⟩
theorem b0f (no : NetOk N es) {i : Nat} (hi : i < es.length) : 0 ≤ (eg es i).fr ∧ (eg es i).fr < N ∧ 0 ≤ (eg es i).to ∧ (eg es i).to < N ∧ 0 ≤ (eg es i).md ∧ (eg es i).md < 5 := no.edge _ (b4_ (xs := es) (i := (i : Int)) (by omega) (by omega))
theorem nx_r (ok : DOk D acc) (no : NetOk N es) {i s : Nat} (hi : i < es.length) (hs : s < D.length) : 0 ≤ nx D s (eg es i).md ∧ nx D s (eg es i).md < D.length :=
  ok.to s (eg es i).md (by omega) (by omega) (b0f no hi).2.2.2.2.1 (b0f no hi).2.2.2.2.2
theorem a6Z {S v s : Nat} (hs : s < S) : (v * S + s) / S = v ∧ (v * S + s) % S = s := by
  have h := a9F (S := S) (v := v) (s := s) (v' := (v * S + s) / S) (s' := (v * S + s) % S) hs (Nat.mod_lt _ (by omega)) (by
    rw [Nat.mul_comm ((v * S + s) / S), Nat.div_add_mod])
  exact ⟨h.1.symm, h.2.symm⟩
theorem b3R (ok : DOk D acc) (no : NetOk N es) {i s : Nat} (hi : i < es.length) (hs : s < D.length) : (src es D.length i s, i, (eg es i).co) ∈ hopA es D.length (backL es D) (dst es D i s) := by
  have he := b0f no hi
  have ht := nx_r ok no hi hs
  obtain ⟨d1, d2⟩ := a6Z (S := D.length) (v := (eg es i).to.toNat) (s := (nx D s (eg es i).md).toNat) (by omega)
  refine List.mem_map.2 ⟨((eg es i).fr, (s : Int), (i : Int)), List.mem_flatMap.2 ⟨(i : Int), ?_, List.mem_map.2 ⟨(s : Int), ?_, rfl⟩⟩, ?_⟩
  · refine i0_.2 ⟨by omega, by omega, ?_⟩
    rw [dst, d1]
    simp only [beq_iff_eq]
    show (eg es i).to = _
    omega
  · refine a8E.2 ⟨by omega, by omega, ?_⟩
    rw [dst, d2]
    show nx D s (eg es i).md = _
    omega
  · simp only [hopOf, src]
    congr 1
    have h1 : (eg es i).fr = ((eg es i).fr.toNat : Int) := by omega
    generalize (eg es i).fr.toNat = a at h1
    rw [h1, ← Int.natCast_mul, ← Int.natCast_add, Int.toNat_natCast]
theorem b3S (ok : DOk D acc) (no : NetOk N es) {x y e : Nat} {w : Int} (hx : x < N * D.length) (h : (y, e, w) ∈ hopA es D.length (backL es D) x) : ∃ i s, i < es.length ∧ s < D.length ∧ y = src es D.length i s ∧ x = dst es D i s ∧ w = (eg es i).co := by
  obtain ⟨q1, q2⟩ := dm hx
  obtain ⟨t, ht, h1⟩ := List.mem_map.1 h
  obtain ⟨k, hk, ht⟩ := List.mem_flatMap.1 ht
  obtain ⟨s', hs', rfl⟩ := List.mem_map.1 ht
  obtain ⟨k0, k1, k2⟩ := i0_.1 hk
  obtain ⟨i, rfl⟩ : ∃ i : Nat, k = i := ⟨k.toNat, by omega⟩
  obtain ⟨b0, b1, b2⟩ := a8E.1 hs'
  obtain ⟨s, rfl⟩ : ∃ s : Nat, s' = s := ⟨s'.toNat, by omega⟩
  simp only [beq_iff_eq] at k2
  have hi : i < es.length := by omega
  have hs : s < D.length := by omega
  have he := b0f no hi
  have e1 : (eg es i).to.toNat = x / D.length := by
    show (gi es (i : Int)).to.toNat = _
    rw [k2, Int.toNat_natCast]
  have e2 : (nx D s (eg es i).md).toNat = x % D.length := by
    show (nx D s (gi es (i : Int)).md).toNat = _
    rw [b2, Int.toNat_natCast]
  refine ⟨i, s, hi, hs, ?_, ?_, ?_⟩
  · simp only [hopOf] at h1
    cases h1
    rw [src]
    have h1 : (eg es i).fr = ((eg es i).fr.toNat : Int) := by omega
    generalize (eg es i).fr.toNat = a at h1
    show ((eg es i).fr * (D.length : Int) + (s : Int)).toNat = _
    rw [h1, ← Int.natCast_mul, ← Int.natCast_add, Int.toNat_natCast]
  · rw [dst, e1, e2, Nat.mul_comm, Nat.div_add_mod]
  · simp only [hopOf] at h1
    cases h1
    rfl
theorem b4A (ok : DOk D acc) (no : NetOk N es) : Rev (N * D.length) (hopA es D.length (onL es D)) (hopA es D.length (backL es D)) := by
  refine ⟨fun x y e w hx h => ?_, fun x y e w hy h => ?_⟩
  · obtain ⟨i, s, i1, s1, rfl, rfl, rfl⟩ := b0u ok no hx h
    exact ⟨_, b3R ok no i1 s1⟩
  · obtain ⟨i, s, i1, s1, rfl, rfl, rfl⟩ := b3S ok no hy h
    exact ⟨_, b0t ok no i1 s1⟩
theorem b3v (gv : GV h0 g N es D acc) (ok : DOk D acc) (no : NetOk N es) (hl : es.length * D.length ≤ 10000000) : HopsOk h0 g N es D c7_ (backL es D) := by
  refine ⟨fun h e v s v0 v1 s0 s1 => b3u (gv.ext e) ok no s0 s1, fun v s v0 v1 s0 s1 t ht => ?_, fun v s v0 v1 s0 s1 => ?_⟩
  · obtain ⟨k, hk, ht⟩ := List.mem_flatMap.1 ht
    obtain ⟨s', hs', rfl⟩ := List.mem_map.1 ht
    obtain ⟨k0, k1, _⟩ := i0_.1 hk
    obtain ⟨b0, b1, _⟩ := a8E.1 hs'
    have he := no.edge _ (b4_ k0 k1)
    exact ⟨he.1, he.2.1, b0, b1, k0, k1⟩
  · have h1 : ∀ l : List Int, (l.flatMap fun k => (bef D s (gi es k).md).map fun s' => (((gi es k).fr, s', k) : Tr)).length ≤ l.length * D.length := by
      intro l
      induction l with
      | nil => simp
      | cons a l ih =>
        have h3 := a5B D s (gi es a).md D.length
        rw [List.flatMap_cons, List.length_append, List.length_map, List.length_cons, Nat.add_mul]
        have : (bef D s (gi es a).md).length ≤ D.length := h3
        omega
    have h2 := h1 (inL es v)
    have h3 : (inL es v).length ≤ es.length := o5_ _ _ _
    have h4 := Nat.mul_le_mul_right D.length h3
    show (backL es D v s).length ≤ _
    rw [backL]
    omega
theorem b0g {W : Nat → Prop} {os oc oe ov n x : Nat} {fh q sc se sf : AV} {cs ds fs : List Int} {M : List (Option Int)} {ls : Int} (w : SW W h os g fh q sc se sf oc oe ov n cs ds fs M ls) (hx : x < n) :
    Tot tab c0_ [.ptr os 0 7 0, I x] h fun r h' => r = I (fnd (gf cs) (gf M) x) ∧ h = h' := by
  refine WP.tot (fun k => (a3Q k _ _ h).trans (a4K tab k _ _ h)) ?_
  have ro := w.row
  have lc := w.lc
  have gcs := w.gc.sl
  obtain ⟨c, hc⟩ : ∃ c, gi cs (x : Int) = c := ⟨_, rfl⟩
  have e1 : fnd (gf cs) (gf M) x = if 0 ≤ c then c else (gi M (x : Int)).getD (-1) := by
    show (if 0 ≤ gi cs (x : Int) then gi cs (x : Int) else _) = _
    rw [hc]
  by_cases h0 : 0 ≤ c
  · simp -implicitDefEqProofs (maxSteps := 1000000) (disch := first | assumption | omega | (simp only [gL] <;> omega) | ((repeat (first | exact Ext.refl _ | assumption | apply Ext.app | apply Ext.mk | (refine Ext.setr ?_ (by (first | omega | (simp only [gL] <;> omega))) _))); done) | (simp only [gL, gA, ro, gcs.idxG, gcs.ld0, lc, hc, encI] <;> omega) | fail) only [gB, setAll, partL, fldV, reduceIte, Nat.reduceAdd, Nat.reduceMul, ro, gcs.idxG, gcs.ld0, lc, hc, encI]
    exact WP.ret ⟨by rw [e1, if_pos h0], rfl⟩
  · have hml := w.qv.lm
    simp -implicitDefEqProofs (maxSteps := 1000000) (disch := first | assumption | omega | (simp only [gL] <;> omega) | ((repeat (first | exact Ext.refl _ | assumption | apply Ext.app | apply Ext.mk | (refine Ext.setr ?_ (by (first | omega | (simp only [gL] <;> omega))) _))); done) | (simp only [gL, gA, ro, gcs.idxG, gcs.ld0, lc, hc, encI] <;> omega) | fail) only [gB, setAll, partL, fldV, reduceIte, Nat.reduceAdd, Nat.reduceMul, ro, gcs.idxG, gcs.ld0, lc, hc, encI]
    refine WP.call (w.qv.key (x : Int)) ?_
    rintro _ _ ⟨rfl, rfl⟩
    have hk : keyM n M (x : Int) = gi M (x : Int) := if_pos ⟨by omega, by omega⟩
    rw [hk]
    cases hm : gi M (x : Int) with
    | none =>
      simp -implicitDefEqProofs (maxSteps := 1000000) (disch := first | assumption | omega | (simp only [gL] <;> omega) | ((repeat (first | exact Ext.refl _ | assumption | apply Ext.app | apply Ext.mk | (refine Ext.setr ?_ (by (first | omega | (simp only [gL] <;> omega))) _))); done) | (simp only [gL, gA, a4_, a5_] <;> omega) | fail) only [gB, setAll, partL, fldV, reduceIte, Nat.reduceAdd, Nat.reduceMul, a4_, a5_]
      exact WP.ret ⟨by rw [e1, if_neg h0, hm]; rfl, rfl⟩
    | some k =>
      simp -implicitDefEqProofs (maxSteps := 1000000) (disch := first | assumption | omega | (simp only [gL] <;> omega) | ((repeat (first | exact Ext.refl _ | assumption | apply Ext.app | apply Ext.mk | (refine Ext.setr ?_ (by (first | omega | (simp only [gL] <;> omega))) _))); done) | (simp only [gL, gA, a4_, a5_] <;> omega) | fail) only [gB, setAll, partL, fldV, reduceIte, Nat.reduceAdd, Nat.reduceMul, a4_, a5_]
      exact WP.ret ⟨by rw [e1, if_neg h0, hm]; rfl, rfl⟩
end
end Go.Gm.A9

namespace Go.Gm.A9
open Go Go.Gm
theorem b3w {h : Heap} {W1 W2 : Nat → Prop} {os1 oc1 oe1 ov1 os2 oc2 oe2 ov2 n x ot ob ol : Nat} {g1 fh1 q1 sc1 se1 sf1 g2 fh2 q2 sc2 se2 sf2 : AV} {cs1 ds1 fs1 cs2 ds2 fs2 : List Int} {M1 M2 : List (Option Int)} {ls1 ls2 L : Int}
    (w1 : SW W1 h os1 g1 fh1 q1 sc1 se1 sf1 oc1 oe1 ov1 n cs1 ds1 fs1 M1 ls1) (w2 : SW W2 h os2 g2 fh2 q2 sc2 se2 sf2 oc2 oe2 ov2 n cs2 ds2 fs2 M2 ls2) (hx : x < n)
    (rt : h[ot]? = some (.cells ⟨[.ptr os1 0 7 0], 0, 0, false⟩)) (rb : h[ob]? = some (.cells ⟨[.ptr os2 0 7 0], 0, 0, false⟩)) (rl : h[ol]? = some (.cells ⟨[I L], 0, 0, false⟩))
    (b1 : fnd (gf cs1) (gf M1) x ≤ 4000000000000000000) (b2 : fnd (gf cs2) (gf M2) x ≤ 4000000000000000000) :
    Tot tab k9_ [I x, .ptr ot 0 1 0, .ptr ob 0 1 0, .ptr ol 0 1 0] h fun r h' => r = .tup [] ∧ h'[ol]? = some (.cells ⟨[I (mtL L (fnd (gf cs1) (gf M1) x) (fnd (gf cs2) (gf M2) x))], 0, 0, false⟩) ∧ FrS (fun o => o = ol) h h' := by
  refine WP.tot (fun k => (a0_ a8u k _ h).trans (a8U tab k _ _ _ _ h)) ?_
  simp -implicitDefEqProofs (maxSteps := 1000000) (disch := first | assumption | omega | (simp only [gL] <;> omega) | ((repeat (first | exact Ext.refl _ | assumption | apply Ext.app | apply Ext.mk | (refine Ext.setr ?_ (by (first | omega | (simp only [gL] <;> omega))) _))); done) | (simp only [gL, gA, rt, rb] <;> omega) | fail) only [gB, setAll, partL, fldV, reduceIte, Nat.reduceAdd, Nat.reduceMul, rt, rb]
  refine WP.call (b0g w1 hx) ?_
  rintro _ _ ⟨rfl, rfl⟩
  simp -implicitDefEqProofs (maxSteps := 1000000) (disch := first | assumption | omega | (simp only [gL] <;> omega) | ((repeat (first | exact Ext.refl _ | assumption | apply Ext.app | apply Ext.mk | (refine Ext.setr ?_ (by (first | omega | (simp only [gL] <;> omega))) _))); done) | (simp only [gL, gA, rt, rb] <;> omega) | fail) only [gB, setAll, partL, fldV, reduceIte, Nat.reduceAdd, Nat.reduceMul, rt, rb]
  refine WP.call (b0g w2 hx) ?_
  rintro _ _ ⟨rfl, rfl⟩
  generalize fnd (gf cs1) (gf M1) x = a at b1 ⊢
  generalize fnd (gf cs2) (gf M2) x = b at b2 ⊢
  have bl := (List.getElem?_eq_some_iff.1 rl).1
  by_cases ha : 0 ≤ a
  · by_cases hb : 0 ≤ b
    · by_cases hL : L < 0
      · simp -implicitDefEqProofs (maxSteps := 1000000) (disch := first | assumption | omega | (simp only [gL] <;> omega) | ((repeat (first | exact Ext.refl _ | assumption | apply Ext.app | apply Ext.mk | (refine Ext.setr ?_ (by (first | omega | (simp only [gL] <;> omega))) _))); done) | (simp only [gL, gA, rl] <;> omega) | fail) only [gB, setAll, partL, fldV, reduceIte, Nat.reduceAdd, Nat.reduceMul, rl]
        refine WP.ret ⟨rfl, ?_, ⟨by simp, fun p p1 p2 => b0_ fun z => p1 z.symm⟩⟩
        rw [a3_ bl, mtL, if_pos ⟨ha, hb, .inl hL⟩]
      · by_cases hs : a + b < L
        · simp -implicitDefEqProofs (maxSteps := 1000000) (disch := first | assumption | omega | (simp only [gL] <;> omega) | ((repeat (first | exact Ext.refl _ | assumption | apply Ext.app | apply Ext.mk | (refine Ext.setr ?_ (by (first | omega | (simp only [gL] <;> omega))) _))); done) | (simp only [gL, gA, rl] <;> omega) | fail) only [gB, setAll, partL, fldV, reduceIte, Nat.reduceAdd, Nat.reduceMul, rl]
          refine WP.ret ⟨rfl, ?_, ⟨by simp, fun p p1 p2 => b0_ fun z => p1 z.symm⟩⟩
          rw [a3_ bl, mtL, if_pos ⟨ha, hb, .inr hs⟩]
        · simp -implicitDefEqProofs (maxSteps := 1000000) (disch := first | assumption | omega | (simp only [gL] <;> omega) | ((repeat (first | exact Ext.refl _ | assumption | apply Ext.app | apply Ext.mk | (refine Ext.setr ?_ (by (first | omega | (simp only [gL] <;> omega))) _))); done) | (simp only [gL, gA, rl] <;> omega) | fail) only [gB, setAll, partL, fldV, reduceIte, Nat.reduceAdd, Nat.reduceMul, rl]
          refine WP.ret ⟨rfl, ?_, FrS.refl _ _⟩
          rw [mtL, if_neg (fun z => z.2.2.elim hL hs)]
          exact rl
    · simp -implicitDefEqProofs (maxSteps := 1000000) (disch := first | assumption | omega | (simp only [gL] <;> omega) | ((repeat (first | exact Ext.refl _ | assumption | apply Ext.app | apply Ext.mk | (refine Ext.setr ?_ (by (first | omega | (simp only [gL] <;> omega))) _))); done) | (simp only [gL, gA, rl] <;> omega) | fail) only [gB, setAll, partL, fldV, reduceIte, Nat.reduceAdd, Nat.reduceMul, rl]
      refine WP.ret ⟨rfl, ?_, FrS.refl _ _⟩
      rw [mtL, if_neg (fun z => hb z.2.1)]
      exact rl
  · simp -implicitDefEqProofs (maxSteps := 1000000) (disch := first | assumption | omega | (simp only [gL] <;> omega) | ((repeat (first | exact Ext.refl _ | assumption | apply Ext.app | apply Ext.mk | (refine Ext.setr ?_ (by (first | omega | (simp only [gL] <;> omega))) _))); done) | (simp only [gL, gA, rl] <;> omega) | fail) only [gB, setAll, partL, fldV, reduceIte, Nat.reduceAdd, Nat.reduceMul, rl]
    refine WP.ret ⟨rfl, ?_, FrS.refl _ _⟩
    rw [mtL, if_neg (fun z => ha z.1)]
    exact rl
end Go.Gm.A9

