/- A part of the proof (GmA9U): an abstract machine, what it does, and what the functions of the program come to on it. -/
import Derived.Test.YtidaobchfmnjpaaGmA9S
set_option linter.unusedVariables false
set_option linter.unusedSimpArgs false
set_option linter.unusedSectionVars false
namespace Go.Gm.A9
open Go Go.Gm
/-! ### The least of a vertex -/
def bv (c : Nat → Int) (acc : List Bool) (b : Nat) : Nat → Int
  | 0 => -1
  | s + 1 => if gi acc s = true ∧ 0 ≤ c (b + s) ∧ (bv c acc b s < 0 ∨ c (b + s) < bv c acc b s) then c (b + s) else bv c acc b s
def BestQ (c : Nat → Int) (acc : List Bool) (b n : Nat) (out : Int) : Prop :=
  (out = -1 ∧ bv c acc b n = -1) ∨ ∃ q : Nat, q < n ∧ out = ((b + q : Nat) : Int) ∧ gi acc q = true ∧ 0 ≤ c (b + q) ∧ bv c acc b n = c (b + q)
theorem BestQ.skip {c : Nat → Int} {acc : List Bool} {b n : Nat} {out : Int} (h : BestQ c acc b n out) (hn : ¬ (gi acc n = true ∧ 0 ≤ c (b + n) ∧ (bv c acc b n < 0 ∨ c (b + n) < bv c acc b n))) : BestQ c acc b (n + 1) out := by
  have e : bv c acc b (n + 1) = bv c acc b n := if_neg hn
  rcases h with ⟨h1, h2⟩ | ⟨q, h1, h2, h3, h4, h5⟩
  · exact .inl ⟨h1, by rw [e]; exact h2⟩
  · exact .inr ⟨q, by omega, h2, h3, h4, by rw [e]; exact h5⟩
theorem BestQ.take {c : Nat → Int} {acc : List Bool} {b n : Nat} (h1 : gi acc n = true) (h2 : 0 ≤ c (b + n)) (h3 : bv c acc b n < 0 ∨ c (b + n) < bv c acc b n) : BestQ c acc b (n + 1) ((b + n : Nat) : Int) :=
  .inr ⟨n, by omega, rfl, h1, h2, if_pos ⟨h1, h2, h3⟩⟩
theorem BestQ.neg {c : Nat → Int} {acc : List Bool} {b n : Nat} {out : Int} (h : BestQ c acc b n out) : (out < 0 ↔ bv c acc b n < 0) ∧ (out < 0 → out = -1 ∧ bv c acc b n = -1) ∧ (¬ out < 0 → out = (out.toNat : Int) ∧ b ≤ out.toNat ∧ out.toNat < b + n ∧ c out.toNat = bv c acc b n ∧ gi acc (out - b) = true) := by
  rcases h with ⟨rfl, h2⟩ | ⟨q, h1, rfl, h3, h4, h5⟩
  · exact ⟨by omega, fun _ => ⟨rfl, h2⟩, fun z => absurd (by omega) z⟩
  · refine ⟨by omega, fun z => by omega, fun _ => ⟨by omega, by omega, by omega, ?_, ?_⟩⟩
    · rw [h5, Int.toNat_natCast]
    · rw [show ((b + q : Nat) : Int) - b = q by omega]; exact h3
theorem bv_congr {c d : Nat → Int} {acc : List Bool} {b : Nat} : ∀ n, (∀ s, s < n → c (b + s) = d (b + s)) → bv c acc b n = bv d acc b n
  | 0, _ => rfl
  | n + 1, h => by rw [bv, bv, bv_congr n fun s hs => h s (by omega), h n (by omega)]
def costL (N S : Nat) (c : Nat → Int) (acc : List Bool) : List Int := (List.range N).map fun v => bv c acc (v * S) S
theorem costL_len (N S : Nat) (c : Nat → Int) (acc : List Bool) : (costL N S c acc).length = N := by simp [costL]
theorem costL_gi {N S : Nat} {c : Nat → Int} {acc : List Bool} {v : Nat} (hv : v < N) : gi (costL N S c acc) (v : Int) = bv c acc (v * S) S := by
  rw [gi_nat (by simpa [costL] using hv)]
  simp [costL]
theorem spotN {N S v s : Nat} (hv : v < N) (hs : s < S) : v * S + s < N * S := by
  have : (v + 1) * S ≤ N * S := Nat.mul_le_mul_right _ hv
  rw [Nat.add_mul, Nat.one_mul] at this
  omega
theorem costL_congr {N S : Nat} {c d : Nat → Int} {acc : List Bool} (h : ∀ x, x < N * S → c x = d x) : costL N S c acc = costL N S d acc := by
  refine List.map_congr_left fun v hv => bv_congr S fun s hs => h _ (spotN (List.mem_range.1 hv) hs)
section
variable {h0 h : Heap} {g : AV} {N : Nat} {es : List E} {D : List (List Int)} {acc : List Bool}
theorem best_l1 {W : Nat → Prop} {hb : Heap} {os oc oe ov n v : Nat} {fh q sc se sf sA : AV} {cs ds fs : List Int} {M : List (Option Int)} {ls : Int}
    (gv : GV hb g N es D acc) (ok : DOk D acc) (hN : N ≤ 100000) (hn : n = N * D.length) (hn2 : n ≤ 1000000) (hv : v < N) (hA : Sl hb 1 sA (acc.map encB)) (w0 : SW W hb os g fh q sc se sf oc oe ov n cs ds fs M ls) :
    ∀ (d i : Nat) (h : Heap) (out : Int), i + d = acc.length → Ext hb h → BestQ (gf cs) acc (v * D.length) i out →
      WP (fun p : Nat × Nat => product_search_best_l1 tab p.1 p.2 (.ptr os 0 7 0) (I v) (I out) sA (I acc.length) (I i) h) fun r h' => Ext hb h' ∧ ∃ out, r = I out ∧ BestQ (gf cs) acc (v * D.length) acc.length out := by
  have la := ok.la
  have l1 := ok.l1
  intro d
  induction d with
  | zero =>
    intro i h out h1 e b
    refine WP.rnd (fun i' j => product_search_best_l1_eq tab i' j (.ptr os 0 7 0) (I v) (I out) sA (I acc.length) (I i) h) ?_
    obtain rfl : i = acc.length := by omega
    simp -implicitDefEqProofs (maxSteps := 1000000) (disch := first | assumption | omega | (simp only [gL] <;> omega) | ((repeat (first | exact Ext.refl _ | assumption | apply Ext.app | apply Ext.mk | (refine Ext.setr ?_ (by (first | omega | (simp only [gL] <;> omega))) _))); done) | (simp only [gL, gA] <;> omega) | fail) only [gB, setAll, partL, fldV, reduceIte, Nat.reduceAdd, Nat.reduceMul]
    exact WP.ret ⟨e, out, rfl, b⟩
  | succ d ih =>
    intro i h out h1 e b
    refine WP.rnd (fun i' j => product_search_best_l1_eq tab i' j (.ptr os 0 7 0) (I v) (I out) sA (I acc.length) (I i) h) ?_
    have w := w0.ext e
    have ro := w.row
    have hsp := spotN (S := D.length) hv (show i < D.length by omega)
    rw [← hn] at hsp
    have hcast : (v : Int) * (D.length : Int) + (i : Int) = ((v * D.length + i : Nat) : Int) := by push_cast; rfl
    simp -implicitDefEqProofs (maxSteps := 1000000) (disch := first | assumption | omega | (simp only [gL] <;> omega) | ((repeat (first | exact Ext.refl _ | assumption | apply Ext.app | apply Ext.mk | (refine Ext.setr ?_ (by (first | omega | (simp only [gL] <;> omega))) _))); done) | (simp only [gL, gA, hA.idxG, hA.ld0, encB, ro] <;> omega) | fail) only [gB, setAll, partL, fldV, reduceIte, Nat.reduceAdd, Nat.reduceMul, hA.idxG, hA.ld0, encB, ro]
    refine WP.call (id_spec (gv.ext e) ok (v := (v : Int)) (s := (i : Int)) (by omega) (by omega) (by omega) (by omega)) ?_
    rintro _ h2 ⟨rfl, e2⟩
    rw [hcast]
    have w2 := w.ext e2
    have ro2 := w2.row
    have lc := w2.lc
    obtain ⟨x, hx⟩ : ∃ x, v * D.length + i = x := ⟨_, rfl⟩
    rw [hx] at hsp ⊢
    have e02 := e.trans e2
    obtain ⟨bn1, bn2, bn3⟩ := b.neg
    have bq : gf cs x = gi cs (x : Int) := rfl
    cases hac : gi acc (i : Int) with
    | false =>
      simp -implicitDefEqProofs (maxSteps := 1000000) (disch := first | assumption | omega | (simp only [gL] <;> omega) | ((repeat (first | exact Ext.refl _ | assumption | apply Ext.app | apply Ext.mk | (refine Ext.setr ?_ (by (first | omega | (simp only [gL] <;> omega))) _))); done) | (simp only [gL, gA, ro2] <;> omega) | fail) only [gB, setAll, partL, fldV, reduceIte, Nat.reduceAdd, Nat.reduceMul, ro2]
      exact ih (i + 1) h2 out (by omega) e02 (b.skip fun z => by rw [hac] at z; cases z.1)
    | true =>
      by_cases hc0 : 0 ≤ gi cs (x : Int)
      · by_cases ho : out < 0
        · simp -implicitDefEqProofs (maxSteps := 1000000) (disch := first | assumption | omega | (simp only [gL] <;> omega) | ((repeat (first | exact Ext.refl _ | assumption | apply Ext.app | apply Ext.mk | (refine Ext.setr ?_ (by (first | omega | (simp only [gL] <;> omega))) _))); done) | (simp only [gL, gA, ro2, w2.gc.sl.idxG, w2.gc.sl.ld0, encI] <;> omega) | fail) only [gB, setAll, partL, fldV, reduceIte, Nat.reduceAdd, Nat.reduceMul, ro2, w2.gc.sl.idxG, w2.gc.sl.ld0, encI]
          refine ih (i + 1) h2 _ (by omega) e02 ?_
          rw [← hx]
          exact BestQ.take hac (by rw [hx]; exact hc0) (.inl (bn1.1 ho))
        · obtain ⟨o1, o2, o3, o4, o5⟩ := bn3 ho
          have hob : v * D.length + i ≤ n := by omega
          have o4' : gi cs out = bv (gf cs) acc (v * D.length) i := by rw [← o4]; show gi cs out = gi cs ((out.toNat : Nat) : Int); rw [← o1]
          by_cases hlt : gi cs (x : Int) < gi cs out
          · simp -implicitDefEqProofs (maxSteps := 1000000) (disch := first | assumption | omega | (simp only [gL] <;> omega) | ((repeat (first | exact Ext.refl _ | assumption | apply Ext.app | apply Ext.mk | (refine Ext.setr ?_ (by (first | omega | (simp only [gL] <;> omega))) _))); done) | (simp only [gL, gA, ro2, w2.gc.sl.idxG, w2.gc.sl.ld0, encI] <;> omega) | fail) only [gB, setAll, partL, fldV, reduceIte, Nat.reduceAdd, Nat.reduceMul, ro2, w2.gc.sl.idxG, w2.gc.sl.ld0, encI]
            refine ih (i + 1) h2 _ (by omega) e02 ?_
            rw [← hx]
            exact BestQ.take hac (by rw [hx]; exact hc0) (.inr (by rw [hx, ← o4']; exact hlt))
          · simp -implicitDefEqProofs (maxSteps := 1000000) (disch := first | assumption | omega | (simp only [gL] <;> omega) | ((repeat (first | exact Ext.refl _ | assumption | apply Ext.app | apply Ext.mk | (refine Ext.setr ?_ (by (first | omega | (simp only [gL] <;> omega))) _))); done) | (simp only [gL, gA, ro2, w2.gc.sl.idxG, w2.gc.sl.ld0, encI] <;> omega) | fail) only [gB, setAll, partL, fldV, reduceIte, Nat.reduceAdd, Nat.reduceMul, ro2, w2.gc.sl.idxG, w2.gc.sl.ld0, encI]
            refine ih (i + 1) h2 out (by omega) e02 (b.skip fun z => ?_)
            rw [hx, bq, ← o4'] at z
            omega
      · simp -implicitDefEqProofs (maxSteps := 1000000) (disch := first | assumption | omega | (simp only [gL] <;> omega) | ((repeat (first | exact Ext.refl _ | assumption | apply Ext.app | apply Ext.mk | (refine Ext.setr ?_ (by (first | omega | (simp only [gL] <;> omega))) _))); done) | (simp only [gL, gA, ro2, w2.gc.sl.idxG, w2.gc.sl.ld0, encI] <;> omega) | fail) only [gB, setAll, partL, fldV, reduceIte, Nat.reduceAdd, Nat.reduceMul, ro2, w2.gc.sl.idxG, w2.gc.sl.ld0, encI]
        exact ih (i + 1) h2 out (by omega) e02 (b.skip fun z => hc0 (by rw [hx] at z; exact z.2.1))
theorem best_spec {W : Nat → Prop} {os oc oe ov n v : Nat} {fh q sc se sf : AV} {cs ds fs : List Int} {M : List (Option Int)} {ls : Int}
    (gv : GV h g N es D acc) (ok : DOk D acc) (hN : N ≤ 100000) (hn : n = N * D.length) (hn2 : n ≤ 1000000) (hv : v < N) (w : SW W h os g fh q sc se sf oc oe ov n cs ds fs M ls) :
    Tot tab f_product_search_best [.ptr os 0 7 0, I v] h fun r h' => Ext h h' ∧ ∃ out, r = I out ∧ BestQ (gf cs) acc (v * D.length) D.length out := by
  obtain ⟨sE, a, sD, sA, sB, B, k1, k2, k3, k4, k5, k6, k7, k8⟩ := gv.ex
  refine WP.tot (fun k => (call_product_search_best k _ _ h).trans (product_search_best_eq tab k _ _ h)) ?_
  have ro := w.row
  simp -implicitDefEqProofs (maxSteps := 1000000) (disch := first | assumption | omega | (simp only [gL] <;> omega) | ((repeat (first | exact Ext.refl _ | assumption | apply Ext.app | apply Ext.mk | (refine Ext.setr ?_ (by (first | omega | (simp only [gL] <;> omega))) _))); done) | (simp only [gL, gA, ro, k1.nil, k1.fldA0, k1.fldAf, k1.ldfE, k5.lenG] <;> omega) | fail) only [gB, setAll, partL, fldV, reduceIte, Nat.reduceAdd, Nat.reduceMul, ro, k1.nil, k1.fldA0, k1.fldAf, k1.ldfE, k5.lenG]
  refine WP.ent ((best_l1 gv ok hN hn hn2 hv k5 w acc.length 0 h (-1) (by omega) (Ext.refl _) (.inl ⟨rfl, rfl⟩)).mono ?_) fun i => rfl
  rintro r h' ⟨e, out, rfl, b⟩
  rw [ok.la] at b
  exact ⟨e, out, rfl, b⟩
/-! ### All least costs -/
theorem at_one {S : Nat} {v : Nat} {x : Nat} : atSt S [((v : Int), 0)] x ↔ x = v * S := by
  constructor
  · rintro ⟨b, b1, b2⟩
    obtain rfl := List.mem_singleton.1 b1
    simp only [Int.add_zero] at b2
    have : ((v * S : Nat) : Int) = (x : Int) := by rw [Int.natCast_mul]; exact b2
    omega
  · rintro rfl
    exact ⟨_, List.mem_singleton.2 rfl, by simp⟩
theorem on_hops (gv : GV h0 g N es D acc) (ok : DOk D acc) (no : NetOk N es) : HopsOk h0 g N es D f_product_graph_on (onL es D) := by
  refine ⟨fun h e v s v0 v1 s0 s1 => on_spec (gv.ext e) ok no s0 s1, fun v s v0 v1 s0 s1 t ht => ?_, fun v s v0 v1 s0 s1 => ?_⟩
  · obtain ⟨k, hk, rfl⟩ := List.mem_map.1 ht
    obtain ⟨k0, k1, _⟩ := idxTo_mem.1 hk
    have he := no.edge _ (gi_mem k0 k1)
    have ht := ok.to s (gi es k).md s0 s1 he.2.2.2.2.1 he.2.2.2.2.2
    exact ⟨he.2.2.1, he.2.2.2.1, ht.1, ht.2, k0, k1⟩
  · rw [onL, List.length_map]
    have := idxTo_len (fun e => e.fr == v) es es.length
    have := no.len
    show (idxTo _ es es.length).length ≤ _
    omega
theorem costs_l1 {W : Nat → Prop} {os oc oe ov n oo : Nat} {fh q sc se sf o : AV} {cs ds fs : List Int} {M : List (Option Int)} {ls : Int}
    (gv : GV h0 g N es D acc) (ok : DOk D acc) (hN : N ≤ 100000) (hn : n = N * D.length) (hn2 : n ≤ 1000000) (hoo : h0.length ≤ oo) (hWo : ¬ W oo) :
    ∀ (d i : Nat) (h : Heap) (xs : List Int), i + d = N → Ext h0 h → SW W h os g fh q sc se sf oc oe ov n cs ds fs M ls → Gr oo (oo + 1) h 1 o (xs.map encI) → xs.length = N → (∀ u : Nat, u < i → gi xs (u : Int) = bv (gf cs) acc (u * D.length) D.length) →
      WP (fun p : Nat × Nat => product_Costs_l1 tab p.1 p.2 (.ptr os 0 7 0) o (I N) (I i) h) fun r h' => Ext h0 h' ∧ Gr oo (oo + 1) h' 1 r ((costL N D.length (gf cs) acc).map encI) := by
  intro d
  induction d with
  | zero =>
    intro i h xs h1 e w gr lx hx
    refine WP.rnd (fun i' j => product_Costs_l1_eq tab i' j (.ptr os 0 7 0) o (I N) (I i) h) ?_
    obtain rfl : i = N := by omega
    simp -implicitDefEqProofs (maxSteps := 1000000) (disch := first | assumption | omega | (simp only [gL] <;> omega) | ((repeat (first | exact Ext.refl _ | assumption | apply Ext.app | apply Ext.mk | (refine Ext.setr ?_ (by (first | omega | (simp only [gL] <;> omega))) _))); done) | (simp only [gL, gA] <;> omega) | fail) only [gB, setAll, partL, fldV, reduceIte, Nat.reduceAdd, Nat.reduceMul]
    refine WP.ret ⟨e, gr.cong ?_⟩
    congr 1
    apply List.ext_getElem (by rw [lx, costL_len])
    intro u u1 u2
    have a1 := hx u (by omega)
    have a2 := costL_gi (S := D.length) (c := gf cs) (acc := acc) (N := i) (v := u) (by omega)
    rw [gi_nat u1] at a1
    rw [gi_nat u2] at a2
    rw [a1, a2]
  | succ d ih =>
    intro i h xs h1 e w gr lx hx
    refine WP.rnd (fun i' j => product_Costs_l1_eq tab i' j (.ptr os 0 7 0) o (I N) (I i) h) ?_
    obtain ⟨h2, s2, g2, f2, l2⟩ := gr.write0 (i := (i : Int)) (v := I (-1)) (by omega) (by rw [List.length_map]; omega) rfl rfl
    have f2s : FrS (fun p => p = oo) h h2 := f2.s.mono fun p z1 z2 => by omega
    have g2' : Gr oo (oo + 1) h2 1 o ((xs.set i (-1)).map encI) := g2.cong (by rw [List.map_set]; simp [encI]; rfl)
    have e2 : Ext h0 h2 := f2s.ext e fun p z1 z2 => by omega
    have w2 := w.frs f2s fun p z1 z2 z3 => hWo (z3 ▸ z2)
    have gs := gr.sl
    simp -implicitDefEqProofs (maxSteps := 1000000) (disch := first | assumption | omega | (simp only [gL] <;> omega) | ((repeat (first | exact Ext.refl _ | assumption | apply Ext.app | apply Ext.mk | (refine Ext.setr ?_ (by (first | omega | (simp only [gL] <;> omega))) _))); done) | (simp only [gL, gA, gs.idxG, s2] <;> omega) | fail) only [gB, setAll, partL, fldV, reduceIte, Nat.reduceAdd, Nat.reduceMul, gs.idxG, s2]
    refine WP.call (best_spec (gv.ext e2) ok hN hn hn2 (v := i) (by omega) w2) ?_
    rintro _ h3 ⟨e3, out, rfl, b⟩
    have w3 := w2.ext e3
    have g3 := g2'.ext e3
    have ro3 := w3.row
    have lc := w3.lc
    obtain ⟨bn1, bn2, bn3⟩ := b.neg
    by_cases ho : out < 0
    · simp -implicitDefEqProofs (maxSteps := 1000000) (disch := first | assumption | omega | (simp only [gL] <;> omega) | ((repeat (first | exact Ext.refl _ | assumption | apply Ext.app | apply Ext.mk | (refine Ext.setr ?_ (by (first | omega | (simp only [gL] <;> omega))) _))); done) | (simp only [gL, gA] <;> omega) | fail) only [gB, setAll, partL, fldV, reduceIte, Nat.reduceAdd, Nat.reduceMul]
      refine ih (i + 1) h3 _ (by omega) (e2.trans e3) w3 g3 (by simpa using lx) fun u hu => ?_
      rw [giset2 (by omega)]
      by_cases qu : u = i
      · rw [if_pos qu, qu, (bn2 ho).2]
      · rw [if_neg qu]; exact hx u (by omega)
    · obtain ⟨o1, o2, o3, o4, o5⟩ := bn3 ho
      have hsp := spotN (N := N) (S := D.length) (v := i) (s := D.length - 1) (by omega) (by have := ok.l0; omega)
      have hob : out < n := by omega
      have hgo : gi cs out = bv (gf cs) acc (i * D.length) D.length := by rw [← o4]; show gi cs out = gi cs ((out.toNat : Nat) : Int); rw [← o1]
      obtain ⟨h4, s4, g4, f4, l4⟩ := g3.write0 (i := (i : Int)) (v := I (gi cs out)) (by omega) (by rw [List.length_map, List.length_set]; omega) rfl rfl
      have f4s : FrS (fun p => p = oo) h3 h4 := f4.s.mono fun p z1 z2 => by omega
      have g4' : Gr oo (oo + 1) h4 1 o ((xs.set i (gi cs out)).map encI) := g4.cong (by rw [List.map_set, List.map_set]; simp [encI]; rfl)
      have e4 : Ext h0 h4 := f4s.ext (e2.trans e3) fun p z1 z2 => by omega
      have w4 := w3.frs f4s fun p z1 z2 z3 => hWo (z3 ▸ z2)
      have gs3 := g3.sl
      simp -implicitDefEqProofs (maxSteps := 1000000) (disch := first | assumption | omega | (simp only [gL] <;> omega) | ((repeat (first | exact Ext.refl _ | assumption | apply Ext.app | apply Ext.mk | (refine Ext.setr ?_ (by (first | omega | (simp only [gL] <;> omega))) _))); done) | (simp only [gL, gA, ro3, w3.gc.sl.idxG, w3.gc.sl.ld0, encI, gs3.idxG, s4] <;> omega) | fail) only [gB, setAll, partL, fldV, reduceIte, Nat.reduceAdd, Nat.reduceMul, ro3, w3.gc.sl.idxG, w3.gc.sl.ld0, encI, gs3.idxG, s4]
      refine ih (i + 1) h4 _ (by omega) e4 w4 g4' (by simpa using lx) fun u hu => ?_
      rw [giset2 (by omega)]
      by_cases qu : u = i
      · rw [if_pos qu, qu, hgo]
      · rw [if_neg qu]; exact hx u (by omega)
theorem Costs_spec {sE sD sA : AV} (no : NetOk N es) (co : COk es) (hn2 : N * D.length ≤ 1000000) (hs : Sl h 4 sE (es.map encE)) (ok : DOk D acc) (hD : Sl h 5 sD (D.map encR)) (hA : Sl h 1 sA (acc.map encB)) {v : Nat} (hv : v < N) :
    Tot tab f_product_Costs [.agg [I N, sE], .agg [sD, sA], I v] h fun r h' => Ext h h' ∧ ∃ c, LC (N * D.length) (hopA es D.length (onL es D)) (fun x => x = v * D.length) c ∧ Gr h.length h'.length h' 1 r ((costL N D.length c acc).map encI) := by
  refine WP.tot (fun k => (call_product_Costs k _ _ _ h).trans (product_Costs_eq tab k _ _ _ h)) ?_
  have hN : N ≤ 100000 := by have := no.n1; omega
  obtain ⟨h1, hh1⟩ : ∃ h1, h1 = (h ++ [AObj.cells ⟨[I N, sE], 0, 0, false⟩]) ++ [AObj.cells ⟨[sD, sA], 0, 0, false⟩] := ⟨_, rfl⟩
  have e1 : Ext h h1 := by rw [hh1]; ((repeat (first | exact Ext.refl _ | assumption | apply Ext.app | apply Ext.mk | (refine Ext.setr ?_ (by (first | omega | (simp only [gL] <;> omega))) _))))
  have r0 : h1[h.length]? = some (.cells ⟨[I N, sE], 0, 0, false⟩) := by rw [hh1]; simp
  simp -implicitDefEqProofs (maxSteps := 1000000) (disch := first | assumption | omega | (simp only [gL] <;> omega) | ((repeat (first | exact Ext.refl _ | assumption | apply Ext.app | apply Ext.mk | (refine Ext.setr ?_ (by (first | omega | (simp only [gL] <;> omega))) _))); done) | (simp only [gL, gA, hs.one, hs.cells, hD.one, hD.cells, hA.one, hA.cells] <;> omega) | fail) only [gB, setAll, partL, fldV, reduceIte, Nat.reduceAdd, Nat.reduceMul, hs.one, hs.cells, hD.one, hD.cells, hA.one, hA.cells]
  rw [← hh1]
  refine WP.call (join_spec no (hs.ext e1) ok (hD.ext e1) (hA.ext e1)) ?_
  rintro g h2 ⟨e2, gv⟩
  obtain ⟨h3, hh3⟩ : ∃ h3, h3 = h2 ++ [AObj.cells ⟨[I v, AV.int .i64 0], 0, 0, false⟩] := ⟨_, rfl⟩
  have e3 : Ext h2 h3 := by rw [hh3]; exact Ext.push _ _
  have ha : Sl h3 2 (.sl h2.length 0 1 2 none 0) ([((v : Int), (0 : Int))].map encP2) := by
    have := (Gr.lit (h := h2) (sz := 2) (v := [I v, I 0]) rfl).sl
    rw [mkObj_eq] at this
    rw [hh3]; exact this
  rw [show AV.int .i64 0 = I 0 from rfl] at hh3
  rw [← hh3]
  have gv3 := gv.ext e3
  refine WP.call (begin_spec (n := N * D.length) gv3 ok hN rfl hn2 ha (fun a z => ?_) (by simp) (hopA es D.length (onL es D))) ?_
  · obtain rfl := List.mem_singleton.1 z
    have := ok.l0
    exact ⟨by show (0 : Int) ≤ v; omega, by show (v : Int) < N; omega, Int.le_refl _, by show (0 : Int) < D.length; omega⟩
  rintro _ h4 ⟨e4, os, q, sc, se, sf, oc, oe, ov, cs, ds, fs, M, rfl, w4, d4, u4⟩
  refine WP.call (all_spec e4 (fun o z => z) gv3 ok co hN rfl hn2 (on_hops gv3 ok no) (fun x z => ?_) w4 d4 u4) ?_
  · obtain rfl := at_one.1 z
    have := spotN (S := D.length) hv ok.l0
    omega
  rintro _ h5 ⟨rfl, f5, id2, k2, ls2, rk2, cs2, ds2, fs2, M2, w5, d5, m5, u5⟩
  have e35 : Ext h3 h5 := f5.ext e4 fun o z1 z2 => by omega
  have e05 := ((e1.trans e2).trans e3).trans e35
  have r5 := ((e2.trans e3).trans e35).get r0
  obtain ⟨s6, h6, a6, g6, e6, _, l6⟩ := mkSl_gr (zero := [AV.int .i64 0]) (sz := 1) (bytes := 8) (n := (N : Int)) h5 (by omega) (by omega) (by omega) rfl rfl
  have hre : List.replicate (N : Int).toNat [AV.int .i64 0] = (List.replicate N (0 : Int)).map encI := by simp [encI, I]
  rw [hre] at g6
  simp -implicitDefEqProofs (maxSteps := 1000000) (disch := first | assumption | omega | (simp only [gL] <;> omega) | ((repeat (first | exact Ext.refl _ | assumption | apply Ext.app | apply Ext.mk | (refine Ext.setr ?_ (by (first | omega | (simp only [gL] <;> omega))) _))); done) | (simp only [gL, gA, r5, a6, g6.sl.lenG, List.length_replicate] <;> omega) | fail) only [gB, setAll, partL, fldV, reduceIte, Nat.reduceAdd, Nat.reduceMul, r5, a6, g6.sl.lenG, List.length_replicate]
  have hl := e05.len
  refine WP.ent ((costs_l1 (W := fun o => o < h5.length) (gv3) ok hN rfl hn2 (oo := h5.length) (by have := e35.len; omega) (by omega) N 0 h6 _ (by omega) (e35.trans e6) ((w5.mono fun o z1 _ => z1).ext e6) g6 (by simp) fun u hu => by omega).mono ?_) fun i => rfl
  rintro r h7 ⟨e7, g7⟩
  have hg := (on_hops gv3 ok no).gok co
  refine ⟨((e1.trans e2).trans e3).trans e7, gf cs2, ?_, (g7.mono (by omega) (Nat.le_refl _)).low _ ?_⟩
  · have := DI.lc hg (fun x z => by obtain rfl := at_one.1 z; have := spotN (S := D.length) hv ok.l0; omega) d5 m5
    intro x hx
    have h8 := this x hx
    have hst : atSt D.length [((v : Int), (0 : Int))] = fun x => x = v * D.length := by
      funext x; exact propext at_one
    rw [hst] at h8
    exact h8
  · exact Nat.le_refl _
end
end Go.Gm.A9
