/- A part of the proof (GmA5L8): an abstract machine, what it does, and what the functions of the program come to on it. -/
import Derived.Test.YtdpmglimjmecgaaGmA5L7
set_option linter.unusedVariables false
set_option linter.unusedSimpArgs false
namespace Go.Gm.A5
open Go Go.Gm

theorem set_appL {h t : Heap} {x : AObj} {o : Nat} (ho : o < h.length) : (h ++ t).set o x = h.set o x ++ t := List.set_append_left _ _ ho
/-- Two ways meet. -/
theorem cutW {ι : Type} [Fuel ι] {body : ι → Heap → Option (AV × Heap)} {P : Heap → Prop} {Q : AV → Heap → Prop} {G : Prop} (first : (∀ H, P H → WP (fun i => body i H) Q) → G) (rest : ∀ H, P H → WP (fun i => body i H) Q) : G := first rest
section
variable {h : Heap} {pa pb pj ps u0 : AV} {a b : Nd} {ca cb cj cs : List AV} {u : List Int}
theorem rules_b2 (nj : NA h pj (.join [a, b]) cj) (ns : NA h ps (.star a) cs) (fj : Fine (.join [a, b])) (fs : Fine (.star a)) (hcj : cntN (.join [a, b]) ≤ 800000) (hcs : cntN (.star a) ≤ 800000) (hu : Sl h 1 u0 (u.map encI)) (hul : u.length ≤ 1000) {is : Bool} (his : is = true ↔ ∃ i, i ≤ u.length ∧ In a (u.take i) ∧ In b (u.drop i)) {H : Heap} (e : Ext h H) :
    WP (fun i : Nat => milestonelaw5_MatchRules_b2 tab i u0 pj ps (.bool is) H) fun r _ => r = .bool true := by
  refine WP.congr (fun i => milestonelaw5_MatchRules_b2_eq tab i u0 pj ps (.bool is) H) ?_
  have nj1 := nj.ext e
  have e0 := Ext.refl H
  simp -implicitDefEqProofs (maxSteps := 1000000) (disch := first | assumption | omega | (simp -implicitDefEqProofs only [gL] <;> omega) | ((repeat (first | exact Ext.refl _ | assumption | apply Ext.app | apply Ext.mk | (refine Ext.setr ?_ (by (first | omega | (simp -implicitDefEqProofs only [gL] <;> omega))) _))); done) | (simp -implicitDefEqProofs only [gL, gA, nj1.ld] <;> omega) | fail) only [gB, setAll, partL, fldV, reduceIte, Nat.reduceAdd, Nat.reduceMul, nj1.ld]
  refine WP.call (match_spec nj1.nv fj.1 hcj (hu.ext e) (by omega)) ?_
  rintro _ h1 ⟨e1, b1, rfl, hb1⟩
  obtain rfl := bool_eq (hb1.trans In_join) his
  have ns1 := ns.ext (e.trans e1)
  have e0 := Ext.refl h1
  simp -implicitDefEqProofs (maxSteps := 1000000) (disch := first | assumption | omega | (simp -implicitDefEqProofs only [gL] <;> omega) | ((repeat (first | exact Ext.refl _ | assumption | apply Ext.app | apply Ext.mk | (refine Ext.setr ?_ (by (first | omega | (simp -implicitDefEqProofs only [gL] <;> omega))) _))); done) | (simp -implicitDefEqProofs only [gL, gA, ns1.ld] <;> omega) | fail) only [gB, setAll, partL, fldV, reduceIte, Nat.reduceAdd, Nat.reduceMul, ns1.ld]
  refine WP.call (match_spec ns1.nv fs.1 hcs sl_nil (by simp)) ?_
  rintro _ h2 ⟨e2, b2, rfl, hb2⟩
  obtain rfl := bool_t hb2 In_star_nil
  exact WP.ret rfl
theorem sl_upto {h : Heap} {s : AV} {w : List Int} (a : Sl h 1 s (w.map encI)) {i : Nat} (hi : i ≤ w.length) : ∃ s', slSl 1 s none (some (I i)) none = some s' ∧ Sl h 1 s' ((w.take i).map encI) := by
  rcases a with ⟨rfl, hw⟩ | ⟨o, off, lim, g, c, rfl, h2, h3, h4, h5⟩
  · rw [List.map_eq_nil_iff] at hw
    subst hw
    obtain rfl : i = 0 := by simpa using hi
    exact ⟨.nils, rfl, .inl ⟨rfl, rfl⟩⟩
  · refine ⟨.sl o off i 1 lim g, ?_, .inr ⟨o, off, lim, g, c, ?_, h2, h3, ?_, fun x hx => h5 x ?_⟩⟩
    · cases lim <;> simp [slSl, bnd, hi]
    · rw [List.length_map, List.length_take, Nat.min_eq_left hi]
    · rw [List.length_map, List.length_take, Nat.min_eq_left hi]
      have h6 : (w.map encI).flatten = w.map I := by
        clear h4 h5 hi
        induction w with
        | nil => rfl
        | cons a w ih => simp [encI, ih]
      have h7 : ((w.take i).map encI).flatten = (w.take i).map I := by
        generalize w.take i = v
        induction v with
        | nil => rfl
        | cons a v ih => simp [encI, ih]
      rw [h6, List.length_map] at h4
      rw [h7, List.map_take, ← h4, List.take_take]
      congr 1; omega
    · simp only [List.mem_map] at hx ⊢
      obtain ⟨y, hy, rfl⟩ := hx
      exact ⟨y, List.mem_of_mem_take hy, rfl⟩
theorem sl_from {h : Heap} {s : AV} {w : List Int} (a : Sl h 1 s (w.map encI)) {i : Nat} (hi : i ≤ w.length) : ∃ s', slSl 1 s (some (I i)) none none = some s' ∧ Sl h 1 s' ((w.drop i).map encI) := by
  rcases a with ⟨rfl, hw⟩ | ⟨o, off, lim, g, c, rfl, h2, h3, h4, h5⟩
  · rw [List.map_eq_nil_iff] at hw
    subst hw
    obtain rfl : i = 0 := by simpa using hi
    exact ⟨.nils, rfl, .inl ⟨rfl, rfl⟩⟩
  · refine ⟨.sl o (off + i * 1) (w.length - i) 1 (lim.map (· - i)) g, ?_, .inr ⟨o, off + i * 1, lim.map (· - i), g, c, ?_, h2, h3, ?_, fun x hx => h5 x ?_⟩⟩
    · cases lim <;> simp [slSl, bnd, hi]
    · rw [List.length_map, List.length_drop]
    · rw [List.length_map, List.length_drop]
      have h6 : (w.map encI).flatten = w.map I := by
        clear h4 h5 hi
        induction w with
        | nil => rfl
        | cons a w ih => simp [encI, ih]
      have h7 : ((w.drop i).map encI).flatten = (w.drop i).map I := by
        generalize w.drop i = v
        induction v with
        | nil => rfl
        | cons a v ih => simp [encI, ih]
      rw [h6, List.length_map] at h4
      rw [h7, List.map_drop, ← h4, List.drop_take, List.drop_drop]
      congr 1
      · omega
      · rw [Nat.mul_one]
    · simp only [List.mem_map] at hx ⊢
      obtain ⟨y, hy, rfl⟩ := hx
      exact ⟨y, List.mem_of_mem_drop hy, rfl⟩
theorem rules_l1 (na : NA h pa a ca) (nb : NA h pb b cb) (nj : NA h pj (.join [a, b]) cj) (ns : NA h ps (.star a) cs) (fa : Fine a) (fb : Fine b) (fj : Fine (.join [a, b])) (fs : Fine (.star a)) (hca : cntN a ≤ 800000) (hcb : cntN b ≤ 800000) (hcj : cntN (.join [a, b]) ≤ 800000) (hcs : cntN (.star a) ≤ 800000) (hu : Sl h 1 u0 (u.map encI)) (hul : u.length ≤ 1000) :
    ∀ (d i : Nat) (is : Bool) (H : Heap), i + d = u.length + 1 → (is = true ↔ ∃ j, j < i ∧ In a (u.take j) ∧ In b (u.drop j)) → Ext h H →
      WP (fun p : Nat × Nat => milestonelaw5_MatchRules_l1 tab p.1 p.2 pa pb u0 pj ps (.bool is) (I i) H) fun r _ => r = .bool true := by
  intro d
  induction d with
  | zero =>
    intro i is H hi his e
    refine WP.rnd (fun i' j => milestonelaw5_MatchRules_l1_eq tab i' j pa pb u0 pj ps (.bool is) (I i) H) ?_
    have hu1 := hu.ext e
    simp -implicitDefEqProofs (maxSteps := 1000000) (disch := first | assumption | omega | (simp -implicitDefEqProofs only [gL] <;> omega) | ((repeat (first | exact Ext.refl _ | assumption | apply Ext.app | apply Ext.mk | (refine Ext.setr ?_ (by (first | omega | (simp -implicitDefEqProofs only [gL] <;> omega))) _))); done) | (simp -implicitDefEqProofs only [gL, gA, hu1.lenG] <;> omega) | fail) only [gB, setAll, partL, fldV, reduceIte, Nat.reduceAdd, Nat.reduceMul, hu1.lenG]
    exact WP.lv (rules_b2 nj ns fj fs hcj hcs hu hul (his.trans ⟨fun ⟨j, h1, h2⟩ => ⟨j, by omega, h2⟩, fun ⟨j, h1, h2⟩ => ⟨j, by omega, h2⟩⟩) e) fun i j => rfl
  | succ d ih =>
    intro i is H hi his e
    refine WP.rnd (fun i' j => milestonelaw5_MatchRules_l1_eq tab i' j pa pb u0 pj ps (.bool is) (I i) H) ?_
    have hu1 := hu.ext e
    have nx : ∀ (x : Bool) (H3 : Heap), Ext H H3 → (x = true ↔ is = true ∨ (In a (u.take i) ∧ In b (u.drop i))) → WP (fun p : Nat × Nat => milestonelaw5_MatchRules_l1 tab p.1 p.2 pa pb u0 pj ps (.bool x) (I ((i : Int) + 1)) H3) fun r _ => r = .bool true := by
      intro x H3 e3 hx
      refine ih (i + 1) x H3 (by omega) (hx.trans ?_) (e.trans e3)
      rw [his]
      constructor
      · rintro (⟨j, h1, h2⟩ | h)
        · exact ⟨j, by omega, h2⟩
        · exact ⟨i, by omega, h⟩
      · rintro ⟨j, h1, h2⟩
        by_cases hj : j = i
        · subst hj; exact .inr h2
        · exact .inl ⟨j, by omega, h2⟩
    cases is with
    | true =>
      simp -implicitDefEqProofs (maxSteps := 1000000) (disch := first | assumption | omega | (simp -implicitDefEqProofs only [gL] <;> omega) | ((repeat (first | exact Ext.refl _ | assumption | apply Ext.app | apply Ext.mk | (refine Ext.setr ?_ (by (first | omega | (simp -implicitDefEqProofs only [gL] <;> omega))) _))); done) | (simp -implicitDefEqProofs only [gL, gA, hu1.lenG] <;> omega) | fail) only [gB, setAll, partL, fldV, reduceIte, Nat.reduceAdd, Nat.reduceMul, hu1.lenG]
      exact nx true H (Ext.refl _) (by simp)
    | false =>
      obtain ⟨s1, q1, k1⟩ := sl_upto hu1 (i := i) (by omega)
      obtain ⟨s2, q2, k2⟩ := sl_from hu1 (i := i) (by omega)
      have na1 := na.ext e
      have e0 := Ext.refl H
      simp -implicitDefEqProofs (maxSteps := 1000000) (disch := first | assumption | omega | (simp -implicitDefEqProofs only [gL] <;> omega) | ((repeat (first | exact Ext.refl _ | assumption | apply Ext.app | apply Ext.mk | (refine Ext.setr ?_ (by (first | omega | (simp -implicitDefEqProofs only [gL] <;> omega))) _))); done) | (simp -implicitDefEqProofs only [gL, gA, hu1.lenG, na1.ld, q1] <;> omega) | fail) only [gB, setAll, partL, fldV, reduceIte, Nat.reduceAdd, Nat.reduceMul, hu1.lenG, na1.ld, q1]
      refine WP.call (match_spec na1.nv fa.1 hca k1 (by simp; omega)) ?_
      rintro _ h1 ⟨e1, b1, rfl, hb1⟩
      have nb1 := nb.ext (e.trans e1)
      have e0 := Ext.refl h1
      cases b1 with
      | true =>
        simp -implicitDefEqProofs (maxSteps := 1000000) (disch := first | assumption | omega | (simp -implicitDefEqProofs only [gL] <;> omega) | ((repeat (first | exact Ext.refl _ | assumption | apply Ext.app | apply Ext.mk | (refine Ext.setr ?_ (by (first | omega | (simp -implicitDefEqProofs only [gL] <;> omega))) _))); done) | (simp -implicitDefEqProofs only [gL, gA, nb1.ld, q2] <;> omega) | fail) only [gB, setAll, partL, fldV, reduceIte, Nat.reduceAdd, Nat.reduceMul, nb1.ld, q2]
        refine WP.call (match_spec nb1.nv fb.1 hcb (k2.ext e1) (by simp; omega)) ?_
        rintro _ h2 ⟨e2, b2, rfl, hb2⟩
        exact nx b2 h2 (e1.trans e2) (by rw [hb2]; simp [hb1.1 rfl])
      | false =>
        have hna : ¬ In a (u.take i) := fun z => by have := hb1.2 z; cases this
        simp -implicitDefEqProofs (maxSteps := 1000000) (disch := first | assumption | omega | (simp -implicitDefEqProofs only [gL] <;> omega) | ((repeat (first | exact Ext.refl _ | assumption | apply Ext.app | apply Ext.mk | (refine Ext.setr ?_ (by (first | omega | (simp -implicitDefEqProofs only [gL] <;> omega))) _))); done) | (simp -implicitDefEqProofs only [gL, gA] <;> omega) | fail) only [gB, setAll, partL, fldV, reduceIte, Nat.reduceAdd, Nat.reduceMul]
        exact nx false h1 e1 (by simp [hna])

theorem fine_two {n x y : Nd} (h1 : n.kids = [x, y]) (h2 : n.st = 0) (h3 : n.lo = 0) (h4 : n.hi = 0) (fx : Fine x) (fy : Fine y) : Fine n :=
  fine_mk (by rw [h2]; omega) (by rw [h3]; omega) (by rw [h4]; omega) (by rw [h1]; simp) (by rw [h1]; simp; exact ⟨fx, fy⟩)
theorem fine_1 {n x : Nd} (h1 : n.kids = [x]) (h2 : n.st = 0) (h3 : n.lo = 0) (h4 : n.hi = 0) (fx : Fine x) : Fine n :=
  fine_mk (by rw [h2]; omega) (by rw [h3]; omega) (by rw [h4]; omega) (by rw [h1]; simp) (by rw [h1]; simp; exact fx)
set_option maxHeartbeats 4000000 in
theorem rules_spec {h : Heap} {l m : List Rw} {s t : AV} {css dss : List (List AV)} {ns ms : AV} {nz mz : List Int} {fw : Int} (hs : Sl h 3 s css) (hr : RVs h l css) (ht : Sl h 3 t dss) (hrt : RVs h m dss) (hn : Sl h 1 ns (nz.map encI)) (hm : Sl h 1 ms (mz.map encI)) :
    Tot tab f_milestonelaw5_MatchRules [s, t, ns, ms, I fw] h fun r _ => r = .bool true := by
  refine WP.tot (fun k => (call_milestonelaw5_MatchRules k _ _ _ _ _ h).trans (milestonelaw5_MatchRules_eq tab k _ _ _ _ _ h)) ?_
  refine WP.call (known_spec h) ?_
  rintro _ h1 ⟨rfl, e1⟩
  simp -implicitDefEqProofs (maxSteps := 1000000) (disch := first | assumption | omega | (simp -implicitDefEqProofs only [gL] <;> omega) | ((repeat (first | exact Ext.refl _ | assumption | apply Ext.app | apply Ext.mk | (refine Ext.setr ?_ (by (first | omega | (simp -implicitDefEqProofs only [gL] <;> omega))) _))); done) | (simp -implicitDefEqProofs only [gL, gA] <;> omega) | fail) only [gB, setAll, partL, fldV, reduceIte, Nat.reduceAdd, Nat.reduceMul]
  refine WP.call (few_spec (hs.ext e1) (hr.ext e1)) ?_
  rintro _ _ ⟨rfl, rfl⟩
  by_cases hf : szF 7 l ≤ 14
  · rw [decide_eq_true hf]
    simp -implicitDefEqProofs (maxSteps := 1000000) (disch := first | assumption | omega | (simp -implicitDefEqProofs only [gL] <;> omega) | ((repeat (first | exact Ext.refl _ | assumption | apply Ext.app | apply Ext.mk | (refine Ext.setr ?_ (by (first | omega | (simp -implicitDefEqProofs only [gL] <;> omega))) _))); done) | (simp -implicitDefEqProofs only [gL, gA] <;> omega) | fail) only [gB, setAll, partL, fldV, reduceIte, Nat.reduceAdd, Nat.reduceMul]
    refine WP.call (few_spec (ht.ext e1) (hrt.ext e1)) ?_
    rintro _ _ ⟨rfl, rfl⟩
    by_cases hg : szF 7 m ≤ 14
    · rw [decide_eq_true hg]
      simp -implicitDefEqProofs (maxSteps := 1000000) (disch := first | assumption | omega | (simp -implicitDefEqProofs only [gL] <;> omega) | ((repeat (first | exact Ext.refl _ | assumption | apply Ext.app | apply Ext.mk | (refine Ext.setr ?_ (by (first | omega | (simp -implicitDefEqProofs only [gL] <;> omega))) _))); done) | (simp -implicitDefEqProofs only [gL, gA] <;> omega) | fail) only [gB, setAll, partL, fldV, reduceIte, Nat.reduceAdd, Nat.reduceMul]
      refine WP.call (one_spec4 (hs.ext e1) (hr.ext e1)) ?_
      rintro _ h2 ⟨e2, c5, rfl, nv⟩
      refine WP.call (one_spec4 ((ht.ext e1).ext e2) ((hrt.ext e1).ext e2)) ?_
      rintro _ h3 ⟨e3, d5, rfl, nw⟩
      obtain ⟨sa, rfl, hoa⟩ := nv.inv
      obtain ⟨sb, rfl, hob⟩ := nw.inv
      have fa := fine_one l
      have fb := fine_one m
      have hca := cnt_one l hf
      have hcb := cnt_one m hg
      generalize oneN l = a at *
      generalize oneN m = b at *
      obtain ⟨h4, hh4⟩ : ∃ h4, h4 = (h3 ++ [AObj.cells ⟨[I a.kind, I a.st, I a.lo, I a.hi, sa], 0, 0, false⟩]) ++ [AObj.cells ⟨[I b.kind, I b.st, I b.lo, I b.hi, sb], 0, 0, false⟩] := ⟨_, rfl⟩
      have e4 : Ext h3 h4 := by rw [hh4]; exact (Ext.push _ _).trans (Ext.push _ _)
      have na : NA h4 (.ptr h3.length 0 5 0) a [I a.kind, I a.st, I a.lo, I a.hi, sa] := ⟨At.row (wg := 0) (g := 0) (ro := false) (by rw [hh4]; simp) (Nat.le_refl _) rfl, nv.nv.keeps (.ofExt (e3.trans e4))⟩
      have nb : NA h4 (.ptr (h3.length + 1) 0 5 0) b [I b.kind, I b.st, I b.lo, I b.hi, sb] := ⟨At.row (wg := 0) (g := 0) (ro := false) (by rw [hh4]; simp) (Nat.le_refl _) rfl, nw.nv.keeps (.ofExt e4)⟩
      have ra : h4[h3.length]? = some (.cells ⟨[I a.kind, I a.st, I a.lo, I a.hi, sa], 0, 0, false⟩) := by rw [hh4]; simp
      have rb : h4[h3.length + 1]? = some (.cells ⟨[I b.kind, I b.st, I b.lo, I b.hi, sb], 0, 0, false⟩) := by rw [hh4]; simp
      have e14 := e1.trans (e2.trans (e3.trans e4))
      simp -implicitDefEqProofs (maxSteps := 1000000) (disch := first | assumption | omega | (simp -implicitDefEqProofs only [gL] <;> omega) | ((repeat (first | exact Ext.refl _ | assumption | apply Ext.app | apply Ext.mk | (refine Ext.setr ?_ (by (first | omega | (simp -implicitDefEqProofs only [gL] <;> omega))) _))); done) | (simp -implicitDefEqProofs only [gL, gA, hoa, hob, set_lastO, set_appL] <;> omega) | fail) only [gB, setAll, partL, fldV, reduceIte, Nat.reduceAdd, Nat.reduceMul, hoa, hob, set_lastO, set_appL]
      rw [← hh4, show AV.int .i64 5 = I ((5 : Nat) : Int) from rfl]
      refine WP.call (word_spec (m := 5) (few := fw) (hn.ext e14) (by omega)) ?_
      rintro u0 h5 ⟨e5, gu⟩
      refine WP.call (word_spec (m := 5) (few := fw) ((hm.ext e14).ext e5) (by omega)) ?_
      rintro v0 h6 ⟨e6, gv⟩
      have hul := wordL_len nz 5 fw
      have hvl := wordL_len mz 5 fw
      generalize wordL nz 5 fw = u at *
      generalize wordL mz 5 fw = v at *
      obtain ⟨x0, h7, u1, u2, u3, u4⟩ := clone_n (bytes := 8) (gu.sl.ext e6) (by omega) (by omega) (by rw [List.length_map]; omega)
      obtain ⟨y0, h8, v1, v2, v3⟩ := u2.append (bytes := 8) ((gv.sl).ext u3) (by omega) (by omega) (by rw [List.length_map, List.length_map]; omega) u3.len (Nat.le_refl _)
      rw [mkObj_eq] at u1
      rw [← List.map_append] at v2
      have e8 : Ext h6 h8 := v3.ext u3 (Nat.le_refl _)
      have e48 : Ext h4 h8 := e5.trans (e6.trans e8)
      have ra8 := e48.get ra
      have rb8 := e48.get rb
      have hl48 := e48.len
      have hl34 : h4.length = h3.length + 2 := by rw [hh4]; simp
      simp -implicitDefEqProofs (maxSteps := 1000000) (disch := first | assumption | omega | (simp -implicitDefEqProofs only [gL] <;> omega) | ((repeat (first | exact Ext.refl _ | assumption | apply Ext.app | apply Ext.mk | (refine Ext.setr ?_ (by (first | omega | (simp -implicitDefEqProofs only [gL] <;> omega))) _))); done) | (simp -implicitDefEqProofs only [gL, gA, u1, v1, ra8, rb8, hoa, hob, set_lastO, set_appL] <;> omega) | fail) only [gB, setAll, partL, fldV, reduceIte, Nat.reduceAdd, Nat.reduceMul, u1, v1, ra8, rb8, hoa, hob, set_lastO, set_appL]
      simp only [Nat.add_assoc, Nat.reduceAdd]
      obtain ⟨hf, hhf⟩ : ∃ hf, hf = (((((((((h8 ++ [AObj.cells ⟨[I a.kind, I a.st, I a.lo, I a.hi, sa, I b.kind, I b.st, I b.lo, I b.hi, sb], 0, 0, false⟩]) ++ [AObj.cells ⟨[I ((5 : Nat) : Int), I 0, I 0, I 0, .sl h8.length 0 2 5 none 0], 0, 0, false⟩]) ++ [AObj.cells ⟨[I a.kind, I a.st, I a.lo, I a.hi, sa, I b.kind, I b.st, I b.lo, I b.hi, sb], 0, 0, false⟩]) ++ [AObj.cells ⟨[I 4, I 0, I 0, I 0, .sl (h8.length + 2) 0 2 5 none 0], 0, 0, false⟩]) ++ [AObj.cells ⟨[I a.kind, I a.st, I a.lo, I a.hi, sa], 0, 0, false⟩]) ++ [AObj.cells ⟨[I a.kind, I a.st, I a.lo, I a.hi, sa], 0, 0, false⟩]) ++ [AObj.cells ⟨[I 6, I 0, I 0, I 0, .sl (h8.length + 4) 0 1 5 none 0], 0, 0, false⟩]) ++ [AObj.cells ⟨[I 7, I 0, I 0, I 0, .sl (h8.length + 5) 0 1 5 none 0], 0, 0, false⟩]) ++ [AObj.cells ⟨[I a.kind, I a.st, I a.lo, I a.hi, sa], 0, 0, false⟩]) ++ [AObj.cells ⟨[I 8, I 0, I 0, I 0, .sl (h8.length + 8) 0 1 5 none 0], 0, 0, false⟩] := ⟨_, rfl⟩
      rw [← hhf]
      have ef : Ext h8 hf := by rw [hhf]; ((repeat (first | exact Ext.refl _ | assumption | apply Ext.app | apply Ext.mk | (refine Ext.setr ?_ (by (first | omega | (simp -implicitDefEqProofs only [gL] <;> omega))) _))))
      have r0 : hf[h8.length]? = some (.cells ⟨[I a.kind, I a.st, I a.lo, I a.hi, sa, I b.kind, I b.st, I b.lo, I b.hi, sb], 0, 0, false⟩) := by rw [hhf]; simp
      have r1 : hf[h8.length + 1]? = some (.cells ⟨[I ((5 : Nat) : Int), I 0, I 0, I 0, .sl h8.length 0 2 5 none 0], 0, 0, false⟩) := by rw [hhf]; simp
      have r2 : hf[h8.length + 2]? = some (.cells ⟨[I a.kind, I a.st, I a.lo, I a.hi, sa, I b.kind, I b.st, I b.lo, I b.hi, sb], 0, 0, false⟩) := by rw [hhf]; simp
      have r3 : hf[h8.length + 3]? = some (.cells ⟨[I 4, I 0, I 0, I 0, .sl (h8.length + 2) 0 2 5 none 0], 0, 0, false⟩) := by rw [hhf]; simp
      have r4 : hf[h8.length + 4]? = some (.cells ⟨[I a.kind, I a.st, I a.lo, I a.hi, sa], 0, 0, false⟩) := by rw [hhf]; simp
      have r5 : hf[h8.length + 5]? = some (.cells ⟨[I a.kind, I a.st, I a.lo, I a.hi, sa], 0, 0, false⟩) := by rw [hhf]; simp
      have r6 : hf[h8.length + 6]? = some (.cells ⟨[I 6, I 0, I 0, I 0, .sl (h8.length + 4) 0 1 5 none 0], 0, 0, false⟩) := by rw [hhf]; simp
      have r7 : hf[h8.length + 7]? = some (.cells ⟨[I 7, I 0, I 0, I 0, .sl (h8.length + 5) 0 1 5 none 0], 0, 0, false⟩) := by rw [hhf]; simp
      have r8 : hf[h8.length + 8]? = some (.cells ⟨[I a.kind, I a.st, I a.lo, I a.hi, sa], 0, 0, false⟩) := by rw [hhf]; simp
      have r9 : hf[h8.length + 9]? = some (.cells ⟨[I 8, I 0, I 0, I 0, .sl (h8.length + 8) 0 1 5 none 0], 0, 0, false⟩) := by rw [hhf]; simp
      clear hhf
      have e4f := e48.trans ef
      have naf := na.ext e4f
      have nbf := nb.ext e4f
      have raf := e4f.get ra
      have rbf := e4f.get rb
      have uf := gu.sl.ext (e6.trans (e8.trans ef))
      have vf := gv.sl.ext (e8.trans ef)
      have xf := v2.sl.ext ef
      have nU : NV hf (.uni [a, b]) [I 5, I 0, I 0, I 0, .sl h8.length 0 2 5 none 0] := nv_two (n := .uni [a, b]) rfl r0 naf.nv nbf.nv
      have nJ : NV hf (.join [a, b]) [I 4, I 0, I 0, I 0, .sl (h8.length + 2) 0 2 5 none 0] := nv_two (n := .join [a, b]) rfl r2 naf.nv nbf.nv
      have nS : NV hf (.star a) [I 6, I 0, I 0, I 0, .sl (h8.length + 4) 0 1 5 none 0] := nv_one (n := .star a) rfl r4 naf.nv
      have nP : NV hf (.plus a) [I 7, I 0, I 0, I 0, .sl (h8.length + 5) 0 1 5 none 0] := nv_one (n := .plus a) rfl r5 naf.nv
      have nM : NV hf (.opt a) [I 8, I 0, I 0, I 0, .sl (h8.length + 8) 0 1 5 none 0] := nv_one (n := .opt a) rfl r8 naf.nv
      have fU : Fine (.uni [a, b]) := fine_two rfl rfl rfl rfl fa fb
      have fJ : Fine (.join [a, b]) := fine_two rfl rfl rfl rfl fa fb
      have fS : Fine (.star a) := fine_1 rfl rfl rfl rfl fa
      have fP : Fine (.plus a) := fine_1 rfl rfl rfl rfl fa
      have fM : Fine (.opt a) := fine_1 rfl rfl rfl rfl fa
      have hcU : cntN (.uni [a, b]) ≤ 800000 := by simp [cntN, cntL]; omega
      have hcJ : cntN (.join [a, b]) ≤ 800000 := by simp [cntN, cntL]; omega
      have hcS : cntN (.star a) ≤ 800000 := by simp [cntN]; omega
      have hcP : cntN (.plus a) ≤ 800000 := by simp [cntN]; omega
      have hcM : cntN (.opt a) ≤ 800000 := by simp [cntN]; omega
      clear r0 r2 r4 r5 r8 u1 v1 u2 v2 v3 gu gv
      refine cutW (ι := Nat) (body := ?bd0) (Q := fun r _ => r = .bool true) (P := fun H => Ext hf H) (fun rest => ?fs0) ?rs0
      case fs0 =>
        refine WP.call (match_spec nU fU.1 hcU uf (by omega)) ?_
        rintro _ g1 ⟨f1, b1, rfl, hb1⟩
        have ra1 := f1.get raf
        simp -implicitDefEqProofs (maxSteps := 1000000) (disch := first | assumption | omega | (simp -implicitDefEqProofs only [gL] <;> omega) | ((repeat (first | exact Ext.refl _ | assumption | apply Ext.app | apply Ext.mk | (refine Ext.setr ?_ (by (first | omega | (simp -implicitDefEqProofs only [gL] <;> omega))) _))); done) | (simp -implicitDefEqProofs only [gL, gA, ra1] <;> omega) | fail) only [gB, setAll, partL, fldV, reduceIte, Nat.reduceAdd, Nat.reduceMul, ra1]
        refine WP.call (match_spec (naf.ext f1).nv fa.1 (by omega) (uf.ext f1) (by omega)) ?_
        rintro _ g2 ⟨f2, b2, rfl, hb2⟩
        have e2g := f1.trans f2
        cases b2 with
        | true =>
          obtain rfl : b1 = true := bool_t hb1 (In_uni.2 (.inl (hb2.1 rfl)))
          have r9' := e2g.get r9
          simp -implicitDefEqProofs (maxSteps := 1000000) (disch := first | assumption | omega | (simp -implicitDefEqProofs only [gL] <;> omega) | ((repeat (first | exact Ext.refl _ | assumption | apply Ext.app | apply Ext.mk | (refine Ext.setr ?_ (by (first | omega | (simp -implicitDefEqProofs only [gL] <;> omega))) _))); done) | (simp -implicitDefEqProofs only [gL, gA, r9'] <;> omega) | fail) only [gB, setAll, partL, fldV, reduceIte, Nat.reduceAdd, Nat.reduceMul, r9']
          exact rest g2 e2g
        | false =>
          have rb2 := e2g.get rbf
          simp -implicitDefEqProofs (maxSteps := 1000000) (disch := first | assumption | omega | (simp -implicitDefEqProofs only [gL] <;> omega) | ((repeat (first | exact Ext.refl _ | assumption | apply Ext.app | apply Ext.mk | (refine Ext.setr ?_ (by (first | omega | (simp -implicitDefEqProofs only [gL] <;> omega))) _))); done) | (simp -implicitDefEqProofs only [gL, gA, rb2] <;> omega) | fail) only [gB, setAll, partL, fldV, reduceIte, Nat.reduceAdd, Nat.reduceMul, rb2]
          refine WP.call (match_spec (nbf.ext e2g).nv fb.1 (by omega) (uf.ext e2g) (by omega)) ?_
          rintro _ g3 ⟨f3, b3, rfl, hb3⟩
          have hnb : ¬ In a u := fun z => by have := hb2.2 z; cases this
          obtain rfl : b1 = b3 := bool_eq (hb1.trans (In_uni.trans ⟨fun z => z.resolve_left hnb, .inr⟩)) hb3
          have r9' := (e2g.trans f3).get r9
          simp -implicitDefEqProofs (maxSteps := 1000000) (disch := first | assumption | omega | (simp -implicitDefEqProofs only [gL] <;> omega) | ((repeat (first | exact Ext.refl _ | assumption | apply Ext.app | apply Ext.mk | (refine Ext.setr ?_ (by (first | omega | (simp -implicitDefEqProofs only [gL] <;> omega))) _))); done) | (simp -implicitDefEqProofs only [gL, gA, r9'] <;> omega) | fail) only [gB, setAll, partL, fldV, reduceIte, Nat.reduceAdd, Nat.reduceMul, r9']
          exact rest g3 (e2g.trans f3)
      case rs0 =>
        intro H1 e1f
        refine cutW (ι := Nat) (body := ?bd1) (Q := fun r _ => r = .bool true) (P := fun H => Ext hf H) (fun rest => ?fs1) ?rs1
        case fs1 =>
          have hul0 := (uf.ext e1f).lenG
          by_cases hu0 : u.length = 0
          · simp -implicitDefEqProofs (maxSteps := 1000000) (disch := first | assumption | omega | (simp -implicitDefEqProofs only [gL] <;> omega) | ((repeat (first | exact Ext.refl _ | assumption | apply Ext.app | apply Ext.mk | (refine Ext.setr ?_ (by (first | omega | (simp -implicitDefEqProofs only [gL] <;> omega))) _))); done) | (simp -implicitDefEqProofs only [gL, gA, hul0] <;> omega) | fail) only [gB, setAll, partL, fldV, reduceIte, Nat.reduceAdd, Nat.reduceMul, hul0]
            refine WP.call (match_spec (nM.keeps (.ofExt e1f)) fM.1 hcM (uf.ext e1f) (by omega)) ?_
            rintro _ g1 ⟨f1, b1, rfl, hb1⟩
            have e1g := e1f.trans f1
            obtain rfl : b1 = true := bool_t hb1 (In_opt.2 (.inl (List.eq_nil_of_length_eq_zero hu0)))
            have rx := e1g.get r6
            simp -implicitDefEqProofs (maxSteps := 1000000) (disch := first | assumption | omega | (simp -implicitDefEqProofs only [gL] <;> omega) | ((repeat (first | exact Ext.refl _ | assumption | apply Ext.app | apply Ext.mk | (refine Ext.setr ?_ (by (first | omega | (simp -implicitDefEqProofs only [gL] <;> omega))) _))); done) | (simp -implicitDefEqProofs only [gL, gA, rx] <;> omega) | fail) only [gB, setAll, partL, fldV, reduceIte, Nat.reduceAdd, Nat.reduceMul, rx]
            exact rest g1 e1g
          · simp -implicitDefEqProofs (maxSteps := 1000000) (disch := first | assumption | omega | (simp -implicitDefEqProofs only [gL] <;> omega) | ((repeat (first | exact Ext.refl _ | assumption | apply Ext.app | apply Ext.mk | (refine Ext.setr ?_ (by (first | omega | (simp -implicitDefEqProofs only [gL] <;> omega))) _))); done) | (simp -implicitDefEqProofs only [gL, gA, hul0] <;> omega) | fail) only [gB, setAll, partL, fldV, reduceIte, Nat.reduceAdd, Nat.reduceMul, hul0]
            refine WP.call (match_spec (nM.keeps (.ofExt e1f)) fM.1 hcM (uf.ext e1f) (by omega)) ?_
            rintro _ g1 ⟨f1, b1, rfl, hb1⟩
            have e1g := e1f.trans f1
            have ra1 := e1g.get raf
            simp -implicitDefEqProofs (maxSteps := 1000000) (disch := first | assumption | omega | (simp -implicitDefEqProofs only [gL] <;> omega) | ((repeat (first | exact Ext.refl _ | assumption | apply Ext.app | apply Ext.mk | (refine Ext.setr ?_ (by (first | omega | (simp -implicitDefEqProofs only [gL] <;> omega))) _))); done) | (simp -implicitDefEqProofs only [gL, gA, ra1] <;> omega) | fail) only [gB, setAll, partL, fldV, reduceIte, Nat.reduceAdd, Nat.reduceMul, ra1]
            refine WP.call (match_spec (naf.nv.keeps (.ofExt e1g)) fa.1 (by omega) (uf.ext e1g) (by omega)) ?_
            rintro _ g2 ⟨f2, b2, rfl, hb2⟩
            obtain rfl : b1 = b2 := bool_eq (hb1.trans (In_opt.trans ⟨fun z => z.resolve_left (fun q => hu0 (by rw [q]; rfl)), .inr⟩)) hb2
            have rx := (e1g.trans f2).get r6
            simp -implicitDefEqProofs (maxSteps := 1000000) (disch := first | assumption | omega | (simp -implicitDefEqProofs only [gL] <;> omega) | ((repeat (first | exact Ext.refl _ | assumption | apply Ext.app | apply Ext.mk | (refine Ext.setr ?_ (by (first | omega | (simp -implicitDefEqProofs only [gL] <;> omega))) _))); done) | (simp -implicitDefEqProofs only [gL, gA, rx] <;> omega) | fail) only [gB, setAll, partL, fldV, reduceIte, Nat.reduceAdd, Nat.reduceMul, rx]
            exact rest g2 (e1g.trans f2)
        case rs1 =>
          intro H1 e1f
          refine cutW (ι := Nat) (body := ?bd2) (Q := fun r _ => r = .bool true) (P := fun H => Ext hf H) (fun rest => ?fs2) ?rs2
          case fs2 =>
            have hul0 := (uf.ext e1f).lenG
            by_cases hu0 : u.length = 0
            · simp -implicitDefEqProofs (maxSteps := 1000000) (disch := first | assumption | omega | (simp -implicitDefEqProofs only [gL] <;> omega) | ((repeat (first | exact Ext.refl _ | assumption | apply Ext.app | apply Ext.mk | (refine Ext.setr ?_ (by (first | omega | (simp -implicitDefEqProofs only [gL] <;> omega))) _))); done) | (simp -implicitDefEqProofs only [gL, gA, hul0] <;> omega) | fail) only [gB, setAll, partL, fldV, reduceIte, Nat.reduceAdd, Nat.reduceMul, hul0]
              refine WP.call (match_spec (nS.keeps (.ofExt e1f)) fS.1 hcS (uf.ext e1f) (by omega)) ?_
              rintro _ g1 ⟨f1, b1, rfl, hb1⟩
              have e1g := e1f.trans f1
              obtain rfl : b1 = true := bool_t hb1 (In_star.2 (.inl (List.eq_nil_of_length_eq_zero hu0)))
              have rx := e1g.get raf
              simp -implicitDefEqProofs (maxSteps := 1000000) (disch := first | assumption | omega | (simp -implicitDefEqProofs only [gL] <;> omega) | ((repeat (first | exact Ext.refl _ | assumption | apply Ext.app | apply Ext.mk | (refine Ext.setr ?_ (by (first | omega | (simp -implicitDefEqProofs only [gL] <;> omega))) _))); done) | (simp -implicitDefEqProofs only [gL, gA, rx] <;> omega) | fail) only [gB, setAll, partL, fldV, reduceIte, Nat.reduceAdd, Nat.reduceMul, rx]
              exact rest g1 e1g
            · simp -implicitDefEqProofs (maxSteps := 1000000) (disch := first | assumption | omega | (simp -implicitDefEqProofs only [gL] <;> omega) | ((repeat (first | exact Ext.refl _ | assumption | apply Ext.app | apply Ext.mk | (refine Ext.setr ?_ (by (first | omega | (simp -implicitDefEqProofs only [gL] <;> omega))) _))); done) | (simp -implicitDefEqProofs only [gL, gA, hul0] <;> omega) | fail) only [gB, setAll, partL, fldV, reduceIte, Nat.reduceAdd, Nat.reduceMul, hul0]
              refine WP.call (match_spec (nS.keeps (.ofExt e1f)) fS.1 hcS (uf.ext e1f) (by omega)) ?_
              rintro _ g1 ⟨f1, b1, rfl, hb1⟩
              have e1g := e1f.trans f1
              have ra1 := e1g.get r7
              simp -implicitDefEqProofs (maxSteps := 1000000) (disch := first | assumption | omega | (simp -implicitDefEqProofs only [gL] <;> omega) | ((repeat (first | exact Ext.refl _ | assumption | apply Ext.app | apply Ext.mk | (refine Ext.setr ?_ (by (first | omega | (simp -implicitDefEqProofs only [gL] <;> omega))) _))); done) | (simp -implicitDefEqProofs only [gL, gA, ra1] <;> omega) | fail) only [gB, setAll, partL, fldV, reduceIte, Nat.reduceAdd, Nat.reduceMul, ra1]
              refine WP.call (match_spec (nP.keeps (.ofExt e1g)) fP.1 hcP (uf.ext e1g) (by omega)) ?_
              rintro _ g2 ⟨f2, b2, rfl, hb2⟩
              obtain rfl : b1 = b2 := bool_eq (hb1.trans (In_star.trans ⟨fun z => z.resolve_left (fun q => hu0 (by rw [q]; rfl)), .inr⟩)) hb2
              have rx := (e1g.trans f2).get raf
              simp -implicitDefEqProofs (maxSteps := 1000000) (disch := first | assumption | omega | (simp -implicitDefEqProofs only [gL] <;> omega) | ((repeat (first | exact Ext.refl _ | assumption | apply Ext.app | apply Ext.mk | (refine Ext.setr ?_ (by (first | omega | (simp -implicitDefEqProofs only [gL] <;> omega))) _))); done) | (simp -implicitDefEqProofs only [gL, gA, rx] <;> omega) | fail) only [gB, setAll, partL, fldV, reduceIte, Nat.reduceAdd, Nat.reduceMul, rx]
              exact rest g2 (e1g.trans f2)
          case rs2 =>
            intro H1 e1f
            refine cutW (ι := Nat) (body := ?bd3) (Q := fun r _ => r = .bool true) (P := fun H => Ext hf H) (fun rest => ?fs3) ?rs3
            case fs3 =>
              refine WP.call (match_spec (naf.ext e1f).nv fa.1 (by omega) (uf.ext e1f) (by omega)) ?_
              rintro _ g1 ⟨f1, b1, rfl, hb1⟩
              have e1g := e1f.trans f1
              cases b1 with
              | false =>
                have rx := e1g.get r6
                simp -implicitDefEqProofs (maxSteps := 1000000) (disch := first | assumption | omega | (simp -implicitDefEqProofs only [gL] <;> omega) | ((repeat (first | exact Ext.refl _ | assumption | apply Ext.app | apply Ext.mk | (refine Ext.setr ?_ (by (first | omega | (simp -implicitDefEqProofs only [gL] <;> omega))) _))); done) | (simp -implicitDefEqProofs only [gL, gA, rx] <;> omega) | fail) only [gB, setAll, partL, fldV, reduceIte, Nat.reduceAdd, Nat.reduceMul, rx]
                exact rest g1 e1g
              | true =>
                have rb1 := e1g.get rbf
                simp -implicitDefEqProofs (maxSteps := 1000000) (disch := first | assumption | omega | (simp -implicitDefEqProofs only [gL] <;> omega) | ((repeat (first | exact Ext.refl _ | assumption | apply Ext.app | apply Ext.mk | (refine Ext.setr ?_ (by (first | omega | (simp -implicitDefEqProofs only [gL] <;> omega))) _))); done) | (simp -implicitDefEqProofs only [gL, gA, rb1] <;> omega) | fail) only [gB, setAll, partL, fldV, reduceIte, Nat.reduceAdd, Nat.reduceMul, rb1]
                refine WP.call (match_spec (nbf.ext e1g).nv fb.1 (by omega) (vf.ext e1g) (by omega)) ?_
                rintro _ g2 ⟨f2, b2, rfl, hb2⟩
                have e2g := e1g.trans f2
                cases b2 with
                | false =>
                  have rx := e2g.get r6
                  simp -implicitDefEqProofs (maxSteps := 1000000) (disch := first | assumption | omega | (simp -implicitDefEqProofs only [gL] <;> omega) | ((repeat (first | exact Ext.refl _ | assumption | apply Ext.app | apply Ext.mk | (refine Ext.setr ?_ (by (first | omega | (simp -implicitDefEqProofs only [gL] <;> omega))) _))); done) | (simp -implicitDefEqProofs only [gL, gA, rx] <;> omega) | fail) only [gB, setAll, partL, fldV, reduceIte, Nat.reduceAdd, Nat.reduceMul, rx]
                  exact rest g2 e2g
                | true =>
                  have rj := e2g.get r3
                  simp -implicitDefEqProofs (maxSteps := 1000000) (disch := first | assumption | omega | (simp -implicitDefEqProofs only [gL] <;> omega) | ((repeat (first | exact Ext.refl _ | assumption | apply Ext.app | apply Ext.mk | (refine Ext.setr ?_ (by (first | omega | (simp -implicitDefEqProofs only [gL] <;> omega))) _))); done) | (simp -implicitDefEqProofs only [gL, gA, rj] <;> omega) | fail) only [gB, setAll, partL, fldV, reduceIte, Nat.reduceAdd, Nat.reduceMul, rj]
                  refine WP.call (match_spec (nJ.keeps (.ofExt e2g)) fJ.1 hcJ (xf.ext e2g) (by simp; omega)) ?_
                  rintro _ g3 ⟨f3, b3, rfl, hb3⟩
                  obtain rfl := bool_t hb3 (In_join_app (hb1.1 rfl) (hb2.1 rfl))
                  have rx := (e2g.trans f3).get r6
                  simp -implicitDefEqProofs (maxSteps := 1000000) (disch := first | assumption | omega | (simp -implicitDefEqProofs only [gL] <;> omega) | ((repeat (first | exact Ext.refl _ | assumption | apply Ext.app | apply Ext.mk | (refine Ext.setr ?_ (by (first | omega | (simp -implicitDefEqProofs only [gL] <;> omega))) _))); done) | (simp -implicitDefEqProofs only [gL, gA, rx] <;> omega) | fail) only [gB, setAll, partL, fldV, reduceIte, Nat.reduceAdd, Nat.reduceMul, rx]
                  exact rest g3 (e2g.trans f3)
            case rs3 =>
              intro H1 e1f
              refine cutW (ι := Nat) (body := ?bd4) (Q := fun r _ => r = .bool true) (P := fun H => Ext hf H) (fun rest => ?fs4) ?rs4
              case fs4 =>
                refine WP.call (match_spec (nS.keeps (.ofExt e1f)) fS.1 hcS (uf.ext e1f) (by omega)) ?_
                rintro _ g1 ⟨f1, b1, rfl, hb1⟩
                have e1g := e1f.trans f1
                cases b1 with
                | false =>
                  simp -implicitDefEqProofs (maxSteps := 1000000) (disch := first | assumption | omega | (simp -implicitDefEqProofs only [gL] <;> omega) | ((repeat (first | exact Ext.refl _ | assumption | apply Ext.app | apply Ext.mk | (refine Ext.setr ?_ (by (first | omega | (simp -implicitDefEqProofs only [gL] <;> omega))) _))); done) | (simp -implicitDefEqProofs only [gL, gA] <;> omega) | fail) only [gB, setAll, partL, fldV, reduceIte, Nat.reduceAdd, Nat.reduceMul]
                  exact rest g1 e1g
                | true =>
                  have rs1 := e1g.get r6
                  simp -implicitDefEqProofs (maxSteps := 1000000) (disch := first | assumption | omega | (simp -implicitDefEqProofs only [gL] <;> omega) | ((repeat (first | exact Ext.refl _ | assumption | apply Ext.app | apply Ext.mk | (refine Ext.setr ?_ (by (first | omega | (simp -implicitDefEqProofs only [gL] <;> omega))) _))); done) | (simp -implicitDefEqProofs only [gL, gA, rs1] <;> omega) | fail) only [gB, setAll, partL, fldV, reduceIte, Nat.reduceAdd, Nat.reduceMul, rs1]
                  refine WP.call (match_spec (nS.keeps (.ofExt e1g)) fS.1 hcS (vf.ext e1g) (by omega)) ?_
                  rintro _ g2 ⟨f2, b2, rfl, hb2⟩
                  have e2g := e1g.trans f2
                  cases b2 with
                  | false =>
                    simp -implicitDefEqProofs (maxSteps := 1000000) (disch := first | assumption | omega | (simp -implicitDefEqProofs only [gL] <;> omega) | ((repeat (first | exact Ext.refl _ | assumption | apply Ext.app | apply Ext.mk | (refine Ext.setr ?_ (by (first | omega | (simp -implicitDefEqProofs only [gL] <;> omega))) _))); done) | (simp -implicitDefEqProofs only [gL, gA] <;> omega) | fail) only [gB, setAll, partL, fldV, reduceIte, Nat.reduceAdd, Nat.reduceMul]
                    exact rest g2 e2g
                  | true =>
                    have rj := e2g.get r6
                    simp -implicitDefEqProofs (maxSteps := 1000000) (disch := first | assumption | omega | (simp -implicitDefEqProofs only [gL] <;> omega) | ((repeat (first | exact Ext.refl _ | assumption | apply Ext.app | apply Ext.mk | (refine Ext.setr ?_ (by (first | omega | (simp -implicitDefEqProofs only [gL] <;> omega))) _))); done) | (simp -implicitDefEqProofs only [gL, gA, rj] <;> omega) | fail) only [gB, setAll, partL, fldV, reduceIte, Nat.reduceAdd, Nat.reduceMul, rj]
                    refine WP.call (match_spec (nS.keeps (.ofExt e2g)) fS.1 hcS (xf.ext e2g) (by simp; omega)) ?_
                    rintro _ g3 ⟨f3, b3, rfl, hb3⟩
                    obtain rfl := bool_t hb3 (In_star_app (hb1.1 rfl) (hb2.1 rfl))
                    simp -implicitDefEqProofs (maxSteps := 1000000) (disch := first | assumption | omega | (simp -implicitDefEqProofs only [gL] <;> omega) | ((repeat (first | exact Ext.refl _ | assumption | apply Ext.app | apply Ext.mk | (refine Ext.setr ?_ (by (first | omega | (simp -implicitDefEqProofs only [gL] <;> omega))) _))); done) | (simp -implicitDefEqProofs only [gL, gA] <;> omega) | fail) only [gB, setAll, partL, fldV, reduceIte, Nat.reduceAdd, Nat.reduceMul]
                    exact rest g3 (e2g.trans f3)
              case rs4 =>
                intro H1 e1f
                have nja : NA hf (.ptr (h8.length + 3) 0 5 0) (.join [a, b]) [I 4, I 0, I 0, I 0, .sl (h8.length + 2) 0 2 5 none 0] := ⟨At.row (wg := 0) (g := 0) (ro := false) r3 (Nat.le_refl _) rfl, nJ⟩
                have nsa : NA hf (.ptr (h8.length + 6) 0 5 0) (.star a) [I 6, I 0, I 0, I 0, .sl (h8.length + 4) 0 1 5 none 0] := ⟨At.row (wg := 0) (g := 0) (ro := false) r6 (Nat.le_refl _) rfl, nS⟩
                exact WP.ent (rules_l1 naf nbf nja nsa fa fb fJ fS (by omega) (by omega) hcJ hcS uf (by omega) (u.length + 1) 0 false H1 (by omega) ⟨fun q => (by cases q), fun ⟨j, q, _⟩ => by omega⟩ e1f) fun i => rfl
    · rw [decide_eq_false hg]
      simp -implicitDefEqProofs (maxSteps := 1000000) (disch := first | assumption | omega | (simp -implicitDefEqProofs only [gL] <;> omega) | ((repeat (first | exact Ext.refl _ | assumption | apply Ext.app | apply Ext.mk | (refine Ext.setr ?_ (by (first | omega | (simp -implicitDefEqProofs only [gL] <;> omega))) _))); done) | (simp -implicitDefEqProofs only [gL, gA] <;> omega) | fail) only [gB, setAll, partL, fldV, reduceIte, Nat.reduceAdd, Nat.reduceMul]
      exact WP.ret rfl
  · rw [decide_eq_false hf]
    simp -implicitDefEqProofs (maxSteps := 1000000) (disch := first | assumption | omega | (simp -implicitDefEqProofs only [gL] <;> omega) | ((repeat (first | exact Ext.refl _ | assumption | apply Ext.app | apply Ext.mk | (refine Ext.setr ?_ (by (first | omega | (simp -implicitDefEqProofs only [gL] <;> omega))) _))); done) | (simp -implicitDefEqProofs only [gL, gA] <;> omega) | fail) only [gB, setAll, partL, fldV, reduceIte, Nat.reduceAdd, Nat.reduceMul]
    exact WP.ret rfl
end
end Go.Gm.A5
