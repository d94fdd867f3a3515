/- A part of the proof (GmA5L3): an abstract machine, what it does, and what the functions of the program come to on it. -/
import Derived.Test.YtdpmglimjmecgaaGmA5L2
set_option linter.unusedVariables false
set_option linter.unusedSimpArgs false
namespace Go.Gm.A5
open Go Go.Gm

theorem same_spec {h : Heap} {a b : AV} {w : List Int} (ha : Sl h 1 a (w.map encI)) (hb : Sl h 1 b (w.map encI)) (hw : w.length ≤ 1000) : Tot tab f_milestoneref1_Ints [a, b] h fun r h' => r = .bool true ∧ h = h' := by
  refine WP.tot (fun k => (call_milestoneref1_Ints k _ _ h).trans (milestoneref1_Ints_eq tab k _ _ h)) ?_
  simp -implicitDefEqProofs (disch := first | assumption | omega | (simp -implicitDefEqProofs only [gL] <;> omega) | ((repeat (first | exact Ext.refl _ | assumption | apply Ext.app | apply Ext.mk | (refine Ext.setr ?_ (by (first | omega | (simp -implicitDefEqProofs only [gL] <;> omega))) _))); done) | (simp -implicitDefEqProofs only [gL, gA, ha.lenG, hb.lenG] <;> omega) | fail) only [gB, setAll, partL, fldV, reduceIte, Nat.reduceAdd, Nat.reduceMul, ha.lenG, hb.lenG]
  have loop : ∀ (d i : Nat), i + d = w.length → WP (fun p : Nat × Nat => milestoneref1_Ints_l1 tab p.1 p.2 a b (I i) h) fun r h' => r = .bool true ∧ h = h' := by
    intro d
    induction d with
    | zero =>
      intro i hi
      refine WP.rnd (fun i' j => milestoneref1_Ints_l1_eq tab i' j a b (I i) h) ?_
      simp -implicitDefEqProofs (disch := first | assumption | omega | (simp -implicitDefEqProofs only [gL] <;> omega) | ((repeat (first | exact Ext.refl _ | assumption | apply Ext.app | apply Ext.mk | (refine Ext.setr ?_ (by (first | omega | (simp -implicitDefEqProofs only [gL] <;> omega))) _))); done) | (simp -implicitDefEqProofs only [gL, gA, ha.lenG] <;> omega) | fail) only [gB, setAll, partL, fldV, reduceIte, Nat.reduceAdd, Nat.reduceMul, ha.lenG]
      exact WP.lv (WP.ret ⟨rfl, rfl⟩) fun i j => rfl
    | succ d ih =>
      intro i hi
      refine WP.rnd (fun i' j => milestoneref1_Ints_l1_eq tab i' j a b (I i) h) ?_
      have e0 := Ext.refl h
      simp -implicitDefEqProofs (disch := first | assumption | omega | (simp -implicitDefEqProofs only [gL] <;> omega) | ((repeat (first | exact Ext.refl _ | assumption | apply Ext.app | apply Ext.mk | (refine Ext.setr ?_ (by (first | omega | (simp -implicitDefEqProofs only [gL] <;> omega))) _))); done) | (simp -implicitDefEqProofs only [gL, gA, ha.lenG, ha.idxG, hb.idxG, ha.ld0, hb.ld0, encI] <;> omega) | fail) only [gB, setAll, partL, fldV, reduceIte, Nat.reduceAdd, Nat.reduceMul, ha.lenG, ha.idxG, hb.idxG, ha.ld0, hb.ld0, encI]
      exact ih (i + 1) (by omega)
  rw [show AV.int .i64 0 = I ((0 : Nat) : Int) from rfl]
  exact WP.ent (loop w.length 0 (by omega)) fun i => rfl
theorem words_nil {n : Nd} {m : Nat} (h : In n []) : ∃ r, wordsN n m = [] :: r := by
  have : (List.range (m + 1)).flatMap wl = [] :: ((List.range m).map Nat.succ).flatMap wl := by
    rw [List.range_succ_eq_map]; rfl
  refine ⟨flt n (((List.range m).map Nat.succ).flatMap wl), ?_⟩
  have e : wordsN n m = flt n ((List.range (m + 1)).flatMap wl) := rfl
  rw [e, this]
  show flt n ([[]] ++ _) = _
  rw [flt_app, flt_t h]; rfl
theorem words_non {n : Nd} {m : Nat} (h : ¬ In n []) : ∀ w ∈ wordsN n m, w ≠ [] := by
  intro w hw hq
  subst hq
  have e : wordsN n m = flt n ((List.range (m + 1)).flatMap wl) := rfl
  rw [e, flt, List.mem_filter] at hw
  exact h (by simpa using hw.2)
theorem words_in {n : Nd} {m : Nat} {w : List Int} (hw : w ∈ wordsN n m) : In n w ∧ w.length ≤ m := by
  have e : wordsN n m = flt n ((List.range (m + 1)).flatMap wl) := rfl
  rw [e, flt, List.mem_filter] at hw
  exact ⟨by simpa using hw.2, (words_rng hw.1).1⟩
section
variable {h : Heap} {p a b : AV} {n : Nd} {c5 : List AV} {ra rb : List AV} {m : Nat}
theorem wlaw_b2 (na : NA h p n c5) (fi : Fine n) (hc : cntN n ≤ 800000) (hm : m ≤ 4) (sa : Sl h 1 a (ra.map enc1)) (va : WV h ra (wordsN n m) fun _ => False) {H : Heap} (e : Ext h H) :
    WP (fun i : Nat => milestonelaw5_MatchWords_b2 tab i p a H) fun r _ => r = .bool true := by
  refine WP.congr (fun i => milestonelaw5_MatchWords_b2_eq tab i p a H) ?_
  have e0 := Ext.refl H
  have na' := na.ext e
  simp -implicitDefEqProofs (disch := first | assumption | omega | (simp -implicitDefEqProofs only [gL] <;> omega) | ((repeat (first | exact Ext.refl _ | assumption | apply Ext.app | apply Ext.mk | (refine Ext.setr ?_ (by (first | omega | (simp -implicitDefEqProofs only [gL] <;> omega))) _))); done) | (simp -implicitDefEqProofs only [gL, gA, na'.ld] <;> omega) | fail) only [gB, setAll, partL, fldV, reduceIte, Nat.reduceAdd, Nat.reduceMul, na'.ld]
  refine WP.call (null_spec na'.nv fi.1 hc) ?_
  rintro _ h1 ⟨e1, x, rfl, hb⟩
  have sa1 := (sa.ext e).ext e1
  have va1 := (va.ext e).ext e1
  have e0 := Ext.refl h1
  have hlen := va1.1
  cases x with
  | true =>
    obtain ⟨r, hr⟩ := words_nil (m := m) (hb.1 rfl)
    rw [hr] at va1 hlen
    have h0 : 0 < ra.length := by rw [hlen]; simp
    have hr0 : ra[0]? = some ra[0] := List.getElem?_eq_getElem h0
    obtain ⟨k1, _⟩ := va1.2 0 ra[0] [] hr0 rfl
    have hg : gi ra (0 : Int) = ra[0] := gi_map (i := 0) hr0
    have hl := k1.lenG
    simp -implicitDefEqProofs (disch := first | assumption | omega | (simp -implicitDefEqProofs only [gL] <;> omega) | ((repeat (first | exact Ext.refl _ | assumption | apply Ext.app | apply Ext.mk | (refine Ext.setr ?_ (by (first | omega | (simp -implicitDefEqProofs only [gL] <;> omega))) _))); done) | (simp -implicitDefEqProofs only [gL, gA, sa1.lenG, sa1.idxG, sa1.ld0, enc1, hg, hl] <;> omega) | fail) only [gB, setAll, partL, fldV, reduceIte, Nat.reduceAdd, Nat.reduceMul, sa1.lenG, sa1.idxG, sa1.ld0, enc1, hg, hl]
    exact WP.ret rfl
  | false =>
    have hnon := words_non (m := m) fun q => by have := hb.2 q; cases this
    cases hra : ra with
    | nil =>
      rw [hra] at sa1
      simp -implicitDefEqProofs (disch := first | assumption | omega | (simp -implicitDefEqProofs only [gL] <;> omega) | ((repeat (first | exact Ext.refl _ | assumption | apply Ext.app | apply Ext.mk | (refine Ext.setr ?_ (by (first | omega | (simp -implicitDefEqProofs only [gL] <;> omega))) _))); done) | (simp -implicitDefEqProofs only [gL, gA, sa1.lenG] <;> omega) | fail) only [gB, setAll, partL, fldV, reduceIte, Nat.reduceAdd, Nat.reduceMul, sa1.lenG]
      exact WP.ret rfl
    | cons r0 rr =>
      have h0 : 0 < ra.length := by rw [hra]; simp
      have hr0 : ra[0]? = some r0 := by rw [hra]; rfl
      obtain ⟨w, hw⟩ : ∃ w, (wordsN n m)[0]? = some w := ⟨_, List.getElem?_eq_getElem (by omega)⟩
      obtain ⟨k1, _⟩ := va1.2 0 r0 w hr0 hw
      have hwm := words_in (List.mem_of_getElem? hw)
      have hg : gi ra (0 : Int) = r0 := gi_map (i := 0) hr0
      have hl := k1.lenG
      have hw0 : 0 < w.length := by
        have := hnon w (List.mem_of_getElem? hw)
        cases w with
        | nil => exact absurd rfl this
        | cons _ _ => simp
      simp -implicitDefEqProofs (disch := first | assumption | omega | (simp -implicitDefEqProofs only [gL] <;> omega) | ((repeat (first | exact Ext.refl _ | assumption | apply Ext.app | apply Ext.mk | (refine Ext.setr ?_ (by (first | omega | (simp -implicitDefEqProofs only [gL] <;> omega))) _))); done) | (simp -implicitDefEqProofs only [gL, gA, sa1.lenG, sa1.idxG, sa1.ld0, enc1, hg, hl] <;> omega) | fail) only [gB, setAll, partL, fldV, reduceIte, Nat.reduceAdd, Nat.reduceMul, sa1.lenG, sa1.idxG, sa1.ld0, enc1, hg, hl]
      exact WP.ret rfl
theorem wlaw_l1 (na : NA h p n c5) (fi : Fine n) (hc : cntN n ≤ 800000) (hm : m ≤ 4) (sa : Sl h 1 a (ra.map enc1)) (va : WV h ra (wordsN n m) fun _ => False) (sb : Sl h 1 b (rb.map enc1)) (vb : WV h rb (wordsN n m) fun _ => False) (hlen : ra.length ≤ 100000) :
    ∀ (d i : Nat) (H : Heap), i + d = ra.length → Ext h H → WP (fun q : Nat × Nat => milestonelaw5_MatchWords_l1 tab q.1 q.2 p a b (I i) H) fun r _ => r = .bool true := by
  intro d
  induction d with
  | zero =>
    intro i H hi e
    refine WP.rnd (fun i' j => milestonelaw5_MatchWords_l1_eq tab i' j p a b (I i) H) ?_
    have sa1 := sa.ext e
    simp -implicitDefEqProofs (disch := first | assumption | omega | (simp -implicitDefEqProofs only [gL] <;> omega) | ((repeat (first | exact Ext.refl _ | assumption | apply Ext.app | apply Ext.mk | (refine Ext.setr ?_ (by (first | omega | (simp -implicitDefEqProofs only [gL] <;> omega))) _))); done) | (simp -implicitDefEqProofs only [gL, gA, sa1.lenG] <;> omega) | fail) only [gB, setAll, partL, fldV, reduceIte, Nat.reduceAdd, Nat.reduceMul, sa1.lenG]
    exact WP.lv (wlaw_b2 na fi hc hm sa va e) fun i j => rfl
  | succ d ih =>
    intro i H hi e
    refine WP.rnd (fun i' j => milestonelaw5_MatchWords_l1_eq tab i' j p a b (I i) H) ?_
    have sa1 := sa.ext e
    have sb1 := sb.ext e
    have va1 := va.ext e
    have vb1 := vb.ext e
    have la := va1.1
    have lb := vb1.1
    obtain ⟨x, hx⟩ : ∃ x, ra[i]? = some x := ⟨_, List.getElem?_eq_getElem (by omega)⟩
    obtain ⟨y, hy⟩ : ∃ y, rb[i]? = some y := ⟨_, List.getElem?_eq_getElem (by omega)⟩
    obtain ⟨w, hw⟩ : ∃ w, (wordsN n m)[i]? = some w := ⟨_, List.getElem?_eq_getElem (by omega)⟩
    obtain ⟨k1, _⟩ := va1.2 i x w hx hw
    obtain ⟨k2, _⟩ := vb1.2 i y w hy hw
    have hwm := words_in (List.mem_of_getElem? hw)
    have hgx := gi_map hx
    have hgy := gi_map hy
    have e0 := Ext.refl H
    simp -implicitDefEqProofs (disch := first | assumption | omega | (simp -implicitDefEqProofs only [gL] <;> omega) | ((repeat (first | exact Ext.refl _ | assumption | apply Ext.app | apply Ext.mk | (refine Ext.setr ?_ (by (first | omega | (simp -implicitDefEqProofs only [gL] <;> omega))) _))); done) | (simp -implicitDefEqProofs only [gL, gA, sa1.lenG, sa1.idxG, sb1.idxG, sa1.ld0, sb1.ld0, enc1, hgx, hgy] <;> omega) | fail) only [gB, setAll, partL, fldV, reduceIte, Nat.reduceAdd, Nat.reduceMul, sa1.lenG, sa1.idxG, sb1.idxG, sa1.ld0, sb1.ld0, enc1, hgx, hgy]
    refine WP.call (same_spec k1 k2 (by omega)) ?_
    rintro _ _ ⟨rfl, rfl⟩
    have na1 := na.ext e
    simp -implicitDefEqProofs (disch := first | assumption | omega | (simp -implicitDefEqProofs only [gL] <;> omega) | ((repeat (first | exact Ext.refl _ | assumption | apply Ext.app | apply Ext.mk | (refine Ext.setr ?_ (by (first | omega | (simp -implicitDefEqProofs only [gL] <;> omega))) _))); done) | (simp -implicitDefEqProofs only [gL, gA, sa1.idxG, sa1.ld0, enc1, hgx, na1.ld] <;> omega) | fail) only [gB, setAll, partL, fldV, reduceIte, Nat.reduceAdd, Nat.reduceMul, sa1.idxG, sa1.ld0, enc1, hgx, na1.ld]
    refine WP.call (match_spec na1.nv fi.1 hc k1 (by omega)) ?_
    rintro _ h2 ⟨e2, z, rfl, hb⟩
    obtain rfl := bool_t hb hwm.1
    simp -implicitDefEqProofs (disch := first | assumption | omega | (simp -implicitDefEqProofs only [gL] <;> omega) | ((repeat (first | exact Ext.refl _ | assumption | apply Ext.app | apply Ext.mk | (refine Ext.setr ?_ (by (first | omega | (simp -implicitDefEqProofs only [gL] <;> omega))) _))); done) | (simp -implicitDefEqProofs only [gL, gA] <;> omega) | fail) only [gB, setAll, partL, fldV, reduceIte, Nat.reduceAdd, Nat.reduceMul]
    exact ih (i + 1) h2 (by omega) (e.trans e2)
theorem wlaw_spec {l : List Rw} {s : AV} {css : List (List AV)} {most : Int} (hs : Sl h 3 s css) (hr : RVs h l css) :
    Tot tab f_milestonelaw5_MatchWords [s, I most] h fun r _ => r = .bool true := by
  refine WP.tot (fun k => (call_milestonelaw5_MatchWords k _ _ h).trans (milestonelaw5_MatchWords_eq tab k _ _ h)) ?_
  refine WP.call (known_spec h) ?_
  rintro _ h1 ⟨rfl, e1⟩
  simp -implicitDefEqProofs (disch := first | assumption | omega | (simp -implicitDefEqProofs only [gL] <;> omega) | ((repeat (first | exact Ext.refl _ | assumption | apply Ext.app | apply Ext.mk | (refine Ext.setr ?_ (by (first | omega | (simp -implicitDefEqProofs only [gL] <;> omega))) _))); done) | (simp -implicitDefEqProofs only [gL, gA] <;> omega) | fail) only [gB, setAll, partL, fldV, reduceIte, Nat.reduceAdd, Nat.reduceMul]
  refine WP.call (few_spec (hs.ext e1) (hr.ext e1)) ?_
  rintro _ _ ⟨rfl, rfl⟩
  by_cases hf : szF 7 l ≤ 14
  · rw [decide_eq_true hf]
    simp -implicitDefEqProofs (disch := first | assumption | omega | (simp -implicitDefEqProofs only [gL] <;> omega) | ((repeat (first | exact Ext.refl _ | assumption | apply Ext.app | apply Ext.mk | (refine Ext.setr ?_ (by (first | omega | (simp -implicitDefEqProofs only [gL] <;> omega))) _))); done) | (simp -implicitDefEqProofs only [gL, gA] <;> omega) | fail) only [gB, setAll, partL, fldV, reduceIte, Nat.reduceAdd, Nat.reduceMul]
    refine WP.call (one_spec4 (hs.ext e1) (hr.ext e1)) ?_
    rintro _ h2 ⟨e2, c5, rfl, nv⟩
    refine WP.call (within5_spec (n := 4) (by omega) (by unfold Fit; omega) h2) ?_
    rintro _ _ ⟨rfl, rfl⟩
    have a3 : 0 ≤ most % 4 ∧ most % 4 < 4 := ⟨Int.emod_nonneg _ (by omega), Int.emod_lt_of_pos _ (by omega)⟩
    obtain ⟨m, hm⟩ : ∃ m : Nat, most % 4 = m := ⟨(most % 4).toNat, by omega⟩
    rw [hm]
    obtain ⟨s5, rfl, ho5⟩ := nv.inv
    have fi := fine_one l
    have hcn := cnt_one l hf
    generalize oneN l = n at *
    obtain ⟨h3, hh3⟩ : ∃ h3, h3 = h2 ++ [AObj.cells ⟨[I n.kind, I n.st, I n.lo, I n.hi, s5], 0, 0, false⟩] := ⟨_, rfl⟩
    have na : NA h3 (.ptr h2.length 0 5 0) n [I n.kind, I n.st, I n.lo, I n.hi, s5] := by rw [hh3]; exact NA.new nv.nv
    have e0 := Ext.refl h3
    have r0 : h3[h2.length]? = some (.cells ⟨[I n.kind, I n.st, I n.lo, I n.hi, s5], 0, 0, false⟩) := by rw [hh3]; simp
    simp -implicitDefEqProofs (disch := first | assumption | omega | (simp -implicitDefEqProofs only [gL] <;> omega) | ((repeat (first | exact Ext.refl _ | assumption | apply Ext.app | apply Ext.mk | (refine Ext.setr ?_ (by (first | omega | (simp -implicitDefEqProofs only [gL] <;> omega))) _))); done) | (simp -implicitDefEqProofs only [gL, gA, ho5, set_lastO] <;> omega) | fail) only [gB, setAll, partL, fldV, reduceIte, Nat.reduceAdd, Nat.reduceMul, ho5, set_lastO]
    rw [← hh3]
    refine WP.call (words_spec na.nv fi.1 (by omega) (most := m) (by omega)) ?_
    rintro a h4 ⟨e4, ra, sa, va⟩
    have r4 := e4.get r0
    simp -implicitDefEqProofs (disch := first | assumption | omega | (simp -implicitDefEqProofs only [gL] <;> omega) | ((repeat (first | exact Ext.refl _ | assumption | apply Ext.app | apply Ext.mk | (refine Ext.setr ?_ (by (first | omega | (simp -implicitDefEqProofs only [gL] <;> omega))) _))); done) | (simp -implicitDefEqProofs only [gL, gA, r4] <;> omega) | fail) only [gB, setAll, partL, fldV, reduceIte, Nat.reduceAdd, Nat.reduceMul, r4]
    refine WP.call (rwords_spec (na.ext e4).nv fi.1 fi.2 (most := m) (by omega)) ?_
    rintro b h5 ⟨e5, rb, sb, vb⟩
    have sa5 := sa.ext e5
    have va5 := va.ext e5
    have la := va.1
    have lb := vb.1
    have hlen : (wordsN n m).length ≤ 1000 := by
      have e : wordsN n m = flt n ((List.range (m + 1)).flatMap wl) := rfl
      rw [e]
      refine Nat.le_trans (flt_len ..) ?_
      have : m = 0 ∨ m = 1 ∨ m = 2 ∨ m = 3 := by omega
      rcases this with rfl | rfl | rfl | rfl <;> simp [List.range_succ, wl_len]
    simp -implicitDefEqProofs (disch := first | assumption | omega | (simp -implicitDefEqProofs only [gL] <;> omega) | ((repeat (first | exact Ext.refl _ | assumption | apply Ext.app | apply Ext.mk | (refine Ext.setr ?_ (by (first | omega | (simp -implicitDefEqProofs only [gL] <;> omega))) _))); done) | (simp -implicitDefEqProofs only [gL, gA, sa5.lenG, sb.lenG] <;> omega) | fail) only [gB, setAll, partL, fldV, reduceIte, Nat.reduceAdd, Nat.reduceMul, sa5.lenG, sb.lenG]
    rw [show AV.int .i64 0 = I ((0 : Nat) : Int) from rfl]
    exact WP.ent (wlaw_l1 ((na.ext e4).ext e5) fi (by omega) (m := m) (by omega) sa5 va5 sb vb (by omega) ra.length 0 h5 (by omega) (Ext.refl _)) fun i => rfl
  · rw [decide_eq_false hf]
    simp -implicitDefEqProofs (disch := first | assumption | omega | (simp -implicitDefEqProofs only [gL] <;> omega) | ((repeat (first | exact Ext.refl _ | assumption | apply Ext.app | apply Ext.mk | (refine Ext.setr ?_ (by (first | omega | (simp -implicitDefEqProofs only [gL] <;> omega))) _))); done) | (simp -implicitDefEqProofs only [gL, gA] <;> omega) | fail) only [gB, setAll, partL, fldV, reduceIte, Nat.reduceAdd, Nat.reduceMul]
    exact WP.ret rfl
end
end Go.Gm.A5
