/- A part of the proof: GmA5Y: an abstract machine, what it does, and what the functions of the program come to on it. -/
import Derived.Test.YtdpmglimjmecgaaGmA5X
set_option linter.unusedVariables false
set_option linter.unusedSimpArgs false
namespace Go.Gm.A5
open Go Go.Gm
/- The document's own matching. -/

/-- Bounds that are in order, at every depth. -/
inductive Wf : Nd → Prop
  | mk {n : Nd} : n.lo ≤ n.hi → (∀ c ∈ n.kids, Wf c) → Wf n

section
variable {lo hi L : Nat} {out : AV} {h0 : Heap} {a0 : List Bool}
theorem both_l1 (hL : L ≤ 1000000) {s : AV} {b : List Bool} (hb : b.length = L) (hs : Sl h0 1 s (b.map encB)) (hso : s ≠ .nils → s.obj < lo ∨ hi ≤ s.obj) :
    ∀ (d i : Nat) (cur : List Bool) (fl : Bool) (h : Heap), i + d = L → cur.length = L → (∀ j : Nat, cur.getD j false = true ↔ a0.getD j false = true ∨ (j < i ∧ b.getD j false = true)) → Flg a0 cur fl → Gr lo hi h 1 out (cur.map encB) → Fr lo hi h0 h →
      WP (fun p : Nat × Nat => milestoneref5_both_l1 tab p.1 p.2 s out (.bool fl) (I i) h) fun r h' => ∃ cur fl, r = .tup [out, .bool fl] ∧ cur.length = L ∧ (∀ j : Nat, cur.getD j false = true ↔ a0.getD j false = true ∨ b.getD j false = true) ∧ Flg a0 cur fl ∧ Gr lo hi h' 1 out (cur.map encB) ∧ Fr lo hi h0 h' := by
  intro d
  induction d with
  | zero =>
    intro i cur fl h h1 h2 h3 h4 h5 h6
    refine WP.rnd (fun i' j => milestoneref5_both_l1_eq tab i' j s out (.bool fl) (I i) h) ?_
    have hs' := hs.fr h6 hso
    simp -implicitDefEqProofs (disch := first | assumption | omega | (simp -implicitDefEqProofs only [gL] <;> omega) | ((repeat (first | exact Ext.refl _ | assumption | apply Ext.app | apply Ext.mk | (refine Ext.setr ?_ (by (first | omega | (simp -implicitDefEqProofs only [gL] <;> omega))) _))); done) | (simp -implicitDefEqProofs only [gL, gA, hs'.lenG] <;> omega) | fail) only [gB, setAll, partL, fldV, reduceIte, Nat.reduceAdd, Nat.reduceMul, hs'.lenG]
    refine WP.lv (WP.congr (fun p => milestoneref5_both_b2_eq tab _ out _ h) (WP.ret ⟨cur, fl, rfl, h2, fun j => (h3 j).trans ⟨fun q => q.imp id fun q => q.2, fun q => ?_⟩, h4, h5, h6⟩)) fun i j => rfl
    rcases q with q | q
    · exact .inl q
    · refine .inr ⟨?_, q⟩
      by_cases hj : j < b.length
      · omega
      · rw [List.getD_eq_getElem?_getD, List.getElem?_eq_none (by omega)] at q; cases q
  | succ d ih =>
    intro i cur fl h h1 h2 h3 h4 h5 h6
    refine WP.rnd (fun i' j => milestoneref5_both_l1_eq tab i' j s out (.bool fl) (I i) h) ?_
    have hs' := hs.fr h6 hso
    have ht := h5.sl
    have e0 := Ext.refl h
    obtain ⟨v, hv⟩ : ∃ v, gi b i = v := ⟨_, rfl⟩
    have hvb : b.getD i false = v := hv
    have hcv : ∀ u, cur.getD i false = u → gi cur i = u := fun u q => q
    have next : ∀ cur' : List Bool, (∀ j : Nat, cur'.getD j false = true ↔ (if j = i then (cur.getD i false = true ∨ v = true) else cur.getD j false = true)) → ∀ j : Nat, cur'.getD j false = true ↔ a0.getD j false = true ∨ (j < i + 1 ∧ b.getD j false = true) := by
      intro cur' hcur j
      rw [hcur j]
      by_cases hj : j = i
      · subst hj
        rw [if_pos rfl, h3 j, hvb]
        constructor
        · rintro ((q | q) | q)
          · exact .inl q
          · omega
          · exact .inr ⟨by omega, q⟩
        · rintro (q | q)
          · exact .inl (.inl q)
          · exact .inr q.2
      · rw [if_neg hj, h3 j]
        constructor
        · rintro (q | q)
          · exact .inl q
          · exact .inr ⟨by omega, q.2⟩
        · rintro (q | q)
          · exact .inl q
          · exact .inr ⟨by omega, q.2⟩
    cases v with
    | false =>
      simp -implicitDefEqProofs (disch := first | assumption | omega | (simp -implicitDefEqProofs only [gL] <;> omega) | ((repeat (first | exact Ext.refl _ | assumption | apply Ext.app | apply Ext.mk | (refine Ext.setr ?_ (by (first | omega | (simp -implicitDefEqProofs only [gL] <;> omega))) _))); done) | (simp -implicitDefEqProofs only [gL, gA, hs'.lenG, hs'.idxG, hs'.ld0, encB, hv] <;> omega) | fail) only [gB, setAll, partL, fldV, reduceIte, Nat.reduceAdd, Nat.reduceMul, hs'.lenG, hs'.idxG, hs'.ld0, encB, hv]
      refine ih (i + 1) cur fl h (by omega) h2 (next cur fun j => ?_) h4 h5 h6
      by_cases hj : j = i
      · subst hj; simp
      · rw [if_neg hj]
    | true =>
      cases hcu : cur.getD i false with
      | true =>
        simp -implicitDefEqProofs (disch := first | assumption | omega | (simp -implicitDefEqProofs only [gL] <;> omega) | ((repeat (first | exact Ext.refl _ | assumption | apply Ext.app | apply Ext.mk | (refine Ext.setr ?_ (by (first | omega | (simp -implicitDefEqProofs only [gL] <;> omega))) _))); done) | (simp -implicitDefEqProofs only [gL, gA, hs'.lenG, hs'.idxG, hs'.ld0, encB, hv, ht.idxG, ht.ld0, hcv _ hcu] <;> omega) | fail) only [gB, setAll, partL, fldV, reduceIte, Nat.reduceAdd, Nat.reduceMul, hs'.lenG, hs'.idxG, hs'.ld0, encB, hv, ht.idxG, ht.ld0, hcv _ hcu]
        refine ih (i + 1) cur fl h (by omega) h2 (next cur fun j => ?_) h4 h5 h6
        by_cases hj : j = i
        · subst hj; rw [if_pos rfl]; simp only [hcu, true_or]
        · rw [if_neg hj]
      | false =>
        obtain ⟨h', k1, k2, k3, k4⟩ := h5.write0 (i := (i : Int)) (by omega) (by rw [List.length_map]; omega) (v := .bool true) rfl rfl
        have hil : i < cur.length := by omega
        simp -implicitDefEqProofs (disch := first | assumption | omega | (simp -implicitDefEqProofs only [gL] <;> omega) | ((repeat (first | exact Ext.refl _ | assumption | apply Ext.app | apply Ext.mk | (refine Ext.setr ?_ (by (first | omega | (simp -implicitDefEqProofs only [gL] <;> omega))) _))); done) | (simp -implicitDefEqProofs only [gL, gA, hs'.lenG, hs'.idxG, hs'.ld0, encB, hv, ht.idxG, ht.ld0, hcv _ hcu, k1] <;> omega) | fail) only [gB, setAll, partL, fldV, reduceIte, Nat.reduceAdd, Nat.reduceMul, hs'.lenG, hs'.idxG, hs'.ld0, encB, hv, ht.idxG, ht.ld0, hcv _ hcu, k1]
        refine ih (i + 1) (cur.set i true) true h' (by omega) (by simpa using h2) (next _ fun j => ?_) ⟨fun _ => ?_, fun q => by cases q⟩ (k2.cong ?_) (h6.trans k3)
        · rw [List.getD_eq_getElem?_getD]
          by_cases hj : j = i
          · subst hj; rw [List.getElem?_set_self hil]; simp
          · rw [List.getElem?_set_ne (Ne.symm hj), if_neg hj, List.getD_eq_getElem?_getD]
        · have := cntT_set (bs := cur) (i := i) (by rw [List.getD_eq_getElem?_getD, List.getElem?_eq_getElem hil] at hcu; rw [List.getElem?_eq_getElem hil]; simpa using hcu)
          have := h4.le
          omega
        · rw [List.map_set]; rfl
end
section
variable {w : List Int}
theorem both_spec {h : Heap} {a b : AV} {xs bs : List Bool} {C D : Nat → Prop} (hw : w.length ≤ 900000) (ha : Sl h 1 a (xs.map encB)) (hb : Sl h 1 b (bs.map encB)) (hC : Is w xs C) (hD : Is w bs D) :
    Tot tab f_milestoneref5_both [a, b] h fun r h' => Ext h h' ∧ ∃ out cur fl, r = .tup [out, .bool fl] ∧ Sl h' 1 out (cur.map encB) ∧ Is w cur (fun j => C j ∨ D j) ∧ Flg xs cur fl := by
  refine WP.tot (fun k' => (call_milestoneref5_both k' _ _ h).trans (milestoneref5_both_eq tab k' _ _ h)) ?_
  have hla := hC.1
  have hlb := hD.1
  obtain ⟨s', h', h1, h2, h3⟩ := clone_i (bytes := 1) ha (by omega) (by omega) (by rw [List.length_map]; omega)
  rw [mkObj_eq] at h1
  simp -implicitDefEqProofs (disch := first | assumption | omega | (simp -implicitDefEqProofs only [gL] <;> omega) | ((repeat (first | exact Ext.refl _ | assumption | apply Ext.app | apply Ext.mk | (refine Ext.setr ?_ (by (first | omega | (simp -implicitDefEqProofs only [gL] <;> omega))) _))); done) | (simp -implicitDefEqProofs only [gL, gA, h1] <;> omega) | fail) only [gB, setAll, partL, fldV, reduceIte, Nat.reduceAdd, Nat.reduceMul, h1]
  have hl := h3.len
  refine WP.ent (WP.mono (both_l1 (a0 := xs) (lo := h.length) (hi := h'.length) (h0 := h') (by omega : w.length + 1 ≤ 1000000) hlb (hb.ext h3) (fun q => .inl (hb.objLt q)) (w.length + 1) 0 xs false h' (by omega) hla (fun j => by simp) ⟨fun q => (by cases q), fun _ => rfl⟩ h2 (Fr.refl _ _ _)) ?_) fun i => rfl
  rintro _ h4 ⟨cur, fl, rfl, k1, k2, k3, k4, k5⟩
  exact ⟨k5.ext h3 (Nat.le_refl _), s', cur, fl, rfl, k4.sl, ⟨k1, fun j => by rw [k2 j, hC.2 j, hD.2 j]⟩, k3⟩
def RefS (w : List Int) (n : Nd) : Prop :=
  ∀ (c5 : List AV) (word fr : AV) (fb : List Bool) (P : Nat → Prop) (h : Heap), NV h n c5 → Sl h 1 word (w.map encI) → Sl h 1 fr (fb.map encB) → Is w fb P →
    Tot tab f_milestoneref5_ends [.agg c5, word, fr] h fun r h' => Ext h h' ∧ ∃ bs, Sl h' 1 r (bs.map encB) ∧ Is w bs fun j => ∃ i, P i ∧ R w n i j
theorem often_l1 {n : Nd} (hS : RefS w n) (hw : w.length ≤ 900000) {c5 : List AV} {word n4 : AV} {h : Heap} (nv : NV h n c5) (hwd : Sl h 1 word (w.map encI)) (hn4 : At h n4 c5) {P : Nat → Prop} :
    ∀ (d t : Nat) (all cur : AV) (ab cb : List Bool) (A S : Nat → Prop) (H : Heap), cntT ab + d = w.length + 1 → t ≤ cntT ab → Ext h H → Sl H 1 all (ab.map encB) → Sl H 1 cur (cb.map encB) → Is w ab A → Is w cb S →
      (∀ i j, A i → R w n i j → A j ∨ ∃ i', S i' ∧ R w n i' j) → (∀ i j, P i → R w n i j → A j ∨ ∃ i', S i' ∧ R w n i' j) → (∀ j, A j → ∃ i m, P i ∧ R w n i m ∧ Star (R w n) m j) → (∀ j, S j → ∃ i, P i ∧ Star (R w n) i j) →
      WP (fun p : Nat × Nat => milestoneref5_often_l1 tab p.1 p.2 word (I 0) n4 all cur (I t) H) fun r h' => Ext h h' ∧ ∃ bs, Sl h' 1 r (bs.map encB) ∧ Is w bs fun j => ∃ i m, P i ∧ R w n i m ∧ Star (R w n) m j := by
  intro d
  induction d using Nat.strongRecOn with
  | _ d ih =>
    intro t all cur ab cb A S H h1 ht ex ha hc iA iS i1 i2 i3 i4
    refine WP.rnd (fun i' j => milestoneref5_often_l1_eq tab i' j word (I 0) n4 all cur (I t) H) ?_
    have e0 := Ext.refl H
    have hl5 := nv.len
    have h5 : c5.take 5 = c5 := List.take_of_length_le (by omega)
    have hab := iA.1
    have hcn := cntT_le ab
    simp -implicitDefEqProofs (disch := first | assumption | omega | (simp -implicitDefEqProofs only [gL] <;> omega) | ((repeat (first | exact Ext.refl _ | assumption | apply Ext.app | apply Ext.mk | (refine Ext.setr ?_ (by (first | omega | (simp -implicitDefEqProofs only [gL] <;> omega))) _))); done) | (simp -implicitDefEqProofs only [gL, gA, hn4.ldNE, h5] <;> omega) | fail) only [gB, setAll, partL, fldV, reduceIte, Nat.reduceAdd, Nat.reduceMul, hn4.ldNE, h5]
    refine WP.call (hS c5 word cur cb S H (nv.keeps (.ofExt ex)) (hwd.ext ex) hc iS) ?_
    rintro r H1 ⟨x1, bs, rs, ri⟩
    refine WP.call (both_spec hw (ha.ext x1) rs iA ri) ?_
    rintro _ H2 ⟨x2, out, cu, fl, rfl, os, oi, of⟩
    have star : ∀ j, (∃ i, S i ∧ R w n i j) → ∃ i m, P i ∧ R w n i m ∧ Star (R w n) m j := by
      rintro j ⟨i, q1, q2⟩
      obtain ⟨i0, q3, q4⟩ := i4 i q1
      have : ∃ m, R w n i0 m ∧ Star (R w n) m j := by
        clear i4 q1 q3
        induction q4 generalizing j with
        | refl => exact ⟨j, q2, .refl _⟩
        | tail a b ih =>
          obtain ⟨m, k1, k2⟩ := ih _ b
          exact ⟨m, k1, .tail k2 q2⟩
      obtain ⟨m, k1, k2⟩ := this
      exact ⟨i0, m, q3, k1, k2⟩
    have i3' : ∀ j, (A j ∨ ∃ i, S i ∧ R w n i j) → ∃ i m, P i ∧ R w n i m ∧ Star (R w n) m j := fun j q => q.elim (i3 j) (star j)
    cases fl with
    | true =>
      simp -implicitDefEqProofs (disch := first | assumption | omega | (simp -implicitDefEqProofs only [gL] <;> omega) | ((repeat (first | exact Ext.refl _ | assumption | apply Ext.app | apply Ext.mk | (refine Ext.setr ?_ (by (first | omega | (simp -implicitDefEqProofs only [gL] <;> omega))) _))); done) | (simp -implicitDefEqProofs only [gL, gA, extr_tup] <;> omega) | fail) only [gB, setAll, partL, fldV, reduceIte, Nat.reduceAdd, Nat.reduceMul, extr_tup]
      have h3 := of.1 rfl
      have h4 := cntT_le cu
      have h6 := oi.1
      refine ih (w.length + 1 - cntT cu) (by omega) (t + 1) out r cu bs _ _ H2 (by omega) (by omega) ((ex.trans x1).trans x2) os (rs.ext x2) oi ri ?_ ?_ i3' ?_
      · rintro i j (q | q) q2
        · exact .inl (i1 i j q q2)
        · exact .inr ⟨i, q, q2⟩
      · intro i j q q2
        exact .inl (i2 i j q q2)
      · rintro j ⟨i, q1, q2⟩
        obtain ⟨i0, q3, q4⟩ := i4 i q1
        exact ⟨i0, q3, .tail q4 q2⟩
    | false =>
      simp -implicitDefEqProofs (disch := first | assumption | omega | (simp -implicitDefEqProofs only [gL] <;> omega) | ((repeat (first | exact Ext.refl _ | assumption | apply Ext.app | apply Ext.mk | (refine Ext.setr ?_ (by (first | omega | (simp -implicitDefEqProofs only [gL] <;> omega))) _))); done) | (simp -implicitDefEqProofs only [gL, gA, extr_tup] <;> omega) | fail) only [gB, setAll, partL, fldV, reduceIte, Nat.reduceAdd, Nat.reduceMul, extr_tup]
      have h3 := of.2 rfl
      subst h3
      refine WP.lv (WP.ret ⟨(ex.trans x1).trans x2, cu, os, oi.cong fun j => ⟨i3' j, ?_⟩⟩) fun i j => rfl
      rintro ⟨i, m, q1, q2, q3⟩
      have clo : ∀ a b, A a → R w n a b → A b := fun a b q4 q5 => (iA.2 b).1 ((oi.2 b).2 (i1 a b q4 q5))
      exact .inl (q3.inv (P := A) clo ((iA.2 m).1 ((oi.2 m).2 (i2 i m q1 q2))))
end
end Go.Gm.A5
