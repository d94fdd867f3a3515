/- A part of the proof (GmA5Y, GmA5Z, GmA5B, GmA5C, GmA5D, GmA5E, GmA5F): an abstract machine, what it does, and what the functions of the program come to on it. -/
import Derived.Test.YtdpmglimjmecgaaGmA5P1
import Derived.Test.YtdpmglimjmecgaaGmP5
set_option linter.unusedVariables false
set_option linter.unusedSimpArgs false
namespace Go.Gm.A5
open Go Go.Gm
/- The document's own matching. -/

/-- Bounds that are in order, at every depth. -/
inductive Wf : Nd → Prop
  | mk {n : Nd} : n.lo ≤ n.hi → (∀ c ∈ n.kids, Wf c) → Wf n

section
variable {lo hi L : Nat} {out : AV} {h0 : Heap} {a0 : List Bool}
theorem both_l1 (hL : L ≤ 1000000) {s : AV} {b : List Bool} (hb : b.length = L) (hs : Sl h0 1 s (b.map encB)) (hso : s ≠ .nils → s.obj < lo ∨ hi ≤ s.obj) :
    ∀ (d i : Nat) (cur : List Bool) (fl : Bool) (h : Heap), i + d = L → cur.length = L → (∀ j : Nat, cur.getD j false = true ↔ a0.getD j false = true ∨ (j < i ∧ b.getD j false = true)) → Flg a0 cur fl → Gr lo hi h 1 out (cur.map encB) → Fr lo hi h0 h →
      WP (fun p : Nat × Nat => milestoneref5_both_l1 tab p.1 p.2 s out (.bool fl) (I i) h) fun r h' => ∃ cur fl, r = .tup [out, .bool fl] ∧ cur.length = L ∧ (∀ j : Nat, cur.getD j false = true ↔ a0.getD j false = true ∨ b.getD j false = true) ∧ Flg a0 cur fl ∧ Gr lo hi h' 1 out (cur.map encB) ∧ Fr lo hi h0 h' := by
  intro d
  induction d with
  | zero =>
    intro i cur fl h h1 h2 h3 h4 h5 h6
    refine WP.rnd (fun i' j => milestoneref5_both_l1_eq tab i' j s out (.bool fl) (I i) h) ?_
    have hs' := hs.fr h6 hso
    simp -implicitDefEqProofs (disch := first | assumption | omega | (simp only [gL] <;> omega) | ((repeat (first | exact Ext.refl _ | assumption | apply Ext.app | apply Ext.mk | (refine Ext.setr ?_ (by (first | omega | (simp only [gL] <;> omega))) _))); done) | (simp only [gL, gA, hs'.lenG] <;> omega) | fail) only [gB, setAll, partL, fldV, reduceIte, Nat.reduceAdd, Nat.reduceMul, hs'.lenG]
    refine WP.lv (WP.congr (fun p => milestoneref5_both_b2_eq tab _ out _ h) (WP.ret ⟨cur, fl, rfl, h2, fun j => (h3 j).trans ⟨fun q => q.imp id fun q => q.2, fun q => ?_⟩, h4, h5, h6⟩)) fun i j => rfl
    rcases q with q | q
    · exact .inl q
    · refine .inr ⟨?_, q⟩
      by_cases hj : j < b.length
      · omega
      · rw [List.getD_eq_getElem?_getD, List.getElem?_eq_none (by omega)] at q; cases q
  | succ d ih =>
    intro i cur fl h h1 h2 h3 h4 h5 h6
    refine WP.rnd (fun i' j => milestoneref5_both_l1_eq tab i' j s out (.bool fl) (I i) h) ?_
    have hs' := hs.fr h6 hso
    have ht := h5.sl
    have e0 := Ext.refl h
    obtain ⟨v, hv⟩ : ∃ v, gi b i = v := ⟨_, rfl⟩
    have hvb : b.getD i false = v := hv
    have hcv : ∀ u, cur.getD i false = u → gi cur i = u := fun u q => q
    have next : ∀ cur' : List Bool, (∀ j : Nat, cur'.getD j false = true ↔ (if j = i then (cur.getD i false = true ∨ v = true) else cur.getD j false = true)) → ∀ j : Nat, cur'.getD j false = true ↔ a0.getD j false = true ∨ (j < i + 1 ∧ b.getD j false = true) := by
      intro cur' hcur j
      rw [hcur j]
      by_cases hj : j = i
      · subst hj
        rw [if_pos rfl, h3 j, hvb]
        constructor
        · rintro ((q | q) | q)
          · exact .inl q
          · omega
          · exact .inr ⟨by omega, q⟩
        · rintro (q | q)
          · exact .inl (.inl q)
          · exact .inr q.2
      · rw [if_neg hj, h3 j]
        constructor
        · rintro (q | q)
          · exact .inl q
          · exact .inr ⟨by omega, q.2⟩
        · rintro (q | q)
          · exact .inl q
          · exact .inr ⟨by omega, q.2⟩
    cases v with
    | false =>
      simp -implicitDefEqProofs (disch := first | assumption | omega | (simp only [gL] <;> omega) | ((repeat (first | exact Ext.refl _ | assumption | apply Ext.app | apply Ext.mk | (refine Ext.setr ?_ (by (first | omega | (simp only [gL] <;> omega))) _))); done) | (simp only [gL, gA, hs'.lenG, hs'.idxG, hs'.ld0, encB, hv] <;> omega) | fail) only [gB, setAll, partL, fldV, reduceIte, Nat.reduceAdd, Nat.reduceMul, hs'.lenG, hs'.idxG, hs'.ld0, encB, hv]
      refine ih (i + 1) cur fl h (by omega) h2 (next cur fun j => ?_) h4 h5 h6
      by_cases hj : j = i
      · subst hj; simp
      · rw [if_neg hj]
    | true =>
      cases hcu : cur.getD i false with
      | true =>
        simp -implicitDefEqProofs (disch := first | assumption | omega | (simp only [gL] <;> omega) | ((repeat (first | exact Ext.refl _ | assumption | apply Ext.app | apply Ext.mk | (refine Ext.setr ?_ (by (first | omega | (simp only [gL] <;> omega))) _))); done) | (simp only [gL, gA, hs'.lenG, hs'.idxG, hs'.ld0, encB, hv, ht.idxG, ht.ld0, hcv _ hcu] <;> omega) | fail) only [gB, setAll, partL, fldV, reduceIte, Nat.reduceAdd, Nat.reduceMul, hs'.lenG, hs'.idxG, hs'.ld0, encB, hv, ht.idxG, ht.ld0, hcv _ hcu]
        refine ih (i + 1) cur fl h (by omega) h2 (next cur fun j => ?_) h4 h5 h6
        by_cases hj : j = i
        · subst hj; rw [if_pos rfl]; simp only [hcu, true_or]
        · rw [if_neg hj]
      | false =>
        obtain ⟨h', k1, k2, k3, k4⟩ := h5.write0 (i := (i : Int)) (by omega) (by rw [List.length_map]; omega) (v := .bool true) rfl rfl
        have hil : i < cur.length := by omega
        simp -implicitDefEqProofs (disch := first | assumption | omega | (simp only [gL] <;> omega) | ((repeat (first | exact Ext.refl _ | assumption | apply Ext.app | apply Ext.mk | (refine Ext.setr ?_ (by (first | omega | (simp only [gL] <;> omega))) _))); done) | (simp only [gL, gA, hs'.lenG, hs'.idxG, hs'.ld0, encB, hv, ht.idxG, ht.ld0, hcv _ hcu, k1] <;> omega) | fail) only [gB, setAll, partL, fldV, reduceIte, Nat.reduceAdd, Nat.reduceMul, hs'.lenG, hs'.idxG, hs'.ld0, encB, hv, ht.idxG, ht.ld0, hcv _ hcu, k1]
        refine ih (i + 1) (cur.set i true) true h' (by omega) (by simpa using h2) (next _ fun j => ?_) ⟨fun _ => ?_, fun q => by cases q⟩ (k2.cong ?_) (h6.trans k3)
        · rw [List.getD_eq_getElem?_getD]
          by_cases hj : j = i
          · subst hj; rw [List.getElem?_set_self hil]; simp
          · rw [List.getElem?_set_ne (Ne.symm hj), if_neg hj, List.getD_eq_getElem?_getD]
        · have := cntT_set (bs := cur) (i := i) (by rw [List.getD_eq_getElem?_getD, List.getElem?_eq_getElem hil] at hcu; rw [List.getElem?_eq_getElem hil]; simpa using hcu)
          have := h4.le
          omega
        · rw [List.map_set]; rfl
end
section
variable {w : List Int}
theorem both_spec {h : Heap} {a b : AV} {xs bs : List Bool} {C D : Nat → Prop} (hw : w.length ≤ 900000) (ha : Sl h 1 a (xs.map encB)) (hb : Sl h 1 b (bs.map encB)) (hC : Is w xs C) (hD : Is w bs D) :
    Tot tab f_milestoneref5_both [a, b] h fun r h' => Ext h h' ∧ ∃ out cur fl, r = .tup [out, .bool fl] ∧ Sl h' 1 out (cur.map encB) ∧ Is w cur (fun j => C j ∨ D j) ∧ Flg xs cur fl := by
  refine WP.tot (fun k' => (call_milestoneref5_both k' _ _ h).trans (milestoneref5_both_eq tab k' _ _ h)) ?_
  have hla := hC.1
  have hlb := hD.1
  obtain ⟨s', h', h1, h2, h3⟩ := clone_i (bytes := 1) ha (by omega) (by omega) (by rw [List.length_map]; omega)
  rw [mkObj_eq] at h1
  simp -implicitDefEqProofs (disch := first | assumption | omega | (simp only [gL] <;> omega) | ((repeat (first | exact Ext.refl _ | assumption | apply Ext.app | apply Ext.mk | (refine Ext.setr ?_ (by (first | omega | (simp only [gL] <;> omega))) _))); done) | (simp only [gL, gA, h1] <;> omega) | fail) only [gB, setAll, partL, fldV, reduceIte, Nat.reduceAdd, Nat.reduceMul, h1]
  have hl := h3.len
  refine WP.ent (WP.mono (both_l1 (a0 := xs) (lo := h.length) (hi := h'.length) (h0 := h') (by omega : w.length + 1 ≤ 1000000) hlb (hb.ext h3) (fun q => .inl (hb.objLt q)) (w.length + 1) 0 xs false h' (by omega) hla (fun j => by simp) ⟨fun q => (by cases q), fun _ => rfl⟩ h2 (Fr.refl _ _ _)) ?_) fun i => rfl
  rintro _ h4 ⟨cur, fl, rfl, k1, k2, k3, k4, k5⟩
  exact ⟨k5.ext h3 (Nat.le_refl _), s', cur, fl, rfl, k4.sl, ⟨k1, fun j => by rw [k2 j, hC.2 j, hD.2 j]⟩, k3⟩
def RefS (w : List Int) (n : Nd) : Prop :=
  ∀ (c5 : List AV) (word fr : AV) (fb : List Bool) (P : Nat → Prop) (h : Heap), NV h n c5 → Sl h 1 word (w.map encI) → Sl h 1 fr (fb.map encB) → Is w fb P →
    Tot tab f_milestoneref5_ends [.agg c5, word, fr] h fun r h' => Ext h h' ∧ ∃ bs, Sl h' 1 r (bs.map encB) ∧ Is w bs fun j => ∃ i, P i ∧ R w n i j
theorem often_l1 {n : Nd} (hS : RefS w n) (hw : w.length ≤ 900000) {c5 : List AV} {word n4 : AV} {h : Heap} (nv : NV h n c5) (hwd : Sl h 1 word (w.map encI)) (hn4 : At h n4 c5) {P : Nat → Prop} :
    ∀ (d t : Nat) (all cur : AV) (ab cb : List Bool) (A S : Nat → Prop) (H : Heap), cntT ab + d = w.length + 1 → t ≤ cntT ab → Ext h H → Sl H 1 all (ab.map encB) → Sl H 1 cur (cb.map encB) → Is w ab A → Is w cb S →
      (∀ i j, A i → R w n i j → A j ∨ ∃ i', S i' ∧ R w n i' j) → (∀ i j, P i → R w n i j → A j ∨ ∃ i', S i' ∧ R w n i' j) → (∀ j, A j → ∃ i m, P i ∧ R w n i m ∧ Star (R w n) m j) → (∀ j, S j → ∃ i, P i ∧ Star (R w n) i j) →
      WP (fun p : Nat × Nat => milestoneref5_often_l1 tab p.1 p.2 word (I 0) n4 all cur (I t) H) fun r h' => Ext h h' ∧ ∃ bs, Sl h' 1 r (bs.map encB) ∧ Is w bs fun j => ∃ i m, P i ∧ R w n i m ∧ Star (R w n) m j := by
  intro d
  induction d using Nat.strongRecOn with
  | _ d ih =>
    intro t all cur ab cb A S H h1 ht ex ha hc iA iS i1 i2 i3 i4
    refine WP.rnd (fun i' j => milestoneref5_often_l1_eq tab i' j word (I 0) n4 all cur (I t) H) ?_
    have e0 := Ext.refl H
    have hl5 := nv.len
    have h5 : c5.take 5 = c5 := List.take_of_length_le (by omega)
    have hab := iA.1
    have hcn := cntT_le ab
    simp -implicitDefEqProofs (disch := first | assumption | omega | (simp only [gL] <;> omega) | ((repeat (first | exact Ext.refl _ | assumption | apply Ext.app | apply Ext.mk | (refine Ext.setr ?_ (by (first | omega | (simp only [gL] <;> omega))) _))); done) | (simp only [gL, gA, hn4.ldNE, h5] <;> omega) | fail) only [gB, setAll, partL, fldV, reduceIte, Nat.reduceAdd, Nat.reduceMul, hn4.ldNE, h5]
    refine WP.call (hS c5 word cur cb S H (nv.keeps (.ofExt ex)) (hwd.ext ex) hc iS) ?_
    rintro r H1 ⟨x1, bs, rs, ri⟩
    refine WP.call (both_spec hw (ha.ext x1) rs iA ri) ?_
    rintro _ H2 ⟨x2, out, cu, fl, rfl, os, oi, of⟩
    have star : ∀ j, (∃ i, S i ∧ R w n i j) → ∃ i m, P i ∧ R w n i m ∧ Star (R w n) m j := by
      rintro j ⟨i, q1, q2⟩
      obtain ⟨i0, q3, q4⟩ := i4 i q1
      have : ∃ m, R w n i0 m ∧ Star (R w n) m j := by
        clear i4 q1 q3
        induction q4 generalizing j with
        | refl => exact ⟨j, q2, .refl _⟩
        | tail a b ih =>
          obtain ⟨m, k1, k2⟩ := ih _ b
          exact ⟨m, k1, .tail k2 q2⟩
      obtain ⟨m, k1, k2⟩ := this
      exact ⟨i0, m, q3, k1, k2⟩
    have i3' : ∀ j, (A j ∨ ∃ i, S i ∧ R w n i j) → ∃ i m, P i ∧ R w n i m ∧ Star (R w n) m j := fun j q => q.elim (i3 j) (star j)
    cases fl with
    | true =>
      simp -implicitDefEqProofs (disch := first | assumption | omega | (simp only [gL] <;> omega) | ((repeat (first | exact Ext.refl _ | assumption | apply Ext.app | apply Ext.mk | (refine Ext.setr ?_ (by (first | omega | (simp only [gL] <;> omega))) _))); done) | (simp only [gL, gA, extr_tup] <;> omega) | fail) only [gB, setAll, partL, fldV, reduceIte, Nat.reduceAdd, Nat.reduceMul, extr_tup]
      have h3 := of.1 rfl
      have h4 := cntT_le cu
      have h6 := oi.1
      refine ih (w.length + 1 - cntT cu) (by omega) (t + 1) out r cu bs _ _ H2 (by omega) (by omega) ((ex.trans x1).trans x2) os (rs.ext x2) oi ri ?_ ?_ i3' ?_
      · rintro i j (q | q) q2
        · exact .inl (i1 i j q q2)
        · exact .inr ⟨i, q, q2⟩
      · intro i j q q2
        exact .inl (i2 i j q q2)
      · rintro j ⟨i, q1, q2⟩
        obtain ⟨i0, q3, q4⟩ := i4 i q1
        exact ⟨i0, q3, .tail q4 q2⟩
    | false =>
      simp -implicitDefEqProofs (disch := first | assumption | omega | (simp only [gL] <;> omega) | ((repeat (first | exact Ext.refl _ | assumption | apply Ext.app | apply Ext.mk | (refine Ext.setr ?_ (by (first | omega | (simp only [gL] <;> omega))) _))); done) | (simp only [gL, gA, extr_tup] <;> omega) | fail) only [gB, setAll, partL, fldV, reduceIte, Nat.reduceAdd, Nat.reduceMul, extr_tup]
      have h3 := of.2 rfl
      subst h3
      refine WP.lv (WP.ret ⟨(ex.trans x1).trans x2, cu, os, oi.cong fun j => ⟨i3' j, ?_⟩⟩) fun i j => rfl
      rintro ⟨i, m, q1, q2, q3⟩
      have clo : ∀ a b, A a → R w n a b → A b := fun a b q4 q5 => (iA.2 b).1 ((oi.2 b).2 (i1 a b q4 q5))
      exact .inl (q3.inv (P := A) clo ((iA.2 m).1 ((oi.2 m).2 (i2 i m q1 q2))))
end
end Go.Gm.A5

set_option linter.unusedVariables false
set_option linter.unusedSimpArgs false
namespace Go.Gm.A5
open Go Go.Gm

section
variable {w : List Int}
theorem often_spec {n : Nd} (hS : RefS w n) (hw : w.length ≤ 900000) {c5 : List AV} {word fr : AV} {fb : List Bool} {P : Nat → Prop} {h : Heap} (nv : NV h n c5) (hwd : Sl h 1 word (w.map encI)) (hf : Sl h 1 fr (fb.map encB)) (hP : Is w fb P) :
    Tot tab f_milestoneref5_often [.agg c5, word, fr, I 0] h fun r h' => Ext h h' ∧ ∃ bs, Sl h' 1 r (bs.map encB) ∧ Is w bs fun j => ∃ i m, P i ∧ R w n i m ∧ Star (R w n) m j := by
  refine WP.tot (fun k' => (call_milestoneref5_often k' _ _ _ _ h).trans (milestoneref5_often_eq tab k' _ _ _ _ h)) ?_
  have nv' := nv
  obtain ⟨s5, css, rfl, sl5, nvs⟩ := nv.inv
  have ho5 : s5.one = true := sl5.one
  have hfl := hP.1
  obtain ⟨h1, hh1⟩ : ∃ h1, h1 = h ++ [AObj.cells ⟨[I n.kind, I n.st, I n.lo, I n.hi, s5], 0, 0, false⟩] := ⟨_, rfl⟩
  have e1 : Ext h h1 := by rw [hh1]; ((repeat (first | exact Ext.refl _ | assumption | apply Ext.app | apply Ext.mk | (refine Ext.setr ?_ (by (first | omega | (simp only [gL] <;> omega))) _))))
  have hx1 : h1[h.length]? = some (.cells ⟨[I n.kind, I n.st, I n.lo, I n.hi, s5], 0, 0, false⟩) := by rw [hh1]; simp
  obtain ⟨s, h', k1, k2, k3, k4, k5⟩ := mkSl_gr (zero := [.bool false]) (sz := 1) (bytes := 1) (n := (fb.length : Int)) h1 (by omega) (by omega) (by omega) rfl rfl
  obtain ⟨n4, hn4⟩ : ∃ n4, n4 = AV.ptr h.length 0 5 0 := ⟨_, rfl⟩
  have at4 : At h1 n4 [I n.kind, I n.st, I n.lo, I n.hi, s5] := by rw [hn4]; exact At.row hx1 (Nat.le_refl _) rfl
  simp -implicitDefEqProofs (disch := first | assumption | omega | (simp only [gL] <;> omega) | ((repeat (first | exact Ext.refl _ | assumption | apply Ext.app | apply Ext.mk | (refine Ext.setr ?_ (by (first | omega | (simp only [gL] <;> omega))) _))); done) | (simp only [gL, gA, ho5, hf.lenG] <;> omega) | fail) only [gB, setAll, partL, fldV, reduceIte, Nat.reduceAdd, Nat.reduceMul, ho5, hf.lenG]
  rw [← hh1, ← hn4, show AV.int .i64 0 = I 0 from rfl]
  simp only [k1, ob_some]
  rw [show I 0 = I ((0 : Nat) : Int) from rfl]
  have k2' : Sl h' 1 s ((List.replicate (w.length + 1) false).map encB) := by
    have := k2.sl
    rw [show ((fb.length : Int)).toNat = w.length + 1 by omega] at this
    rw [List.map_replicate]; exact this
  have hc0 : cntT (List.replicate (w.length + 1) false) = 0 := by simp [cntT]
  have e := e1.trans k3
  refine WP.ent (WP.mono (often_l1 (P := P) hS hw (nv'.keeps (.ofExt e)) (hwd.ext e) (at4.ext k3) (w.length + 1) 0 s fr _ fb (fun _ => False) P h' (by omega) (by omega) (Ext.refl _) k2' (hf.ext e) Is.none hP (fun _ _ q => q.elim) (fun i j q1 q2 => .inr ⟨i, q1, q2⟩) (fun _ q => q.elim) (fun j q => ⟨j, q, .refl _⟩)) ?_) fun i => rfl
  rintro r h2 ⟨e2, q⟩
  exact ⟨e.trans e2, q⟩
theorem rep_l3 {a b : Nat} {c : Nd} (hS : RefS w c) (hw : w.length ≤ 900000) (hb : b ≤ 100) {cc : List AV} {word n3 s5 : AV} {css : List (List AV)} {h : Heap} (nv : NV h c cc) (hcs : Sl h 5 s5 (css.map fun x => x)) (hc0 : css = [cc]) (hwd : Sl h 1 word (w.map encI)) (hn3 : At h n3 [I 9, I 0, I a, I b, s5]) {P : Nat → Prop} :
    ∀ (d t : Nat) (fr all : AV) (fb ab : List Bool) (H : Heap), t + d = b → Ext h H → Sl H 1 fr (fb.map encB) → Sl H 1 all (ab.map encB) → Is w fb (fun j => ∃ i, P i ∧ Pow (R w c) t i j) → Is w ab (fun j => ∃ i t', P i ∧ a ≤ t' ∧ t' ≤ t ∧ Pow (R w c) t' i j) → a ≤ t →
      WP (fun p : Nat × Nat => milestoneref5_repeat_l3 tab p.1 p.2 word fr n3 all (I t) H) fun r h' => Ext h h' ∧ ∃ bs, Sl h' 1 r (bs.map encB) ∧ Is w bs fun j => ∃ i t', P i ∧ a ≤ t' ∧ t' ≤ b ∧ Pow (R w c) t' i j := by
  subst hc0
  intro d
  induction d with
  | zero =>
    intro t fr all fb ab H h1 ex hf ha iF iA hat
    refine WP.rnd (fun i' j => milestoneref5_repeat_l3_eq tab i' j word fr n3 all (I t) H) ?_
    simp -implicitDefEqProofs (disch := first | assumption | omega | (simp only [gL] <;> omega) | ((repeat (first | exact Ext.refl _ | assumption | apply Ext.app | apply Ext.mk | (refine Ext.setr ?_ (by (first | omega | (simp only [gL] <;> omega))) _))); done) | (simp only [gL, gA, hn3.fldA0, hn3.ldfE] <;> omega) | fail) only [gB, setAll, partL, fldV, reduceIte, Nat.reduceAdd, Nat.reduceMul, hn3.fldA0, hn3.ldfE]
    obtain rfl : t = b := by omega
    exact WP.lv (WP.ret ⟨ex, ab, ha, iA⟩) fun i j => rfl
  | succ d ih =>
    intro t fr all fb ab H h1 ex hf ha iF iA hat
    refine WP.rnd (fun i' j => milestoneref5_repeat_l3_eq tab i' j word fr n3 all (I t) H) ?_
    have hcs' := hcs.ext ex
    have e0 := Ext.refl H
    have hgc : gi [cc] (0 : Int) = cc := rfl
    simp -implicitDefEqProofs (disch := first | assumption | omega | (simp only [gL] <;> omega) | ((repeat (first | exact Ext.refl _ | assumption | apply Ext.app | apply Ext.mk | (refine Ext.setr ?_ (by (first | omega | (simp only [gL] <;> omega))) _))); done) | (simp only [gL, gA, hn3.fldA0, hn3.ldfE, hcs'.idxG, hcs'.ldN, hgc] <;> omega) | fail) only [gB, setAll, partL, fldV, reduceIte, Nat.reduceAdd, Nat.reduceMul, hn3.fldA0, hn3.ldfE, hcs'.idxG, hcs'.ldN, hgc]
    refine WP.call (hS cc word fr fb _ H (nv.keeps (.ofExt ex)) (hwd.ext ex) hf iF) ?_
    rintro r H1 ⟨x1, bs, rs, ri⟩
    have ri' : Is w bs (fun j => ∃ i, P i ∧ Pow (R w c) (t + 1) i j) := ri.cong fun j => ⟨fun ⟨m, ⟨i, q1, q2⟩, q3⟩ => ⟨i, q1, m, q2, q3⟩, fun ⟨i, q1, m, q2, q3⟩ => ⟨m, ⟨i, q1, q2⟩, q3⟩⟩
    refine WP.call (both_spec hw (ha.ext x1) rs iA ri') ?_
    rintro _ H2 ⟨x2, out, cu, fl, rfl, os, oi, of⟩
    simp -implicitDefEqProofs (disch := first | assumption | omega | (simp only [gL] <;> omega) | ((repeat (first | exact Ext.refl _ | assumption | apply Ext.app | apply Ext.mk | (refine Ext.setr ?_ (by (first | omega | (simp only [gL] <;> omega))) _))); done) | (simp only [gL, gA, extr_tup] <;> omega) | fail) only [gB, setAll, partL, fldV, reduceIte, Nat.reduceAdd, Nat.reduceMul, extr_tup]
    refine ih (t + 1) r out bs cu H2 (by omega) ((ex.trans x1).trans x2) (rs.ext x2) os ri' (oi.cong fun j => ?_) (by omega)
    constructor
    · rintro (⟨i, t', q1, q2, q3, q4⟩ | ⟨i, q1, q2⟩)
      · exact ⟨i, t', q1, q2, by omega, q4⟩
      · exact ⟨i, t + 1, q1, by omega, by omega, q2⟩
    · rintro ⟨i, t', q1, q2, q3, q4⟩
      by_cases ht : t' = t + 1
      · subst ht; exact .inr ⟨i, q1, q4⟩
      · exact .inl ⟨i, t', q1, q2, by omega, q4⟩
theorem rep_l1 {a b : Nat} {c : Nd} (hS : RefS w c) (hw : w.length ≤ 900000) (ha : a ≤ 100) (hb : b ≤ 100) (hab : a ≤ b) {cc : List AV} {word n3 s5 : AV} {css : List (List AV)} {h : Heap} (nv : NV h c cc) (hcs : Sl h 5 s5 (css.map fun x => x)) (hc0 : css = [cc]) (hwd : Sl h 1 word (w.map encI)) (hn3 : At h n3 [I 9, I 0, I a, I b, s5]) {P : Nat → Prop} :
    ∀ (d t : Nat) (fr : AV) (fb : List Bool) (H : Heap), t + d = a → Ext h H → Sl H 1 fr (fb.map encB) → Is w fb (fun j => ∃ i, P i ∧ Pow (R w c) t i j) →
      WP (fun p : Nat × Nat => milestoneref5_repeat_l1 tab p.1 p.2 word fr n3 (I t) H) fun r h' => Ext h h' ∧ ∃ bs, Sl h' 1 r (bs.map encB) ∧ Is w bs fun j => ∃ i t', P i ∧ a ≤ t' ∧ t' ≤ b ∧ Pow (R w c) t' i j := by
  have hc0' := hc0
  subst hc0
  intro d
  induction d with
  | zero =>
    intro t fr fb H h1 ex hf iF
    refine WP.rnd (fun i' j => milestoneref5_repeat_l1_eq tab i' j word fr n3 (I t) H) ?_
    simp -implicitDefEqProofs (disch := first | assumption | omega | (simp only [gL] <;> omega) | ((repeat (first | exact Ext.refl _ | assumption | apply Ext.app | apply Ext.mk | (refine Ext.setr ?_ (by (first | omega | (simp only [gL] <;> omega))) _))); done) | (simp only [gL, gA, hn3.fldA0, hn3.ldfE] <;> omega) | fail) only [gB, setAll, partL, fldV, reduceIte, Nat.reduceAdd, Nat.reduceMul, hn3.fldA0, hn3.ldfE]
    obtain rfl : t = a := by omega
    refine WP.lv (WP.congr (fun p => milestoneref5_repeat_b2_eq tab _ word fr n3 H) ?_) fun i j => rfl
    simp -implicitDefEqProofs (disch := first | assumption | omega | (simp only [gL] <;> omega) | ((repeat (first | exact Ext.refl _ | assumption | apply Ext.app | apply Ext.mk | (refine Ext.setr ?_ (by (first | omega | (simp only [gL] <;> omega))) _))); done) | (simp only [gL, gA, hn3.fldA0, hn3.ldfE] <;> omega) | fail) only [gB, setAll, partL, fldV, reduceIte, Nat.reduceAdd, Nat.reduceMul, hn3.fldA0, hn3.ldfE]
    exact WP.ent (rep_l3 hS hw hb nv hcs rfl hwd hn3 (b - t) t fr fr fb fb H (by omega) ex hf hf iF (iF.cong fun j => ⟨fun ⟨i, q1, q2⟩ => ⟨i, t, q1, Nat.le_refl _, Nat.le_refl _, q2⟩, fun ⟨i, t', q1, q2, q3, q4⟩ => ⟨i, q1, by
      obtain rfl : t' = t := by omega
      exact q4⟩⟩) (Nat.le_refl _)) fun i => rfl
  | succ d ih =>
    intro t fr fb H h1 ex hf iF
    refine WP.rnd (fun i' j => milestoneref5_repeat_l1_eq tab i' j word fr n3 (I t) H) ?_
    have hcs' := hcs.ext ex
    have e0 := Ext.refl H
    have hgc : gi [cc] (0 : Int) = cc := rfl
    simp -implicitDefEqProofs (disch := first | assumption | omega | (simp only [gL] <;> omega) | ((repeat (first | exact Ext.refl _ | assumption | apply Ext.app | apply Ext.mk | (refine Ext.setr ?_ (by (first | omega | (simp only [gL] <;> omega))) _))); done) | (simp only [gL, gA, hn3.fldA0, hn3.ldfE, hcs'.idxG, hcs'.ldN, hgc] <;> omega) | fail) only [gB, setAll, partL, fldV, reduceIte, Nat.reduceAdd, Nat.reduceMul, hn3.fldA0, hn3.ldfE, hcs'.idxG, hcs'.ldN, hgc]
    refine WP.call (hS cc word fr fb _ H (nv.keeps (.ofExt ex)) (hwd.ext ex) hf iF) ?_
    rintro r H1 ⟨x1, bs, rs, ri⟩
    exact ih (t + 1) r bs H1 (by omega) (ex.trans x1) rs (ri.cong fun j => ⟨fun ⟨m, ⟨i, q1, q2⟩, q3⟩ => ⟨i, q1, m, q2, q3⟩, fun ⟨i, q1, m, q2, q3⟩ => ⟨m, ⟨i, q1, q2⟩, q3⟩⟩)
end
end Go.Gm.A5

set_option linter.unusedVariables false
set_option linter.unusedSimpArgs false
namespace Go.Gm.A5
open Go Go.Gm

section
variable {w : List Int}
theorem NVs.one {h : Heap} {c : Nd} {css : List (List AV)} (a : NVs h [c] css) : ∃ cc, css = [cc] ∧ NV h c cc := by
  cases a with
  | cons x y => cases y; exact ⟨_, rfl, x⟩
theorem repeat_spec {a b : Nat} {c : Nd} (hS : RefS w c) (hw : w.length ≤ 900000) (ha : a ≤ 100) (hb : b ≤ 100) (hab : a ≤ b) {c5 : List AV} {word fr : AV} {fb : List Bool} {P : Nat → Prop} {h : Heap} (nv : NV h (.rep a b c) c5) (hwd : Sl h 1 word (w.map encI)) (hf : Sl h 1 fr (fb.map encB)) (hP : Is w fb P) :
    Tot tab f_milestoneref5_repeat [.agg c5, word, fr] h fun r h' => Ext h h' ∧ ∃ bs, Sl h' 1 r (bs.map encB) ∧ Is w bs fun j => ∃ i t', P i ∧ a ≤ t' ∧ t' ≤ b ∧ Pow (R w c) t' i j := by
  refine WP.tot (fun k' => (call_milestoneref5_repeat k' _ _ _ h).trans (milestoneref5_repeat_eq tab k' _ _ _ h)) ?_
  obtain ⟨s5, css, rfl, sl5, nvs⟩ := nv.inv
  obtain ⟨cc, rfl, nc⟩ := nvs.one
  have ho5 : s5.one = true := sl5.one
  obtain ⟨h1, hh1⟩ : ∃ h1, h1 = h ++ [AObj.cells ⟨[I 9, I 0, I a, I b, s5], 0, 0, false⟩] := ⟨_, rfl⟩
  have e1 : Ext h h1 := by rw [hh1]; ((repeat (first | exact Ext.refl _ | assumption | apply Ext.app | apply Ext.mk | (refine Ext.setr ?_ (by (first | omega | (simp only [gL] <;> omega))) _))))
  have hx1 : h1[h.length]? = some (.cells ⟨[I 9, I 0, I a, I b, s5], 0, 0, false⟩) := by rw [hh1]; simp
  obtain ⟨n4, hn4⟩ : ∃ n4, n4 = AV.ptr h.length 0 5 0 := ⟨_, rfl⟩
  have at4 : At h1 n4 [I 9, I 0, I a, I b, s5] := by rw [hn4]; exact At.row hx1 (Nat.le_refl _) rfl
  simp only [Nd.kind, Nd.st, Nd.lo, Nd.hi, show I ((0 : Nat) : Int) = I 0 from rfl]
  simp -implicitDefEqProofs (disch := first | assumption | omega | (simp only [gL] <;> omega) | ((repeat (first | exact Ext.refl _ | assumption | apply Ext.app | apply Ext.mk | (refine Ext.setr ?_ (by (first | omega | (simp only [gL] <;> omega))) _))); done) | (simp only [gL, gA, ho5] <;> omega) | fail) only [gB, setAll, partL, fldV, reduceIte, Nat.reduceAdd, Nat.reduceMul, ho5]
  rw [← hh1, ← hn4, show AV.int .i64 0 = I ((0 : Nat) : Int) from rfl]
  refine WP.ent (WP.mono (rep_l1 (P := P) hS hw ha hb hab (nc.keeps (.ofExt e1)) (by rw [List.map_id']; exact sl5.ext e1) rfl (hwd.ext e1) at4 a 0 fr fb h1 (by omega) (Ext.refl _) (hf.ext e1) (hP.cong fun j => ⟨fun q => ⟨j, q, rfl⟩, fun ⟨i, q1, q2⟩ => by cases q2; exact q1⟩)) ?_) fun i => rfl
  rintro r h2 ⟨e2, q⟩
  exact ⟨e1.trans e2, q⟩

theorem rset_l1 {s : Nat} (hs : s < 2 ^ 62) (hw : w.length ≤ 900000) {word fr n3 out s5 : AV} {fb : List Bool} {P : Nat → Prop} {h : Heap} {lo hi : Nat} (hwd : Sl h 1 word (w.map encI)) (hf : Sl h 1 fr (fb.map encB)) (hP : Is w fb P) (hn3 : At h n3 [I 1, I s, I 0, I 0, s5]) (hlo : h.length ≤ lo) :
    ∀ (d i : Nat) (cur : List Bool) (H : Heap), i + d = w.length → Ext h H → Gr lo hi H 1 out (cur.map encB) → Is w cur (fun j => ∃ i', i' < i ∧ P i' ∧ hit w s i' ∧ j = i' + 1) →
      WP (fun p : Nat × Nat => milestoneref5_ends_l1 tab p.1 p.2 word fr n3 out (I i) H) fun r h' => Ext h h' ∧ ∃ bs, Sl h' 1 r (bs.map encB) ∧ Is w bs fun j => ∃ i, P i ∧ R w (.set s) i j := by
  intro d
  induction d with
  | zero =>
    intro i cur H h1 ex gr is
    refine WP.rnd (fun i' j => milestoneref5_ends_l1_eq tab i' j word fr n3 out (I i) H) ?_
    have hwd' := hwd.ext ex
    simp -implicitDefEqProofs (disch := first | assumption | omega | (simp only [gL] <;> omega) | ((repeat (first | exact Ext.refl _ | assumption | apply Ext.app | apply Ext.mk | (refine Ext.setr ?_ (by (first | omega | (simp only [gL] <;> omega))) _))); done) | (simp only [gL, gA, hwd'.lenG] <;> omega) | fail) only [gB, setAll, partL, fldV, reduceIte, Nat.reduceAdd, Nat.reduceMul, hwd'.lenG]
    refine WP.lv (WP.ret ⟨ex, cur, gr.sl, is.cong fun j => ?_⟩) fun i j => rfl
    simp only [R]
    refine ⟨fun ⟨i', _, q⟩ => ⟨i', q⟩, fun ⟨i', q⟩ => ⟨i', ?_, q⟩⟩
    obtain ⟨_, ⟨c, q2, _⟩, _⟩ := q
    have := (List.getElem?_eq_some_iff.1 q2).1
    omega
  | succ d ih =>
    intro i cur H h1 ex gr is
    refine WP.rnd (fun i' j => milestoneref5_ends_l1_eq tab i' j word fr n3 out (I i) H) ?_
    have hwd' := hwd.ext ex
    have hf' := hf.ext ex
    have e0 := Ext.refl H
    have hfl := hP.1
    have hcl := is.1
    have hg := gr.sl
    obtain ⟨v, hv⟩ : ∃ v, gi fb i = v := ⟨_, rfl⟩
    have hvP : v = true ↔ P i := by rw [← hv]; exact hP.2 i
    obtain ⟨c, hc⟩ : ∃ c, gi w i = c := ⟨_, rfl⟩
    have hwc : w[i]? = some c := by
      have := gi_some (xs := w) (i := (i : Int)) (by omega) (by omega)
      rw [hc] at this; exact this
    have done : ∀ (u : Bool), (u = true ↔ P i ∧ hit w s i) → ∃ H', stN 1 H (elP 1 out ((i : Int) + 1)) (.bool u) = some H' ∧ WP (fun p : Nat × Nat => milestoneref5_ends_l1 tab p.1 p.2 word fr n3 out (I ((i : Int) + 1)) H') fun r h' => Ext h h' ∧ ∃ bs, Sl h' 1 r (bs.map encB) ∧ Is w bs fun j => ∃ i, P i ∧ R w (.set s) i j := by
      intro u hu
      obtain ⟨H', k1, k2, k3, k4⟩ := gr.write0 (i := (i : Int) + 1) (by omega) (by rw [List.length_map]; omega) (v := .bool u) rfl rfl
      refine ⟨H', k1, ih (i + 1) (cur.set (i + 1) u) H' (by omega) (k3.ext ex hlo) (k2.cong (by rw [List.map_set]; rfl)) ⟨by simpa using hcl, fun j => ?_⟩⟩
      rw [List.getD_eq_getElem?_getD]
      have hj2 := is.2 j
      rw [List.getD_eq_getElem?_getD] at hj2
      by_cases hj : j = i + 1
      · subst hj
        rw [List.getElem?_set_self (by omega)]
        simp only [Option.getD_some, hu]
        constructor
        · rintro ⟨q1, q2⟩; exact ⟨i, by omega, q1, q2, rfl⟩
        · rintro ⟨i', _, q1, q2, q3⟩
          obtain rfl : i' = i := by omega
          exact ⟨q1, q2⟩
      · rw [List.getElem?_set_ne (Ne.symm hj), hj2]
        constructor
        · rintro ⟨i', q0, q⟩; exact ⟨i', by omega, q⟩
        · rintro ⟨i', q0, q⟩; exact ⟨i', by have := q.2.2; omega, q⟩
    cases v with
    | false =>
      obtain ⟨H', k1, k2⟩ := done false ⟨fun q => (by cases q), fun q => by have := hvP.2 q.1; cases this⟩
      simp -implicitDefEqProofs (disch := first | assumption | omega | (simp only [gL] <;> omega) | ((repeat (first | exact Ext.refl _ | assumption | apply Ext.app | apply Ext.mk | (refine Ext.setr ?_ (by (first | omega | (simp only [gL] <;> omega))) _))); done) | (simp only [gL, gA, hwd'.lenG, hf'.idxG, hf'.ld0, encB, hv, hg.idxG, k1] <;> omega) | fail) only [gB, setAll, partL, fldV, reduceIte, Nat.reduceAdd, Nat.reduceMul, hwd'.lenG, hf'.idxG, hf'.ld0, encB, hv, hg.idxG, k1]
      exact k2
    | true =>
      by_cases c0 : 0 ≤ c
      · by_cases c5 : c < 5
        · have hand : binV .and .scalar (I (s >>> c.toNat : Nat)) (I 1) = _ := and_i (a := s >>> c.toNat) (b := 1) (Nat.lt_of_le_of_lt (Nat.shiftRight_le ..) hs) (by omega)
          cases hb : s.testBit c.toNat with
          | true =>
            obtain ⟨H', k1, k2⟩ := done true ⟨fun _ => ⟨hvP.1 rfl, c, hwc, c0, c5, hb⟩, fun _ => rfl⟩
            simp -implicitDefEqProofs (disch := first | assumption | omega | (simp only [gL] <;> omega) | ((repeat (first | exact Ext.refl _ | assumption | apply Ext.app | apply Ext.mk | (refine Ext.setr ?_ (by (first | omega | (simp only [gL] <;> omega))) _))); done) | (simp only [gL, gA, hwd'.lenG, hf'.idxG, hf'.ld0, encB, hv, hg.idxG, k1, hwd'.idxG, hwd'.ld0, encI, hc, hn3.fldA0, hn3.ldfE, hand, hb] <;> omega) | fail) only [gB, setAll, partL, fldV, reduceIte, Nat.reduceAdd, Nat.reduceMul, hwd'.lenG, hf'.idxG, hf'.ld0, encB, hv, hg.idxG, k1, hwd'.idxG, hwd'.ld0, encI, hc, hn3.fldA0, hn3.ldfE, hand, hb]
            exact k2
          | false =>
            obtain ⟨H', k1, k2⟩ := done false ⟨fun q => (by cases q), fun ⟨_, c', q1, q2, q3, q4⟩ => by rw [hwc] at q1; injection q1 with q1; subst q1; rw [hb] at q4; cases q4⟩
            simp -implicitDefEqProofs (disch := first | assumption | omega | (simp only [gL] <;> omega) | ((repeat (first | exact Ext.refl _ | assumption | apply Ext.app | apply Ext.mk | (refine Ext.setr ?_ (by (first | omega | (simp only [gL] <;> omega))) _))); done) | (simp only [gL, gA, hwd'.lenG, hf'.idxG, hf'.ld0, encB, hv, hg.idxG, k1, hwd'.idxG, hwd'.ld0, encI, hc, hn3.fldA0, hn3.ldfE, hand, hb] <;> omega) | fail) only [gB, setAll, partL, fldV, reduceIte, Nat.reduceAdd, Nat.reduceMul, hwd'.lenG, hf'.idxG, hf'.ld0, encB, hv, hg.idxG, k1, hwd'.idxG, hwd'.ld0, encI, hc, hn3.fldA0, hn3.ldfE, hand, hb]
            exact k2
        · obtain ⟨H', k1, k2⟩ := done false ⟨fun q => (by cases q), fun ⟨_, c', q1, q2, q3, q4⟩ => by rw [hwc] at q1; injection q1 with q1; subst q1; omega⟩
          simp -implicitDefEqProofs (disch := first | assumption | omega | (simp only [gL] <;> omega) | ((repeat (first | exact Ext.refl _ | assumption | apply Ext.app | apply Ext.mk | (refine Ext.setr ?_ (by (first | omega | (simp only [gL] <;> omega))) _))); done) | (simp only [gL, gA, hwd'.lenG, hf'.idxG, hf'.ld0, encB, hv, hg.idxG, k1, hwd'.idxG, hwd'.ld0, encI, hc] <;> omega) | fail) only [gB, setAll, partL, fldV, reduceIte, Nat.reduceAdd, Nat.reduceMul, hwd'.lenG, hf'.idxG, hf'.ld0, encB, hv, hg.idxG, k1, hwd'.idxG, hwd'.ld0, encI, hc]
          exact k2
      · obtain ⟨H', k1, k2⟩ := done false ⟨fun q => (by cases q), fun ⟨_, c', q1, q2, q3, q4⟩ => by rw [hwc] at q1; injection q1 with q1; subst q1; omega⟩
        simp -implicitDefEqProofs (disch := first | assumption | omega | (simp only [gL] <;> omega) | ((repeat (first | exact Ext.refl _ | assumption | apply Ext.app | apply Ext.mk | (refine Ext.setr ?_ (by (first | omega | (simp only [gL] <;> omega))) _))); done) | (simp only [gL, gA, hwd'.lenG, hf'.idxG, hf'.ld0, encB, hv, hg.idxG, k1, hwd'.idxG, hwd'.ld0, encI, hc] <;> omega) | fail) only [gB, setAll, partL, fldV, reduceIte, Nat.reduceAdd, Nat.reduceMul, hwd'.lenG, hf'.idxG, hf'.ld0, encB, hv, hg.idxG, k1, hwd'.idxG, hwd'.ld0, encI, hc]
        exact k2
theorem rjoin_l2 {l : List Nd} (hS : ∀ c ∈ l, RefS w c) (hl : l.length ≤ 1000) {word n3 s5 : AV} {css : List (List AV)} {h : Heap} (hcs : Sl h 5 s5 css) (nvs : NVs h l css) (hwd : Sl h 1 word (w.map encI)) {q1 q2 q3 q4 : AV} (hn3 : At h n3 [q1, q2, q3, q4, s5]) {P : Nat → Prop} :
    ∀ (d t : Nat) (out : AV) (ob : List Bool) (H : Heap), t + d = l.length → Ext h H → Sl H 1 out (ob.map encB) → Is w ob (fun j => ∃ i, P i ∧ RJ w (l.take t) i j) →
      WP (fun p : Nat × Nat => milestoneref5_ends_l2 tab p.1 p.2 word n3 out (I t) H) fun r h' => Ext h h' ∧ ∃ bs, Sl h' 1 r (bs.map encB) ∧ Is w bs fun j => ∃ i, P i ∧ RJ w l i j := by
  have hcl := nvs.length
  have hcs0 : Sl h 5 s5 (css.map fun x => x) := by rw [List.map_id']; exact hcs
  intro d
  induction d with
  | zero =>
    intro t out ob H h1 ex ho io
    refine WP.rnd (fun i' j => milestoneref5_ends_l2_eq tab i' j word n3 out (I t) H) ?_
    have hcs' := hcs0.ext ex
    simp -implicitDefEqProofs (disch := first | assumption | omega | (simp only [gL] <;> omega) | ((repeat (first | exact Ext.refl _ | assumption | apply Ext.app | apply Ext.mk | (refine Ext.setr ?_ (by (first | omega | (simp only [gL] <;> omega))) _))); done) | (simp only [gL, gA, hn3.fldA0, hn3.ldfE, hcs'.lenG] <;> omega) | fail) only [gB, setAll, partL, fldV, reduceIte, Nat.reduceAdd, Nat.reduceMul, hn3.fldA0, hn3.ldfE, hcs'.lenG]
    exact WP.lv (WP.ret ⟨ex, ob, ho, io.cong fun j => by rw [List.take_of_length_le (by omega)]⟩) fun i j => rfl
  | succ d ih =>
    intro t out ob H h1 ex ho io
    refine WP.rnd (fun i' j => milestoneref5_ends_l2_eq tab i' j word n3 out (I t) H) ?_
    have hcs' := hcs0.ext ex
    have e0 := Ext.refl H
    have hlt : l[t]? = some (l[t]'(by omega)) := List.getElem?_eq_getElem (by omega)
    obtain ⟨cc, a1, a2⟩ := nvs.get hlt
    have hgc : gi css (t : Int) = cc := gi_map a1
    simp -implicitDefEqProofs (disch := first | assumption | omega | (simp only [gL] <;> omega) | ((repeat (first | exact Ext.refl _ | assumption | apply Ext.app | apply Ext.mk | (refine Ext.setr ?_ (by (first | omega | (simp only [gL] <;> omega))) _))); done) | (simp only [gL, gA, hn3.fldA0, hn3.ldfE, hcs'.lenG, hcs'.idxG, hcs'.ldN, hgc] <;> omega) | fail) only [gB, setAll, partL, fldV, reduceIte, Nat.reduceAdd, Nat.reduceMul, hn3.fldA0, hn3.ldfE, hcs'.lenG, hcs'.idxG, hcs'.ldN, hgc]
    refine WP.call (hS _ (List.getElem_mem (by omega)) cc word out ob _ H (a2.keeps (.ofExt ex)) (hwd.ext ex) ho io) ?_
    rintro r H1 ⟨x1, bs, rs, ri⟩
    refine ih (t + 1) r bs H1 (by omega) (ex.trans x1) rs (ri.cong fun j => ?_)
    rw [List.take_add_one, hlt]
    simp only [Option.toList_some, RJ_snoc]
    exact ⟨fun ⟨m, ⟨i, q1, q2⟩, q3⟩ => ⟨i, q1, m, q2, q3⟩, fun ⟨i, q1, m, q2, q3⟩ => ⟨m, ⟨i, q1, q2⟩, q3⟩⟩
theorem runi_l3 {l : List Nd} (hS : ∀ c ∈ l, RefS w c) (hw : w.length ≤ 900000) (hl : l.length ≤ 1000) {word fr n3 s5 : AV} {fb : List Bool} {css : List (List AV)} {h : Heap} (hcs : Sl h 5 s5 css) (nvs : NVs h l css) (hwd : Sl h 1 word (w.map encI)) {q1 q2 q3 q4 : AV} (hn3 : At h n3 [q1, q2, q3, q4, s5]) {P : Nat → Prop} (hf : Sl h 1 fr (fb.map encB)) (hP : Is w fb P) :
    ∀ (d t : Nat) (out : AV) (ob : List Bool) (H : Heap), t + d = l.length → Ext h H → Sl H 1 out (ob.map encB) → Is w ob (fun j => ∃ i, P i ∧ RU w (l.take t) i j) →
      WP (fun p : Nat × Nat => milestoneref5_ends_l3 tab p.1 p.2 word fr n3 out (I t) H) fun r h' => Ext h h' ∧ ∃ bs, Sl h' 1 r (bs.map encB) ∧ Is w bs fun j => ∃ i, P i ∧ RU w l i j := by
  have hcl := nvs.length
  have hcs0 : Sl h 5 s5 (css.map fun x => x) := by rw [List.map_id']; exact hcs
  intro d
  induction d with
  | zero =>
    intro t out ob H h1 ex ho io
    refine WP.rnd (fun i' j => milestoneref5_ends_l3_eq tab i' j word fr n3 out (I t) H) ?_
    have hcs' := hcs0.ext ex
    simp -implicitDefEqProofs (disch := first | assumption | omega | (simp only [gL] <;> omega) | ((repeat (first | exact Ext.refl _ | assumption | apply Ext.app | apply Ext.mk | (refine Ext.setr ?_ (by (first | omega | (simp only [gL] <;> omega))) _))); done) | (simp only [gL, gA, hn3.fldA0, hn3.ldfE, hcs'.lenG] <;> omega) | fail) only [gB, setAll, partL, fldV, reduceIte, Nat.reduceAdd, Nat.reduceMul, hn3.fldA0, hn3.ldfE, hcs'.lenG]
    exact WP.lv (WP.ret ⟨ex, ob, ho, io.cong fun j => by rw [List.take_of_length_le (by omega)]⟩) fun i j => rfl
  | succ d ih =>
    intro t out ob H h1 ex ho io
    refine WP.rnd (fun i' j => milestoneref5_ends_l3_eq tab i' j word fr n3 out (I t) H) ?_
    have hcs' := hcs0.ext ex
    have e0 := Ext.refl H
    have hlt : l[t]? = some (l[t]'(by omega)) := List.getElem?_eq_getElem (by omega)
    obtain ⟨cc, a1, a2⟩ := nvs.get hlt
    have hgc : gi css (t : Int) = cc := gi_map a1
    simp -implicitDefEqProofs (disch := first | assumption | omega | (simp only [gL] <;> omega) | ((repeat (first | exact Ext.refl _ | assumption | apply Ext.app | apply Ext.mk | (refine Ext.setr ?_ (by (first | omega | (simp only [gL] <;> omega))) _))); done) | (simp only [gL, gA, hn3.fldA0, hn3.ldfE, hcs'.lenG, hcs'.idxG, hcs'.ldN, hgc] <;> omega) | fail) only [gB, setAll, partL, fldV, reduceIte, Nat.reduceAdd, Nat.reduceMul, hn3.fldA0, hn3.ldfE, hcs'.lenG, hcs'.idxG, hcs'.ldN, hgc]
    refine WP.call (hS _ (List.getElem_mem (by omega)) cc word fr fb _ H (a2.keeps (.ofExt ex)) (hwd.ext ex) (hf.ext ex) hP) ?_
    rintro r H1 ⟨x1, bs, rs, ri⟩
    refine WP.call (both_spec hw (ho.ext x1) rs io ri) ?_
    rintro _ H2 ⟨x2, out2, cu, fl, rfl, os, oi, of⟩
    simp -implicitDefEqProofs (disch := first | assumption | omega | (simp only [gL] <;> omega) | ((repeat (first | exact Ext.refl _ | assumption | apply Ext.app | apply Ext.mk | (refine Ext.setr ?_ (by (first | omega | (simp only [gL] <;> omega))) _))); done) | (simp only [gL, gA, extr_tup] <;> omega) | fail) only [gB, setAll, partL, fldV, reduceIte, Nat.reduceAdd, Nat.reduceMul, extr_tup]
    refine ih (t + 1) out2 cu H2 (by omega) ((ex.trans x1).trans x2) os (oi.cong fun j => ?_)
    rw [List.take_add_one, hlt]
    simp only [RU_iff, List.mem_append, Option.toList_some, List.mem_singleton]
    constructor
    · rintro (⟨i, b1, c, b2, b3⟩ | ⟨i, b1, b2⟩)
      · exact ⟨i, b1, c, .inl b2, b3⟩
      · exact ⟨i, b1, _, .inr rfl, b2⟩
    · rintro ⟨i, b1, c, b2 | b2, b3⟩
      · exact .inl ⟨i, b1, c, b2, b3⟩
      · subst b2; exact .inr ⟨i, b1, b3⟩
end
end Go.Gm.A5

set_option linter.unusedVariables false
set_option linter.unusedSimpArgs false
namespace Go.Gm.A5
open Go Go.Gm

section
variable {w : List Int}
theorem ref_spec (hw : w.length ≤ 900000) (n : Nd) : Ok n → Wf n → RefS w n := by
  refine Nd.ind (p := fun n => Ok n → Wf n → RefS w n) ?_ n
  intro n ih ok wf c5 word fr fb P h nv hwd hf hP
  refine WP.tot (fun k' => (call_milestoneref5_ends k' _ _ _ h).trans (milestoneref5_ends_eq tab k' _ _ _ h)) ?_
  have nv' := nv
  obtain ⟨s5, css, rfl, sl5, nvs⟩ := nv.inv
  have ho5 : s5.one = true := sl5.one
  have hfl := hP.1
  cases ok with
  | mk o1 o2 o3 o4 o5 =>
  cases wf with
  | mk w1 w2 =>
  have hS : ∀ c ∈ n.kids, RefS w c := fun c hc => ih c hc (o5 c hc) (w2 c hc)
  obtain ⟨h1, hh1⟩ : ∃ h1, h1 = h ++ [AObj.cells ⟨[I n.kind, I n.st, I n.lo, I n.hi, s5], 0, 0, false⟩] := ⟨_, rfl⟩
  have e1 : Ext h h1 := by rw [hh1]; ((repeat (first | exact Ext.refl _ | assumption | apply Ext.app | apply Ext.mk | (refine Ext.setr ?_ (by (first | omega | (simp only [gL] <;> omega))) _))))
  have hx1 : h1[h.length]? = some (.cells ⟨[I n.kind, I n.st, I n.lo, I n.hi, s5], 0, 0, false⟩) := by rw [hh1]; simp
  obtain ⟨out, h2, k1, k2, k3, k4, k5⟩ := mkSl_gr (zero := [.bool false]) (sz := 1) (bytes := 1) (n := (fb.length : Int)) h1 (by omega) (by omega) (by omega) rfl rfl
  obtain ⟨n4, hn4⟩ : ∃ n4, n4 = AV.ptr h.length 0 5 0 := ⟨_, rfl⟩
  have at1 : At h1 n4 [I n.kind, I n.st, I n.lo, I n.hi, s5] := by rw [hn4]; exact At.row hx1 (Nat.le_refl _) rfl
  have hn := at1.ext k3
  have k2' : Gr h1.length (h1.length + 1) h2 1 out ((List.replicate (w.length + 1) false).map encB) := by
    rw [show ((fb.length : Int)).toNat = w.length + 1 by omega] at k2
    rw [List.map_replicate]; exact k2
  have e := e1.trans k3
  have hwd2 := hwd.ext e
  have hf2 := hf.ext e
  have sl2 := sl5.ext e
  have sl2' : Sl h2 5 s5 (css.map fun x => x) := by rw [List.map_id']; exact sl2
  have nv2 := nv'.keeps (.ofExt e)
  have nvs2 := NVs.keeps (.ofExt e) nvs
  have e0 := Ext.refl h2
  simp -implicitDefEqProofs (disch := first | assumption | omega | (simp only [gL] <;> omega) | ((repeat (first | exact Ext.refl _ | assumption | apply Ext.app | apply Ext.mk | (refine Ext.setr ?_ (by (first | omega | (simp only [gL] <;> omega))) _))); done) | (simp only [gL, gA, ho5, hf.lenG] <;> omega) | fail) only [gB, setAll, partL, fldV, reduceIte, Nat.reduceAdd, Nat.reduceMul, ho5, hf.lenG]
  rw [← hh1, ← hn4, show AV.int .i64 0 = I 0 from rfl]
  simp only [k1, ob_some]
  have hx2 := k3.get hx1
  have run : ∀ {n : Nd} {r : AV} {H : Heap} {bs : List Bool} {Q : Nat → Prop}, Ext h2 H → Sl H 1 r (bs.map encB) → Is w bs Q → (∀ j, Q j ↔ ∃ i, P i ∧ R w n i j) → WP (fun _ : Nat => some (r, H)) fun r h' => Ext h h' ∧ ∃ bs, Sl h' 1 r (bs.map encB) ∧ Is w bs fun j => ∃ i, P i ∧ R w n i j :=
    fun {n r H bs Q} a b c d => WP.ret ⟨e.trans a, bs, b, c.cong d⟩
  cases n with
  | emp =>
    simp only [Nd.kind, Nd.st, Nd.lo, Nd.hi] at hx2
    simp -implicitDefEqProofs (disch := first | assumption | omega | (simp only [gL] <;> omega) | ((repeat (first | exact Ext.refl _ | assumption | apply Ext.app | apply Ext.mk | (refine Ext.setr ?_ (by (first | omega | (simp only [gL] <;> omega))) _))); done) | (simp only [gL, gA, hx2] <;> omega) | fail) only [gB, setAll, partL, fldV, reduceIte, Nat.reduceAdd, Nat.reduceMul, hx2]
    exact run e0 k2'.sl Is.none fun j => by simp [R]
  | eps =>
    simp only [Nd.kind, Nd.st, Nd.lo, Nd.hi] at hx2
    simp -implicitDefEqProofs (disch := first | assumption | omega | (simp only [gL] <;> omega) | ((repeat (first | exact Ext.refl _ | assumption | apply Ext.app | apply Ext.mk | (refine Ext.setr ?_ (by (first | omega | (simp only [gL] <;> omega))) _))); done) | (simp only [gL, gA, hx2] <;> omega) | fail) only [gB, setAll, partL, fldV, reduceIte, Nat.reduceAdd, Nat.reduceMul, hx2]
    exact run e0 hf2 hP fun j => by simp [R]
  | join l =>
    simp only [Nd.kind, Nd.st, Nd.lo, Nd.hi] at hx2
    simp -implicitDefEqProofs (disch := first | assumption | omega | (simp only [gL] <;> omega) | ((repeat (first | exact Ext.refl _ | assumption | apply Ext.app | apply Ext.mk | (refine Ext.setr ?_ (by (first | omega | (simp only [gL] <;> omega))) _))); done) | (simp only [gL, gA, hx2] <;> omega) | fail) only [gB, setAll, partL, fldV, reduceIte, Nat.reduceAdd, Nat.reduceMul, hx2]
    rw [show I 0 = I ((0 : Nat) : Int) from rfl]
    refine WP.ent (WP.mono (rjoin_l2 (P := P) hS o4 sl2 nvs2 hwd2 hn l.length 0 fr fb h2 (by simp [Nd.kids]) (Ext.refl _) hf2 (hP.cong fun j => by simp [RJ])) ?_) fun i => rfl
    rintro r h3 ⟨e3, bs, q1, q2⟩
    exact ⟨e.trans e3, bs, q1, q2.cong fun j => by simp only [R]; rfl⟩
  | uni l =>
    simp only [Nd.kind, Nd.st, Nd.lo, Nd.hi] at hx2
    simp -implicitDefEqProofs (disch := first | assumption | omega | (simp only [gL] <;> omega) | ((repeat (first | exact Ext.refl _ | assumption | apply Ext.app | apply Ext.mk | (refine Ext.setr ?_ (by (first | omega | (simp only [gL] <;> omega))) _))); done) | (simp only [gL, gA, hx2] <;> omega) | fail) only [gB, setAll, partL, fldV, reduceIte, Nat.reduceAdd, Nat.reduceMul, hx2]
    rw [show I 0 = I ((0 : Nat) : Int) from rfl]
    refine WP.ent (WP.mono (runi_l3 (P := P) hS hw o4 sl2 nvs2 hwd2 hn hf2 hP l.length 0 out _ h2 (by simp [Nd.kids]) (Ext.refl _) k2'.sl (Is.none.cong fun j => by simp [RU])) ?_) fun i => rfl
    rintro r h3 ⟨e3, bs, q1, q2⟩
    exact ⟨e.trans e3, bs, q1, q2.cong fun j => by simp only [R]; rfl⟩
  | star c =>
    simp only [Nd.kind, Nd.st, Nd.lo, Nd.hi] at hx2
    obtain ⟨cc, rfl, nc⟩ := nvs2.one
    have hgc : gi [cc] (0 : Int) = cc := rfl
    simp -implicitDefEqProofs (disch := first | assumption | omega | (simp only [gL] <;> omega) | ((repeat (first | exact Ext.refl _ | assumption | apply Ext.app | apply Ext.mk | (refine Ext.setr ?_ (by (first | omega | (simp only [gL] <;> omega))) _))); done) | (simp only [gL, gA, hx2, sl2'.idxG, sl2'.ldN, hgc] <;> omega) | fail) only [gB, setAll, partL, fldV, reduceIte, Nat.reduceAdd, Nat.reduceMul, hx2, sl2'.idxG, sl2'.ldN, hgc]
    refine WP.call (often_spec (hS c (by simp [Nd.kids])) hw nc hwd2 hf2 hP) ?_
    rintro r H1 ⟨x1, bs, rs, ri⟩
    refine WP.call (both_spec hw (hf2.ext x1) rs hP ri) ?_
    rintro _ H2 ⟨x2, out2, cu, fl, rfl, os, oi, of⟩
    simp -implicitDefEqProofs (disch := first | assumption | omega | (simp only [gL] <;> omega) | ((repeat (first | exact Ext.refl _ | assumption | apply Ext.app | apply Ext.mk | (refine Ext.setr ?_ (by (first | omega | (simp only [gL] <;> omega))) _))); done) | (simp only [gL, gA, extr_tup] <;> omega) | fail) only [gB, setAll, partL, fldV, reduceIte, Nat.reduceAdd, Nat.reduceMul, extr_tup]
    refine run (x1.trans x2) os oi fun j => ?_
    simp only [R]
    constructor
    · rintro (q | ⟨i, m, q1, q2, q3⟩)
      · exact ⟨j, q, .refl j⟩
      · exact ⟨i, q1, .head q2 q3⟩
    · rintro ⟨i, q1, q2⟩
      have : i = j ∨ ∃ m, R w c i m ∧ Star (R w c) m j := by
        clear q1
        induction q2 with
        | refl => exact .inl rfl
        | tail a b ih =>
          rcases ih with rfl | ⟨m, u1, u2⟩
          · exact .inr ⟨_, b, .refl _⟩
          · exact .inr ⟨m, u1, .tail u2 b⟩
      rcases this with rfl | ⟨m, u1, u2⟩
      · exact .inl q1
      · exact .inr ⟨i, m, q1, u1, u2⟩
  | plus c =>
    simp only [Nd.kind, Nd.st, Nd.lo, Nd.hi] at hx2
    obtain ⟨cc, rfl, nc⟩ := nvs2.one
    have hgc : gi [cc] (0 : Int) = cc := rfl
    simp -implicitDefEqProofs (disch := first | assumption | omega | (simp only [gL] <;> omega) | ((repeat (first | exact Ext.refl _ | assumption | apply Ext.app | apply Ext.mk | (refine Ext.setr ?_ (by (first | omega | (simp only [gL] <;> omega))) _))); done) | (simp only [gL, gA, hx2, sl2'.idxG, sl2'.ldN, hgc] <;> omega) | fail) only [gB, setAll, partL, fldV, reduceIte, Nat.reduceAdd, Nat.reduceMul, hx2, sl2'.idxG, sl2'.ldN, hgc]
    refine WP.call (often_spec (hS c (by simp [Nd.kids])) hw nc hwd2 hf2 hP) ?_
    rintro r H1 ⟨x1, bs, rs, ri⟩
    refine run x1 rs ri fun j => ?_
    simp only [R]
    exact ⟨fun ⟨i, m, q1, q2, q3⟩ => ⟨i, q1, m, q2, q3⟩, fun ⟨i, q1, m, q2, q3⟩ => ⟨i, m, q1, q2, q3⟩⟩
  | opt c =>
    simp only [Nd.kind, Nd.st, Nd.lo, Nd.hi] at hx2
    obtain ⟨cc, rfl, nc⟩ := nvs2.one
    have hgc : gi [cc] (0 : Int) = cc := rfl
    simp -implicitDefEqProofs (disch := first | assumption | omega | (simp only [gL] <;> omega) | ((repeat (first | exact Ext.refl _ | assumption | apply Ext.app | apply Ext.mk | (refine Ext.setr ?_ (by (first | omega | (simp only [gL] <;> omega))) _))); done) | (simp only [gL, gA, hx2, sl2'.idxG, sl2'.ldN, hgc] <;> omega) | fail) only [gB, setAll, partL, fldV, reduceIte, Nat.reduceAdd, Nat.reduceMul, hx2, sl2'.idxG, sl2'.ldN, hgc]
    refine WP.call (hS c (by simp [Nd.kids]) cc word fr fb P h2 nc hwd2 hf2 hP) ?_
    rintro r H1 ⟨x1, bs, rs, ri⟩
    refine WP.call (both_spec hw (hf2.ext x1) rs hP ri) ?_
    rintro _ H2 ⟨x2, out2, cu, fl, rfl, os, oi, of⟩
    simp -implicitDefEqProofs (disch := first | assumption | omega | (simp only [gL] <;> omega) | ((repeat (first | exact Ext.refl _ | assumption | apply Ext.app | apply Ext.mk | (refine Ext.setr ?_ (by (first | omega | (simp only [gL] <;> omega))) _))); done) | (simp only [gL, gA, extr_tup] <;> omega) | fail) only [gB, setAll, partL, fldV, reduceIte, Nat.reduceAdd, Nat.reduceMul, extr_tup]
    refine run (x1.trans x2) os oi fun j => ?_
    simp only [R]
    constructor
    · rintro (q | ⟨i, q1, q2⟩)
      · exact ⟨j, q, .inl rfl⟩
      · exact ⟨i, q1, .inr q2⟩
    · rintro ⟨i, q1, rfl | q2⟩
      · exact .inl q1
      · exact .inr ⟨i, q1, q2⟩
  | rep a b c =>
    have hx3 := hx2
    simp only [Nd.kind, Nd.st, Nd.lo, Nd.hi] at hx2 o2 o3 w1
    simp -implicitDefEqProofs (disch := first | assumption | omega | (simp only [gL] <;> omega) | ((repeat (first | exact Ext.refl _ | assumption | apply Ext.app | apply Ext.mk | (refine Ext.setr ?_ (by (first | omega | (simp only [gL] <;> omega))) _))); done) | (simp only [gL, gA, hx2] <;> omega) | fail) only [gB, setAll, partL, fldV, reduceIte, Nat.reduceAdd, Nat.reduceMul, hx2]
    refine WP.call (repeat_spec (hS c (by simp [Nd.kids])) hw o2 o3 w1 nv2 hwd2 hf2 hP) ?_
    rintro r H1 ⟨x1, bs, rs, ri⟩
    refine run x1 rs ri fun j => ?_
    simp only [R]
    exact ⟨fun ⟨i, t, q1, q2, q3, q4⟩ => ⟨i, q1, t, q2, q3, q4⟩, fun ⟨i, q1, t, q2, q3, q4⟩ => ⟨i, t, q1, q2, q3, q4⟩⟩
  | set s =>
    simp only [Nd.kind, Nd.st, Nd.lo, Nd.hi] at hx2 at1 o1
    simp -implicitDefEqProofs (disch := first | assumption | omega | (simp only [gL] <;> omega) | ((repeat (first | exact Ext.refl _ | assumption | apply Ext.app | apply Ext.mk | (refine Ext.setr ?_ (by (first | omega | (simp only [gL] <;> omega))) _))); done) | (simp only [gL, gA, hx2] <;> omega) | fail) only [gB, setAll, partL, fldV, reduceIte, Nat.reduceAdd, Nat.reduceMul, hx2]
    rw [show I 0 = I ((0 : Nat) : Int) from rfl]
    refine WP.ent (WP.mono (rset_l1 (P := P) (lo := h1.length) (hi := h1.length + 1) o1 hw (hwd.ext e1) (hf.ext e1) hP at1 (Nat.le_refl _) w.length 0 _ h2 (by simp) k3 k2' (Is.none.cong fun j => ⟨fun q => q.elim, fun ⟨i', q, _⟩ => by omega⟩)) ?_) fun i => rfl
    rintro r h3 ⟨e3, q⟩
    exact ⟨e1.trans e3, q⟩
theorem one_spec {h : Heap} (hw : w.length ≤ 900000) :
    Tot tab f_milestoneref5_one [I ((w.length : Int) + 1), I 0] h fun r h' => Ext h h' ∧ ∃ bs, Sl h' 1 r (bs.map encB) ∧ Is w bs fun j => j = 0 := by
  refine WP.tot (fun k' => (call_milestoneref5_one k' _ _ h).trans (milestoneref5_one_eq tab k' _ _ h)) ?_
  obtain ⟨out, h2, k1, k2, k3, k4, k5⟩ := mkSl_gr (zero := [.bool false]) (sz := 1) (bytes := 1) (n := (w.length : Int) + 1) h (by omega) (by omega) (by omega) rfl rfl
  have k2' : Gr h.length (h.length + 1) h2 1 out ((List.replicate (w.length + 1) false).map encB) := by
    rw [show (((w.length : Int) + 1)).toNat = w.length + 1 by omega] at k2
    rw [List.map_replicate]; exact k2
  obtain ⟨H, m1, m2, m3, m4⟩ := k2'.write0 (i := (0 : Int)) (by omega) (by rw [List.length_map, List.length_replicate]; omega) (v := .bool true) rfl rfl
  have hg := k2'.sl
  simp -implicitDefEqProofs (disch := first | assumption | omega | (simp only [gL] <;> omega) | ((repeat (first | exact Ext.refl _ | assumption | apply Ext.app | apply Ext.mk | (refine Ext.setr ?_ (by (first | omega | (simp only [gL] <;> omega))) _))); done) | (simp only [gL, gA, k1, hg.idxG, m1] <;> omega) | fail) only [gB, setAll, partL, fldV, reduceIte, Nat.reduceAdd, Nat.reduceMul, k1, hg.idxG, m1]
  refine WP.ret ⟨m3.ext k3 (Nat.le_refl _), (List.replicate (w.length + 1) false).set 0 true, (m2.cong (by rw [List.map_set]; rfl)).sl, (Is.none.set (Nat.zero_le _)).cong fun j => by simp⟩
theorem rmatch_spec {n : Nd} {c5 : List AV} {h : Heap} {word : AV} (nv : NV h n c5) (ok : Ok n) (wf : Wf n) (hwd : Sl h 1 word (w.map encI)) (hw : w.length ≤ 900000) :
    Tot tab f_milestoneref5_Match [.agg c5, word] h fun r h' => Ext h h' ∧ ∃ b, r = .bool b ∧ (b = true ↔ In n w) := by
  refine WP.tot (fun k' => (call_milestoneref5_Match k' _ _ h).trans (milestoneref5_Match_eq tab k' _ _ h)) ?_
  have nv' := nv
  obtain ⟨s5, css, rfl, sl5, nvs⟩ := nv.inv
  have ho5 : s5.one = true := sl5.one
  obtain ⟨h1, hh1⟩ : ∃ h1, h1 = h ++ [AObj.cells ⟨[I n.kind, I n.st, I n.lo, I n.hi, s5], 0, 0, false⟩] := ⟨_, rfl⟩
  have e1 : Ext h h1 := by rw [hh1]; ((repeat (first | exact Ext.refl _ | assumption | apply Ext.app | apply Ext.mk | (refine Ext.setr ?_ (by (first | omega | (simp only [gL] <;> omega))) _))))
  have hx1 : h1[h.length]? = some (.cells ⟨[I n.kind, I n.st, I n.lo, I n.hi, s5], 0, 0, false⟩) := by rw [hh1]; simp
  simp -implicitDefEqProofs (disch := first | assumption | omega | (simp only [gL] <;> omega) | ((repeat (first | exact Ext.refl _ | assumption | apply Ext.app | apply Ext.mk | (refine Ext.setr ?_ (by (first | omega | (simp only [gL] <;> omega))) _))); done) | (simp only [gL, gA, ho5, hwd.lenG] <;> omega) | fail) only [gB, setAll, partL, fldV, reduceIte, Nat.reduceAdd, Nat.reduceMul, ho5, hwd.lenG]
  rw [← hh1, show AV.int .i64 0 = I 0 from rfl]
  refine WP.call (one_spec hw) ?_
  rintro fr h2 ⟨e2, fb, fs, fi⟩
  have hx2 := e2.get hx1
  simp -implicitDefEqProofs (disch := first | assumption | omega | (simp only [gL] <;> omega) | ((repeat (first | exact Ext.refl _ | assumption | apply Ext.app | apply Ext.mk | (refine Ext.setr ?_ (by (first | omega | (simp only [gL] <;> omega))) _))); done) | (simp only [gL, gA, hx2] <;> omega) | fail) only [gB, setAll, partL, fldV, reduceIte, Nat.reduceAdd, Nat.reduceMul, hx2]
  have e := e1.trans e2
  refine WP.call (ref_spec hw n ok wf _ word fr fb _ h2 (nv'.keeps (.ofExt e)) (hwd.ext e) fs fi) ?_
  rintro r h3 ⟨e3, bs, rs, ri⟩
  have hbl := ri.1
  have e0 := Ext.refl h3
  obtain ⟨b, hb⟩ : ∃ b, gi bs (w.length : Int) = b := ⟨_, rfl⟩
  simp -implicitDefEqProofs (disch := first | assumption | omega | (simp only [gL] <;> omega) | ((repeat (first | exact Ext.refl _ | assumption | apply Ext.app | apply Ext.mk | (refine Ext.setr ?_ (by (first | omega | (simp only [gL] <;> omega))) _))); done) | (simp only [gL, gA, rs.idxG, rs.ld0, encB, hb] <;> omega) | fail) only [gB, setAll, partL, fldV, reduceIte, Nat.reduceAdd, Nat.reduceMul, rs.idxG, rs.ld0, encB, hb]
  refine WP.ret ⟨e.trans e3, b, rfl, ?_⟩
  rw [← hb]
  refine (ri.2 w.length).trans ?_
  simp [In]
end
end Go.Gm.A5

set_option linter.unusedVariables false
set_option linter.unusedSimpArgs false
namespace Go.Gm.A5
open Go Go.Gm

theorem within4_spec {a n : Int} (hn : 0 < n) (hf : Fit n) (h : Heap) : Tot tab f_milestonelaw4_within [I a, I n] h fun v h' => v = I (a % n) ∧ h = h' := by
  refine WP.tot (fun k => (call_milestonelaw4_within k _ _ h).trans (milestonelaw4_within_eq tab k _ _ h)) ?_
  refine WP.oa (bin_rem a n (by omega)) ?_
  refine WP.oa (bin_lss _ _) ?_
  have hlt := Int.tmod_lt_of_pos a hn
  have hgt := Int.lt_tmod_of_pos a hn
  have h1 := Int.tmod_eq_emod (a := a) (b := n)
  have h2 := Int.emod_nonneg a (by omega : n ≠ 0)
  have h3 := Int.emod_lt_of_pos a hn
  by_cases h0 : a.tmod n < 0
  · simp only [decide_eq_true h0, cond2_true]
    refine WP.oa (bin_add _ _ (by unfold Fit at *; omega)) (WP.ret ⟨?_, rfl⟩)
    congr 1
    split at h1 <;> omega
  · simp only [decide_eq_false h0, cond2_false]
    refine WP.ret ⟨?_, rfl⟩
    congr 1
    split at h1 <;> omega
theorem within5_spec {a n : Int} (hn : 0 < n) (hf : Fit n) (h : Heap) : Tot tab f_milestonelaw5_within [I a, I n] h fun v h' => v = I (a % n) ∧ h = h' := by
  refine WP.tot (fun k => (call_milestonelaw5_within k _ _ h).trans (milestonelaw5_within_eq tab k _ _ h)) ?_
  refine WP.oa (bin_rem a n (by omega)) ?_
  refine WP.oa (bin_lss _ _) ?_
  have hlt := Int.tmod_lt_of_pos a hn
  have hgt := Int.lt_tmod_of_pos a hn
  have h1 := Int.tmod_eq_emod (a := a) (b := n)
  have h2 := Int.emod_nonneg a (by omega : n ≠ 0)
  have h3 := Int.emod_lt_of_pos a hn
  by_cases h0 : a.tmod n < 0
  · simp only [decide_eq_true h0, cond2_true]
    refine WP.oa (bin_add _ _ (by unfold Fit at *; omega)) (WP.ret ⟨?_, rfl⟩)
    congr 1
    split at h1 <;> omega
  · simp only [decide_eq_false h0, cond2_false]
    refine WP.ret ⟨?_, rfl⟩
    congr 1
    split at h1 <;> omega
/-- A word of numbers. -/
def wordL (ns : List Int) (m : Nat) (few : Int) : List Int := (ns.take m).map fun a => a % (1 + few % 5)
theorem wordL_len (ns : List Int) (m : Nat) (few : Int) : (wordL ns m few).length ≤ m := by simp [wordL]; omega
theorem wordL_mem {ns : List Int} {m : Nat} {few c : Int} (h : c ∈ wordL ns m few) : 0 ≤ c ∧ c < 5 := by
  simp only [wordL, List.mem_map] at h
  obtain ⟨a, _, rfl⟩ := h
  have h1 := Int.emod_nonneg a (show (1 + few % 5) ≠ 0 by omega)
  have h2 := Int.emod_lt_of_pos a (show 0 < (1 + few % 5) by omega)
  omega
theorem word_l1 {ns : List Int} {sn : AV} {m : Nat} {few : Int} {h : Heap} (hn : Sl h 1 sn (ns.map encI)) (hm : m ≤ 1000) :
    ∀ (d i : Nat) (s : AV) (H : Heap), i + d = min m ns.length → Ext h H → Gr h.length H.length H 1 s ((wordL ns i few).map encI) →
      WP (fun p : Nat × Nat => milestonelaw5_Word_l1 tab p.1 p.2 sn (I m) (I few) s (I i) H) fun r h' => Ext h h' ∧ Gr h.length h'.length h' 1 r ((wordL ns m few).map encI) := by
  intro d
  induction d with
  | zero =>
    intro i s H h1 ex gr
    refine WP.rnd (fun i' j => milestonelaw5_Word_l1_eq tab i' j sn (I m) (I few) s (I i) H) ?_
    have hn' := hn.ext ex
    have fin : WP (fun _ : Nat × Nat => some (s, H)) fun r h' => Ext h h' ∧ Gr h.length h'.length h' 1 r ((wordL ns m few).map encI) := by
      refine WP.ret ⟨ex, gr.cong ?_⟩
      have : ns.take i = ns.take m := by
        rcases Nat.le_total m ns.length with q | q
        · rw [show i = m by omega]
        · rw [List.take_of_length_le (by omega), List.take_of_length_le (by omega)]
      simp only [wordL, this]
    by_cases hi : i < ns.length
    · obtain rfl : i = m := by omega
      simp -implicitDefEqProofs (disch := first | assumption | omega | (simp only [gL] <;> omega) | ((repeat (first | exact Ext.refl _ | assumption | apply Ext.app | apply Ext.mk | (refine Ext.setr ?_ (by (first | omega | (simp only [gL] <;> omega))) _))); done) | (simp only [gL, gA, hn'.lenG] <;> omega) | fail) only [gB, setAll, partL, fldV, reduceIte, Nat.reduceAdd, Nat.reduceMul, hn'.lenG]
      exact fin
    · simp -implicitDefEqProofs (disch := first | assumption | omega | (simp only [gL] <;> omega) | ((repeat (first | exact Ext.refl _ | assumption | apply Ext.app | apply Ext.mk | (refine Ext.setr ?_ (by (first | omega | (simp only [gL] <;> omega))) _))); done) | (simp only [gL, gA, hn'.lenG] <;> omega) | fail) only [gB, setAll, partL, fldV, reduceIte, Nat.reduceAdd, Nat.reduceMul, hn'.lenG]
      exact fin
  | succ d ih =>
    intro i s H h1 ex gr
    refine WP.rnd (fun i' j => milestonelaw5_Word_l1_eq tab i' j sn (I m) (I few) s (I i) H) ?_
    have hn' := hn.ext ex
    have e0 := Ext.refl H
    have hil : i < ns.length := by omega
    have him : i < m := by omega
    obtain ⟨a, ha⟩ : ∃ a, gi ns i = a := ⟨_, rfl⟩
    have ha2 : ns[i]? = some a := by
      have := gi_some (xs := ns) (i := (i : Int)) (by omega) (by omega)
      rw [ha] at this; exact this
    have hle := ex.len
    simp -implicitDefEqProofs (disch := first | assumption | omega | (simp only [gL] <;> omega) | ((repeat (first | exact Ext.refl _ | assumption | apply Ext.app | apply Ext.mk | (refine Ext.setr ?_ (by (first | omega | (simp only [gL] <;> omega))) _))); done) | (simp only [gL, gA, hn'.lenG, hn'.idxG, hn'.ld0, encI, ha] <;> omega) | fail) only [gB, setAll, partL, fldV, reduceIte, Nat.reduceAdd, Nat.reduceMul, hn'.lenG, hn'.idxG, hn'.ld0, encI, ha]
    refine WP.call (within5_spec (n := 5) (by omega) (by unfold Fit; omega) H) ?_
    rintro _ _ ⟨rfl, rfl⟩
    simp -implicitDefEqProofs (disch := first | assumption | omega | (simp only [gL] <;> omega) | ((repeat (first | exact Ext.refl _ | assumption | apply Ext.app | apply Ext.mk | (refine Ext.setr ?_ (by (first | omega | (simp only [gL] <;> omega))) _))); done) | (simp only [gL, gA, hn'.ld0, encI, ha] <;> omega) | fail) only [gB, setAll, partL, fldV, reduceIte, Nat.reduceAdd, Nat.reduceMul, hn'.ld0, encI, ha]
    refine WP.call (within5_spec (n := 1 + few % 5) (by omega) (by unfold Fit; omega) H) ?_
    rintro _ _ ⟨rfl, rfl⟩
    obtain ⟨s', H', u1, u2, u3⟩ := gr.append1 (bytes := 8) (v := [I (a % (1 + few % 5))]) rfl (by omega) (by omega) (by have := wordL_len ns i few; rw [List.length_map]; omega) hle (Nat.le_refl _)
    rw [mkObj_eq] at u1
    simp -implicitDefEqProofs (disch := first | assumption | omega | (simp only [gL] <;> omega) | ((repeat (first | exact Ext.refl _ | assumption | apply Ext.app | apply Ext.mk | (refine Ext.setr ?_ (by (first | omega | (simp only [gL] <;> omega))) _))); done) | (simp only [gL, gA, u1] <;> omega) | fail) only [gB, setAll, partL, fldV, reduceIte, Nat.reduceAdd, Nat.reduceMul, u1]
    refine ih (i + 1) s' H' (by omega) (u3.ext ex (Nat.le_refl _)) (u2.cong ?_)
    simp only [wordL, List.take_add_one, ha2, Option.toList_some, List.map_append, List.map_cons, List.map_nil]
    rfl
theorem word_spec {ns : List Int} {sn : AV} {m : Nat} {few : Int} {h : Heap} (hn : Sl h 1 sn (ns.map encI)) (hm : m ≤ 1000) :
    Tot tab f_milestonelaw5_Word [sn, I m, I few] h fun r h' => Ext h h' ∧ Gr h.length h'.length h' 1 r ((wordL ns m few).map encI) := by
  refine WP.tot (fun k' => (call_milestonelaw5_Word k' _ _ _ h).trans (milestonelaw5_Word_eq tab k' _ _ _ h)) ?_
  rw [show AV.int .i64 0 = I ((0 : Nat) : Int) from rfl]
  exact WP.ent (word_l1 hn hm (min m ns.length) 0 .nils h (by omega) (Ext.refl _) (Gr.nil ..)) fun i => rfl
end Go.Gm.A5

set_option linter.unusedVariables false
set_option linter.unusedSimpArgs false
namespace Go.Gm.A5
open Go Go.Gm

/-! ### The word of none -/
theorem R0 {n : Nd} {j : Nat} (h : R [] n 0 j) : j = 0 := by
  have := (R_le n 0 j h).2 (Nat.le_refl _)
  simpa using this
theorem Star0 {n : Nd} {j : Nat} (h : Star (R [] n) 0 j) : j = 0 := by
  induction h with
  | refl => rfl
  | tail a b ih =>
    rw [ih] at b
    exact R0 b
theorem nul_plus {c : Nd} : R [] (.plus c) 0 0 ↔ R [] c 0 0 := by
  simp only [R]
  constructor
  · rintro ⟨m, h, _⟩
    rw [R0 h] at h; exact h
  · intro h; exact ⟨0, h, .refl _⟩
theorem Pow0 {c : Nd} : ∀ {t j : Nat}, Pow (R [] c) t 0 j → j = 0 ∧ (t = 0 ∨ R [] c 0 0)
  | 0, j, h => by cases h; exact ⟨rfl, .inl rfl⟩
  | t + 1, j, ⟨m, h, k⟩ => by
    obtain ⟨rfl, _⟩ := Pow0 h
    have := R0 k
    subst this
    exact ⟨rfl, .inr k⟩
theorem Pow00 {c : Nd} (h : R [] c 0 0) : ∀ t, Pow (R [] c) t 0 0
  | 0 => rfl
  | t + 1 => ⟨0, Pow00 h t, h⟩
theorem nul_rep {a b : Nat} {c : Nd} (hab : a ≤ b) : R [] (.rep a b c) 0 0 ↔ a = 0 ∨ R [] c 0 0 := by
  simp only [R]
  constructor
  · rintro ⟨t, h1, h2, h⟩
    rcases (Pow0 h).2 with q | q
    · exact .inl (by omega)
    · exact .inr q
  · rintro (rfl | h)
    · exact ⟨0, Nat.le_refl _, hab, rfl⟩
    · exact ⟨a, Nat.le_refl _, hab, Pow00 h a⟩
theorem nul_join : ∀ {l : List Nd}, RJ [] l 0 0 ↔ ∀ c ∈ l, R [] c 0 0
  | [] => by simp [RJ]
  | c :: l => by
    simp only [RJ, List.mem_cons, forall_eq_or_imp]
    constructor
    · rintro ⟨m, h, k⟩
      have := R0 h
      subst this
      exact ⟨h, nul_join.1 k⟩
    · rintro ⟨h, k⟩; exact ⟨0, h, nul_join.2 k⟩

def NulS (n : Nd) : Prop := ∀ (c5 : List AV) (h : Heap), NV h n c5 → Tot tab f_milestoneref5_Null [.agg c5] h fun r h' => Ext h h' ∧ ∃ b, r = .bool b ∧ (b = true ↔ R [] n 0 0)
theorem nul_l2 {l : List Nd} (hS : ∀ c ∈ l, NulS c) (hl : l.length ≤ 1000) {n1 s5 : AV} {css : List (List AV)} {h : Heap} (hcs : Sl h 5 s5 css) (nvs : NVs h l css) {q1 q2 q3 q4 : AV} (hn : At h n1 [q1, q2, q3, q4, s5]) :
    ∀ (d t : Nat) (H : Heap), t + d = l.length → Ext h H → (∀ c ∈ l.take t, R [] c 0 0) →
      WP (fun p : Nat × Nat => milestoneref5_Null_l2 tab p.1 p.2 n1 (I t) H) fun r h' => Ext h h' ∧ ∃ b, r = .bool b ∧ (b = true ↔ ∀ c ∈ l, R [] c 0 0) := by
  have hcl := nvs.length
  have hcs0 : Sl h 5 s5 (css.map fun x => x) := by rw [List.map_id']; exact hcs
  intro d
  induction d with
  | zero =>
    intro t H h1 ex hq
    refine WP.rnd (fun i' j => milestoneref5_Null_l2_eq tab i' j n1 (I t) H) ?_
    have hcs' := hcs0.ext ex
    simp -implicitDefEqProofs (disch := first | assumption | omega | (simp only [gL] <;> omega) | ((repeat (first | exact Ext.refl _ | assumption | apply Ext.app | apply Ext.mk | (refine Ext.setr ?_ (by (first | omega | (simp only [gL] <;> omega))) _))); done) | (simp only [gL, gA, hn.fldA0, hn.ldfE, hcs'.lenG] <;> omega) | fail) only [gB, setAll, partL, fldV, reduceIte, Nat.reduceAdd, Nat.reduceMul, hn.fldA0, hn.ldfE, hcs'.lenG]
    rw [List.take_of_length_le (by omega)] at hq
    exact WP.lv (WP.ret ⟨ex, true, rfl, fun _ => hq, fun _ => rfl⟩) fun i j => rfl
  | succ d ih =>
    intro t H h1 ex hq
    refine WP.rnd (fun i' j => milestoneref5_Null_l2_eq tab i' j n1 (I t) H) ?_
    have hcs' := hcs0.ext ex
    have e0 := Ext.refl H
    have hlt : l[t]? = some (l[t]'(by omega)) := List.getElem?_eq_getElem (by omega)
    obtain ⟨cc, a1, a2⟩ := nvs.get hlt
    have hgc : gi css (t : Int) = cc := gi_map a1
    simp -implicitDefEqProofs (disch := first | assumption | omega | (simp only [gL] <;> omega) | ((repeat (first | exact Ext.refl _ | assumption | apply Ext.app | apply Ext.mk | (refine Ext.setr ?_ (by (first | omega | (simp only [gL] <;> omega))) _))); done) | (simp only [gL, gA, hn.fldA0, hn.ldfE, hcs'.lenG, hcs'.idxG, hcs'.ldN, hgc] <;> omega) | fail) only [gB, setAll, partL, fldV, reduceIte, Nat.reduceAdd, Nat.reduceMul, hn.fldA0, hn.ldfE, hcs'.lenG, hcs'.idxG, hcs'.ldN, hgc]
    refine WP.call (hS _ (List.getElem_mem (by omega)) cc H (a2.keeps (.ofExt ex))) ?_
    rintro _ H1 ⟨x1, b, rfl, hb⟩
    cases b with
    | true =>
      simp -implicitDefEqProofs (disch := first | assumption | omega | (simp only [gL] <;> omega) | ((repeat (first | exact Ext.refl _ | assumption | apply Ext.app | apply Ext.mk | (refine Ext.setr ?_ (by (first | omega | (simp only [gL] <;> omega))) _))); done) | (simp only [gL, gA] <;> omega) | fail) only [gB, setAll, partL, fldV, reduceIte, Nat.reduceAdd, Nat.reduceMul]
      refine ih (t + 1) H1 (by omega) (ex.trans x1) fun c hc => ?_
      rw [List.take_add_one, hlt] at hc
      rcases List.mem_append.1 hc with hc | hc
      · exact hq c hc
      · simp at hc; subst hc; exact hb.1 rfl
    | false =>
      simp -implicitDefEqProofs (disch := first | assumption | omega | (simp only [gL] <;> omega) | ((repeat (first | exact Ext.refl _ | assumption | apply Ext.app | apply Ext.mk | (refine Ext.setr ?_ (by (first | omega | (simp only [gL] <;> omega))) _))); done) | (simp only [gL, gA] <;> omega) | fail) only [gB, setAll, partL, fldV, reduceIte, Nat.reduceAdd, Nat.reduceMul]
      refine WP.lv (WP.ret ⟨ex.trans x1, false, rfl, fun q => (by cases q), fun q => ?_⟩) fun i j => rfl
      have := hb.2 (q _ (List.getElem_mem (by omega)))
      cases this
theorem nul_l3 {l : List Nd} (hS : ∀ c ∈ l, NulS c) (hl : l.length ≤ 1000) {n1 s5 : AV} {css : List (List AV)} {h : Heap} (hcs : Sl h 5 s5 css) (nvs : NVs h l css) {q1 q2 q3 q4 : AV} (hn : At h n1 [q1, q2, q3, q4, s5]) :
    ∀ (d t : Nat) (H : Heap), t + d = l.length → Ext h H → (∀ c ∈ l.take t, ¬ R [] c 0 0) →
      WP (fun p : Nat × Nat => milestoneref5_Null_l3 tab p.1 p.2 n1 (I t) H) fun r h' => Ext h h' ∧ ∃ b, r = .bool b ∧ (b = true ↔ ∃ c ∈ l, R [] c 0 0) := by
  have hcl := nvs.length
  have hcs0 : Sl h 5 s5 (css.map fun x => x) := by rw [List.map_id']; exact hcs
  intro d
  induction d with
  | zero =>
    intro t H h1 ex hq
    refine WP.rnd (fun i' j => milestoneref5_Null_l3_eq tab i' j n1 (I t) H) ?_
    have hcs' := hcs0.ext ex
    simp -implicitDefEqProofs (disch := first | assumption | omega | (simp only [gL] <;> omega) | ((repeat (first | exact Ext.refl _ | assumption | apply Ext.app | apply Ext.mk | (refine Ext.setr ?_ (by (first | omega | (simp only [gL] <;> omega))) _))); done) | (simp only [gL, gA, hn.fldA0, hn.ldfE, hcs'.lenG] <;> omega) | fail) only [gB, setAll, partL, fldV, reduceIte, Nat.reduceAdd, Nat.reduceMul, hn.fldA0, hn.ldfE, hcs'.lenG]
    rw [List.take_of_length_le (by omega)] at hq
    exact WP.lv (WP.ret ⟨ex, false, rfl, fun q => (by cases q), fun ⟨c, q, r⟩ => absurd r (hq c q)⟩) fun i j => rfl
  | succ d ih =>
    intro t H h1 ex hq
    refine WP.rnd (fun i' j => milestoneref5_Null_l3_eq tab i' j n1 (I t) H) ?_
    have hcs' := hcs0.ext ex
    have e0 := Ext.refl H
    have hlt : l[t]? = some (l[t]'(by omega)) := List.getElem?_eq_getElem (by omega)
    obtain ⟨cc, a1, a2⟩ := nvs.get hlt
    have hgc : gi css (t : Int) = cc := gi_map a1
    simp -implicitDefEqProofs (disch := first | assumption | omega | (simp only [gL] <;> omega) | ((repeat (first | exact Ext.refl _ | assumption | apply Ext.app | apply Ext.mk | (refine Ext.setr ?_ (by (first | omega | (simp only [gL] <;> omega))) _))); done) | (simp only [gL, gA, hn.fldA0, hn.ldfE, hcs'.lenG, hcs'.idxG, hcs'.ldN, hgc] <;> omega) | fail) only [gB, setAll, partL, fldV, reduceIte, Nat.reduceAdd, Nat.reduceMul, hn.fldA0, hn.ldfE, hcs'.lenG, hcs'.idxG, hcs'.ldN, hgc]
    refine WP.call (hS _ (List.getElem_mem (by omega)) cc H (a2.keeps (.ofExt ex))) ?_
    rintro _ H1 ⟨x1, b, rfl, hb⟩
    cases b with
    | false =>
      simp -implicitDefEqProofs (disch := first | assumption | omega | (simp only [gL] <;> omega) | ((repeat (first | exact Ext.refl _ | assumption | apply Ext.app | apply Ext.mk | (refine Ext.setr ?_ (by (first | omega | (simp only [gL] <;> omega))) _))); done) | (simp only [gL, gA] <;> omega) | fail) only [gB, setAll, partL, fldV, reduceIte, Nat.reduceAdd, Nat.reduceMul]
      refine ih (t + 1) H1 (by omega) (ex.trans x1) fun c hc q => ?_
      rw [List.take_add_one, hlt] at hc
      rcases List.mem_append.1 hc with hc | hc
      · exact hq c hc q
      · simp at hc; subst hc; have := hb.2 q; cases this
    | true =>
      simp -implicitDefEqProofs (disch := first | assumption | omega | (simp only [gL] <;> omega) | ((repeat (first | exact Ext.refl _ | assumption | apply Ext.app | apply Ext.mk | (refine Ext.setr ?_ (by (first | omega | (simp only [gL] <;> omega))) _))); done) | (simp only [gL, gA] <;> omega) | fail) only [gB, setAll, partL, fldV, reduceIte, Nat.reduceAdd, Nat.reduceMul]
      exact WP.lv (WP.ret ⟨ex.trans x1, true, rfl, fun _ => ⟨_, List.getElem_mem (by omega), hb.1 rfl⟩, fun _ => rfl⟩) fun i j => rfl
theorem nul_spec (n : Nd) : Ok n → Wf n → NulS n := by
  refine Nd.ind (p := fun n => Ok n → Wf n → NulS n) ?_ n
  intro n ih ok wf c5 h nv
  refine WP.tot (fun k' => (call_milestoneref5_Null k' _ h).trans (milestoneref5_Null_eq tab k' _ h)) ?_
  have nv' := nv
  obtain ⟨s5, css, rfl, sl5, nvs⟩ := nv.inv
  have ho5 : s5.one = true := sl5.one
  cases ok with
  | mk o1 o2 o3 o4 o5 =>
  cases wf with
  | mk w1 w2 =>
  have hS : ∀ c ∈ n.kids, NulS c := fun c hc => ih c hc (o5 c hc) (w2 c hc)
  obtain ⟨h1, hh1⟩ : ∃ h1, h1 = h ++ [AObj.cells ⟨[I n.kind, I n.st, I n.lo, I n.hi, s5], 0, 0, false⟩] := ⟨_, rfl⟩
  have e1 : Ext h h1 := by rw [hh1]; ((repeat (first | exact Ext.refl _ | assumption | apply Ext.app | apply Ext.mk | (refine Ext.setr ?_ (by (first | omega | (simp only [gL] <;> omega))) _))))
  have hx1 : h1[h.length]? = some (.cells ⟨[I n.kind, I n.st, I n.lo, I n.hi, s5], 0, 0, false⟩) := by rw [hh1]; simp
  obtain ⟨n4, hn4⟩ : ∃ n4, n4 = AV.ptr h.length 0 5 0 := ⟨_, rfl⟩
  have at1 : At h1 n4 [I n.kind, I n.st, I n.lo, I n.hi, s5] := by rw [hn4]; exact At.row hx1 (Nat.le_refl _) rfl
  have sl1 := sl5.ext e1
  have sl1' : Sl h1 5 s5 (css.map fun x => x) := by rw [List.map_id']; exact sl1
  have nvs1 := NVs.keeps (.ofExt e1) nvs
  have e0 := Ext.refl h1
  have run : ∀ (b : Bool), (b = true ↔ R [] n 0 0) → WP (fun _ : Nat => some (AV.bool b, h1)) fun r h' => Ext h h' ∧ ∃ b, r = .bool b ∧ (b = true ↔ R [] n 0 0) := fun b q => WP.ret ⟨e1, b, rfl, q⟩
  cases n with
  | set s =>
    simp only [Nd.kind, Nd.st, Nd.lo, Nd.hi] at *
    simp -implicitDefEqProofs (disch := first | assumption | omega | (simp only [gL] <;> omega) | ((repeat (first | exact Ext.refl _ | assumption | apply Ext.app | apply Ext.mk | (refine Ext.setr ?_ (by (first | omega | (simp only [gL] <;> omega))) _))); done) | (simp only [gL, gA, ho5] <;> omega) | fail) only [gB, setAll, partL, fldV, reduceIte, Nat.reduceAdd, Nat.reduceMul, ho5]
    rw [← hh1, ← hn4]
    refine WP.congr (fun k => milestoneref5_Null_b1_eq tab k _ _ _ h1) ?_
    simp -implicitDefEqProofs (disch := first | assumption | omega | (simp only [gL] <;> omega) | ((repeat (first | exact Ext.refl _ | assumption | apply Ext.app | apply Ext.mk | (refine Ext.setr ?_ (by (first | omega | (simp only [gL] <;> omega))) _))); done) | (simp only [gL, gA] <;> omega) | fail) only [gB, setAll, partL, fldV, reduceIte, Nat.reduceAdd, Nat.reduceMul]
    exact run false ⟨fun q => (by cases q), fun q => by simp [R, hit] at q⟩
  | emp =>
    simp only [Nd.kind, Nd.st, Nd.lo, Nd.hi] at *
    simp -implicitDefEqProofs (disch := first | assumption | omega | (simp only [gL] <;> omega) | ((repeat (first | exact Ext.refl _ | assumption | apply Ext.app | apply Ext.mk | (refine Ext.setr ?_ (by (first | omega | (simp only [gL] <;> omega))) _))); done) | (simp only [gL, gA, ho5] <;> omega) | fail) only [gB, setAll, partL, fldV, reduceIte, Nat.reduceAdd, Nat.reduceMul, ho5]
    rw [← hh1, ← hn4]
    refine WP.congr (fun k => milestoneref5_Null_b1_eq tab k _ _ _ h1) ?_
    simp -implicitDefEqProofs (disch := first | assumption | omega | (simp only [gL] <;> omega) | ((repeat (first | exact Ext.refl _ | assumption | apply Ext.app | apply Ext.mk | (refine Ext.setr ?_ (by (first | omega | (simp only [gL] <;> omega))) _))); done) | (simp only [gL, gA] <;> omega) | fail) only [gB, setAll, partL, fldV, reduceIte, Nat.reduceAdd, Nat.reduceMul]
    exact run false ⟨fun q => (by cases q), fun q => by simp [R] at q⟩
  | eps =>
    simp only [Nd.kind, Nd.st, Nd.lo, Nd.hi] at *
    simp -implicitDefEqProofs (disch := first | assumption | omega | (simp only [gL] <;> omega) | ((repeat (first | exact Ext.refl _ | assumption | apply Ext.app | apply Ext.mk | (refine Ext.setr ?_ (by (first | omega | (simp only [gL] <;> omega))) _))); done) | (simp only [gL, gA, ho5] <;> omega) | fail) only [gB, setAll, partL, fldV, reduceIte, Nat.reduceAdd, Nat.reduceMul, ho5]
    rw [← hh1, ← hn4]
    refine WP.congr (fun k => milestoneref5_Null_b1_eq tab k _ _ _ h1) ?_
    simp -implicitDefEqProofs (disch := first | assumption | omega | (simp only [gL] <;> omega) | ((repeat (first | exact Ext.refl _ | assumption | apply Ext.app | apply Ext.mk | (refine Ext.setr ?_ (by (first | omega | (simp only [gL] <;> omega))) _))); done) | (simp only [gL, gA] <;> omega) | fail) only [gB, setAll, partL, fldV, reduceIte, Nat.reduceAdd, Nat.reduceMul]
    exact run true ⟨fun _ => by simp [R], fun _ => rfl⟩
  | star c =>
    simp only [Nd.kind, Nd.st, Nd.lo, Nd.hi] at *
    simp -implicitDefEqProofs (disch := first | assumption | omega | (simp only [gL] <;> omega) | ((repeat (first | exact Ext.refl _ | assumption | apply Ext.app | apply Ext.mk | (refine Ext.setr ?_ (by (first | omega | (simp only [gL] <;> omega))) _))); done) | (simp only [gL, gA, ho5] <;> omega) | fail) only [gB, setAll, partL, fldV, reduceIte, Nat.reduceAdd, Nat.reduceMul, ho5]
    rw [← hh1, ← hn4]
    refine WP.congr (fun k => milestoneref5_Null_b1_eq tab k _ _ _ h1) ?_
    simp -implicitDefEqProofs (disch := first | assumption | omega | (simp only [gL] <;> omega) | ((repeat (first | exact Ext.refl _ | assumption | apply Ext.app | apply Ext.mk | (refine Ext.setr ?_ (by (first | omega | (simp only [gL] <;> omega))) _))); done) | (simp only [gL, gA] <;> omega) | fail) only [gB, setAll, partL, fldV, reduceIte, Nat.reduceAdd, Nat.reduceMul]
    exact run true ⟨fun _ => by simp only [R]; exact .refl _, fun _ => rfl⟩
  | opt c =>
    simp only [Nd.kind, Nd.st, Nd.lo, Nd.hi] at *
    simp -implicitDefEqProofs (disch := first | assumption | omega | (simp only [gL] <;> omega) | ((repeat (first | exact Ext.refl _ | assumption | apply Ext.app | apply Ext.mk | (refine Ext.setr ?_ (by (first | omega | (simp only [gL] <;> omega))) _))); done) | (simp only [gL, gA, ho5] <;> omega) | fail) only [gB, setAll, partL, fldV, reduceIte, Nat.reduceAdd, Nat.reduceMul, ho5]
    rw [← hh1, ← hn4]
    refine WP.congr (fun k => milestoneref5_Null_b1_eq tab k _ _ _ h1) ?_
    simp -implicitDefEqProofs (disch := first | assumption | omega | (simp only [gL] <;> omega) | ((repeat (first | exact Ext.refl _ | assumption | apply Ext.app | apply Ext.mk | (refine Ext.setr ?_ (by (first | omega | (simp only [gL] <;> omega))) _))); done) | (simp only [gL, gA] <;> omega) | fail) only [gB, setAll, partL, fldV, reduceIte, Nat.reduceAdd, Nat.reduceMul]
    exact run true ⟨fun _ => by simp [R], fun _ => rfl⟩
  | plus c =>
    simp only [Nd.kind, Nd.st, Nd.lo, Nd.hi] at *
    obtain ⟨cc, rfl, nc⟩ := nvs1.one
    have hgc : gi [cc] (0 : Int) = cc := rfl
    simp -implicitDefEqProofs (disch := first | assumption | omega | (simp only [gL] <;> omega) | ((repeat (first | exact Ext.refl _ | assumption | apply Ext.app | apply Ext.mk | (refine Ext.setr ?_ (by (first | omega | (simp only [gL] <;> omega))) _))); done) | (simp only [gL, gA, ho5] <;> omega) | fail) only [gB, setAll, partL, fldV, reduceIte, Nat.reduceAdd, Nat.reduceMul, ho5]
    rw [← hh1, ← hn4]
    refine WP.congr (fun k => milestoneref5_Null_b1_eq tab k _ _ _ h1) ?_
    simp -implicitDefEqProofs (disch := first | assumption | omega | (simp only [gL] <;> omega) | ((repeat (first | exact Ext.refl _ | assumption | apply Ext.app | apply Ext.mk | (refine Ext.setr ?_ (by (first | omega | (simp only [gL] <;> omega))) _))); done) | (simp only [gL, gA, at1.fldA0, at1.ldfE, sl1'.idxG, sl1'.ldN, hgc] <;> omega) | fail) only [gB, setAll, partL, fldV, reduceIte, Nat.reduceAdd, Nat.reduceMul, at1.fldA0, at1.ldfE, sl1'.idxG, sl1'.ldN, hgc]
    refine WP.call (hS c (by simp [Nd.kids]) cc h1 nc) ?_
    rintro _ H1 ⟨x1, b, rfl, hb⟩
    exact WP.ret ⟨e1.trans x1, b, rfl, hb.trans nul_plus.symm⟩
  | rep a b c =>
    simp only [Nd.kind, Nd.st, Nd.lo, Nd.hi] at *
    obtain ⟨cc, rfl, nc⟩ := nvs1.one
    have hgc : gi [cc] (0 : Int) = cc := rfl
    simp -implicitDefEqProofs (disch := first | assumption | omega | (simp only [gL] <;> omega) | ((repeat (first | exact Ext.refl _ | assumption | apply Ext.app | apply Ext.mk | (refine Ext.setr ?_ (by (first | omega | (simp only [gL] <;> omega))) _))); done) | (simp only [gL, gA, ho5] <;> omega) | fail) only [gB, setAll, partL, fldV, reduceIte, Nat.reduceAdd, Nat.reduceMul, ho5]
    rw [← hh1, ← hn4]
    refine WP.congr (fun k => milestoneref5_Null_b1_eq tab k _ _ _ h1) ?_
    by_cases ha : a = 0
    · simp -implicitDefEqProofs (disch := first | assumption | omega | (simp only [gL] <;> omega) | ((repeat (first | exact Ext.refl _ | assumption | apply Ext.app | apply Ext.mk | (refine Ext.setr ?_ (by (first | omega | (simp only [gL] <;> omega))) _))); done) | (simp only [gL, gA, at1.fldA0, at1.ldfE] <;> omega) | fail) only [gB, setAll, partL, fldV, reduceIte, Nat.reduceAdd, Nat.reduceMul, at1.fldA0, at1.ldfE]
      exact run true ⟨fun _ => (nul_rep w1).2 (.inl ha), fun _ => rfl⟩
    · simp -implicitDefEqProofs (disch := first | assumption | omega | (simp only [gL] <;> omega) | ((repeat (first | exact Ext.refl _ | assumption | apply Ext.app | apply Ext.mk | (refine Ext.setr ?_ (by (first | omega | (simp only [gL] <;> omega))) _))); done) | (simp only [gL, gA, at1.fldA0, at1.ldfE, sl1'.idxG, sl1'.ldN, hgc] <;> omega) | fail) only [gB, setAll, partL, fldV, reduceIte, Nat.reduceAdd, Nat.reduceMul, at1.fldA0, at1.ldfE, sl1'.idxG, sl1'.ldN, hgc]
      refine WP.call (hS c (by simp [Nd.kids]) cc h1 nc) ?_
      rintro _ H1 ⟨x1, b, rfl, hb⟩
      exact WP.ret ⟨e1.trans x1, b, rfl, hb.trans ⟨fun q => (nul_rep w1).2 (.inr q), fun q => ((nul_rep w1).1 q).resolve_left ha⟩⟩
  | join l =>
    simp only [Nd.kind, Nd.st, Nd.lo, Nd.hi, Nd.kids] at *
    simp -implicitDefEqProofs (disch := first | assumption | omega | (simp only [gL] <;> omega) | ((repeat (first | exact Ext.refl _ | assumption | apply Ext.app | apply Ext.mk | (refine Ext.setr ?_ (by (first | omega | (simp only [gL] <;> omega))) _))); done) | (simp only [gL, gA, ho5] <;> omega) | fail) only [gB, setAll, partL, fldV, reduceIte, Nat.reduceAdd, Nat.reduceMul, ho5]
    rw [← hh1, ← hn4]
    refine WP.congr (fun k => milestoneref5_Null_b1_eq tab k _ _ _ h1) ?_
    simp -implicitDefEqProofs (disch := first | assumption | omega | (simp only [gL] <;> omega) | ((repeat (first | exact Ext.refl _ | assumption | apply Ext.app | apply Ext.mk | (refine Ext.setr ?_ (by (first | omega | (simp only [gL] <;> omega))) _))); done) | (simp only [gL, gA] <;> omega) | fail) only [gB, setAll, partL, fldV, reduceIte, Nat.reduceAdd, Nat.reduceMul]
    rw [show AV.int .i64 0 = I ((0 : Nat) : Int) from rfl]
    refine WP.ent (WP.mono (nul_l2 hS o4 sl1 nvs1 at1 l.length 0 h1 (by simp) e0 (by simp)) ?_) fun i => rfl
    rintro r h2 ⟨e2, b, rfl, hb⟩
    exact ⟨e1.trans e2, b, rfl, hb.trans (by simp only [R]; exact nul_join.symm)⟩
  | uni l =>
    simp only [Nd.kind, Nd.st, Nd.lo, Nd.hi, Nd.kids] at *
    simp -implicitDefEqProofs (disch := first | assumption | omega | (simp only [gL] <;> omega) | ((repeat (first | exact Ext.refl _ | assumption | apply Ext.app | apply Ext.mk | (refine Ext.setr ?_ (by (first | omega | (simp only [gL] <;> omega))) _))); done) | (simp only [gL, gA, ho5] <;> omega) | fail) only [gB, setAll, partL, fldV, reduceIte, Nat.reduceAdd, Nat.reduceMul, ho5]
    rw [← hh1, ← hn4]
    refine WP.congr (fun k => milestoneref5_Null_b1_eq tab k _ _ _ h1) ?_
    simp -implicitDefEqProofs (disch := first | assumption | omega | (simp only [gL] <;> omega) | ((repeat (first | exact Ext.refl _ | assumption | apply Ext.app | apply Ext.mk | (refine Ext.setr ?_ (by (first | omega | (simp only [gL] <;> omega))) _))); done) | (simp only [gL, gA] <;> omega) | fail) only [gB, setAll, partL, fldV, reduceIte, Nat.reduceAdd, Nat.reduceMul]
    rw [show AV.int .i64 0 = I ((0 : Nat) : Int) from rfl]
    refine WP.ent (WP.mono (nul_l3 hS o4 sl1 nvs1 at1 l.length 0 h1 (by simp) e0 (by simp)) ?_) fun i => rfl
    rintro r h2 ⟨e2, b, rfl, hb⟩
    exact ⟨e1.trans e2, b, rfl, hb.trans (by simp only [R]; exact RU_iff.symm)⟩
end Go.Gm.A5

set_option linter.unusedVariables false
set_option linter.unusedSimpArgs false
namespace Go.Gm.A5
open Go Go.Gm

/-- Words in a row of rows (X: rows that are still written to). -/
def WV (h : Heap) (rows : List AV) (ws : List (List Int)) (X : Nat → Prop) : Prop :=
  rows.length = ws.length ∧ ∀ (i : Nat) r w, rows[i]? = some r → ws[i]? = some w → Sl h 1 r (w.map encI) ∧ (r ≠ .nils → ¬ X r.obj)
theorem WV.frs {h h' : Heap} {rows : List AV} {ws : List (List Int)} {X X2 D : Nat → Prop} (a : WV h rows ws X) (f : FrS D h h') (hD : ∀ o, D o → X o) (hX : ∀ o, o < h.length → X2 o → X o) : WV h' rows ws X2 := by
  refine ⟨a.1, fun i r w h1 h2 => ?_⟩
  obtain ⟨k1, k2⟩ := a.2 i r w h1 h2
  exact ⟨Sl.frs k1 f fun q d => k2 q (hD _ d), fun q d => k2 q (hX _ (k1.objLt q) d)⟩
theorem WV.snoc {h : Heap} {rows : List AV} {ws : List (List Int)} {X : Nat → Prop} (a : WV h rows ws X) {r : AV} {w : List Int} (hr : Sl h 1 r (w.map encI)) (hX : r ≠ .nils → ¬ X r.obj) : WV h (rows ++ [r]) (ws ++ [w]) X := by
  refine ⟨by simp [a.1], fun i r' w' h1 h2 => ?_⟩
  have hl := a.1
  by_cases hi : i < rows.length
  · rw [List.getElem?_append_left hi] at h1
    rw [List.getElem?_append_left (by omega)] at h2
    exact a.2 i r' w' h1 h2
  · have : i = rows.length := by
      have := (List.getElem?_eq_some_iff.1 h1).1
      simp at this; omega
    subst this
    rw [List.getElem?_append_right (Nat.le_refl _)] at h1
    rw [hl, List.getElem?_append_right (Nat.le_refl _)] at h2
    simp at h1 h2
    subst h1 h2
    exact ⟨hr, hX⟩
theorem cloneI_spec {h : Heap} {s : AV} {xs : List (List AV)} (hs : Sl h 1 s xs) (hl : xs.length ≤ 10000000) :
    Tot tab f_slices_Clone_int [s] h fun r h' => Ext h h' ∧ Gr h.length h'.length h' 1 r xs := by
  refine WP.tot (fun k => (call_slices_Clone_int k _ h).trans (slices_Clone_int_eq tab k _ h)) ?_
  have hs' := hs
  rcases hs with ⟨rfl, rfl⟩ | ⟨o, off, lim, g, c, rfl, _⟩
  · simp -implicitDefEqProofs (disch := first | assumption | omega | (simp only [gL] <;> omega) | ((repeat (first | exact Ext.refl _ | assumption | apply Ext.app | apply Ext.mk | (refine Ext.setr ?_ (by (first | omega | (simp only [gL] <;> omega))) _))); done) | (simp only [gL, gA] <;> omega) | fail) only [gB, setAll, partL, fldV, reduceIte, Nat.reduceAdd, Nat.reduceMul]
    exact WP.ret ⟨Ext.refl _, Gr.nil ..⟩
  · obtain ⟨s', h', h1, h2, h3⟩ := clone_i (bytes := 8) hs' (by omega) (by omega) (by omega)
    rw [mkObj_eq] at h1
    simp -implicitDefEqProofs (disch := first | assumption | omega | (simp only [gL] <;> omega) | ((repeat (first | exact Ext.refl _ | assumption | apply Ext.app | apply Ext.mk | (refine Ext.setr ?_ (by (first | omega | (simp only [gL] <;> omega))) _))); done) | (simp only [gL, gA, h1] <;> omega) | fail) only [gB, setAll, partL, fldV, reduceIte, Nat.reduceAdd, Nat.reduceMul, h1]
    exact WP.ret ⟨h3, h2⟩
theorem cloneII_spec {h : Heap} {s : AV} {xs : List (List AV)} (hs : Sl h 1 s xs) (hl : xs.length ≤ 5000000) :
    Tot tab f_slices_Clone_int_int [s] h fun r h' => Ext h h' ∧ Gr h.length h'.length h' 1 r xs := by
  refine WP.tot (fun k => (call_slices_Clone_int_int k _ h).trans (slices_Clone_int_int_eq tab k _ h)) ?_
  have hs' := hs
  rcases hs with ⟨rfl, rfl⟩ | ⟨o, off, lim, g, c, rfl, _⟩
  · simp -implicitDefEqProofs (disch := first | assumption | omega | (simp only [gL] <;> omega) | ((repeat (first | exact Ext.refl _ | assumption | apply Ext.app | apply Ext.mk | (refine Ext.setr ?_ (by (first | omega | (simp only [gL] <;> omega))) _))); done) | (simp only [gL, gA] <;> omega) | fail) only [gB, setAll, partL, fldV, reduceIte, Nat.reduceAdd, Nat.reduceMul]
    exact WP.ret ⟨Ext.refl _, Gr.nil ..⟩
  · obtain ⟨s', h', h1, h2, h3⟩ := clone_i (bytes := 24) hs' (by omega) (by omega) (by omega)
    rw [mkObj_eq] at h1
    simp -implicitDefEqProofs (disch := first | assumption | omega | (simp only [gL] <;> omega) | ((repeat (first | exact Ext.refl _ | assumption | apply Ext.app | apply Ext.mk | (refine Ext.setr ?_ (by (first | omega | (simp only [gL] <;> omega))) _))); done) | (simp only [gL, gA, h1] <;> omega) | fail) only [gB, setAll, partL, fldV, reduceIte, Nat.reduceAdd, Nat.reduceMul, h1]
    exact WP.ret ⟨h3, h2⟩
/-- Every mode behind a word. -/
theorem words_l3 {n2 out t13 t14 t16 t17 t18 w : AV} {v : List Int} {Y : Nat → Prop} {Q : AV → Heap → Prop} {H0 : Heap} (hw : Sl H0 1 w (v.map encI)) (hv : v.length ≤ 1000) (hY : ∀ o, Y o → o < H0.length) {lg0 : Nat} {long0 : AV} (hlg0 : long0 ≠ .nils → lg0 < H0.length)
    (hwl : w ≠ .nils → long0 ≠ .nils → w.obj ≠ lg0) {ws0 : List (List Int)} (hws : ws0.length ≤ 100000)
    (hc : ∀ (long : AV) (lg : Nat) (rows : List AV) (H : Heap), Gr lg (lg + 1) H 1 long (rows.map enc1) → (long ≠ .nils → lg < H.length ∧ ((lg = lg0 ∧ long0 ≠ .nils) ∨ H0.length ≤ lg)) → WV H rows (ws0 ++ ([0, 1, 2, 3, 4].map fun (k : Int) => v ++ [k])) (fun o => Y o ∨ (long ≠ .nils ∧ o = lg)) → FrS (fun o => long0 ≠ .nils ∧ o = lg0) H0 H →
      WP (fun p : (Nat × Nat) × Nat => oa (binV .add .scalar t18 (.int .i64 1)) fun t42 => match_Words_l2 tab p.1.1 p.1.2 p.2 n2 out long t13 t14 t16 t17 t42 H) Q) :
    ∀ (d i : Nat) (long : AV) (lg : Nat) (rows : List AV) (H : Heap), i + d = 5 → Gr lg (lg + 1) H 1 long (rows.map enc1) → (long ≠ .nils → lg < H.length ∧ ((lg = lg0 ∧ long0 ≠ .nils) ∨ H0.length ≤ lg)) → WV H rows (ws0 ++ ([0, 1, 2, 3, 4].take i).map fun (k : Int) => v ++ [k]) (fun o => Y o ∨ (long ≠ .nils ∧ o = lg)) → FrS (fun o => long0 ≠ .nils ∧ o = lg0) H0 H →
      WP (fun p : ((Nat × Nat) × Nat) × Nat => match_Words_l3 tab p.1.1.1 p.1.1.2 p.1.2 p.2 n2 out long w t13 t14 t16 t17 t18 (I i) H) Q := by
  intro d
  induction d with
  | zero =>
    intro i long lg rows H h1 gl hl wv fr
    refine WP.rnd (fun i' j => match_Words_l3_eq tab i'.1.1 i'.1.2 i'.2 j n2 out long w t13 t14 t16 t17 t18 (I i) H) ?_
    simp -implicitDefEqProofs (disch := first | assumption | omega | (simp only [gL] <;> omega) | ((repeat (first | exact Ext.refl _ | assumption | apply Ext.app | apply Ext.mk | (refine Ext.setr ?_ (by (first | omega | (simp only [gL] <;> omega))) _))); done) | (simp only [gL, gA] <;> omega) | fail) only [gB, setAll, partL, fldV, reduceIte, Nat.reduceAdd, Nat.reduceMul]
    obtain rfl : i = 5 := by omega
    exact WP.lv (hc long lg rows H gl hl wv fr) fun i j => rfl
  | succ d ih =>
    intro i long lg rows H h1 gl hl wv fr
    refine WP.rnd (fun i' j => match_Words_l3_eq tab i'.1.1 i'.1.2 i'.2 j n2 out long w t13 t14 t16 t17 t18 (I i) H) ?_
    have hw' := Sl.frs hw fr fun q d => hwl q d.1 d.2
    have hfl := fr.len
    simp -implicitDefEqProofs (disch := first | assumption | omega | (simp only [gL] <;> omega) | ((repeat (first | exact Ext.refl _ | assumption | apply Ext.app | apply Ext.mk | (refine Ext.setr ?_ (by (first | omega | (simp only [gL] <;> omega))) _))); done) | (simp only [gL, gA] <;> omega) | fail) only [gB, setAll, partL, fldV, reduceIte, Nat.reduceAdd, Nat.reduceMul]
    refine WP.call (cloneI_spec hw' (by rw [List.length_map]; omega)) ?_
    rintro r H1 ⟨e1, g1⟩
    have hl1 := e1.len
    obtain ⟨s', H2, u1, u2, u3⟩ := g1.append1 (bytes := 8) (v := [I i]) rfl (by omega) (by omega) (by rw [List.length_map]; omega) hl1 (Nat.le_refl _)
    have hl2 := u3.len
    have u1' := u1
    rw [mkObj_eq] at u1'
    have e2 : Ext H H2 := u3.ext e1 (Nat.le_refl _)
    have us := u2.sl.one
    have ucl := u2.sl.cells
    have hrl : rows.length ≤ 100005 := by rw [wv.1]; simp; omega
    have e3 : Ext H (mkObj H2 [s']) := e2.trans (Ext.push H2 _)
    have hl3 : (mkObj H2 [s']).length = H2.length + 1 := by simp [mkObj]
    obtain ⟨long', H4, lg', m1, m2, m3, m4, m5⟩ := Gr.appQ (bytes := 24) (gl.ext e3) (fun q => by have := hl q; omega) (Gr.lit (sz := 1) (v := [s']) rfl).sl (by omega) (by omega) (by rw [List.length_map]; simp; omega)
    have hl4 := m4.len
    have m1' := m1
    rw [mkObj_eq] at m1'
    simp -implicitDefEqProofs (disch := first | assumption | omega | (simp only [gL] <;> omega) | ((repeat (first | exact Ext.refl _ | assumption | apply Ext.app | apply Ext.mk | (refine Ext.setr ?_ (by (first | omega | (simp only [gL] <;> omega))) _))); done) | (simp only [gL, gA, u1', us, ucl, m1'] <;> omega) | fail) only [gB, setAll, partL, fldV, reduceIte, Nat.reduceAdd, Nat.reduceMul, u1', us, ucl, m1']
    have hi5 : i < 5 := by omega
    have htk : ([0, 1, 2, 3, 4] : List Int).take (i + 1) = ([0, 1, 2, 3, 4] : List Int).take i ++ [(i : Int)] := by
      have : i = 0 ∨ i = 1 ∨ i = 2 ∨ i = 3 ∨ i = 4 := by omega
      rcases this with rfl | rfl | rfl | rfl | rfl <;> rfl
    refine ih (i + 1) long' lg' (rows ++ [s']) H4 (by omega) (m2.cong (by simp [enc1])) (fun q => ?_) ?_ ⟨by omega, fun o hD ho => ?_⟩
    · obtain ⟨q1, q2⟩ := m3 q
      refine ⟨q2, ?_⟩
      rcases q1 with ⟨q1, q3⟩ | q1
      · rw [q1]; exact (hl q3).2
      · exact .inr (by omega)
    · rw [htk, List.map_append, ← List.append_assoc]
      have hX2 : ∀ o, o < H.length → (Y o ∨ (long' ≠ .nils ∧ o = lg')) → Y o ∨ (long ≠ .nils ∧ o = lg) := by
        rintro o ho (q | ⟨q1, q2⟩)
        · exact .inl q
        · rcases (m3 q1).1 with ⟨q3, q4⟩ | q3
          · exact .inr ⟨q4, q2.trans q3⟩
          · omega
      have wv3 := wv.frs (D := fun _ => False) (X2 := fun o => Y o ∨ (long ≠ .nils ∧ o = lg)) (FrS.ofExt e3) (fun _ q => q.elim) (fun _ _ q => q)
      have hso : s' ≠ .nils → H.length ≤ s'.obj ∧ s'.obj < H2.length := fun q => ⟨(u2.objIn q).1, u2.sl.objLt q⟩
      refine (wv3.frs m4 (fun o q => .inr q) (fun o ho q => ?_)).snoc (w := v ++ [(i : Int)]) ?_ (fun q q2 => ?_)
      · rcases q with q | ⟨q1, q2⟩
        · exact .inl q
        · rcases (m3 q1).1 with ⟨q3, q4⟩ | q3
          · exact .inr ⟨q4, q2.trans q3⟩
          · omega
      · have := Sl.frs ((u2.sl).ext (Ext.push H2 _)) m4 (fun q d => by have := hso q; have := hl d.1; omega)
        exact this.map (by simp [encI])
      · have a1 := hso q
        rcases q2 with q2 | ⟨q2, q3⟩
        · have := hY _ q2; omega
        · rcases (m3 q2).1 with ⟨q4, q5⟩ | q4
          · have := hl q5; omega
          · omega
    · rw [m4.get (fun q => ?_) (by omega), (ext_iff.1 e3).2 o (by omega), fr.get hD ho]
      have := hl q.1
      rcases this.2 with q3 | q3
      · exact hD ⟨q3.2, q.2.trans q3.1⟩
      · omega
end Go.Gm.A5
