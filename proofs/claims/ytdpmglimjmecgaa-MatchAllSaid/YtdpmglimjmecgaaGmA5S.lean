/- A part of the proof: GmA5S: an abstract machine, what it does, and what the functions of the program come to on it. -/
import Derived.Test.YtdpmglimjmecgaaGmA5R
set_option linter.unusedVariables false
set_option linter.unusedSimpArgs false
namespace Go.Gm.A5
open Go Go.Gm

section
variable {m sp sw : AV} {kk : Nat} {pt : List (Nd × List Int)} {w : List Int}

theorem again_l1 {n : Nd} (hS : StepS m sp sw kk pt w n) {k : Int} {out : AV} {P : Nat → Prop} {h : Heap} {X : Nat → Prop} {lo hi : Nat} (mv : MV h m sp sw kk pt w) (hX : ∀ o, X o → o < h.length) (hf : Fl pt k n) (hlo : h.length ≤ lo) (hout : out ≠ .nils) :
    ∀ (d : Nat) (cur : List Bool) (C : Nat → Prop) (H : Heap), cntT cur + d = w.length + 1 → ExM kk h H → hi ≤ H.length → lo ≤ hi → KV H kk pt w (fun o => X o ∨ (lo ≤ o ∧ o < hi)) → Gr lo hi H 1 out (cur.map encB) → Is w cur C → (∀ j, P j → C j) → (∀ j, C j → ∃ i, P i ∧ Star (R w n) i j) →
    WP (fun p : Nat × Nat => match_matcher_again_l1 tab p.1 p.2 m (I k) out H) fun r h' => ExM kk h h' ∧ KV h' kk pt w X ∧ r ≠ .nils ∧ ∃ bs, Gr lo h'.length h' 1 r (bs.map encB) ∧ Is w bs fun j => ∃ i, P i ∧ Star (R w n) i j := by
  have hlw := mv.lw
  intro d
  induction d using Nat.strongRecOn with
  | _ d ih =>
    intro cur C H h1 ex hh hlh kv gr is hPC hCP
    refine WP.rnd (fun i' j => match_matcher_again_l1_eq tab i' j m (I k) out H) ?_
    have hlen := ex.len
    refine WP.call (hS k out cur C H (fun o => X o ∨ (lo ≤ o ∧ o < hi)) (mv.exm ex) kv (fun o q => by rcases q with q | q; have := hX o q; omega; omega) hf gr.sl is) ?_
    rintro r H1 ⟨x1, kv1, r0, bs, rs, ri⟩
    have hl1 := x1.len
    have hro := rs.objIn r0
    simp -implicitDefEqProofs (disch := first | assumption | omega | (simp -implicitDefEqProofs only [gL] <;> omega) | ((repeat (first | exact Ext.refl _ | assumption | apply Ext.app | apply Ext.mk | (refine Ext.setr ?_ (by (first | omega | (simp -implicitDefEqProofs only [gL] <;> omega))) _))); done) | (simp -implicitDefEqProofs only [gL, gA, rs.sl.one, rs.sl.cells] <;> omega) | fail) only [gB, setAll, partL, fldV, reduceIte, Nat.reduceAdd, Nat.reduceMul, rs.sl.one, rs.sl.cells]
    rw [← mkObj_eq]
    refine lay_spec hlw (gr.exm x1) is rs.sl ri (fun _ => by omega) (by omega) ?_
    intro cur' fl H2 c1 c2 c3 c4
    have hl2 := c4.len
    have e1 : Ext H1 (mkObj H1 [r]) := Ext.push H1 _
    have hl3 := e1.len
    have xx := ((ex.trans x1).ext e1).fr c4 hlo
    have kv2 := (kv1.ext e1).fr c4 (fun o q1 q2 => .inr ⟨q1, q2⟩) (.inl (by have := ex.lt; omega))
    have hCP' : ∀ j, (C j ∨ ∃ i, C i ∧ R w n i j) → ∃ i, P i ∧ Star (R w n) i j := by
      rintro j (q | ⟨i, q, q2⟩)
      · exact hCP j q
      · obtain ⟨i0, q3, q4⟩ := hCP i q
        exact ⟨i0, q3, .tail q4 q2⟩
    cases fl with
    | true =>
      simp -implicitDefEqProofs (disch := first | assumption | omega | (simp -implicitDefEqProofs only [gL] <;> omega) | ((repeat (first | exact Ext.refl _ | assumption | apply Ext.app | apply Ext.mk | (refine Ext.setr ?_ (by (first | omega | (simp -implicitDefEqProofs only [gL] <;> omega))) _))); done) | (simp -implicitDefEqProofs only [gL, gA] <;> omega) | fail) only [gB, setAll, partL, fldV, reduceIte, Nat.reduceAdd, Nat.reduceMul]
      have h3 := c2.1 rfl
      have h4 := cntT_le cur'
      have h5 := c1.1
      exact ih (w.length + 1 - cntT cur') (by omega) cur' _ H2 (by omega) xx (by omega) hlh kv2 c3 c1 (fun j q => .inl (hPC j q)) hCP'
    | false =>
      simp -implicitDefEqProofs (disch := first | assumption | omega | (simp -implicitDefEqProofs only [gL] <;> omega) | ((repeat (first | exact Ext.refl _ | assumption | apply Ext.app | apply Ext.mk | (refine Ext.setr ?_ (by (first | omega | (simp -implicitDefEqProofs only [gL] <;> omega))) _))); done) | (simp -implicitDefEqProofs only [gL, gA] <;> omega) | fail) only [gB, setAll, partL, fldV, reduceIte, Nat.reduceAdd, Nat.reduceMul]
      have h3 := c2.2 rfl
      subst h3
      refine WP.lv (WP.ret ⟨xx, kv2.more fun o q => .inl (.inl q), hout, cur', c3.mono (Nat.le_refl _) (by omega), is.cong fun j => ⟨hCP j, fun ⟨i, q1, q2⟩ => ?_⟩⟩) fun i j => rfl
      refine q2.inv (P := C) (fun a b ha hb => ?_) (hPC i q1)
      exact (is.2 b).1 ((c1.2 b).2 (.inr ⟨a, ha, hb⟩))
theorem again_spec {n : Nd} (hS : StepS m sp sw kk pt w n) : AgainS m sp sw kk pt w n := by
  intro k fr fb P h X mv kv hX hf hs hP
  refine WP.tot (fun k' => (call_match_matcher_again k' _ _ _ h).trans (match_matcher_again_eq tab k' _ _ _ h)) ?_
  have hlw := mv.lw
  have hfl := hP.1
  refine WP.call (cloneB_spec hs (by rw [List.length_map]; omega) (fun q => by rw [List.map_eq_nil_iff] at q; rw [q] at hfl; simp at hfl)) ?_
  rintro out H ⟨e, gr, o0⟩
  have hle := e.len
  obtain ⟨es, hes⟩ := kv.isM
  have h4 := cntT_le fb
  refine WP.ent (again_l1 (lo := h.length) (hi := H.length) hS mv hX hf (Nat.le_refl _) o0 (w.length + 1 - cntT fb) fb P H (by omega) (ExM.ofExt hes e) (Nat.le_refl _) hle ((kv.more (fun o q => ?_)).ext e) gr hP (fun j q => q) (fun j q => ⟨j, q, .refl j⟩)) fun i => rfl
  rcases q with q | q
  · exact .inl q
  · exact .inr q.1

/-- What ends is known, and told. -/
theorem b1_spec {n : Nd} {k : Int} {i : Nat} {h H : Heap} {X : Nat → Prop} (mv : MV h m sp sw kk pt w) (ex : ExM kk h H) (kv : KV H kk pt w X) (hf : Fl pt k n) (hi : i ≤ w.length) {out : AV} {bs : List Bool} (hs : Sl H 1 out (bs.map encB)) (hb : Is w bs (R w n i)) (h0 : out ≠ .nils) (hX : ¬ X out.obj) {ι : Type} [Fuel ι] :
    WP (fun p : ι => match_matcher_ends_b1 tab (Fuel.k p) m (I k) (I i) out H) fun r h' => ExM kk h h' ∧ KV h' kk pt w X ∧ r ≠ .nils ∧ ¬ X r.obj ∧ ∃ bs, Sl h' 1 r (bs.map encB) ∧ Is w bs (R w n i) := by
  refine WP.congr (fun p => match_matcher_ends_b1_eq tab _ m (I k) (I i) out H) ?_
  have hm := (mv.exm ex).at_
  obtain ⟨es, hes⟩ := kv.isM
  have hlw := mv.lw
  have hk : 0 ≤ k ∧ k < 1000000 := by
    cases hf with
    | mk h1 h2 _ _ =>
      have := (List.getElem?_eq_some_iff.1 h2).1
      have := mv.lp
      omega
  have hfit : fitK KS2 (.agg [I k, I i]) = true := by
    simp only [fitK, fitL, fit_i (n := k) (by omega) (by omega), fit_i (n := (i : Int)) (by omega) (by omega), Bool.and_self]
  have e0 := Ext.refl H
  simp -implicitDefEqProofs (disch := first | assumption | omega | (simp -implicitDefEqProofs only [gL] <;> omega) | ((repeat (first | exact Ext.refl _ | assumption | apply Ext.app | apply Ext.mk | (refine Ext.setr ?_ (by (first | omega | (simp -implicitDefEqProofs only [gL] <;> omega))) _))); done) | (simp -implicitDefEqProofs only [gL, gA, hm.nil, hm.fldA0, hm.ldfE, updM_i hes hfit] <;> omega) | fail) only [gB, setAll, partL, fldV, reduceIte, Nat.reduceAdd, Nat.reduceMul, hm.nil, hm.fldA0, hm.ldfE, updM_i hes hfit]
  refine WP.ret ⟨ex.trans (ExM.put hes _), kv.put hs hf (by rw [show ((i : Int)).toNat = i from rfl]; exact hb) hX h0 hes, h0, hX, bs, (Keeps.ofExM (ExM.put hes _)).sl hs, hb⟩
end
end Go.Gm.A5
