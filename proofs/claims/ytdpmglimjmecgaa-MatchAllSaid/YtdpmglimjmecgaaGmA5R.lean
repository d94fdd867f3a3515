/- A part of the proof: GmA5R: an abstract machine, what it does, and what the functions of the program come to on it. -/
import Derived.Test.YtdpmglimjmecgaaGmA5Q
set_option linter.unusedVariables false
set_option linter.unusedSimpArgs false
namespace Go.Gm.A5
open Go Go.Gm

theorem Gr.keeps {h h' : Heap} (e : Keeps h h') {lo hi sz : Nat} {s : AV} {xs : List (List AV)} (a : Gr lo hi h sz s xs) : Gr lo hi h' sz s xs := by
  rcases a with a | ⟨o, g, wg, cs, h1, h2, h3, h4, h5⟩
  · exact .inl a
  · exact .inr ⟨o, g, wg, cs, h1, h2, h3, e.cells _ _ h4, h5⟩
theorem Keeps.at {h h' : Heap} (e : Keeps h h') {p : AV} {cs : List AV} (a : At h p cs) : At h' p cs := by
  obtain ⟨o, off, hi, g, c, h1, h2, h3, h4⟩ := a
  exact ⟨o, off, hi, g, c, h1, h2, e.cells _ _ h3, h4⟩
/-- The matcher. -/
structure MV (h : Heap) (m sp sw : AV) (kk : Nat) (pt : List (Nd × List Int)) (w : List Int) : Prop where
  at_ : At h m [sp, sw, .map kk]
  pv : PV h sp pt
  wd : Sl h 1 sw (w.map encI)
  lw : w.length ≤ 900000
  lp : pt.length ≤ 900000
theorem MV.keeps {h h' : Heap} (e : Keeps h h') {m sp sw : AV} {kk : Nat} {pt : List (Nd × List Int)} {w : List Int} (a : MV h m sp sw kk pt w) : MV h' m sp sw kk pt w :=
  ⟨e.at a.at_, a.pv.keeps e, e.sl a.wd, a.lw, a.lp⟩
theorem MV.exm {k : Nat} {h h' : Heap} (e : ExM k h h') {m sp sw : AV} {kk : Nat} {pt : List (Nd × List Int)} {w : List Int} (a : MV h m sp sw kk pt w) : MV h' m sp sw kk pt w := a.keeps (.ofExM e)

section
variable {m sp sw : AV} {kk : Nat} {pt : List (Nd × List Int)} {w : List Int}
def EndsS (m sp sw : AV) (kk : Nat) (pt : List (Nd × List Int)) (w : List Int) (n : Nd) : Prop :=
  ∀ (k : Int) (i : Nat) (h : Heap) (X : Nat → Prop), MV h m sp sw kk pt w → KV h kk pt w X → (∀ o, X o → o < h.length) → Fl pt k n → i ≤ w.length →
    Tot tab f_match_matcher_ends [m, I k, I i] h fun r h' => ExM kk h h' ∧ KV h' kk pt w X ∧ r ≠ .nils ∧ ¬ X r.obj ∧ ∃ bs, Sl h' 1 r (bs.map encB) ∧ Is w bs (R w n i)
def StepS (m sp sw : AV) (kk : Nat) (pt : List (Nd × List Int)) (w : List Int) (n : Nd) : Prop :=
  ∀ (k : Int) (fr : AV) (fb : List Bool) (P : Nat → Prop) (h : Heap) (X : Nat → Prop), MV h m sp sw kk pt w → KV h kk pt w X → (∀ o, X o → o < h.length) → Fl pt k n → Sl h 1 fr (fb.map encB) → Is w fb P →
    Tot tab f_match_matcher_step [m, I k, fr] h fun r h' => ExM kk h h' ∧ KV h' kk pt w X ∧ r ≠ .nils ∧ ∃ bs, Gr h.length h'.length h' 1 r (bs.map encB) ∧ Is w bs fun j => ∃ i, P i ∧ R w n i j
def AgainS (m sp sw : AV) (kk : Nat) (pt : List (Nd × List Int)) (w : List Int) (n : Nd) : Prop :=
  ∀ (k : Int) (fr : AV) (fb : List Bool) (P : Nat → Prop) (h : Heap) (X : Nat → Prop), MV h m sp sw kk pt w → KV h kk pt w X → (∀ o, X o → o < h.length) → Fl pt k n → Sl h 1 fr (fb.map encB) → Is w fb P →
    Tot tab f_match_matcher_again [m, I k, fr] h fun r h' => ExM kk h h' ∧ KV h' kk pt w X ∧ r ≠ .nils ∧ ∃ bs, Gr h.length h'.length h' 1 r (bs.map encB) ∧ Is w bs fun j => ∃ i, P i ∧ Star (R w n) i j

/-- Places of one row laid to one's own. -/
theorem lay_spec {lo hi : Nat} {to r : AV} {a0 bs : List Bool} {H : Heap} {C D : Nat → Prop} (hw : w.length ≤ 900000) (ht : Gr lo hi H 1 to (a0.map encB)) (ha : Is w a0 C) (hr : Sl H 1 r (bs.map encB)) (hb : Is w bs D) (ho : r ≠ .nils → r.obj < lo ∨ hi ≤ r.obj) (hh : hi ≤ H.length) {Q : AV → Heap → Prop} {ι : Type} [Fuel ι] {K : ι → AV → Heap → Option (AV × Heap)}
    (hc : ∀ cur fl h', Is w cur (fun j => C j ∨ D j) → Flg a0 cur fl → Gr lo hi h' 1 to (cur.map encB) → Fr lo hi (mkObj H [r]) h' → WP (fun i => K i (.bool fl) h') Q) :
    WP (fun i => ob (evalFn tab (Fuel.k i) f_match_together [to, .sl H.length 0 1 1 none 0] (mkObj H [r])) (K i)) Q := by
  have e : Ext H (mkObj H [r]) := Ext.push H _
  refine WP.call (together_spec (L := w.length + 1) (ss := [(r, bs)]) (by omega) (by simp) ha.1 (ht.ext e) (Gr.lit (sz := 1) (v := [r]) rfl).sl (fun _ => .inr hh) (fun p hp => ?_)) ?_
  · have := List.mem_singleton.1 hp
    subst this
    exact ⟨hb.1, hr.ext e, ho⟩
  · rintro _ h' ⟨cur, fl, rfl, k1, k2, k3, k4, k5⟩
    refine hc cur fl h' ⟨k1, fun j => ?_⟩ k3 k4 k5
    rw [k2 j, ha.2 j]
    simp only [List.mem_singleton, exists_eq_left, hb.2 j]

theorem step_l1 {n : Nd} (he : EndsS m sp sw kk pt w n) {k : Int} {fr out : AV} {fb : List Bool} {P : Nat → Prop} {h : Heap} {X : Nat → Prop} {lo hi : Nat} (mv : MV h m sp sw kk pt w) (hX : ∀ o, X o → o < h.length) (hf : Fl pt k n) (hs : Sl h 1 fr (fb.map encB)) (hP : Is w fb P) (hlo : h.length ≤ lo) (hout : out ≠ .nils) :
    ∀ (d i : Nat) (cur : List Bool) (H : Heap), i + d = w.length + 1 → ExM kk h H → hi ≤ H.length → lo ≤ hi → KV H kk pt w (fun o => X o ∨ (lo ≤ o ∧ o < hi)) → Gr lo hi H 1 out (cur.map encB) → Is w cur (fun j => ∃ i', i' < i ∧ P i' ∧ R w n i' j) →
    WP (fun p : Nat × Nat => match_matcher_step_l1 tab p.1 p.2 m (I k) out fr (I (w.length + 1 : Nat)) (I i) H) fun r h' => ExM kk h h' ∧ KV h' kk pt w X ∧ r ≠ .nils ∧ ∃ bs, Gr lo h'.length h' 1 r (bs.map encB) ∧ Is w bs fun j => ∃ i, P i ∧ R w n i j := by
  have hlw := mv.lw
  intro d
  induction d with
  | zero =>
    intro i cur H h1 ex hh hlh kv gr is
    refine WP.rnd (fun i' j => match_matcher_step_l1_eq tab i' j m (I k) out fr (I (w.length + 1 : Nat)) (I i) H) ?_
    simp -implicitDefEqProofs (disch := first | assumption | omega | (simp -implicitDefEqProofs only [gL] <;> omega) | ((repeat (first | exact Ext.refl _ | assumption | apply Ext.app | apply Ext.mk | (refine Ext.setr ?_ (by (first | omega | (simp -implicitDefEqProofs only [gL] <;> omega))) _))); done) | (simp -implicitDefEqProofs only [gL, gA] <;> omega) | fail) only [gB, setAll, partL, fldV, reduceIte, Nat.reduceAdd, Nat.reduceMul]
    refine WP.lv (WP.ret ⟨ex, kv.more fun o q => .inl (.inl q), hout, cur, gr.mono (Nat.le_refl _) hh, is.cong fun j => ⟨fun ⟨i', _, q⟩ => ⟨i', q⟩, fun ⟨i', q⟩ => ⟨i', ?_, q⟩⟩⟩) fun i j => rfl
    have := hP.le q.1
    omega
  | succ d ih =>
    intro i cur H h1 ex hh hlh kv gr is
    refine WP.rnd (fun i' j => match_matcher_step_l1_eq tab i' j m (I k) out fr (I (w.length + 1 : Nat)) (I i) H) ?_
    have hs' := hs.exm ex
    have e0 := Ext.refl H
    have hfl := hP.1
    obtain ⟨v, hv⟩ : ∃ v, gi fb i = v := ⟨_, rfl⟩
    have hvP : v = true ↔ P i := by rw [← hv]; exact hP.2 i
    cases v with
    | false =>
      simp -implicitDefEqProofs (disch := first | assumption | omega | (simp -implicitDefEqProofs only [gL] <;> omega) | ((repeat (first | exact Ext.refl _ | assumption | apply Ext.app | apply Ext.mk | (refine Ext.setr ?_ (by (first | omega | (simp -implicitDefEqProofs only [gL] <;> omega))) _))); done) | (simp -implicitDefEqProofs only [gL, gA, hs'.idxG, hs'.ld0, encB, hv] <;> omega) | fail) only [gB, setAll, partL, fldV, reduceIte, Nat.reduceAdd, Nat.reduceMul, hs'.idxG, hs'.ld0, encB, hv]
      refine ih (i + 1) cur H (by omega) ex hh hlh kv gr (is.cong fun j => ⟨fun ⟨i', q, r⟩ => ⟨i', by omega, r⟩, fun ⟨i', q, r⟩ => ⟨i', ?_, r⟩⟩)
      by_cases hi : i' = i
      · subst hi; have := hvP.2 r.1; cases this
      · omega
    | true =>
      simp -implicitDefEqProofs (disch := first | assumption | omega | (simp -implicitDefEqProofs only [gL] <;> omega) | ((repeat (first | exact Ext.refl _ | assumption | apply Ext.app | apply Ext.mk | (refine Ext.setr ?_ (by (first | omega | (simp -implicitDefEqProofs only [gL] <;> omega))) _))); done) | (simp -implicitDefEqProofs only [gL, gA, hs'.idxG, hs'.ld0, encB, hv] <;> omega) | fail) only [gB, setAll, partL, fldV, reduceIte, Nat.reduceAdd, Nat.reduceMul, hs'.idxG, hs'.ld0, encB, hv]
      have hlen := ex.len
      refine WP.call (he k i H (fun o => X o ∨ (lo ≤ o ∧ o < hi)) (mv.exm ex) kv (fun o q => by rcases q with q | q; have := hX o q; omega; omega) hf (by omega)) ?_
      rintro r H1 ⟨x1, kv1, r0, rX, bs, rs, ri⟩
      have hl1 := x1.len
      simp -implicitDefEqProofs (disch := first | assumption | omega | (simp -implicitDefEqProofs only [gL] <;> omega) | ((repeat (first | exact Ext.refl _ | assumption | apply Ext.app | apply Ext.mk | (refine Ext.setr ?_ (by (first | omega | (simp -implicitDefEqProofs only [gL] <;> omega))) _))); done) | (simp -implicitDefEqProofs only [gL, gA, rs.one, rs.cells] <;> omega) | fail) only [gB, setAll, partL, fldV, reduceIte, Nat.reduceAdd, Nat.reduceMul, rs.one, rs.cells]
      rw [← mkObj_eq]
      refine lay_spec hlw (gr.exm x1) is rs ri (fun _ => by omega) (by omega) ?_
      intro cur' fl H2 c1 c2 c3 c4
      have hl2 := c4.len
      have e1 : Ext H1 (mkObj H1 [r]) := Ext.push H1 _
      have hl3 := e1.len
      have xx := ((ex.trans x1).ext e1).fr c4 hlo
      refine ih (i + 1) cur' H2 (by omega) xx (by omega) hlh ((kv1.ext e1).fr c4 (fun o q1 q2 => .inr ⟨q1, q2⟩) (.inl (by have := ex.lt; omega))) c3 (c1.cong fun j => ⟨?_, ?_⟩)
      · rintro (⟨i', q, r⟩ | q)
        · exact ⟨i', by omega, r⟩
        · exact ⟨i, by omega, hvP.1 rfl, q⟩
      · rintro ⟨i', q, r⟩
        by_cases hi : i' = i
        · subst hi; exact .inr r.2
        · exact .inl ⟨i', by omega, r⟩
theorem step_spec {n : Nd} (he : EndsS m sp sw kk pt w n) : StepS m sp sw kk pt w n := by
  intro k fr fb P h X mv kv hX hf hs hP
  refine WP.tot (fun k' => (call_match_matcher_step k' _ _ _ h).trans (match_matcher_step_eq tab k' _ _ _ h)) ?_
  have hlw := mv.lw
  refine WP.call (none_spec mv.at_ mv.wd (by omega)) ?_
  rintro out H ⟨e, o0, gr⟩
  have hfl := hP.1
  have hle := e.len
  obtain ⟨es, hes⟩ := kv.isM
  have hs' := hs.ext e
  simp -implicitDefEqProofs (disch := first | assumption | omega | (simp -implicitDefEqProofs only [gL] <;> omega) | ((repeat (first | exact Ext.refl _ | assumption | apply Ext.app | apply Ext.mk | (refine Ext.setr ?_ (by (first | omega | (simp -implicitDefEqProofs only [gL] <;> omega))) _))); done) | (simp -implicitDefEqProofs only [gL, gA, hs'.lenG, hfl] <;> omega) | fail) only [gB, setAll, partL, fldV, reduceIte, Nat.reduceAdd, Nat.reduceMul, hs'.lenG, hfl]
  rw [show ((0 : Int)) = ((0 : Nat) : Int) from rfl]
  refine WP.ent (step_l1 (lo := h.length) (hi := H.length) he mv hX hf hs hP (Nat.le_refl _) o0 (w.length + 1) 0 _ H (by omega) (ExM.ofExt hes e) (Nat.le_refl _) hle ((kv.more (fun o q => ?_)).ext e) gr (Is.none.cong fun j => ⟨fun q => q.elim, fun ⟨i', q, _⟩ => by omega⟩)) fun i => rfl
  rcases q with q | q
  · exact .inl q
  · exact .inr q.1
end
end Go.Gm.A5
