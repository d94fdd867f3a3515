/- A part of the proof: GmA5U: an abstract machine, what it does, and what the functions of the program come to on it. -/
import Derived.Test.YtdpmglimjmecgaaGmA5S
set_option linter.unusedVariables false
set_option linter.unusedSimpArgs false
namespace Go.Gm.A5
open Go Go.Gm

section
variable {m sp sw : AV} {kk : Nat} {pt : List (Nd × List Int)} {w : List Int}
/-- What a part's call promises. -/
abbrev EQ (kk : Nat) (pt : List (Nd × List Int)) (w : List Int) (X : Nat → Prop) (n : Nd) (i : Nat) (h : Heap) (r : AV) (h' : Heap) : Prop :=
  ExM kk h h' ∧ KV h' kk pt w X ∧ r ≠ .nils ∧ ¬ X r.obj ∧ ∃ bs, Sl h' 1 r (bs.map encB) ∧ Is w bs (R w n i)
theorem join_l2 {l : List Nd} {k : Int} {i : Nat} {h : Heap} {X X' : Nat → Prop} (mv : MV h m sp sw kk pt w) (hX : ∀ o, X o → o < h.length) (hXX : ∀ o, X o → X' o) (hf : Fl pt k (.join l)) (hi : i ≤ w.length)
    {sk : AV} {ks : List Int} (hks : ks.length = l.length) (hl : l.length ≤ 1000) (hsk : Sl h 1 sk (ks.map encI)) (hk : ∀ (j : Nat) (c : Nd), l[j]? = some c → Fl pt (gi ks j) c) (hS : ∀ c ∈ l, StepS m sp sw kk pt w c) :
    ∀ (d t : Nat) (here : AV) (cur : List Bool) (H : Heap), t + d = l.length → ExM kk h H → KV H kk pt w X' → (∀ o, X' o → o < H.length) → Sl H 1 here (cur.map encB) → here ≠ .nils → ¬ X here.obj → Is w cur (RJ w (l.take t) i) →
    WP (fun p : Nat × Nat => match_matcher_ends_l2 tab p.1 p.2 m (I k) (I i) (.fn f_match_matcher_step [m] []) here sk (I l.length) (I t) H) (EQ kk pt w X (.join l) i h) := by
  have hlw := mv.lw
  intro d
  induction d with
  | zero =>
    intro t here cur H h1 ex kv hb hs h0 hx is
    refine WP.rnd (fun i' j => match_matcher_ends_l2_eq tab i' j m (I k) (I i) _ here sk (I l.length) (I t) H) ?_
    simp -implicitDefEqProofs (disch := first | assumption | omega | (simp -implicitDefEqProofs only [gL] <;> omega) | ((repeat (first | exact Ext.refl _ | assumption | apply Ext.app | apply Ext.mk | (refine Ext.setr ?_ (by (first | omega | (simp -implicitDefEqProofs only [gL] <;> omega))) _))); done) | (simp -implicitDefEqProofs only [gL, gA] <;> omega) | fail) only [gB, setAll, partL, fldV, reduceIte, Nat.reduceAdd, Nat.reduceMul]
    refine WP.lv (b1_spec mv ex (kv.more fun o q => .inl (hXX o q)) hf hi hs (is.cong fun j => ?_) h0 hx) fun i j => rfl
    rw [List.take_of_length_le (by omega)]; simp only [R]
  | succ d ih =>
    intro t here cur H h1 ex kv hb hs h0 hx is
    refine WP.rnd (fun i' j => match_matcher_ends_l2_eq tab i' j m (I k) (I i) _ here sk (I l.length) (I t) H) ?_
    have hsk' := hsk.exm ex
    have e0 := Ext.refl H
    have htl : t < l.length := by omega
    have hlt : l[t]? = some l[t] := List.getElem?_eq_getElem htl
    simp -implicitDefEqProofs (disch := first | assumption | omega | (simp -implicitDefEqProofs only [gL] <;> omega) | ((repeat (first | exact Ext.refl _ | assumption | apply Ext.app | apply Ext.mk | (refine Ext.setr ?_ (by (first | omega | (simp -implicitDefEqProofs only [gL] <;> omega))) _))); done) | (simp -implicitDefEqProofs only [gL, gA, hsk'.idxG, hsk'.ld0, encI, List.cons_append] <;> omega) | fail) only [gB, setAll, partL, fldV, reduceIte, Nat.reduceAdd, Nat.reduceMul, hsk'.idxG, hsk'.ld0, encI, List.cons_append]
    have hlen := ex.len
    refine WP.call (hS l[t] (List.getElem_mem htl) _ here cur _ H X' (mv.exm ex) kv hb (hk t _ hlt) hs is) ?_
    rintro r H1 ⟨x1, kv1, r0, bs, rs, ri⟩
    have hl1 := x1.len
    have hro := rs.objIn r0
    refine ih (t + 1) r bs H1 (by omega) (ex.trans x1) kv1 (fun o q => by have := hb o q; omega) rs.sl r0 (fun q => by have := hX _ q; omega) (ri.cong fun j => ?_)
    rw [List.take_add_one, hlt]
    exact RJ_snoc.symm
theorem uni_l3 {l : List Nd} {k : Int} {i : Nat} {h : Heap} {X X' : Nat → Prop} {lo hi : Nat} (mv : MV h m sp sw kk pt w) (hX : ∀ o, X o → o < h.length) (hXX : ∀ o, X o → X' o) (hlo : h.length ≤ lo) (hout : ∀ o, lo ≤ o → o < hi → X' o) (hf : Fl pt k (.uni l)) (hi' : i ≤ w.length)
    {sk : AV} {ks : List Int} (hks : ks.length = l.length) (hl : l.length ≤ 1000) (hsk : Sl h 1 sk (ks.map encI)) (hk : ∀ (j : Nat) (c : Nd), l[j]? = some c → Fl pt (gi ks j) c) (hS : ∀ c ∈ l, StepS m sp sw kk pt w c) {here out : AV} {hb : List Bool} (h0 : out ≠ .nils) (hbi : Is w hb fun j => j = i) (hho : here ≠ .nils → here.obj < lo ∨ hi ≤ here.obj) :
    ∀ (d t : Nat) (cur : List Bool) (H : Heap), t + d = l.length → ExM kk h H → hi ≤ H.length → KV H kk pt w X' → (∀ o, X' o → o < H.length) → Sl H 1 here (hb.map encB) → Gr lo hi H 1 out (cur.map encB) → Is w cur (RU w (l.take t) i) →
    WP (fun p : Nat × Nat => match_matcher_ends_l3 tab p.1 p.2 m (I k) (I i) (.fn f_match_matcher_step [m] []) out here sk (I l.length) (I t) H) (EQ kk pt w X (.uni l) i h) := by
  have hlw := mv.lw
  intro d
  induction d with
  | zero =>
    intro t cur H h1 ex hh kv hb' hs gr is
    refine WP.rnd (fun i' j => match_matcher_ends_l3_eq tab i' j m (I k) (I i) _ out here sk (I l.length) (I t) H) ?_
    simp -implicitDefEqProofs (disch := first | assumption | omega | (simp -implicitDefEqProofs only [gL] <;> omega) | ((repeat (first | exact Ext.refl _ | assumption | apply Ext.app | apply Ext.mk | (refine Ext.setr ?_ (by (first | omega | (simp -implicitDefEqProofs only [gL] <;> omega))) _))); done) | (simp -implicitDefEqProofs only [gL, gA] <;> omega) | fail) only [gB, setAll, partL, fldV, reduceIte, Nat.reduceAdd, Nat.reduceMul]
    refine WP.lv (b1_spec mv ex (kv.more fun o q => .inl (hXX o q)) hf hi' gr.sl (is.cong fun j => ?_) h0 (fun q => by have := hX _ q; have := gr.objIn h0; omega)) fun i j => rfl
    rw [List.take_of_length_le (by omega)]; simp only [R]
  | succ d ih =>
    intro t cur H h1 ex hh kv hb' hs gr is
    refine WP.rnd (fun i' j => match_matcher_ends_l3_eq tab i' j m (I k) (I i) _ out here sk (I l.length) (I t) H) ?_
    have hsk' := hsk.exm ex
    have e0 := Ext.refl H
    have htl : t < l.length := by omega
    have hlt : l[t]? = some l[t] := List.getElem?_eq_getElem htl
    simp -implicitDefEqProofs (disch := first | assumption | omega | (simp -implicitDefEqProofs only [gL] <;> omega) | ((repeat (first | exact Ext.refl _ | assumption | apply Ext.app | apply Ext.mk | (refine Ext.setr ?_ (by (first | omega | (simp -implicitDefEqProofs only [gL] <;> omega))) _))); done) | (simp -implicitDefEqProofs only [gL, gA, hsk'.idxG, hsk'.ld0, encI, List.cons_append] <;> omega) | fail) only [gB, setAll, partL, fldV, reduceIte, Nat.reduceAdd, Nat.reduceMul, hsk'.idxG, hsk'.ld0, encI, List.cons_append]
    have hlen := ex.len
    refine WP.call (hS l[t] (List.getElem_mem htl) _ here hb _ H X' (mv.exm ex) kv hb' (hk t _ hlt) hs hbi) ?_
    rintro r H1 ⟨x1, kv1, r0, bs, rs, ri⟩
    have hl1 := x1.len
    have hro := rs.objIn r0
    simp -implicitDefEqProofs (disch := first | assumption | omega | (simp -implicitDefEqProofs only [gL] <;> omega) | ((repeat (first | exact Ext.refl _ | assumption | apply Ext.app | apply Ext.mk | (refine Ext.setr ?_ (by (first | omega | (simp -implicitDefEqProofs only [gL] <;> omega))) _))); done) | (simp -implicitDefEqProofs only [gL, gA, rs.sl.one, rs.sl.cells] <;> omega) | fail) only [gB, setAll, partL, fldV, reduceIte, Nat.reduceAdd, Nat.reduceMul, rs.sl.one, rs.sl.cells]
    rw [← mkObj_eq]
    refine lay_spec hlw (gr.exm x1) is rs.sl ri (fun _ => by omega) (by omega) ?_
    intro cur' fl H2 c1 c2 c3 c4
    have hl2 := c4.len
    have e1 : Ext H1 (mkObj H1 [r]) := Ext.push H1 _
    have hl3 := e1.len
    have xx := ((ex.trans x1).ext e1).fr c4 hlo
    have hs2 := ((hs.exm x1).ext e1).fr c4 hho
    have hll := ex.lt
    refine ih (t + 1) cur' H2 (by omega) xx (by omega) ((kv1.ext e1).fr c4 hout (.inl (by omega))) (fun o q => by have := hb' o q; omega) hs2 c3 (c1.cong fun j => ?_)
    rw [List.take_add_one, hlt]
    simp only [RU_iff, List.mem_append, Option.toList_some, List.mem_singleton, exists_eq_left]
    constructor
    · rintro (⟨c, q1, q2⟩ | q)
      · exact ⟨c, .inl q1, q2⟩
      · exact ⟨_, .inr rfl, q⟩
    · rintro ⟨c, q1 | q1, q2⟩
      · exact .inl ⟨c, q1, q2⟩
      · subst q1; exact .inr q2
theorem rep_l4 {a b : Nat} {c : Nd} {k : Int} {i : Nat} {h : Heap} {X X' : Nat → Prop} {lo hi : Nat} (mv : MV h m sp sw kk pt w) (hX : ∀ o, X o → o < h.length) (hXX : ∀ o, X o → X' o) (hlo : h.length ≤ lo) (hlh : lo ≤ hi) (hout : ∀ o, lo ≤ o → o < hi → X' o) (hf : Fl pt k (.rep a b c)) (hi' : i ≤ w.length) (ha : a ≤ 100) (hbb : b ≤ 100)
    {sk sl : AV} {ks : List Int} (hks : ks.length = 1) (hsk : Sl h 1 sk (ks.map encI)) (hk : Fl pt (gi ks 0) c) (hS : StepS m sp sw kk pt w c) {out : AV} (h0 : out ≠ .nils) {xo : Nat} (hxo : h.length ≤ xo) (hxl : xo < lo) :
    ∀ (d t : Nat) (here : AV) (cur hb : List Bool) (H : Heap), t + d = b + 1 → ExM kk h H → hi ≤ H.length → KV H kk pt w X' → (∀ o, X' o → o < H.length) → H[xo]? = some (.cells ⟨[I 9, I 0, I a, I b, sl, sk], 0, 0, false⟩) → Sl H 1 here (hb.map encB) → (here ≠ .nils → here.obj < lo ∨ hi ≤ here.obj) → Gr lo hi H 1 out (cur.map encB) → Is w cur (fun j => ∃ t', t' < t ∧ a ≤ t' ∧ t' ≤ b ∧ Pow (R w c) t' i j) → (t ≤ b → Is w hb (Pow (R w c) t i)) →
    WP (fun p : Nat × Nat => match_matcher_ends_l4 tab p.1 p.2 m (I k) (I i) (.ptr xo 0 6 0) (.fn f_match_matcher_step [m] []) out here (I (b + 1 : Nat)) (I t) H) (EQ kk pt w X (.rep a b c) i h) := by
  have hlw := mv.lw
  intro d
  induction d with
  | zero =>
    intro t here cur hb H h1 ex hh kv hbd hx hs hho gr is hp
    refine WP.rnd (fun i' j => match_matcher_ends_l4_eq tab i' j m (I k) (I i) _ _ out here (I (b + 1 : Nat)) (I t) H) ?_
    simp -implicitDefEqProofs (disch := first | assumption | omega | (simp -implicitDefEqProofs only [gL] <;> omega) | ((repeat (first | exact Ext.refl _ | assumption | apply Ext.app | apply Ext.mk | (refine Ext.setr ?_ (by (first | omega | (simp -implicitDefEqProofs only [gL] <;> omega))) _))); done) | (simp -implicitDefEqProofs only [gL, gA] <;> omega) | fail) only [gB, setAll, partL, fldV, reduceIte, Nat.reduceAdd, Nat.reduceMul]
    refine WP.lv (b1_spec mv ex (kv.more fun o q => .inl (hXX o q)) hf hi' gr.sl (is.cong fun j => ?_) h0 (fun q => by have := hX _ q; have := gr.objIn h0; omega)) fun i j => rfl
    simp only [R]
    exact ⟨fun ⟨t', _, q⟩ => ⟨t', q⟩, fun ⟨t', q⟩ => ⟨t', by omega, q⟩⟩
  | succ d ih =>
    intro t here cur hb H h1 ex hh kv hbd hx hs hho gr is hp
    refine WP.rnd (fun i' j => match_matcher_ends_l4_eq tab i' j m (I k) (I i) _ _ out here (I (b + 1 : Nat)) (I t) H) ?_
    have hlen := ex.len
    -- what follows, once the places are laid
    have go : ∀ (cur : List Bool) (H : Heap), ExM kk h H → hi ≤ H.length → KV H kk pt w X' → (∀ o, X' o → o < H.length) → H[xo]? = some (.cells ⟨[I 9, I 0, I a, I b, sl, sk], 0, 0, false⟩) → Sl H 1 here (hb.map encB) → Gr lo hi H 1 out (cur.map encB) → Is w cur (fun j => ∃ t', t' < t + 1 ∧ a ≤ t' ∧ t' ≤ b ∧ Pow (R w c) t' i j) →
        WP (fun p : Nat × Nat => match_matcher_ends_b5 tab p.1 p.2 m (I k) (I i) (.ptr xo 0 6 0) (.fn f_match_matcher_step [m] []) out here (I t) (I (b + 1 : Nat)) (I t) H) (EQ kk pt w X (.rep a b c) i h) := by
      intro cur H ex hh kv hbd hx hs gr is
      refine WP.congr (fun p => match_matcher_ends_b5_eq tab _ _ m (I k) (I i) _ _ out here (I t) (I (b + 1 : Nat)) (I t) H) ?_
      have hsk' := hsk.exm ex
      have e0 := Ext.refl H
      have hlen := ex.len
      by_cases htb : t < b
      · simp -implicitDefEqProofs (disch := first | assumption | omega | (simp -implicitDefEqProofs only [gL] <;> omega) | ((repeat (first | exact Ext.refl _ | assumption | apply Ext.app | apply Ext.mk | (refine Ext.setr ?_ (by (first | omega | (simp -implicitDefEqProofs only [gL] <;> omega))) _))); done) | (simp -implicitDefEqProofs only [gL, gA, hx, hsk'.idxG, hsk'.ld0, encI, List.cons_append] <;> omega) | fail) only [gB, setAll, partL, fldV, reduceIte, Nat.reduceAdd, Nat.reduceMul, hx, hsk'.idxG, hsk'.ld0, encI, List.cons_append]
        refine WP.call (hS _ here hb _ H X' (mv.exm ex) kv hbd hk hs (hp (by omega))) ?_
        rintro r H1 ⟨x1, kv1, r0, bs, rs, ri⟩
        have hl1 := x1.len
        have hro := rs.objIn r0
        refine ih (t + 1) r cur bs H1 (by omega) (ex.trans x1) (by omega) kv1 (fun o q => by have := hbd o q; omega) (x1.cells hx) rs.sl (fun _ => by omega) (gr.exm x1) is (fun _ => ri.cong fun j => ?_)
        simp only [Pow]
      · simp -implicitDefEqProofs (disch := first | assumption | omega | (simp -implicitDefEqProofs only [gL] <;> omega) | ((repeat (first | exact Ext.refl _ | assumption | apply Ext.app | apply Ext.mk | (refine Ext.setr ?_ (by (first | omega | (simp -implicitDefEqProofs only [gL] <;> omega))) _))); done) | (simp -implicitDefEqProofs only [gL, gA, hx] <;> omega) | fail) only [gB, setAll, partL, fldV, reduceIte, Nat.reduceAdd, Nat.reduceMul, hx]
        exact ih (t + 1) here cur hb H (by omega) ex hh kv hbd hx hs hho gr is (fun q => by omega)
    by_cases hat : a ≤ t
    · simp -implicitDefEqProofs (disch := first | assumption | omega | (simp -implicitDefEqProofs only [gL] <;> omega) | ((repeat (first | exact Ext.refl _ | assumption | apply Ext.app | apply Ext.mk | (refine Ext.setr ?_ (by (first | omega | (simp -implicitDefEqProofs only [gL] <;> omega))) _))); done) | (simp -implicitDefEqProofs only [gL, gA, hx, hs.one, hs.cells] <;> omega) | fail) only [gB, setAll, partL, fldV, reduceIte, Nat.reduceAdd, Nat.reduceMul, hx, hs.one, hs.cells]
      rw [← mkObj_eq]
      refine lay_spec hlw gr is hs (hp (by omega)) hho hh ?_
      intro cur' fl H2 c1 c2 c3 c4
      have hl2 := c4.len
      have e1 : Ext H (mkObj H [here]) := Ext.push H _
      have hl3 := e1.len
      have hll := ex.lt
      refine go cur' H2 ((ex.ext e1).fr c4 hlo) (by omega) ((kv.ext e1).fr c4 hout (.inl (by omega))) (fun o q => by have := hbd o q; omega) ((c4.get (.inl hxl) (by omega)).trans (e1.get hx)) ((hs.ext e1).fr c4 hho) c3 (c1.cong fun j => ?_)
      constructor
      · rintro (⟨t', q1, q2⟩ | q)
        · exact ⟨t', by omega, q2⟩
        · exact ⟨t, by omega, hat, by omega, q⟩
      · rintro ⟨t', q1, q2⟩
        by_cases htt : t' = t
        · subst htt; exact .inr q2.2.2
        · exact .inl ⟨t', by omega, q2⟩
    · simp -implicitDefEqProofs (disch := first | assumption | omega | (simp -implicitDefEqProofs only [gL] <;> omega) | ((repeat (first | exact Ext.refl _ | assumption | apply Ext.app | apply Ext.mk | (refine Ext.setr ?_ (by (first | omega | (simp -implicitDefEqProofs only [gL] <;> omega))) _))); done) | (simp -implicitDefEqProofs only [gL, gA, hx] <;> omega) | fail) only [gB, setAll, partL, fldV, reduceIte, Nat.reduceAdd, Nat.reduceMul, hx]
      refine go cur H ex hh kv hbd hx hs gr (is.cong fun j => ?_)
      exact ⟨fun ⟨t', q1, q2⟩ => ⟨t', by omega, q2⟩, fun ⟨t', q1, q2⟩ => ⟨t', by omega, q2⟩⟩
end
end Go.Gm.A5
