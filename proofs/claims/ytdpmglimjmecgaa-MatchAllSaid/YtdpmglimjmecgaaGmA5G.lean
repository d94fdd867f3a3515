/- A part of the proof: GmA5G: an abstract machine, what it does, and what the functions of the program come to on it. -/
import Derived.Test.YtdpmglimjmecgaaGmA5F
set_option linter.unusedVariables false
set_option linter.unusedSimpArgs false
namespace Go.Gm.A5
open Go Go.Gm

def WX (out : AV) (og : Nat) (long : AV) (lg : Nat) (o : Nat) : Prop := (out ≠ .nils ∧ o = og) ∨ (long ≠ .nils ∧ o = lg)
/-- Two rows of words that grow, and one that is read. -/
structure WI (H0 H : Heap) (out : AV) (og : Nat) (ro : List AV) (wo : List (List Int)) (long : AV) (lg : Nat) (rl : List AV) (wl : List (List Int)) (all : AV) (ra : List AV) (wa : List (List Int)) : Prop where
  ext : Ext H0 H
  go : Gr og (og + 1) H 1 out (ro.map enc1)
  gl : Gr lg (lg + 1) H 1 long (rl.map enc1)
  oo : out ≠ .nils → H0.length ≤ og ∧ og < H.length
  ol : long ≠ .nils → H0.length ≤ lg ∧ lg < H.length
  ne : out ≠ .nils → long ≠ .nils → og ≠ lg
  vo : WV H ro wo (WX out og long lg)
  vl : WV H rl wl (WX out og long lg)
  va : WV H ra wa (WX out og long lg)
  sa : Sl H 1 all (ra.map enc1)
  na : all ≠ .nils → ¬ WX out og long lg all.obj
section
variable {H0 H H' : Heap} {out : AV} {og : Nat} {ro : List AV} {wo : List (List Int)} {long : AV} {lg : Nat} {rl : List AV} {wl : List (List Int)} {all : AV} {ra : List AV} {wa : List (List Int)}
theorem WV.ext {X : Nat → Prop} (a : WV H ro wo X) (e : Ext H H') : WV H' ro wo X := a.frs (D := fun _ => False) (FrS.ofExt e) (fun _ q => q.elim) (fun _ _ q => q)
theorem WI.extH (a : WI H0 H out og ro wo long lg rl wl all ra wa) (e : Ext H H') : WI H0 H' out og ro wo long lg rl wl all ra wa where
  ext := a.ext.trans e
  go := a.go.ext e
  gl := a.gl.ext e
  oo q := ⟨(a.oo q).1, Nat.lt_of_lt_of_le (a.oo q).2 e.len⟩
  ol q := ⟨(a.ol q).1, Nat.lt_of_lt_of_le (a.ol q).2 e.len⟩
  ne := a.ne
  vo := a.vo.ext e
  vl := a.vl.ext e
  va := a.va.ext e
  sa := a.sa.ext e
  na := a.na
/-- A row more in the first. -/
theorem WI.addOut (a : WI H0 H out og ro wo long lg rl wl all ra wa) {r : AV} {w : List Int} (hr : Sl H 1 r (w.map encI)) (hX : r ≠ .nils → ¬ WX out og long lg r.obj) (hl : ro.length ≤ 100000) :
    ∃ s' H' og', apnd 1 24 out (.sl H.length 0 1 1 none 0) (mkObj H [r]) = some (s', H') ∧ WI H0 H' s' og' (ro ++ [r]) (wo ++ [w]) long lg rl wl all ra wa ∧ FrS (fun o => out ≠ .nils ∧ o = og) H H' ∧ (s' ≠ .nils → (og' = og ∧ out ≠ .nils) ∨ H.length ≤ og') := by
  have e3 : Ext H (mkObj H [r]) := Ext.push H _
  have a3 := a.extH e3
  have hl3 : (mkObj H [r]).length = H.length + 1 := by simp [mkObj]
  obtain ⟨s', H', og', m1, m2, m3, m4, m5⟩ := Gr.appQ (bytes := 24) a3.go (fun q => (a3.oo q).2) (Gr.lit (sz := 1) (v := [r]) rfl).sl (by omega) (by omega) (by rw [List.length_map]; simp; omega)
  have hlen := m4.len
  have hk := a.ext.len
  refine ⟨s', H', og', m1, ?_, ⟨by omega, fun o q1 q2 => (m4.get q1 (by omega)).trans ((ext_iff.1 e3).2 o q2)⟩, fun q => (m3 q).1.imp id (by omega)⟩
  have hD : ∀ o, (out ≠ .nils ∧ o = og) → WX out og long lg o := fun o q => .inl q
  have hX2 : ∀ o, o < (mkObj H [r]).length → WX s' og' long lg o → WX out og long lg o := by
    rintro o ho (⟨q1, q2⟩ | q)
    · rcases (m3 q1).1 with ⟨q3, q4⟩ | q3
      · exact .inl ⟨q4, q2.trans q3⟩
      · omega
    · exact .inr q
  refine ⟨m4.ext a3.ext fun o ho q => ?_, m2.cong (by simp [enc1]), Gr.frs' a3.gl m4 (fun q d => a3.ne d.1 q d.2.symm), fun q => ?_, fun q => ⟨(a3.ol q).1, by have := (a3.ol q).2; omega⟩, fun q1 q2 => ?_, ?_, a3.vl.frs m4 hD hX2, a3.va.frs m4 hD hX2, Sl.frs a3.sa m4 fun q d => a3.na q (hD _ d), fun q d => a3.na q (hX2 _ (a3.sa.objLt q) d)⟩
  · have := (a3.oo q.1).1; omega
  · refine ⟨?_, (m3 q).2⟩
    rcases (m3 q).1 with ⟨q1, q2⟩ | q1
    · rw [q1]; exact (a3.oo q2).1
    · omega
  · rcases (m3 q1).1 with ⟨q3, q4⟩ | q3
    · rw [q3]; exact a3.ne q4 q2
    · have := (a3.ol q2).2; omega
  · refine (a3.vo.frs m4 hD hX2).snoc (w := w) ((Sl.frs (hr.ext e3) m4 fun q d => hX q (hD _ d))) fun q d => ?_
    exact hX q (hX2 _ (by have := hr.objLt q; omega) d)
/-- Rows more in the second. -/
theorem WI.addLong (a : WI H0 H out og ro wo long lg rl wl all ra wa) {long' : AV} {lg' : Nat} {rl' : List AV} {wl' : List (List Int)} (g : Gr lg' (lg' + 1) H' 1 long' (rl'.map enc1)) (l : long' ≠ .nils → lg' < H'.length ∧ ((lg' = lg ∧ long ≠ .nils) ∨ H.length ≤ lg'))
    (v : WV H' rl' wl' (fun o => (out ≠ .nils ∧ o = og) ∨ (long' ≠ .nils ∧ o = lg'))) (f : FrS (fun o => long ≠ .nils ∧ o = lg) H H') : WI H0 H' out og ro wo long' lg' rl' wl' all ra wa := by
  have hk := a.ext.len
  have hlen := f.len
  have hD : ∀ o, (long ≠ .nils ∧ o = lg) → WX out og long lg o := fun o q => .inr q
  have hX2 : ∀ o, o < H.length → WX out og long' lg' o → WX out og long lg o := by
    rintro o ho (q | ⟨q1, q2⟩)
    · exact .inl q
    · rcases (l q1).2 with ⟨q3, q4⟩ | q3
      · exact .inr ⟨q4, q2.trans q3⟩
      · omega
  refine ⟨f.ext a.ext fun o ho q => ?_, Gr.frs' a.go f (fun q d => a.ne q d.1 d.2), g, fun q => ⟨(a.oo q).1, by have := (a.oo q).2; omega⟩, fun q => ⟨?_, (l q).1⟩, fun q1 q2 => ?_, a.vo.frs f hD hX2, v, a.va.frs f hD hX2, Sl.frs a.sa f fun q d => a.na q (hD _ d), fun q d => a.na q (hX2 _ (a.sa.objLt q) d)⟩
  · have := (a.ol q.1).1; omega
  · rcases (l q).2 with ⟨q1, q2⟩ | q1
    · rw [q1]; exact (a.ol q2).1
    · omega
  · rcases (l q2).2 with ⟨q3, q4⟩ | q3
    · rw [q3]; exact a.ne q1 q4
    · have := (a.oo q1).2; omega
open Classical in
noncomputable def flt (n : Nd) (l : List (List Int)) : List (List Int) := l.filter fun w => decide (In n w)
theorem flt_len (n : Nd) (l : List (List Int)) : (flt n l).length ≤ l.length := List.length_filter_le ..
theorem flt_app (n : Nd) (a b : List (List Int)) : flt n (a ++ b) = flt n a ++ flt n b := List.filter_append ..
theorem flt_t {n : Nd} {w : List Int} (h : In n w) : flt n [w] = [w] := by simp [flt, h]
theorem flt_f {n : Nd} {w : List Int} (h : ¬ In n w) : flt n [w] = [] := by simp [flt, h]
theorem words_l2 {n : Nd} {c5 : List AV} {n2 t13 t14 all : AV} {Q : AV → Heap → Prop} (nv : NV H0 n c5) (ok : Ok n) (hcn : cntN n ≤ 800000) (hn2 : At H0 n2 c5) (hwa : ∀ w ∈ wa, w.length ≤ 1000) (hwl : wa.length ≤ 10000) {wo0 : List (List Int)} (hwo : wo0.length ≤ 50000)
    (hc : ∀ (out : AV) (og : Nat) (ro : List AV) (long : AV) (lg : Nat) (rl : List AV) (H : Heap), WI H0 H out og ro (wo0 ++ flt n wa) long lg rl (longer wa) all ra wa →
      WP (fun p : Nat × Nat => oa (binV .add .scalar t14 (.int .i64 1)) fun t44 => match_Words_l1 tab p.1 p.2 n2 out long t13 t44 H) Q) :
    ∀ (d i : Nat) (out : AV) (og : Nat) (ro : List AV) (long : AV) (lg : Nat) (rl : List AV) (H : Heap), i + d = wa.length → WI H0 H out og ro (wo0 ++ flt n (wa.take i)) long lg rl (longer (wa.take i)) all ra wa →
      WP (fun p : (Nat × Nat) × Nat => match_Words_l2 tab p.1.1 p.1.2 p.2 n2 out long t13 t14 all (I ra.length) (I i) H) Q := by
  intro d
  induction d with
  | zero =>
    intro i out og ro long lg rl H h1 wi
    refine WP.rnd (fun i' j => match_Words_l2_eq tab i'.1 i'.2 j n2 out long t13 t14 all (I ra.length) (I i) H) ?_
    have hl := wi.va.1
    simp -implicitDefEqProofs (disch := first | assumption | omega | (simp -implicitDefEqProofs only [gL] <;> omega) | ((repeat (first | exact Ext.refl _ | assumption | apply Ext.app | apply Ext.mk | (refine Ext.setr ?_ (by (first | omega | (simp -implicitDefEqProofs only [gL] <;> omega))) _))); done) | (simp -implicitDefEqProofs only [gL, gA] <;> omega) | fail) only [gB, setAll, partL, fldV, reduceIte, Nat.reduceAdd, Nat.reduceMul]
    rw [List.take_of_length_le (by omega)] at wi
    exact WP.lv (hc out og ro long lg rl H wi) fun i j => rfl
  | succ d ih =>
    intro i out og ro long lg rl H h1 wi
    refine WP.rnd (fun i' j => match_Words_l2_eq tab i'.1 i'.2 j n2 out long t13 t14 all (I ra.length) (I i) H) ?_
    have hl := wi.va.1
    obtain ⟨r, hr⟩ : ∃ r, gi ra i = r := ⟨_, rfl⟩
    have hr2 : ra[i]? = some r := by
      have := gi_some (xs := ra) (i := (i : Int)) (by omega) (by omega)
      rw [hr] at this; exact this
    obtain ⟨w, hw2⟩ : ∃ w, wa[i]? = some w := ⟨_, List.getElem?_eq_getElem (by omega)⟩
    have hwm := hwa w (List.mem_of_getElem? hw2)
    obtain ⟨hrw, hrx⟩ := wi.va.2 i r w hr2 hw2
    have hc5 : c5.length = 5 := by obtain ⟨_, _, rfl, _, _⟩ := nv.inv; rfl
    have e0 := Ext.refl H
    have hsa := wi.sa
    have nvH := nv.keeps (.ofExt wi.ext)
    have hn := hn2.ext wi.ext
    have htk5 : c5.take 5 = c5 := List.take_of_length_le (by omega)
    have htk : wa.take (i + 1) = wa.take i ++ [w] := by rw [List.take_add_one, hw2]; rfl
    simp -implicitDefEqProofs (disch := first | assumption | omega | (simp -implicitDefEqProofs only [gL] <;> omega) | ((repeat (first | exact Ext.refl _ | assumption | apply Ext.app | apply Ext.mk | (refine Ext.setr ?_ (by (first | omega | (simp -implicitDefEqProofs only [gL] <;> omega))) _))); done) | (simp -implicitDefEqProofs only [gL, gA, hsa.idxG, hsa.ld0, enc1, hr, hn.ldNE, hc5, htk5] <;> omega) | fail) only [gB, setAll, partL, fldV, reduceIte, Nat.reduceAdd, Nat.reduceMul, hsa.idxG, hsa.ld0, enc1, hr, hn.ldNE, hc5, htk5]
    refine WP.call (match_spec nvH ok hcn hrw (by omega)) ?_
    rintro _ H1 ⟨e1, b, rfl, hb⟩
    have wi1 := wi.extH e1
    have hlo : ∀ i, (longer (wa.take i)).length ≤ 50000 := fun i => by rw [longer_len, List.length_take]; omega
    have hone : longer [w] = [0, 1, 2, 3, 4].map fun (k : Int) => w ++ [k] := rfl
    have fin : ∀ (out : AV) (og : Nat) (ro : List AV) (H : Heap), WI H0 H out og ro (wo0 ++ flt n (wa.take (i + 1))) long lg rl (longer (wa.take i)) all ra wa →
        WP (fun p : (Nat × Nat) × Nat => match_Words_l3 tab p.1.1 p.1.2 p.2 (Fuel.k p) n2 out long r t13 t14 all (I ra.length) (I i) (I 0) H) Q := by
      intro out og ro H2 wi
      obtain ⟨hrw2, hrx2⟩ := wi.va.2 i r w hr2 hw2
      rw [show I 0 = I ((0 : Nat) : Int) from rfl]
      refine WP.ent (words_l3 (Y := fun o => out ≠ .nils ∧ o = og) (lg0 := lg) (long0 := long) (ws0 := longer (wa.take i)) hrw2 hwm (fun o q => by rw [q.2]; exact (wi.oo q.1).2) (fun q => (wi.ol q).2) (fun q1 q2 q3 => hrx2 q1 (.inr ⟨q2, q3⟩)) (by have := hlo i; omega)
        (fun long' lg' rows H3 g l v f => ?_) 5 0 long lg rl H2 rfl wi.gl (fun q => ⟨(wi.ol q).2, .inl ⟨rfl, q⟩⟩) ?_ (FrS.refl _ _)) fun i => rfl
      · have wi3 := wi.addLong g l v f
        rw [← hone, ← longer_append, ← htk] at wi3
        simp -implicitDefEqProofs (disch := first | assumption | omega | (simp -implicitDefEqProofs only [gL] <;> omega) | ((repeat (first | exact Ext.refl _ | assumption | apply Ext.app | apply Ext.mk | (refine Ext.setr ?_ (by (first | omega | (simp -implicitDefEqProofs only [gL] <;> omega))) _))); done) | (simp -implicitDefEqProofs only [gL, gA] <;> omega) | fail) only [gB, setAll, partL, fldV, reduceIte, Nat.reduceAdd, Nat.reduceMul]
        exact ih (i + 1) out og ro long' lg' rows H3 (by omega) wi3
      · show WV H2 rl (longer (wa.take i) ++ []) _
        rw [List.append_nil]
        exact wi.vl
    cases b with
    | true =>
      simp -implicitDefEqProofs (disch := first | assumption | omega | (simp -implicitDefEqProofs only [gL] <;> omega) | ((repeat (first | exact Ext.refl _ | assumption | apply Ext.app | apply Ext.mk | (refine Ext.setr ?_ (by (first | omega | (simp -implicitDefEqProofs only [gL] <;> omega))) _))); done) | (simp -implicitDefEqProofs only [gL, gA] <;> omega) | fail) only [gB, setAll, partL, fldV, reduceIte, Nat.reduceAdd, Nat.reduceMul]
      refine WP.call (cloneI_spec (hrw.ext e1) (by rw [List.length_map]; omega)) ?_
      rintro r2 H2 ⟨e2, g2⟩
      have wi2 := wi1.extH e2
      have ho2 := g2.sl.one
      have hc2 := g2.sl.cells
      obtain ⟨s', H3, og', m1, m2, _⟩ := wi2.addOut (w := w) g2.sl (fun q d => by
        have h1 := g2.objIn q
        rcases d with ⟨d1, d2⟩ | ⟨d1, d2⟩
        · have := (wi1.oo d1).2; omega
        · have := (wi1.ol d1).2; omega) (by
          have := wi.vo.1
          have := flt_len n (wa.take i)
          rw [List.length_take] at this
          rw [List.length_append] at *
          omega)
      rw [mkObj_eq] at m1
      simp -implicitDefEqProofs (disch := first | assumption | omega | (simp -implicitDefEqProofs only [gL] <;> omega) | ((repeat (first | exact Ext.refl _ | assumption | apply Ext.app | apply Ext.mk | (refine Ext.setr ?_ (by (first | omega | (simp -implicitDefEqProofs only [gL] <;> omega))) _))); done) | (simp -implicitDefEqProofs only [gL, gA, ho2, hc2, m1] <;> omega) | fail) only [gB, setAll, partL, fldV, reduceIte, Nat.reduceAdd, Nat.reduceMul, ho2, hc2, m1]
      refine fin s' og' (ro ++ [r2]) H3 ?_
      rw [htk, flt_app, flt_t (hb.1 rfl), ← List.append_assoc]
      exact m2
    | false =>
      simp -implicitDefEqProofs (disch := first | assumption | omega | (simp -implicitDefEqProofs only [gL] <;> omega) | ((repeat (first | exact Ext.refl _ | assumption | apply Ext.app | apply Ext.mk | (refine Ext.setr ?_ (by (first | omega | (simp -implicitDefEqProofs only [gL] <;> omega))) _))); done) | (simp -implicitDefEqProofs only [gL, gA] <;> omega) | fail) only [gB, setAll, partL, fldV, reduceIte, Nat.reduceAdd, Nat.reduceMul]
      refine fin out og ro H1 ?_
      rw [htk, flt_app, flt_f (fun q => by have := hb.2 q; simp at this), List.append_nil]
      exact wi1
theorem WI.turn (a : WI H0 H out og ro wo long lg rl wl all ra wa) : WI H0 H out og ro wo .nils 0 [] [] long rl wl where
  ext := a.ext
  go := a.go
  gl := Gr.nil ..
  oo := a.oo
  ol q := absurd rfl q
  ne _ q := absurd rfl q
  vo := a.vo.frs (FrS.refl _ _) (fun o q => q) fun o _ q => .inl (q.resolve_right fun z => z.1 rfl)
  vl := ⟨rfl, fun i r w q => by simp at q⟩
  va := a.vl.frs (FrS.refl _ _) (fun o q => q) fun o _ q => .inl (q.resolve_right fun z => z.1 rfl)
  sa := a.gl.sl
  na q d := by
    rcases d with ⟨d1, d2⟩ | ⟨d1, _⟩
    · have := a.gl.objIn q
      exact a.ne d1 q (by omega)
    · exact d1 rfl
end
theorem words_l1 {n : Nd} {c5 : List AV} {n2 : AV} {H0 : Heap} (nv : NV H0 n c5) (ok : Ok n) (hcn : cntN n ≤ 800000) (hn2 : At H0 n2 c5) {most : Nat} (hm : most ≤ 4) :
    ∀ (d t : Nat) (out : AV) (og : Nat) (ro : List AV) (all : AV) (ra : List AV) (H : Heap), t + d = most + 1 → WI H0 H out og ro (flt n ((List.range t).flatMap wl)) .nils 0 [] [] all ra (wl t) →
      WP (fun p : Nat × Nat => match_Words_l1 tab p.1 p.2 n2 out all (I ((most : Int) + 1)) (I t) H) fun r h' => Ext H0 h' ∧ ∃ rows, Sl h' 1 r (rows.map enc1) ∧ WV h' rows (wordsN n most) (fun _ => False) := by
  intro d
  induction d with
  | zero =>
    intro t out og ro all ra H h1 wi
    refine WP.rnd (fun i' j => match_Words_l1_eq tab i' j n2 out all (I ((most : Int) + 1)) (I t) H) ?_
    simp -implicitDefEqProofs (disch := first | assumption | omega | (simp -implicitDefEqProofs only [gL] <;> omega) | ((repeat (first | exact Ext.refl _ | assumption | apply Ext.app | apply Ext.mk | (refine Ext.setr ?_ (by (first | omega | (simp -implicitDefEqProofs only [gL] <;> omega))) _))); done) | (simp -implicitDefEqProofs only [gL, gA] <;> omega) | fail) only [gB, setAll, partL, fldV, reduceIte, Nat.reduceAdd, Nat.reduceMul]
    refine WP.lv (WP.congr (fun i => match_Words_b4_eq tab i out H) ?_) fun i j => rfl
    have hb : (flt n ((List.range t).flatMap wl)).length ≤ 1000 := by
      refine Nat.le_trans (flt_len ..) ?_
      have : t ≤ 5 := by omega
      have : t = 0 ∨ t = 1 ∨ t = 2 ∨ t = 3 ∨ t = 4 ∨ t = 5 := by omega
      rcases this with rfl | rfl | rfl | rfl | rfl | rfl <;> simp [List.range_succ, wl_len]
    refine WP.call (cloneII_spec wi.go.sl (by have := wi.vo.1; rw [List.length_map]; omega)) ?_
    rintro r H2 ⟨e2, g2⟩
    refine WP.ret ⟨wi.ext.trans e2, ro, g2.sl, ?_⟩
    have : wordsN n most = flt n ((List.range t).flatMap wl) := by
      rw [show t = most + 1 by omega]; rfl
    rw [this]
    exact wi.vo.frs (D := fun _ => False) (FrS.ofExt e2) (fun _ q => q.elim) (fun _ _ q => q.elim)
  | succ d ih =>
    intro t out og ro all ra H h1 wi
    refine WP.rnd (fun i' j => match_Words_l1_eq tab i' j n2 out all (I ((most : Int) + 1)) (I t) H) ?_
    have hsa := wi.sa
    have h5 : t = 0 ∨ t = 1 ∨ t = 2 ∨ t = 3 ∨ t = 4 := by omega
    have hb : (flt n ((List.range t).flatMap wl)).length ≤ 1000 := by
      refine Nat.le_trans (flt_len ..) ?_
      rcases h5 with rfl | rfl | rfl | rfl | rfl <;> simp [List.range_succ, wl_len]
    have hlt : (wl t).length ≤ 1000 := by rw [wl_len]; rcases h5 with rfl | rfl | rfl | rfl | rfl <;> omega
    have hll := hsa.len
    rw [List.length_map] at hll
    simp -implicitDefEqProofs (disch := first | assumption | omega | (simp -implicitDefEqProofs only [gL] <;> omega) | ((repeat (first | exact Ext.refl _ | assumption | apply Ext.app | apply Ext.mk | (refine Ext.setr ?_ (by (first | omega | (simp -implicitDefEqProofs only [gL] <;> omega))) _))); done) | (simp -implicitDefEqProofs only [gL, gA, hll] <;> omega) | fail) only [gB, setAll, partL, fldV, reduceIte, Nat.reduceAdd, Nat.reduceMul, hll]
    rw [show AV.int .i64 0 = I ((0 : Nat) : Int) from rfl]
    refine WP.ent (words_l2 (wo0 := flt n ((List.range t).flatMap wl)) (wa := wl t) nv ok hcn hn2 (fun w hw => by have := (wl_mem.1 hw).1; omega) (by omega) (by omega) (fun out' og' ro' long lg rl H' wi' => ?_) (wl t).length 0 out og ro .nils 0 [] H (by omega) (by simpa [flt, longer] using wi)) fun i => rfl
    simp -implicitDefEqProofs (disch := first | assumption | omega | (simp -implicitDefEqProofs only [gL] <;> omega) | ((repeat (first | exact Ext.refl _ | assumption | apply Ext.app | apply Ext.mk | (refine Ext.setr ?_ (by (first | omega | (simp -implicitDefEqProofs only [gL] <;> omega))) _))); done) | (simp -implicitDefEqProofs only [gL, gA] <;> omega) | fail) only [gB, setAll, partL, fldV, reduceIte, Nat.reduceAdd, Nat.reduceMul]
    refine ih (t + 1) out' og' ro' long rl H' (by omega) ?_
    rw [List.range_succ, List.flatMap_append, flt_app, show wl (t + 1) = longer (wl t) from rfl]
    simpa using wi'.turn
theorem words_spec {n : Nd} {c5 : List AV} {h : Heap} (nv : NV h n c5) (ok : Ok n) (hcn : cntN n ≤ 800000) {most : Nat} (hm : most ≤ 4) :
    Tot tab f_match_Words [.agg c5, I most] h fun r h' => Ext h h' ∧ ∃ rows, Sl h' 1 r (rows.map enc1) ∧ WV h' rows (wordsN n most) (fun _ => False) := by
  refine WP.tot (fun k' => (call_match_Words k' _ _ h).trans (match_Words_eq tab k' _ _ h)) ?_
  have nv' := nv
  obtain ⟨s5, css, rfl, sl5, nvs⟩ := nv.inv
  have ho5 : s5.one = true := sl5.one
  obtain ⟨h1, hh1⟩ : ∃ h1, h1 = h ++ [AObj.cells ⟨[I n.kind, I n.st, I n.lo, I n.hi, s5], 0, 0, false⟩] := ⟨_, rfl⟩
  have e1 : Ext h h1 := by rw [hh1]; ((repeat (first | exact Ext.refl _ | assumption | apply Ext.app | apply Ext.mk | (refine Ext.setr ?_ (by (first | omega | (simp -implicitDefEqProofs only [gL] <;> omega))) _))))
  have hx1 : h1[h.length]? = some (.cells ⟨[I n.kind, I n.st, I n.lo, I n.hi, s5], 0, 0, false⟩) := by rw [hh1]; simp
  simp -implicitDefEqProofs (disch := first | assumption | omega | (simp -implicitDefEqProofs only [gL] <;> omega) | ((repeat (first | exact Ext.refl _ | assumption | apply Ext.app | apply Ext.mk | (refine Ext.setr ?_ (by (first | omega | (simp -implicitDefEqProofs only [gL] <;> omega))) _))); done) | (simp -implicitDefEqProofs only [gL, gA, ho5] <;> omega) | fail) only [gB, setAll, partL, fldV, reduceIte, Nat.reduceAdd, Nat.reduceMul, ho5]
  have hl1 : h1.length = h.length + 1 := by rw [hh1]; simp
  rw [← hh1, ← hl1, show AV.int .i64 0 = I ((0 : Nat) : Int) from rfl]
  have e2 : Ext h1 (h1 ++ [.cells ⟨[.nils], 0, 0, false⟩]) := Ext.push h1 _
  refine WP.ent (WP.mono (words_l1 (nv'.keeps (.ofExt (e1.trans e2))) ok hcn ((At.row hx1 (Nat.le_refl _) rfl).ext e2) hm (most + 1) 0 .nils 0 [] _ [.nils] _ (by omega) ?_) ?_) fun i => rfl
  · have hsl : Sl (h1 ++ [.cells ⟨[.nils], 0, 0, false⟩]) 1 (.sl h1.length 0 1 1 none 0) ([AV.nils].map enc1) := (Gr.lit (h := h1) (sz := 1) (v := [.nils]) rfl).sl
    refine ⟨Ext.refl _, Gr.nil .., Gr.nil .., fun q => absurd rfl q, fun q => absurd rfl q, fun q => absurd rfl q, ?_, ⟨rfl, fun i r w q => by simp at q⟩, ⟨rfl, fun i r w q1 q2 => ?_⟩, hsl, fun q d => by rcases d with d | d <;> exact d.1 rfl⟩
    · exact ⟨by simp [flt], fun i r w q => by simp at q⟩
    · match i, q1, q2 with
      | 0, q1, q2 =>
        simp [wl] at q1 q2
        subst q1 q2
        exact ⟨.inl ⟨rfl, rfl⟩, fun q => absurd rfl q⟩
  · rintro r h' ⟨e3, q⟩
    exact ⟨(e1.trans e2).trans e3, q⟩
end Go.Gm.A5
