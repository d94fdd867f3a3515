/- A part of the proof (GmA5G, GmA5H, GmA5I, GmA5J, GmA5K, GmA5O): an abstract machine, what it does, and what the functions of the program come to on it. -/
import Derived.Test.YtdpmglimjmecgaaGmA5P2
import Derived.Test.YtdpmglimjmecgaaGmP5
set_option linter.unusedVariables false
set_option linter.unusedSimpArgs false
namespace Go.Gm.A5
open Go Go.Gm

def WX (out : AV) (og : Nat) (long : AV) (lg : Nat) (o : Nat) : Prop := (out ≠ .nils ∧ o = og) ∨ (long ≠ .nils ∧ o = lg)
/-- Two rows of words that grow, and one that is read. -/
structure WI (H0 H : Heap) (out : AV) (og : Nat) (ro : List AV) (wo : List (List Int)) (long : AV) (lg : Nat) (rl : List AV) (wl : List (List Int)) (all : AV) (ra : List AV) (wa : List (List Int)) : Prop where
  ext : Ext H0 H
  go : Gr og (og + 1) H 1 out (ro.map enc1)
  gl : Gr lg (lg + 1) H 1 long (rl.map enc1)
  oo : out ≠ .nils → H0.length ≤ og ∧ og < H.length
  ol : long ≠ .nils → H0.length ≤ lg ∧ lg < H.length
  ne : out ≠ .nils → long ≠ .nils → og ≠ lg
  vo : WV H ro wo (WX out og long lg)
  vl : WV H rl wl (WX out og long lg)
  va : WV H ra wa (WX out og long lg)
  sa : Sl H 1 all (ra.map enc1)
  na : all ≠ .nils → ¬ WX out og long lg all.obj
section
variable {H0 H H' : Heap} {out : AV} {og : Nat} {ro : List AV} {wo : List (List Int)} {long : AV} {lg : Nat} {rl : List AV} {wl : List (List Int)} {all : AV} {ra : List AV} {wa : List (List Int)}
theorem WV.ext {X : Nat → Prop} (a : WV H ro wo X) (e : Ext H H') : WV H' ro wo X := a.frs (D := fun _ => False) (FrS.ofExt e) (fun _ q => q.elim) (fun _ _ q => q)
theorem WI.extH (a : WI H0 H out og ro wo long lg rl wl all ra wa) (e : Ext H H') : WI H0 H' out og ro wo long lg rl wl all ra wa where
  ext := a.ext.trans e
  go := a.go.ext e
  gl := a.gl.ext e
  oo q := ⟨(a.oo q).1, Nat.lt_of_lt_of_le (a.oo q).2 e.len⟩
  ol q := ⟨(a.ol q).1, Nat.lt_of_lt_of_le (a.ol q).2 e.len⟩
  ne := a.ne
  vo := a.vo.ext e
  vl := a.vl.ext e
  va := a.va.ext e
  sa := a.sa.ext e
  na := a.na
/-- A row more in the first. -/
theorem WI.addOut (a : WI H0 H out og ro wo long lg rl wl all ra wa) {r : AV} {w : List Int} (hr : Sl H 1 r (w.map encI)) (hX : r ≠ .nils → ¬ WX out og long lg r.obj) (hl : ro.length ≤ 100000) :
    ∃ s' H' og', apnd 1 24 out (.sl H.length 0 1 1 none 0) (mkObj H [r]) = some (s', H') ∧ WI H0 H' s' og' (ro ++ [r]) (wo ++ [w]) long lg rl wl all ra wa ∧ FrS (fun o => out ≠ .nils ∧ o = og) H H' ∧ (s' ≠ .nils → (og' = og ∧ out ≠ .nils) ∨ H.length ≤ og') := by
  have e3 : Ext H (mkObj H [r]) := Ext.push H _
  have a3 := a.extH e3
  have hl3 : (mkObj H [r]).length = H.length + 1 := by simp [mkObj]
  obtain ⟨s', H', og', m1, m2, m3, m4, m5⟩ := Gr.appQ (bytes := 24) a3.go (fun q => (a3.oo q).2) (Gr.lit (sz := 1) (v := [r]) rfl).sl (by omega) (by omega) (by rw [List.length_map]; simp; omega)
  have hlen := m4.len
  have hk := a.ext.len
  refine ⟨s', H', og', m1, ?_, ⟨by omega, fun o q1 q2 => (m4.get q1 (by omega)).trans ((ext_iff.1 e3).2 o q2)⟩, fun q => (m3 q).1.imp id (by omega)⟩
  have hD : ∀ o, (out ≠ .nils ∧ o = og) → WX out og long lg o := fun o q => .inl q
  have hX2 : ∀ o, o < (mkObj H [r]).length → WX s' og' long lg o → WX out og long lg o := by
    rintro o ho (⟨q1, q2⟩ | q)
    · rcases (m3 q1).1 with ⟨q3, q4⟩ | q3
      · exact .inl ⟨q4, q2.trans q3⟩
      · omega
    · exact .inr q
  refine ⟨m4.ext a3.ext fun o ho q => ?_, m2.cong (by simp [enc1]), Gr.frs' a3.gl m4 (fun q d => a3.ne d.1 q d.2.symm), fun q => ?_, fun q => ⟨(a3.ol q).1, by have := (a3.ol q).2; omega⟩, fun q1 q2 => ?_, ?_, a3.vl.frs m4 hD hX2, a3.va.frs m4 hD hX2, Sl.frs a3.sa m4 fun q d => a3.na q (hD _ d), fun q d => a3.na q (hX2 _ (a3.sa.objLt q) d)⟩
  · have := (a3.oo q.1).1; omega
  · refine ⟨?_, (m3 q).2⟩
    rcases (m3 q).1 with ⟨q1, q2⟩ | q1
    · rw [q1]; exact (a3.oo q2).1
    · omega
  · rcases (m3 q1).1 with ⟨q3, q4⟩ | q3
    · rw [q3]; exact a3.ne q4 q2
    · have := (a3.ol q2).2; omega
  · refine (a3.vo.frs m4 hD hX2).snoc (w := w) ((Sl.frs (hr.ext e3) m4 fun q d => hX q (hD _ d))) fun q d => ?_
    exact hX q (hX2 _ (by have := hr.objLt q; omega) d)
/-- Rows more in the second. -/
theorem WI.addLong (a : WI H0 H out og ro wo long lg rl wl all ra wa) {long' : AV} {lg' : Nat} {rl' : List AV} {wl' : List (List Int)} (g : Gr lg' (lg' + 1) H' 1 long' (rl'.map enc1)) (l : long' ≠ .nils → lg' < H'.length ∧ ((lg' = lg ∧ long ≠ .nils) ∨ H.length ≤ lg'))
    (v : WV H' rl' wl' (fun o => (out ≠ .nils ∧ o = og) ∨ (long' ≠ .nils ∧ o = lg'))) (f : FrS (fun o => long ≠ .nils ∧ o = lg) H H') : WI H0 H' out og ro wo long' lg' rl' wl' all ra wa := by
  have hk := a.ext.len
  have hlen := f.len
  have hD : ∀ o, (long ≠ .nils ∧ o = lg) → WX out og long lg o := fun o q => .inr q
  have hX2 : ∀ o, o < H.length → WX out og long' lg' o → WX out og long lg o := by
    rintro o ho (q | ⟨q1, q2⟩)
    · exact .inl q
    · rcases (l q1).2 with ⟨q3, q4⟩ | q3
      · exact .inr ⟨q4, q2.trans q3⟩
      · omega
  refine ⟨f.ext a.ext fun o ho q => ?_, Gr.frs' a.go f (fun q d => a.ne q d.1 d.2), g, fun q => ⟨(a.oo q).1, by have := (a.oo q).2; omega⟩, fun q => ⟨?_, (l q).1⟩, fun q1 q2 => ?_, a.vo.frs f hD hX2, v, a.va.frs f hD hX2, Sl.frs a.sa f fun q d => a.na q (hD _ d), fun q d => a.na q (hX2 _ (a.sa.objLt q) d)⟩
  · have := (a.ol q.1).1; omega
  · rcases (l q).2 with ⟨q1, q2⟩ | q1
    · rw [q1]; exact (a.ol q2).1
    · omega
  · rcases (l q2).2 with ⟨q3, q4⟩ | q3
    · rw [q3]; exact a.ne q1 q4
    · have := (a.oo q1).2; omega
open Classical in
noncomputable def flt (n : Nd) (l : List (List Int)) : List (List Int) := l.filter fun w => decide (In n w)
theorem flt_len (n : Nd) (l : List (List Int)) : (flt n l).length ≤ l.length := List.length_filter_le ..
theorem flt_app (n : Nd) (a b : List (List Int)) : flt n (a ++ b) = flt n a ++ flt n b := List.filter_append ..
theorem flt_t {n : Nd} {w : List Int} (h : In n w) : flt n [w] = [w] := by simp [flt, h]
theorem flt_f {n : Nd} {w : List Int} (h : ¬ In n w) : flt n [w] = [] := by simp [flt, h]
theorem words_l2 {n : Nd} {c5 : List AV} {n2 t13 t14 all : AV} {Q : AV → Heap → Prop} (nv : NV H0 n c5) (ok : Ok n) (hcn : cntN n ≤ 800000) (hn2 : At H0 n2 c5) (hwa : ∀ w ∈ wa, w.length ≤ 1000) (hwl : wa.length ≤ 10000) {wo0 : List (List Int)} (hwo : wo0.length ≤ 50000)
    (hc : ∀ (out : AV) (og : Nat) (ro : List AV) (long : AV) (lg : Nat) (rl : List AV) (H : Heap), WI H0 H out og ro (wo0 ++ flt n wa) long lg rl (longer wa) all ra wa →
      WP (fun p : Nat × Nat => oa (binV .add .scalar t14 (.int .i64 1)) fun t44 => match_Words_l1 tab p.1 p.2 n2 out long t13 t44 H) Q) :
    ∀ (d i : Nat) (out : AV) (og : Nat) (ro : List AV) (long : AV) (lg : Nat) (rl : List AV) (H : Heap), i + d = wa.length → WI H0 H out og ro (wo0 ++ flt n (wa.take i)) long lg rl (longer (wa.take i)) all ra wa →
      WP (fun p : (Nat × Nat) × Nat => match_Words_l2 tab p.1.1 p.1.2 p.2 n2 out long t13 t14 all (I ra.length) (I i) H) Q := by
  intro d
  induction d with
  | zero =>
    intro i out og ro long lg rl H h1 wi
    refine WP.rnd (fun i' j => match_Words_l2_eq tab i'.1 i'.2 j n2 out long t13 t14 all (I ra.length) (I i) H) ?_
    have hl := wi.va.1
    simp -implicitDefEqProofs (disch := first | assumption | omega | (simp only [gL] <;> omega) | ((repeat (first | exact Ext.refl _ | assumption | apply Ext.app | apply Ext.mk | (refine Ext.setr ?_ (by (first | omega | (simp only [gL] <;> omega))) _))); done) | (simp only [gL, gA] <;> omega) | fail) only [gB, setAll, partL, fldV, reduceIte, Nat.reduceAdd, Nat.reduceMul]
    rw [List.take_of_length_le (by omega)] at wi
    exact WP.lv (hc out og ro long lg rl H wi) fun i j => rfl
  | succ d ih =>
    intro i out og ro long lg rl H h1 wi
    refine WP.rnd (fun i' j => match_Words_l2_eq tab i'.1 i'.2 j n2 out long t13 t14 all (I ra.length) (I i) H) ?_
    have hl := wi.va.1
    obtain ⟨r, hr⟩ : ∃ r, gi ra i = r := ⟨_, rfl⟩
    have hr2 : ra[i]? = some r := by
      have := gi_some (xs := ra) (i := (i : Int)) (by omega) (by omega)
      rw [hr] at this; exact this
    obtain ⟨w, hw2⟩ : ∃ w, wa[i]? = some w := ⟨_, List.getElem?_eq_getElem (by omega)⟩
    have hwm := hwa w (List.mem_of_getElem? hw2)
    obtain ⟨hrw, hrx⟩ := wi.va.2 i r w hr2 hw2
    have hc5 : c5.length = 5 := by obtain ⟨_, _, rfl, _, _⟩ := nv.inv; rfl
    have e0 := Ext.refl H
    have hsa := wi.sa
    have nvH := nv.keeps (.ofExt wi.ext)
    have hn := hn2.ext wi.ext
    have htk5 : c5.take 5 = c5 := List.take_of_length_le (by omega)
    have htk : wa.take (i + 1) = wa.take i ++ [w] := by rw [List.take_add_one, hw2]; rfl
    simp -implicitDefEqProofs (disch := first | assumption | omega | (simp only [gL] <;> omega) | ((repeat (first | exact Ext.refl _ | assumption | apply Ext.app | apply Ext.mk | (refine Ext.setr ?_ (by (first | omega | (simp only [gL] <;> omega))) _))); done) | (simp only [gL, gA, hsa.idxG, hsa.ld0, enc1, hr, hn.ldNE, hc5, htk5] <;> omega) | fail) only [gB, setAll, partL, fldV, reduceIte, Nat.reduceAdd, Nat.reduceMul, hsa.idxG, hsa.ld0, enc1, hr, hn.ldNE, hc5, htk5]
    refine WP.call (match_spec nvH ok hcn hrw (by omega)) ?_
    rintro _ H1 ⟨e1, b, rfl, hb⟩
    have wi1 := wi.extH e1
    have hlo : ∀ i, (longer (wa.take i)).length ≤ 50000 := fun i => by rw [longer_len, List.length_take]; omega
    have hone : longer [w] = [0, 1, 2, 3, 4].map fun (k : Int) => w ++ [k] := rfl
    have fin : ∀ (out : AV) (og : Nat) (ro : List AV) (H : Heap), WI H0 H out og ro (wo0 ++ flt n (wa.take (i + 1))) long lg rl (longer (wa.take i)) all ra wa →
        WP (fun p : (Nat × Nat) × Nat => match_Words_l3 tab p.1.1 p.1.2 p.2 (Fuel.k p) n2 out long r t13 t14 all (I ra.length) (I i) (I 0) H) Q := by
      intro out og ro H2 wi
      obtain ⟨hrw2, hrx2⟩ := wi.va.2 i r w hr2 hw2
      rw [show I 0 = I ((0 : Nat) : Int) from rfl]
      refine WP.ent (words_l3 (Y := fun o => out ≠ .nils ∧ o = og) (lg0 := lg) (long0 := long) (ws0 := longer (wa.take i)) hrw2 hwm (fun o q => by rw [q.2]; exact (wi.oo q.1).2) (fun q => (wi.ol q).2) (fun q1 q2 q3 => hrx2 q1 (.inr ⟨q2, q3⟩)) (by have := hlo i; omega)
        (fun long' lg' rows H3 g l v f => ?_) 5 0 long lg rl H2 rfl wi.gl (fun q => ⟨(wi.ol q).2, .inl ⟨rfl, q⟩⟩) ?_ (FrS.refl _ _)) fun i => rfl
      · have wi3 := wi.addLong g l v f
        rw [← hone, ← longer_append, ← htk] at wi3
        simp -implicitDefEqProofs (disch := first | assumption | omega | (simp only [gL] <;> omega) | ((repeat (first | exact Ext.refl _ | assumption | apply Ext.app | apply Ext.mk | (refine Ext.setr ?_ (by (first | omega | (simp only [gL] <;> omega))) _))); done) | (simp only [gL, gA] <;> omega) | fail) only [gB, setAll, partL, fldV, reduceIte, Nat.reduceAdd, Nat.reduceMul]
        exact ih (i + 1) out og ro long' lg' rows H3 (by omega) wi3
      · show WV H2 rl (longer (wa.take i) ++ []) _
        rw [List.append_nil]
        exact wi.vl
    cases b with
    | true =>
      simp -implicitDefEqProofs (disch := first | assumption | omega | (simp only [gL] <;> omega) | ((repeat (first | exact Ext.refl _ | assumption | apply Ext.app | apply Ext.mk | (refine Ext.setr ?_ (by (first | omega | (simp only [gL] <;> omega))) _))); done) | (simp only [gL, gA] <;> omega) | fail) only [gB, setAll, partL, fldV, reduceIte, Nat.reduceAdd, Nat.reduceMul]
      refine WP.call (cloneI_spec (hrw.ext e1) (by rw [List.length_map]; omega)) ?_
      rintro r2 H2 ⟨e2, g2⟩
      have wi2 := wi1.extH e2
      have ho2 := g2.sl.one
      have hc2 := g2.sl.cells
      obtain ⟨s', H3, og', m1, m2, _⟩ := wi2.addOut (w := w) g2.sl (fun q d => by
        have h1 := g2.objIn q
        rcases d with ⟨d1, d2⟩ | ⟨d1, d2⟩
        · have := (wi1.oo d1).2; omega
        · have := (wi1.ol d1).2; omega) (by
          have := wi.vo.1
          have := flt_len n (wa.take i)
          rw [List.length_take] at this
          rw [List.length_append] at *
          omega)
      rw [mkObj_eq] at m1
      simp -implicitDefEqProofs (disch := first | assumption | omega | (simp only [gL] <;> omega) | ((repeat (first | exact Ext.refl _ | assumption | apply Ext.app | apply Ext.mk | (refine Ext.setr ?_ (by (first | omega | (simp only [gL] <;> omega))) _))); done) | (simp only [gL, gA, ho2, hc2, m1] <;> omega) | fail) only [gB, setAll, partL, fldV, reduceIte, Nat.reduceAdd, Nat.reduceMul, ho2, hc2, m1]
      refine fin s' og' (ro ++ [r2]) H3 ?_
      rw [htk, flt_app, flt_t (hb.1 rfl), ← List.append_assoc]
      exact m2
    | false =>
      simp -implicitDefEqProofs (disch := first | assumption | omega | (simp only [gL] <;> omega) | ((repeat (first | exact Ext.refl _ | assumption | apply Ext.app | apply Ext.mk | (refine Ext.setr ?_ (by (first | omega | (simp only [gL] <;> omega))) _))); done) | (simp only [gL, gA] <;> omega) | fail) only [gB, setAll, partL, fldV, reduceIte, Nat.reduceAdd, Nat.reduceMul]
      refine fin out og ro H1 ?_
      rw [htk, flt_app, flt_f (fun q => by have := hb.2 q; simp at this), List.append_nil]
      exact wi1
theorem WI.turn (a : WI H0 H out og ro wo long lg rl wl all ra wa) : WI H0 H out og ro wo .nils 0 [] [] long rl wl where
  ext := a.ext
  go := a.go
  gl := Gr.nil ..
  oo := a.oo
  ol q := absurd rfl q
  ne _ q := absurd rfl q
  vo := a.vo.frs (FrS.refl _ _) (fun o q => q) fun o _ q => .inl (q.resolve_right fun z => z.1 rfl)
  vl := ⟨rfl, fun i r w q => by simp at q⟩
  va := a.vl.frs (FrS.refl _ _) (fun o q => q) fun o _ q => .inl (q.resolve_right fun z => z.1 rfl)
  sa := a.gl.sl
  na q d := by
    rcases d with ⟨d1, d2⟩ | ⟨d1, _⟩
    · have := a.gl.objIn q
      exact a.ne d1 q (by omega)
    · exact d1 rfl
end
theorem words_l1 {n : Nd} {c5 : List AV} {n2 : AV} {H0 : Heap} (nv : NV H0 n c5) (ok : Ok n) (hcn : cntN n ≤ 800000) (hn2 : At H0 n2 c5) {most : Nat} (hm : most ≤ 4) :
    ∀ (d t : Nat) (out : AV) (og : Nat) (ro : List AV) (all : AV) (ra : List AV) (H : Heap), t + d = most + 1 → WI H0 H out og ro (flt n ((List.range t).flatMap wl)) .nils 0 [] [] all ra (wl t) →
      WP (fun p : Nat × Nat => match_Words_l1 tab p.1 p.2 n2 out all (I ((most : Int) + 1)) (I t) H) fun r h' => Ext H0 h' ∧ ∃ rows, Sl h' 1 r (rows.map enc1) ∧ WV h' rows (wordsN n most) (fun _ => False) := by
  intro d
  induction d with
  | zero =>
    intro t out og ro all ra H h1 wi
    refine WP.rnd (fun i' j => match_Words_l1_eq tab i' j n2 out all (I ((most : Int) + 1)) (I t) H) ?_
    simp -implicitDefEqProofs (disch := first | assumption | omega | (simp only [gL] <;> omega) | ((repeat (first | exact Ext.refl _ | assumption | apply Ext.app | apply Ext.mk | (refine Ext.setr ?_ (by (first | omega | (simp only [gL] <;> omega))) _))); done) | (simp only [gL, gA] <;> omega) | fail) only [gB, setAll, partL, fldV, reduceIte, Nat.reduceAdd, Nat.reduceMul]
    refine WP.lv (WP.congr (fun i => match_Words_b4_eq tab i out H) ?_) fun i j => rfl
    have hb : (flt n ((List.range t).flatMap wl)).length ≤ 1000 := by
      refine Nat.le_trans (flt_len ..) ?_
      have : t ≤ 5 := by omega
      have : t = 0 ∨ t = 1 ∨ t = 2 ∨ t = 3 ∨ t = 4 ∨ t = 5 := by omega
      rcases this with rfl | rfl | rfl | rfl | rfl | rfl <;> simp [List.range_succ, wl_len]
    refine WP.call (cloneII_spec wi.go.sl (by have := wi.vo.1; rw [List.length_map]; omega)) ?_
    rintro r H2 ⟨e2, g2⟩
    refine WP.ret ⟨wi.ext.trans e2, ro, g2.sl, ?_⟩
    have : wordsN n most = flt n ((List.range t).flatMap wl) := by
      rw [show t = most + 1 by omega]; rfl
    rw [this]
    exact wi.vo.frs (D := fun _ => False) (FrS.ofExt e2) (fun _ q => q.elim) (fun _ _ q => q.elim)
  | succ d ih =>
    intro t out og ro all ra H h1 wi
    refine WP.rnd (fun i' j => match_Words_l1_eq tab i' j n2 out all (I ((most : Int) + 1)) (I t) H) ?_
    have hsa := wi.sa
    have h5 : t = 0 ∨ t = 1 ∨ t = 2 ∨ t = 3 ∨ t = 4 := by omega
    have hb : (flt n ((List.range t).flatMap wl)).length ≤ 1000 := by
      refine Nat.le_trans (flt_len ..) ?_
      rcases h5 with rfl | rfl | rfl | rfl | rfl <;> simp [List.range_succ, wl_len]
    have hlt : (wl t).length ≤ 1000 := by rw [wl_len]; rcases h5 with rfl | rfl | rfl | rfl | rfl <;> omega
    have hll := hsa.len
    rw [List.length_map] at hll
    simp -implicitDefEqProofs (disch := first | assumption | omega | (simp only [gL] <;> omega) | ((repeat (first | exact Ext.refl _ | assumption | apply Ext.app | apply Ext.mk | (refine Ext.setr ?_ (by (first | omega | (simp only [gL] <;> omega))) _))); done) | (simp only [gL, gA, hll] <;> omega) | fail) only [gB, setAll, partL, fldV, reduceIte, Nat.reduceAdd, Nat.reduceMul, hll]
    rw [show AV.int .i64 0 = I ((0 : Nat) : Int) from rfl]
    refine WP.ent (words_l2 (wo0 := flt n ((List.range t).flatMap wl)) (wa := wl t) nv ok hcn hn2 (fun w hw => by have := (wl_mem.1 hw).1; omega) (by omega) (by omega) (fun out' og' ro' long lg rl H' wi' => ?_) (wl t).length 0 out og ro .nils 0 [] H (by omega) (by simpa [flt, longer] using wi)) fun i => rfl
    simp -implicitDefEqProofs (disch := first | assumption | omega | (simp only [gL] <;> omega) | ((repeat (first | exact Ext.refl _ | assumption | apply Ext.app | apply Ext.mk | (refine Ext.setr ?_ (by (first | omega | (simp only [gL] <;> omega))) _))); done) | (simp only [gL, gA] <;> omega) | fail) only [gB, setAll, partL, fldV, reduceIte, Nat.reduceAdd, Nat.reduceMul]
    refine ih (t + 1) out' og' ro' long rl H' (by omega) ?_
    rw [List.range_succ, List.flatMap_append, flt_app, show wl (t + 1) = longer (wl t) from rfl]
    simpa using wi'.turn
theorem words_spec {n : Nd} {c5 : List AV} {h : Heap} (nv : NV h n c5) (ok : Ok n) (hcn : cntN n ≤ 800000) {most : Nat} (hm : most ≤ 4) :
    Tot tab f_match_Words [.agg c5, I most] h fun r h' => Ext h h' ∧ ∃ rows, Sl h' 1 r (rows.map enc1) ∧ WV h' rows (wordsN n most) (fun _ => False) := by
  refine WP.tot (fun k' => (call_match_Words k' _ _ h).trans (match_Words_eq tab k' _ _ h)) ?_
  have nv' := nv
  obtain ⟨s5, css, rfl, sl5, nvs⟩ := nv.inv
  have ho5 : s5.one = true := sl5.one
  obtain ⟨h1, hh1⟩ : ∃ h1, h1 = h ++ [AObj.cells ⟨[I n.kind, I n.st, I n.lo, I n.hi, s5], 0, 0, false⟩] := ⟨_, rfl⟩
  have e1 : Ext h h1 := by rw [hh1]; ((repeat (first | exact Ext.refl _ | assumption | apply Ext.app | apply Ext.mk | (refine Ext.setr ?_ (by (first | omega | (simp only [gL] <;> omega))) _))))
  have hx1 : h1[h.length]? = some (.cells ⟨[I n.kind, I n.st, I n.lo, I n.hi, s5], 0, 0, false⟩) := by rw [hh1]; simp
  simp -implicitDefEqProofs (disch := first | assumption | omega | (simp only [gL] <;> omega) | ((repeat (first | exact Ext.refl _ | assumption | apply Ext.app | apply Ext.mk | (refine Ext.setr ?_ (by (first | omega | (simp only [gL] <;> omega))) _))); done) | (simp only [gL, gA, ho5] <;> omega) | fail) only [gB, setAll, partL, fldV, reduceIte, Nat.reduceAdd, Nat.reduceMul, ho5]
  have hl1 : h1.length = h.length + 1 := by rw [hh1]; simp
  rw [← hh1, ← hl1, show AV.int .i64 0 = I ((0 : Nat) : Int) from rfl]
  have e2 : Ext h1 (h1 ++ [.cells ⟨[.nils], 0, 0, false⟩]) := Ext.push h1 _
  refine WP.ent (WP.mono (words_l1 (nv'.keeps (.ofExt (e1.trans e2))) ok hcn ((At.row hx1 (Nat.le_refl _) rfl).ext e2) hm (most + 1) 0 .nils 0 [] _ [.nils] _ (by omega) ?_) ?_) fun i => rfl
  · have hsl : Sl (h1 ++ [.cells ⟨[.nils], 0, 0, false⟩]) 1 (.sl h1.length 0 1 1 none 0) ([AV.nils].map enc1) := (Gr.lit (h := h1) (sz := 1) (v := [.nils]) rfl).sl
    refine ⟨Ext.refl _, Gr.nil .., Gr.nil .., fun q => absurd rfl q, fun q => absurd rfl q, fun q => absurd rfl q, ?_, ⟨rfl, fun i r w q => by simp at q⟩, ⟨rfl, fun i r w q1 q2 => ?_⟩, hsl, fun q d => by rcases d with d | d <;> exact d.1 rfl⟩
    · exact ⟨by simp [flt], fun i r w q => by simp at q⟩
    · match i, q1, q2 with
      | 0, q1, q2 =>
        simp [wl] at q1 q2
        subst q1 q2
        exact ⟨.inl ⟨rfl, rfl⟩, fun q => absurd rfl q⟩
  · rintro r h' ⟨e3, q⟩
    exact ⟨(e1.trans e2).trans e3, q⟩
end Go.Gm.A5

set_option linter.unusedVariables false
set_option linter.unusedSimpArgs false
namespace Go.Gm.A5
open Go Go.Gm

section
variable {h : Heap} {w0 : AV} {w : List Int} {most : Nat} {lo : Nat}
theorem next_l1 (hw0 : Sl h 1 w0 (w.map encI)) (hwl : w.length ≤ 1000) (hm : most ≤ 1000) (hlo : h.length ≤ lo) :
    ∀ (i : Nat) (p z : List Int) (s : AV) (H : Heap), p.length = i → i + z.length = w.length → (∀ c ∈ p, 0 ≤ c ∧ c < 5) → Ext h H → lo ≤ H.length → Gr lo H.length H 1 s ((p ++ z).map encI) →
      WP (fun q : Nat × Nat => milestoneref5_Next_l1 tab q.1 q.2 w0 (I most) s (I i) H) fun r h' => Ext h h' ∧ ∃ s', r = .tup [s', .bool (!(inc p).2 || decide (w.length < most))] ∧ Gr lo h'.length h' 1 s' ((if (inc p).2 then (inc p).1 ++ z ++ [0] else (inc p).1 ++ z).map encI) := by
  intro i
  induction i with
  | zero =>
    intro p z s H hp hz hr ex hlH gr
    obtain rfl := List.eq_nil_of_length_eq_zero hp
    refine WP.rnd (fun i' j => milestoneref5_Next_l1_eq tab i' j w0 (I most) s (I (0 : Nat)) H) ?_
    simp -implicitDefEqProofs (disch := first | assumption | omega | (simp only [gL] <;> omega) | ((repeat (first | exact Ext.refl _ | assumption | apply Ext.app | apply Ext.mk | (refine Ext.setr ?_ (by (first | omega | (simp only [gL] <;> omega))) _))); done) | (simp only [gL, gA] <;> omega) | fail) only [gB, setAll, partL, fldV, reduceIte, Nat.reduceAdd, Nat.reduceMul]
    refine WP.lv (WP.congr (fun i => milestoneref5_Next_b2_eq tab i w0 (I most) s H) ?_) fun i j => rfl
    obtain ⟨s', H', u1, u2, u3⟩ := gr.append1 (bytes := 8) (v := [I 0]) rfl (by omega) (by omega) (by rw [List.length_map]; simp at hz ⊢; omega) hlH (Nat.le_refl _)
    rw [mkObj_eq] at u1
    have e2 := u3.ext ex hlo
    have hw2 := hw0.ext e2
    simp -implicitDefEqProofs (disch := first | assumption | omega | (simp only [gL] <;> omega) | ((repeat (first | exact Ext.refl _ | assumption | apply Ext.app | apply Ext.mk | (refine Ext.setr ?_ (by (first | omega | (simp only [gL] <;> omega))) _))); done) | (simp only [gL, gA, u1, hw2.lenG, bin_lss] <;> omega) | fail) only [gB, setAll, partL, fldV, reduceIte, Nat.reduceAdd, Nat.reduceMul, u1, hw2.lenG, bin_lss]
    refine WP.ret ⟨e2, s', ?_, u2.cong (by simp [inc, incR, encI])⟩
    simp [inc, incR]
  | succ i ih =>
    intro p z s H hp hz hr ex hlH gr
    obtain ⟨c, p', hpp⟩ : ∃ c p', p = p' ++ [c] := by
      have hne : p ≠ [] := by rintro rfl; simp at hp
      exact ⟨_, _, (List.dropLast_concat_getLast hne).symm⟩
    subst hpp
    have hp' : p'.length = i := by simp at hp; exact hp
    have hc := hr c (by simp)
    refine WP.rnd (fun i' j => milestoneref5_Next_l1_eq tab i' j w0 (I most) s (I ((i + 1 : Nat) : Int)) H) ?_
    have gs := gr.sl
    have e0 := Ext.refl H
    have hln : (p' ++ [c] ++ z).length = w.length := by simp at hz ⊢; omega
    have hgi : gi (p' ++ [c] ++ z) ((i : Nat) : Int) = c := gi_map (by rw [List.append_assoc, List.getElem?_append_right (by omega), hp']; simp)
    obtain ⟨H1, m1, m2, m3, m4⟩ := gr.write0 (i := (i : Int)) (by omega) (by rw [List.length_map]; omega) (v := I (c + 1)) rfl rfl
    have hset : ∀ x : Int, (List.map encI (p' ++ [c] ++ z)).set ((i : Int).toNat) [I x] = List.map encI (p' ++ x :: z) := fun x => by
      rw [Int.toNat_natCast, show [I x] = encI x from rfl, ← List.map_set, List.append_assoc, List.set_append_right _ _ (by omega), hp']
      simp
    rw [show (I (c + 1)).cells = [I (c + 1)] from rfl, hset] at m2
    have gs1 := m2.sl
    have e1 := Ext.refl H1
    have hln1 : (p' ++ (c + 1) :: z).length = w.length := by simp at hz ⊢; omega
    have hgi1 : gi (p' ++ (c + 1) :: z) ((i : Nat) : Int) = c + 1 := gi_map (by rw [List.getElem?_append_right (by omega), hp']; simp)
    have hsub : ((i + 1 : Nat) : Int) - 1 = (i : Int) := by omega
    by_cases h5 : c + 1 < 5
    · simp -implicitDefEqProofs (disch := first | assumption | omega | (simp only [gL] <;> omega) | ((repeat (first | exact Ext.refl _ | assumption | apply Ext.app | apply Ext.mk | (refine Ext.setr ?_ (by (first | omega | (simp only [gL] <;> omega))) _))); done) | (simp only [gL, gA, hsub, gs.idxG, gs.ld0, encI, hgi, m1, gs1.idxG, gs1.ld0, hgi1] <;> omega) | fail) only [gB, setAll, partL, fldV, reduceIte, Nat.reduceAdd, Nat.reduceMul, hsub, gs.idxG, gs.ld0, encI, hgi, m1, gs1.idxG, gs1.ld0, hgi1]
      refine WP.lv (WP.ret ⟨m3.ext ex hlo, s, ?_, ?_⟩) fun i j => rfl
      · rw [inc_lt h5]; rfl
      · rw [inc_lt h5]
        rw [← m4] at m2
        exact m2.cong (by simp [encI])
    · obtain ⟨H2, n1, n2, n3, n4⟩ := m2.write0 (i := (i : Int)) (by omega) (by rw [List.length_map]; omega) (v := I 0) rfl rfl
      have hset1 : (List.map encI (p' ++ (c + 1) :: z)).set ((i : Int).toNat) [I 0] = List.map encI (p' ++ 0 :: z) := by
        rw [Int.toNat_natCast, show [I 0] = encI 0 from rfl, ← List.map_set, List.set_append_right _ _ (by omega), hp']
        simp
      rw [show (I 0).cells = [I 0] from rfl, hset1] at n2
      simp -implicitDefEqProofs (disch := first | assumption | omega | (simp only [gL] <;> omega) | ((repeat (first | exact Ext.refl _ | assumption | apply Ext.app | apply Ext.mk | (refine Ext.setr ?_ (by (first | omega | (simp only [gL] <;> omega))) _))); done) | (simp only [gL, gA, hsub, gs.idxG, gs.ld0, encI, hgi, m1, gs1.idxG, gs1.ld0, hgi1, n1] <;> omega) | fail) only [gB, setAll, partL, fldV, reduceIte, Nat.reduceAdd, Nat.reduceMul, hsub, gs.idxG, gs.ld0, encI, hgi, m1, gs1.idxG, gs1.ld0, hgi1, n1]
      have e2 := n3.ext (m3.ext ex hlo) hlo
      refine WP.mono (ih p' (0 :: z) s H2 hp' (by simp at hz ⊢; omega) (fun x hx => hr x (by simp [hx])) e2 (by omega) (n2.mono (Nat.le_refl _) (by omega))) ?_
      rintro r h' ⟨q1, s', q2, q3⟩
      refine ⟨q1, s', ?_, q3.cong ?_⟩
      · rw [q2, inc_ge h5]
      · rw [inc_ge h5]; simp
theorem next_spec (hw0 : Sl h 1 w0 (w.map encI)) (hwl : w.length ≤ 1000) (hm : most ≤ 1000) (hr : ∀ c ∈ w, 0 ≤ c ∧ c < 5) :
    Tot tab f_milestoneref5_Next [w0, I most] h fun r h' => Ext h h' ∧ ∃ s', r = .tup [s', .bool (!(inc w).2 || decide (w.length < most))] ∧ Gr h.length h'.length h' 1 s' ((nxt w).map encI) := by
  refine WP.tot (fun k' => (call_milestoneref5_Next k' _ _ h).trans (milestoneref5_Next_eq tab k' _ _ h)) ?_
  obtain ⟨s', h', h1, h2, h3⟩ := clone_i (bytes := 8) hw0 (by omega) (by omega) (by rw [List.length_map]; omega)
  rw [mkObj_eq] at h1
  have hl := h2.sl.lenG
  simp -implicitDefEqProofs (disch := first | assumption | omega | (simp only [gL] <;> omega) | ((repeat (first | exact Ext.refl _ | assumption | apply Ext.app | apply Ext.mk | (refine Ext.setr ?_ (by (first | omega | (simp only [gL] <;> omega))) _))); done) | (simp only [gL, gA, h1, hl] <;> omega) | fail) only [gB, setAll, partL, fldV, reduceIte, Nat.reduceAdd, Nat.reduceMul, h1, hl]
  refine WP.ent (WP.mono (next_l1 hw0 hwl hm (Nat.le_refl _) w.length w [] s' h' rfl (by simp) hr h3 h3.len (by simpa using h2)) ?_) fun i => rfl
  rintro r h'' ⟨q1, s'', q2, q3⟩
  refine ⟨q1, s'', q2, q3.cong ?_⟩
  simp [nxt]
end
section
variable {H0 : Heap} {n : Nd} {c5 : List AV} {n2 : AV} {most : Nat}
theorem rround (nv : NV H0 n c5) (ok : Ok n) (wf : Wf n) (hn2 : At H0 n2 c5) {out : AV} {og : Nat} {ro : List AV} {wo : List (List Int)} {s : AV} {H : Heap} {w : List Int} {Q : AV → Heap → Prop}
    (hwl : w.length ≤ 1000) (hb : wo.length ≤ 50000) (wi : WI H0 H out og ro wo .nils 0 [] [] .nils [] []) (hs : Sl H 1 s (w.map encI)) (hx : s ≠ .nils → ¬ WX out og .nils 0 s.obj)
    (hc : ∀ (out' : AV) (og' : Nat) (ro' : List AV) (H' : Heap), WI H0 H' out' og' ro' (wo ++ flt n [w]) .nils 0 [] [] .nils [] [] → Sl H' 1 s (w.map encI) → WP (fun q : Nat × Nat => milestoneref5_Words_b2 tab q.1 q.2 (I most) n2 out' s H') Q) :
    WP (fun q : Nat × Nat => milestoneref5_Words_l1 tab q.1 q.2 (I most) n2 out s (.bool true) H) Q := by
  have hc5 : c5.length = 5 := by obtain ⟨_, _, rfl, _, _⟩ := nv.inv; rfl
  have htk5 : c5.take 5 = c5 := List.take_of_length_le (by omega)
  refine WP.rnd (fun i' j => milestoneref5_Words_l1_eq tab i' j (I most) n2 out s (.bool true) H) ?_
  have hn := hn2.ext wi.ext
  have e0 := Ext.refl H
  simp -implicitDefEqProofs (disch := first | assumption | omega | (simp only [gL] <;> omega) | ((repeat (first | exact Ext.refl _ | assumption | apply Ext.app | apply Ext.mk | (refine Ext.setr ?_ (by (first | omega | (simp only [gL] <;> omega))) _))); done) | (simp only [gL, gA, hn.ldNE, hc5, htk5] <;> omega) | fail) only [gB, setAll, partL, fldV, reduceIte, Nat.reduceAdd, Nat.reduceMul, hn.ldNE, hc5, htk5]
  refine WP.call (rmatch_spec (nv.keeps (.ofExt wi.ext)) ok wf hs (by omega)) ?_
  rintro _ H1 ⟨e1, b, rfl, hb'⟩
  have wi1 := wi.extH e1
  have hs1 := hs.ext e1
  cases b with
  | true =>
    obtain ⟨r, H2, u1, u2, u3⟩ := clone_i (bytes := 8) hs1 (by omega) (by omega) (by rw [List.length_map]; omega)
    rw [mkObj_eq] at u1
    have wi2 := wi1.extH u3
    have ho2 := u2.sl.one
    have hc2 := u2.sl.cells
    have hrl := wi.vo.1
    obtain ⟨s', H3, og', m1, m2, m3, m4⟩ := wi2.addOut (w := w) u2.sl (fun q d => by
      have h1 := u2.objIn q
      rcases d with ⟨d1, d2⟩ | ⟨d1, d2⟩
      · have := (wi1.oo d1).2; omega
      · exact d1 rfl) (by omega)
    rw [mkObj_eq] at m1
    simp -implicitDefEqProofs (disch := first | assumption | omega | (simp only [gL] <;> omega) | ((repeat (first | exact Ext.refl _ | assumption | apply Ext.app | apply Ext.mk | (refine Ext.setr ?_ (by (first | omega | (simp only [gL] <;> omega))) _))); done) | (simp only [gL, gA, u1, ho2, hc2, m1] <;> omega) | fail) only [gB, setAll, partL, fldV, reduceIte, Nat.reduceAdd, Nat.reduceMul, u1, ho2, hc2, m1]
    refine hc s' og' (ro ++ [r]) H3 ?_ (Sl.frs (hs1.ext u3) m3 fun q d => hx q (.inl d))
    rw [flt_t (hb'.1 rfl)]
    exact m2
  | false =>
    simp -implicitDefEqProofs (disch := first | assumption | omega | (simp only [gL] <;> omega) | ((repeat (first | exact Ext.refl _ | assumption | apply Ext.app | apply Ext.mk | (refine Ext.setr ?_ (by (first | omega | (simp only [gL] <;> omega))) _))); done) | (simp only [gL, gA] <;> omega) | fail) only [gB, setAll, partL, fldV, reduceIte, Nat.reduceAdd, Nat.reduceMul]
    refine hc out og ro H1 ?_ hs1
    rw [flt_f (fun q => by have := hb'.2 q; simp at this), List.append_nil]
    exact wi1
theorem rwords_l1 (nv : NV H0 n c5) (ok : Ok n) (wf : Wf n) (hn2 : At H0 n2 c5) (hm : most ≤ 1000) :
    ∀ (l : List (List Int)) (out : AV) (og : Nat) (ro : List AV) (wo : List (List Int)) (s : AV) (H : Heap) (w : List Int), (∀ v ∈ w :: l, v.length ≤ 1000 ∧ ∀ c ∈ v, 0 ≤ c ∧ c < 5) → Good most (w :: l) → wo.length + l.length ≤ 50000 → WI H0 H out og ro wo .nils 0 [] [] .nils [] [] → Sl H 1 s (w.map encI) → (s ≠ .nils → ¬ WX out og .nils 0 s.obj) →
      WP (fun q : Nat × Nat => milestoneref5_Words_l1 tab q.1 q.2 (I most) n2 out s (.bool true) H) fun r h' => Ext H0 h' ∧ ∃ rows, Sl h' 1 r (rows.map enc1) ∧ WV h' rows (wo ++ flt n (w :: l)) (fun o => False) := by
  intro l
  induction l with
  | nil =>
    intro out og ro wo s H w hr hg hb wi hs hx
    refine rround nv ok wf hn2 (hr w (by simp)).1 (by simpa using hb) wi hs hx fun out' og' ro' H' wi' hs' => ?_
    refine WP.congr (fun i => milestoneref5_Words_b2_eq tab i.1 i.2 (I most) n2 out' s H') ?_
    refine WP.call (next_spec hs' (hr w (by simp)).1 hm (hr w (by simp)).2) ?_
    rintro _ H2 ⟨e2, s2, rfl, g2⟩
    have hfl : (!(inc w).2 || decide (w.length < most)) = false := by
      rw [hg.1, decide_eq_false hg.2]; rfl
    rw [hfl]
    simp -implicitDefEqProofs (disch := first | assumption | omega | (simp only [gL] <;> omega) | ((repeat (first | exact Ext.refl _ | assumption | apply Ext.app | apply Ext.mk | (refine Ext.setr ?_ (by (first | omega | (simp only [gL] <;> omega))) _))); done) | (simp only [gL, gA, extr_tup] <;> omega) | fail) only [gB, setAll, partL, fldV, reduceIte, Nat.reduceAdd, Nat.reduceMul, extr_tup]
    refine WP.rnd (fun i' j => milestoneref5_Words_l1_eq tab i' j (I most) n2 out' s2 (.bool false) H2) ?_
    simp -implicitDefEqProofs (disch := first | assumption | omega | (simp only [gL] <;> omega) | ((repeat (first | exact Ext.refl _ | assumption | apply Ext.app | apply Ext.mk | (refine Ext.setr ?_ (by (first | omega | (simp only [gL] <;> omega))) _))); done) | (simp only [gL, gA] <;> omega) | fail) only [gB, setAll, partL, fldV, reduceIte, Nat.reduceAdd, Nat.reduceMul]
    have wi2 := wi'.extH e2
    refine WP.lv (WP.ret ⟨wi2.ext, ro', wi2.go.sl, wi2.vo.frs (FrS.refl (fun _ => False) _) (fun _ q => q.elim) fun _ _ q => q.elim⟩) fun i j => rfl
  | cons v l ih =>
    intro out og ro wo s H w hr hg hb wi hs hx
    refine rround nv ok wf hn2 (hr w (by simp)).1 (by simp at hb; omega) wi hs hx fun out' og' ro' H' wi' hs' => ?_
    refine WP.congr (fun i => milestoneref5_Words_b2_eq tab i.1 i.2 (I most) n2 out' s H') ?_
    refine WP.call (next_spec hs' (hr w (by simp)).1 hm (hr w (by simp)).2) ?_
    rintro _ H2 ⟨e2, s2, rfl, g2⟩
    have hfl : (!(inc w).2 || decide (w.length < most)) = true := by
      cases hq : (inc w).2 with
      | false => rfl
      | true => rw [decide_eq_true (hg.2.1 hq)]; rfl
    rw [hfl, hg.1] at *
    simp -implicitDefEqProofs (disch := first | assumption | omega | (simp only [gL] <;> omega) | ((repeat (first | exact Ext.refl _ | assumption | apply Ext.app | apply Ext.mk | (refine Ext.setr ?_ (by (first | omega | (simp only [gL] <;> omega))) _))); done) | (simp only [gL, gA, extr_tup] <;> omega) | fail) only [gB, setAll, partL, fldV, reduceIte, Nat.reduceAdd, Nat.reduceMul, extr_tup]
    have wi2 := wi'.extH e2
    have := ih out' og' ro' (wo ++ flt n [w]) s2 H2 v (fun x hx => hr x (by simp at hx ⊢; exact .inr hx)) hg.2.2 (by have := flt_len n [w]; simp at hb this ⊢; omega) wi2 g2.sl (fun q d => by
      have h1 := g2.objIn q
      rcases d with ⟨d1, d2⟩ | ⟨d1, d2⟩
      · have := (wi'.oo d1).2; omega
      · exact d1 rfl)
    rw [List.append_assoc, ← flt_app] at this
    exact this
end
theorem rwords_spec {n : Nd} {c5 : List AV} {h : Heap} (nv : NV h n c5) (ok : Ok n) (wf : Wf n) {most : Nat} (hm : most ≤ 4) :
    Tot tab f_milestoneref5_Words [.agg c5, I most] h fun r h' => Ext h h' ∧ ∃ rows, Sl h' 1 r (rows.map enc1) ∧ WV h' rows (wordsN n most) (fun _ => False) := by
  refine WP.tot (fun k' => (call_milestoneref5_Words k' _ _ h).trans (milestoneref5_Words_eq tab k' _ _ h)) ?_
  have nv' := nv
  obtain ⟨s5, css, rfl, sl5, nvs⟩ := nv.inv
  have ho5 : s5.one = true := sl5.one
  obtain ⟨h1, hh1⟩ : ∃ h1, h1 = h ++ [AObj.cells ⟨[I n.kind, I n.st, I n.lo, I n.hi, s5], 0, 0, false⟩] := ⟨_, rfl⟩
  have e1 : Ext h h1 := by rw [hh1]; ((repeat (first | exact Ext.refl _ | assumption | apply Ext.app | apply Ext.mk | (refine Ext.setr ?_ (by (first | omega | (simp only [gL] <;> omega))) _))))
  have hx1 : h1[h.length]? = some (.cells ⟨[I n.kind, I n.st, I n.lo, I n.hi, s5], 0, 0, false⟩) := by rw [hh1]; simp
  simp -implicitDefEqProofs (disch := first | assumption | omega | (simp only [gL] <;> omega) | ((repeat (first | exact Ext.refl _ | assumption | apply Ext.app | apply Ext.mk | (refine Ext.setr ?_ (by (first | omega | (simp only [gL] <;> omega))) _))); done) | (simp only [gL, gA, ho5] <;> omega) | fail) only [gB, setAll, partL, fldV, reduceIte, Nat.reduceAdd, Nat.reduceMul, ho5]
  have hl1 : h1.length = h.length + 1 := by rw [hh1]; simp
  rw [← hh1, ← hl1]
  have e2 : Ext h1 (h1 ++ [.cells ⟨[], 0, 0, false⟩]) := Ext.push h1 _
  obtain ⟨r, hr1, hr2⟩ := good_words most
  have hall : ∀ v ∈ [] :: r, v.length ≤ 1000 ∧ ∀ c ∈ v, 0 ≤ c ∧ c < 5 := fun v hv => by
    rw [← hr1] at hv
    have := words_rng hv
    exact ⟨by omega, this.2⟩
  have hlen : ([] :: r : List (List Int)).length ≤ 1000 := by
    rw [← hr1]
    have : most = 0 ∨ most = 1 ∨ most = 2 ∨ most = 3 ∨ most = 4 := by omega
    rcases this with rfl | rfl | rfl | rfl | rfl <;> simp [List.range_succ, wl_len]
  refine WP.ent (WP.mono (rwords_l1 (nv'.keeps (.ofExt (e1.trans e2))) ok wf ((At.row hx1 (Nat.le_refl _) rfl).ext e2) (by omega) r .nils 0 [] [] _ _ [] hall hr2 (by simp at hlen ⊢; omega) ?_ (Gr.empty (h := h1) (sz := 1)).sl (fun _ d => by rcases d with d | d <;> exact d.1 rfl)) ?_) fun i => rfl
  · refine ⟨Ext.refl _, Gr.nil .., Gr.nil .., fun q => absurd rfl q, fun q => absurd rfl q, fun q => absurd rfl q, ⟨rfl, fun i r w q => by simp at q⟩, ⟨rfl, fun i r w q => by simp at q⟩, ⟨rfl, fun i r w q => by simp at q⟩, .inl ⟨rfl, rfl⟩, fun q d => by rcases d with d | d <;> exact d.1 rfl⟩
  · rintro r' h' ⟨e3, rows, q1, q2⟩
    refine ⟨(e1.trans e2).trans e3, rows, q1, ?_⟩
    have : wordsN n most = flt n ((List.range (most + 1)).flatMap wl) := rfl
    rw [this, hr1]
    exact q2
end Go.Gm.A5

set_option linter.unusedVariables false
set_option linter.unusedSimpArgs false
namespace Go.Gm.A5
open Go Go.Gm

/-! ### Expressions, and where they lie -/
mutual
inductive NVD (h : Heap) (D : Nat → Prop) : Nd → List AV → Prop
  | mk {n : Nd} {s : AV} {css : List (List AV)} : Sl h 5 s css → (s ≠ .nils → D s.obj) → NVDs h D n.kids css → NVD h D n [I n.kind, I n.st, I n.lo, I n.hi, s]
inductive NVDs (h : Heap) (D : Nat → Prop) : List Nd → List (List AV) → Prop
  | nil : NVDs h D [] []
  | cons {n : Nd} {cs : List AV} {l : List Nd} {css : List (List AV)} : NVD h D n cs → NVDs h D l css → NVDs h D (n :: l) (cs :: css)
end
mutual
theorem NVD.nv {h : Heap} {D : Nat → Prop} : ∀ {n : Nd} {cs : List AV}, NVD h D n cs → NV h n cs
  | _, _, .mk a _ b => .mk a (NVDs.nvs b)
theorem NVDs.nvs {h : Heap} {D : Nat → Prop} : ∀ {l : List Nd} {css : List (List AV)}, NVDs h D l css → NVs h l css
  | _, _, .nil => .nil
  | _, _, .cons a b => .cons (NVD.nv a) (NVDs.nvs b)
end
mutual
theorem NVD.frs {h h' : Heap} {D D' E : Nat → Prop} (f : FrS E h h') (h1 : ∀ o, o < h.length → D o → ¬ E o) (h2 : ∀ o, o < h.length → D o → D' o) : ∀ {n : Nd} {cs : List AV}, NVD h D n cs → NVD h' D' n cs
  | _, _, .mk a d b => .mk (Sl.frs a f fun q => h1 _ (a.objLt q) (d q)) (fun q => h2 _ (a.objLt q) (d q)) (NVDs.frs f h1 h2 b)
theorem NVDs.frs {h h' : Heap} {D D' E : Nat → Prop} (f : FrS E h h') (h1 : ∀ o, o < h.length → D o → ¬ E o) (h2 : ∀ o, o < h.length → D o → D' o) : ∀ {l : List Nd} {css : List (List AV)}, NVDs h D l css → NVDs h' D' l css
  | _, _, .nil => .nil
  | _, _, .cons a b => .cons (NVD.frs f h1 h2 a) (NVDs.frs f h1 h2 b)
end
theorem NVDs.snoc {h : Heap} {D : Nat → Prop} {n : Nd} {cs : List AV} (a : NVD h D n cs) : ∀ {l : List Nd} {css : List (List AV)}, NVDs h D l css → NVDs h D (l ++ [n]) (css ++ [cs])
  | _, _, .nil => .cons a .nil
  | _, _, .cons x y => .cons x (NVDs.snoc a y)
theorem NVD.ext {h h' : Heap} {D D' : Nat → Prop} (e : Ext h h') (h2 : ∀ o, o < h.length → D o → D' o) {n : Nd} {cs : List AV} (a : NVD h D n cs) : NVD h' D' n cs := a.frs (E := fun _ => False) (FrS.ofExt e) (fun _ _ _ q => q) h2
theorem NVD.inv {h : Heap} {D : Nat → Prop} {n : Nd} {cs : List AV} (a : NVD h D n cs) : ∃ s, cs = [I n.kind, I n.st, I n.lo, I n.hi, s] ∧ s.one = true := by
  cases a with
  | mk a b c => exact ⟨_, rfl, a.one⟩
theorem FrS.set1 (h : Heap) (o : Nat) (x : AObj) : FrS (fun p => p = o) h (h.set o x) := ⟨by simp, fun p h1 _ => List.getElem?_set_ne (fun q => h1 q.symm)⟩
theorem NVD.len {h : Heap} {D : Nat → Prop} {n : Nd} {cs : List AV} (a : NVD h D n cs) : cs.length = 5 := a.nv.len
theorem NVD.one {h : Heap} {D : Nat → Prop} {n : Nd} {cs : List AV} (a : NVD h D n cs) : cs.all AV.one = true := a.nv.one
theorem NVDs.len {h : Heap} {D : Nat → Prop} {l : List Nd} {css : List (List AV)} (a : NVDs h D l css) : l.length = css.length := a.nvs.length

/-- An expression whose row of parts grows: its cells are at the end of Hb. -/
structure NB (Hb H : Heap) (q : List AV) (s : AV) (lg : Nat) (l : List Nd) (css : List (List AV)) : Prop where
  ext : Ext Hb H
  no : Hb.length < H.length
  row : H[Hb.length]? = some (.cells ⟨q ++ [s], 0, 0, false⟩)
  gr : Gr lg (lg + 1) H 5 s css
  lgl : s ≠ .nils → Hb.length < lg ∧ lg < H.length
  nvs : NVDs H (fun o => Hb.length < o ∧ o < H.length ∧ ¬ (s ≠ .nils ∧ o = lg)) l css
theorem NB.new (Hb : Heap) (q : List AV) : NB Hb (Hb ++ [.cells ⟨q ++ [.nils], 0, 0, false⟩]) q .nils 0 [] [] where
  ext := Ext.push _ _
  no := by simp
  row := by simp
  gr := Gr.nil ..
  lgl q := absurd rfl q
  nvs := .nil
section
variable {Hb H : Heap} {q : List AV} {s : AV} {lg : Nat} {l : List Nd} {css : List (List AV)}
theorem NB.at (a : NB Hb H q s lg l css) (hq : q.length = 4) : At H (.ptr Hb.length 0 5 0) (q ++ [s]) := At.row a.row (Nat.le_refl _) (by simp [hq])
theorem NB.extH {H' : Heap} (a : NB Hb H q s lg l css) (e : Ext H H') : NB Hb H' q s lg l css where
  ext := a.ext.trans e
  no := Nat.lt_of_lt_of_le a.no e.len
  row := e.get a.row
  gr := a.gr.ext e
  lgl q := ⟨(a.lgl q).1, Nat.lt_of_lt_of_le (a.lgl q).2 e.len⟩
  nvs := a.nvs.frs (E := fun _ => False) (FrS.ofExt e) (fun _ _ _ q => q) fun o h1 h2 => ⟨h2.1, Nat.lt_of_lt_of_le h1 e.len, h2.2.2⟩
/-- A part more. -/
theorem NB.add (a : NB Hb H q s lg l css) (hq : q.length = 4) {H1 : Heap} (e : Ext H H1) {n : Nd} {c5 : List AV} (nv : NVD H1 (fun o => H.length ≤ o ∧ o < H1.length) n c5) (hl : css.length ≤ 1000) :
    ∃ s' H3, apnd 5 56 s (.sl H1.length 0 1 5 none 0) (mkObj H1 c5) = some (s', H3) ∧ s'.one = true ∧ s'.cells = [s'] ∧ H3[Hb.length]? = some (.cells ⟨q ++ [s], 0, 0, false⟩) ∧ ∃ lg', NB Hb (H3.set Hb.length (.cells ⟨q ++ [s'], 0, 0, false⟩)) q s' lg' (l ++ [n]) (css ++ [c5]) := by
  have a1 := a.extH e
  have e3 : Ext H1 (mkObj H1 c5) := Ext.push H1 _
  have a3 := a1.extH e3
  have hl3 : (mkObj H1 c5).length = H1.length + 1 := by simp [mkObj]
  have hH := a.no
  have hH1 := e.len
  obtain ⟨s', H3, lg', m1, m2, m3, m4, m5⟩ := Gr.appQ (bytes := 56) a3.gr (fun q => (a3.lgl q).2) (Gr.lit (sz := 5) (v := c5) nv.len).sl (by omega) (by omega) (by simp; omega)
  have hlen := m4.len
  have hnn : s ≠ .nils → Hb.length ≠ lg := fun q1 q2 => by have := (a.lgl q1).1; omega
  have hrow : H3[Hb.length]? = some (.cells ⟨q ++ [s], 0, 0, false⟩) := (m4.get (fun z => hnn z.1 z.2) (by omega)).trans a3.row
  refine ⟨s', H3, m1, m2.sl.one, m2.sl.cells, hrow, lg', ?_⟩
  have hs' : s' ≠ .nils := m2.nnil (by simp)
  have hlg' : Hb.length < lg' := by
    rcases (m3 hs').1 with ⟨q1, q2⟩ | q1
    · rw [q1]; exact (a.lgl q2).1
    · omega
  -- all but the expression's own cells and its row
  have f : FrS (fun o => o = Hb.length ∨ (s ≠ .nils ∧ o = lg)) (mkObj H1 c5) (H3.set Hb.length (.cells ⟨q ++ [s'], 0, 0, false⟩)) := by
    refine ⟨by simp; omega, fun o h1 h2 => ?_⟩
    rw [List.getElem?_set_ne (fun z => h1 (.inl z.symm)), m4.get (fun z => h1 (.inr z)) h2]
  have hold : ∀ o, o < H1.length + 1 → o = lg' → s ≠ .nils ∧ o = lg := by
    intro o h1 h2
    rcases (m3 hs').1 with ⟨q1, q2⟩ | q1
    · exact ⟨q2, h2.trans q1⟩
    · omega
  refine ⟨?_, by simp; omega, by rw [List.getElem?_set_self (by omega)], ?_, fun _ => ⟨hlg', by simp; exact (m3 hs').2⟩, ?_⟩
  · exact f.ext a3.ext fun o h1 h2 => by
      rcases h2 with h2 | ⟨h2, h4⟩
      · omega
      · have := (a.lgl h2).1; omega
  · exact (m2.set (by omega) _)
  · have hl4 : (H3.set Hb.length (.cells ⟨q ++ [s'], 0, 0, false⟩)).length = H3.length := by simp
    refine NVDs.snoc (n := n) (cs := c5) ?_ ?_
    · refine (nv.ext e3 (D' := fun o => H.length ≤ o ∧ o < H1.length) fun _ _ z => z).frs f (fun o h1 h2 h3 => ?_) fun o h1 h2 => ⟨by omega, by rw [hl4]; omega, fun z => ?_⟩
      · rcases h3 with h3 | ⟨h3, h4⟩
        · omega
        · have := (a.lgl h3).2; omega
      · have z2 := hold o (by omega) z.2
        have := (a.lgl z2.1).2; omega
    · refine a3.nvs.frs f (fun o h1 h2 h3 => ?_) fun o h1 h2 => ⟨h2.1, by rw [hl4]; omega, fun z => ?_⟩
      · rcases h3 with h3 | h3
        · omega
        · exact h2.2.2 h3
      · exact h2.2.2 (hold o (by omega) z.2)
theorem NB.cong {css' : List (List AV)} {l' : List Nd} (a : NB Hb H q s lg l css) (e : l = l') : NB Hb H q s lg l' css := e ▸ a
/-- All parts are there. -/
theorem NB.done (a : NB Hb H q s lg l css) {n : Nd} (hq : q = [I n.kind, I n.st, I n.lo, I n.hi]) (hl : n.kids = l) : NVD H (fun o => Hb.length < o ∧ o < H.length) n (q ++ [s]) := by
  subst hq hl
  exact .mk a.gr.sl (fun z => by have h1 := a.gr.objIn z; have h2 := a.lgl z; omega) (a.nvs.frs (FrS.refl (fun _ => False) _) (fun _ _ _ z => z) fun o _ z => ⟨z.1, z.2.1⟩)
end

/-! ### How much: 'size' (d: how deep it may go on) -/
def szF : Nat → List Rw → Int
  | 0, _ => 1000
  | d + 1, rs => rs.foldl (fun n r => if n ≤ 14 then n + 1 + szF d r.kids else n) 0
def szAdd (d : Nat) (n : Int) (rs : List Rw) : Int := rs.foldl (fun n r => if n ≤ 14 then n + 1 + szF d r.kids else n) n
theorem szAdd_gt (d : Nat) : ∀ (rs : List Rw) {n : Int}, ¬ n ≤ 14 → szAdd d n rs = n
  | [], n, _ => rfl
  | r :: rs, n, h => by
    show szAdd d (if n ≤ 14 then _ else n) rs = n
    rw [if_neg h]; exact szAdd_gt d rs h
theorem sz_rng : ∀ (d : Nat) (rs : List Rw), 0 ≤ szF d rs ∧ szF d rs ≤ 1000 + 15 * d
  | 0, rs => by simp [szF]
  | d + 1, rs => by
    have : ∀ (rs : List Rw) (n : Int), 0 ≤ n → n ≤ 1000 + 15 * (d + 1) → 0 ≤ szAdd d n rs ∧ szAdd d n rs ≤ 1000 + 15 * (d + 1) := by
      intro rs
      induction rs with
      | nil => intro n h1 h2; exact ⟨h1, h2⟩
      | cons r rs ih =>
        intro n h1 h2
        show 0 ≤ szAdd d (if n ≤ 14 then n + 1 + szF d r.kids else n) rs ∧ szAdd d (if n ≤ 14 then n + 1 + szF d r.kids else n) rs ≤ _
        have := sz_rng d r.kids
        split
        · exact ih _ (by omega) (by omega)
        · exact ih _ h1 h2
    have := this rs 0 (by omega) (by omega)
    exact ⟨this.1, by have := this.2; simp only [szAdd] at this; simp only [szF]; omega⟩
theorem size_spec : ∀ (d : Nat), d ≤ 7 → ∀ (rs : List Rw) (s : AV) (css : List (List AV)) (h : Heap), Sl h 3 s css → RVs h rs css →
    Tot tab f_milestonelaw4_size [s, I (7 - (d : Int))] h fun r h' => r = I (szF d rs) ∧ h' = h := by
  intro d
  induction d with
  | zero =>
    intro _ rs s css h hs hr
    refine WP.tot (fun k => (call_milestonelaw4_size k _ _ h).trans (milestonelaw4_size_eq tab k _ _ h)) ?_
    simp -implicitDefEqProofs (disch := first | assumption | omega | (simp only [gL] <;> omega) | ((repeat (first | exact Ext.refl _ | assumption | apply Ext.app | apply Ext.mk | (refine Ext.setr ?_ (by (first | omega | (simp only [gL] <;> omega))) _))); done) | (simp only [gL, gA] <;> omega) | fail) only [gB, setAll, partL, fldV, reduceIte, Nat.reduceAdd, Nat.reduceMul]
    exact WP.ret ⟨rfl, rfl⟩
  | succ d ihd =>
    intro hd rs s css h hs hr
    refine WP.tot (fun k => (call_milestonelaw4_size k _ _ h).trans (milestonelaw4_size_eq tab k _ _ h)) ?_
    simp -implicitDefEqProofs (disch := first | assumption | omega | (simp only [gL] <;> omega) | ((repeat (first | exact Ext.refl _ | assumption | apply Ext.app | apply Ext.mk | (refine Ext.setr ?_ (by (first | omega | (simp only [gL] <;> omega))) _))); done) | (simp only [gL, gA] <;> omega) | fail) only [gB, setAll, partL, fldV, reduceIte, Nat.reduceAdd, Nat.reduceMul]
    have hs' : Sl h 3 s (css.map fun x => x) := by rw [List.map_id']; exact hs
    have hlen := hr.len
    have loop : ∀ (e i : Nat) (n : Int), i + e = rs.length → (i : Int) ≤ n → n ≤ 2000 → szAdd d n (rs.drop i) = szF (d + 1) rs → WP (fun p : Nat × Nat => milestonelaw4_size_l1 tab p.1 p.2 s (I (7 - ((d + 1 : Nat) : Int))) (I n) (I i) h) fun r h' => r = I (szF (d + 1) rs) ∧ h' = h := by
      intro e
      induction e with
      | zero =>
        intro i n h1 h2 h3 h4
        refine WP.rnd (fun i' j => milestonelaw4_size_l1_eq tab i' j s (I (7 - ((d + 1 : Nat) : Int))) (I n) (I i) h) ?_
        simp -implicitDefEqProofs (disch := first | assumption | omega | (simp only [gL] <;> omega) | ((repeat (first | exact Ext.refl _ | assumption | apply Ext.app | apply Ext.mk | (refine Ext.setr ?_ (by (first | omega | (simp only [gL] <;> omega))) _))); done) | (simp only [gL, gA, hs'.lenG] <;> omega) | fail) only [gB, setAll, partL, fldV, reduceIte, Nat.reduceAdd, Nat.reduceMul, hs'.lenG]
        rw [List.drop_of_length_le (by omega)] at h4
        exact WP.lv (WP.ret ⟨by rw [← h4]; rfl, rfl⟩) fun i j => rfl
      | succ e ih =>
        intro i n h1 h2 h3 h4
        refine WP.rnd (fun i' j => milestonelaw4_size_l1_eq tab i' j s (I (7 - ((d + 1 : Nat) : Int))) (I n) (I i) h) ?_
        by_cases hn : n ≤ 14
        · have hil : i < rs.length := by omega
          have hdr : rs.drop i = rs[i] :: rs.drop (i + 1) := List.drop_eq_getElem_cons hil
          obtain ⟨r, hr2⟩ : ∃ r, rs[i] = r := ⟨_, rfl⟩
          rw [hr2] at hdr
          have hri : rs[i]? = some r := by rw [List.getElem?_eq_getElem hil, hr2]
          obtain ⟨cs, hcs, rv⟩ := hr.get hri
          have hg : gi css (i : Int) = cs := gi_map hcs
          have e0 := Ext.refl h
          rw [hdr] at h4
          cases rv with
          | @mk k m l s2 css2 sl2 rv2 =>
          simp -implicitDefEqProofs (disch := first | assumption | omega | (simp only [gL] <;> omega) | ((repeat (first | exact Ext.refl _ | assumption | apply Ext.app | apply Ext.mk | (refine Ext.setr ?_ (by (first | omega | (simp only [gL] <;> omega))) _))); done) | (simp only [gL, gA, hs'.lenG, hs'.idxG, hs'.ldf, hg] <;> omega) | fail) only [gB, setAll, partL, fldV, reduceIte, Nat.reduceAdd, Nat.reduceMul, hs'.lenG, hs'.idxG, hs'.ldf, hg]
          have := ihd (by omega) l s2 css2 h sl2 rv2
          rw [show (7 : Int) - (d : Int) = 7 - ((d + 1 : Nat) : Int) + 1 by omega] at this
          refine WP.call this ?_
          rintro _ _ ⟨rfl, rfl⟩
          have hrg := sz_rng d l
          simp -implicitDefEqProofs (disch := first | assumption | omega | (simp only [gL] <;> omega) | ((repeat (first | exact Ext.refl _ | assumption | apply Ext.app | apply Ext.mk | (refine Ext.setr ?_ (by (first | omega | (simp only [gL] <;> omega))) _))); done) | (simp only [gL, gA] <;> omega) | fail) only [gB, setAll, partL, fldV, reduceIte, Nat.reduceAdd, Nat.reduceMul]
          refine ih (i + 1) (n + 1 + szF d l) (by omega) (by omega) (by omega) ?_
          rw [← h4]
          show _ = szAdd d (if n ≤ 14 then n + 1 + szF d l else n) _
          rw [if_pos hn]
        · simp -implicitDefEqProofs (disch := first | assumption | omega | (simp only [gL] <;> omega) | ((repeat (first | exact Ext.refl _ | assumption | apply Ext.app | apply Ext.mk | (refine Ext.setr ?_ (by (first | omega | (simp only [gL] <;> omega))) _))); done) | (simp only [gL, gA, hs'.lenG] <;> omega) | fail) only [gB, setAll, partL, fldV, reduceIte, Nat.reduceAdd, Nat.reduceMul, hs'.lenG]
          rw [szAdd_gt d _ hn] at h4
          exact WP.lv (WP.ret ⟨by rw [← h4], rfl⟩) fun i j => rfl
    rw [show AV.int .i64 0 = I ((0 : Nat) : Int) from rfl]
    exact WP.ent (loop rs.length 0 0 (by omega) (by omega) (by omega) rfl) fun i => rfl
end Go.Gm.A5

set_option linter.unusedVariables false
set_option linter.unusedSimpArgs false
namespace Go.Gm.A5
open Go Go.Gm

abbrev wr (n : Int) : Int := IntKind.i64.wrap n
theorem add_w (a b : Int) : binV .add .scalar (I a) (I b) = some (I (wr (a + b))) := rfl
/-- A sign. -/
def sgn (n : Int) : Nd := .set (2 ^ (n % 5).toNat)
/-- A raw one's part, of the parts' expressions. -/
def ptN (n : Int) (ls : List Nd) (i : Nat) : Nd := ls.getD i (sgn (wr (n + i)))
def ptsN (n : Int) (ls : List Nd) : List Nd := (List.range (max 2 (min ls.length 4))).map (ptN n ls)
def mkOf (k n : Int) (ls : List Nd) : Nd :=
  match (k % 14).toNat with
  | 0 | 1 => .set (1 + (n % 31).toNat)
  | 2 | 3 => sgn n
  | 4 => if n % 3 = 0 then .emp else .eps
  | 5 | 6 | 7 => .join (ptsN n ls)
  | 8 | 9 => .uni (ptsN n ls)
  | 10 => .star (ptN n ls 0)
  | 11 => .plus (ptN n ls 0)
  | 12 => .opt (ptN n ls 0)
  | _ => .rep (n % 4).toNat ((n % 4).toNat + (wr (n.tdiv 4) % 3).toNat) (ptN n ls 0)
mutual
/-- The expression of a raw one. -/
def mkN : Rw → Nd
  | .mk k n l => mkOf k n (mkNs l)
def mkNs : List Rw → List Nd
  | [] => []
  | r :: l => mkN r :: mkNs l
end
theorem mkNs_map : ∀ l : List Rw, mkNs l = l.map mkN
  | [] => rfl
  | r :: l => by rw [mkNs, mkNs_map l]; rfl
/-- What one's call tells. -/
abbrev NewN (h : Heap) (n : Nd) (v : AV) (h' : Heap) : Prop := Ext h h' ∧ ∃ c5, v = .agg c5 ∧ NVD h' (fun o => h.length ≤ o ∧ o < h'.length) n c5
def MakeS (r : Rw) : Prop := ∀ (c3 : List AV) (h : Heap), RV h r c3 → Tot tab f_milestonelaw4_Raw_Make [.agg c3] h (NewN h (mkN r))
theorem nvd_leaf {h : Heap} {D : Nat → Prop} {n : Nd} (hn : n.kids = []) : NVD h D n [I n.kind, I n.st, I n.lo, I n.hi, .nils] :=
  .mk (css := []) (.inl ⟨rfl, rfl⟩) (fun q => absurd rfl q) (by rw [hn]; exact .nil)
/-- A raw one's variable. -/
structure RA (h : Heap) (p : AV) (k n : Int) (l : List Rw) (s : AV) (css : List (List AV)) : Prop where
  at_ : At h p [I k, I n, s]
  sl : Sl h 3 s css
  rv : RVs h l css
theorem RA.ext {h h' : Heap} {p : AV} {k n : Int} {l : List Rw} {s : AV} {css : List (List AV)} (a : RA h p k n l s css) (e : Ext h h') : RA h' p k n l s css := ⟨a.at_.ext e, a.sl.ext e, a.rv.ext e⟩
theorem part_spec {k n : Int} {l : List Rw} (hS : ∀ c ∈ l, MakeS c) (c3 : List AV) {h : Heap} (rv : RV h (.mk k n l) c3) {i : Nat} (hi : i ≤ 1000) :
    Tot tab f_milestonelaw4_Raw_part [.agg c3, I i] h (NewN h (ptN n (mkNs l) i)) := by
  refine WP.tot (fun k' => (call_milestonelaw4_Raw_part k' _ _ h).trans (milestonelaw4_Raw_part_eq tab k' _ _ h)) ?_
  cases rv with
  | @mk _ _ _ s css sl rv =>
  have hso := sl.one
  obtain ⟨h1, hh1⟩ : ∃ h1, h1 = (h ++ [AObj.cells ⟨[I k, I n, s], 0, 0, false⟩]) ++ [AObj.cells ⟨[I 0, I 0, I 0, I 0, .nils], 0, 0, false⟩] := ⟨_, rfl⟩
  have e1 : Ext h h1 := by rw [hh1]; ((repeat (first | exact Ext.refl _ | assumption | apply Ext.app | apply Ext.mk | (refine Ext.setr ?_ (by (first | omega | (simp only [gL] <;> omega))) _))))
  have hl1 : h1.length = h.length + 2 := by rw [hh1]; simp
  have hx0 : h1[h.length]? = some (.cells ⟨[I k, I n, s], 0, 0, false⟩) := by rw [hh1]; simp
  have hx1 : h1[h.length + 1]? = some (.cells ⟨[I 0, I 0, I 0, I 0, .nils], 0, 0, false⟩) := by rw [hh1]; simp
  have sl' : Sl h1 3 s (css.map fun x => x) := by rw [List.map_id']; exact sl.ext e1
  have hlen := rv.len
  simp -implicitDefEqProofs (disch := first | assumption | omega | (simp only [gL] <;> omega) | ((repeat (first | exact Ext.refl _ | assumption | apply Ext.app | apply Ext.mk | (refine Ext.setr ?_ (by (first | omega | (simp only [gL] <;> omega))) _))); done) | (simp only [gL, gA, hso] <;> omega) | fail) only [gB, setAll, partL, fldV, reduceIte, Nat.reduceAdd, Nat.reduceMul, hso]
  rw [← hh1]
  simp -implicitDefEqProofs (disch := first | assumption | omega | (simp only [gL] <;> omega) | ((repeat (first | exact Ext.refl _ | assumption | apply Ext.app | apply Ext.mk | (refine Ext.setr ?_ (by (first | omega | (simp only [gL] <;> omega))) _))); done) | (simp only [gL, gA, hx0, sl'.lenG] <;> omega) | fail) only [gB, setAll, partL, fldV, reduceIte, Nat.reduceAdd, Nat.reduceMul, hx0, sl'.lenG]
  have fin : ∀ {n' : Nd} {c5 : List AV} {H : Heap} (e : Ext h1 H) (nv : NVD H (fun o => h1.length ≤ o ∧ o < H.length) n' c5), NewN h n' (.agg c5) (H.set (h.length + 1) (.cells ⟨c5, 0, 0, false⟩)) := by
    intro n' c5 H e nv
    have := e.len
    refine ⟨(e1.trans e).set (by omega) _, c5, rfl, nv.frs (FrS.set1 H (h.length + 1) _) (fun o h1 h2 h3 => by omega) fun o h1 h2 => ⟨by omega, by simp; exact h2.2⟩⟩
  by_cases hil : i < l.length
  · obtain ⟨r, hr⟩ : ∃ r, l[i]? = some r := ⟨_, List.getElem?_eq_getElem hil⟩
    obtain ⟨cs, hcs, rvr⟩ := rv.get hr
    have hg : gi css (i : Int) = cs := gi_map hcs
    have e0 := Ext.refl h1
    simp -implicitDefEqProofs (disch := first | assumption | omega | (simp only [gL] <;> omega) | ((repeat (first | exact Ext.refl _ | assumption | apply Ext.app | apply Ext.mk | (refine Ext.setr ?_ (by (first | omega | (simp only [gL] <;> omega))) _))); done) | (simp only [gL, gA, hx0, sl'.idxG, sl'.ldN, hg] <;> omega) | fail) only [gB, setAll, partL, fldV, reduceIte, Nat.reduceAdd, Nat.reduceMul, hx0, sl'.idxG, sl'.ldN, hg]
    refine WP.call (hS r (List.mem_of_getElem? hr) cs h1 (rvr.ext e1)) ?_
    rintro _ H ⟨e2, c5, rfl, nv⟩
    have hx2 := e2.get hx1
    obtain ⟨s5, rfl, ho5⟩ := nv.inv
    have hHl := e2.len
    simp -implicitDefEqProofs (disch := first | assumption | omega | (simp only [gL] <;> omega) | ((repeat (first | exact Ext.refl _ | assumption | apply Ext.app | apply Ext.mk | (refine Ext.setr ?_ (by (first | omega | (simp only [gL] <;> omega))) _))); done) | (simp only [gL, gA, hx2, ho5] <;> omega) | fail) only [gB, setAll, partL, fldV, reduceIte, Nat.reduceAdd, Nat.reduceMul, hx2, ho5]
    have hp : mkN r = ptN n (mkNs l) i := by simp [ptN, mkNs_map, List.getD_eq_getElem?_getD, hr]
    rw [← hp]
    exact WP.ret (fin e2 nv)
  · simp -implicitDefEqProofs (disch := first | assumption | omega | (simp only [gL] <;> omega) | ((repeat (first | exact Ext.refl _ | assumption | apply Ext.app | apply Ext.mk | (refine Ext.setr ?_ (by (first | omega | (simp only [gL] <;> omega))) _))); done) | (simp only [gL, gA, hx0, sl'.lenG, add_w] <;> omega) | fail) only [gB, setAll, partL, fldV, reduceIte, Nat.reduceAdd, Nat.reduceMul, hx0, sl'.lenG, add_w]
    refine WP.call (within4_spec (n := 5) (by omega) (by unfold Fit; omega) h1) ?_
    rintro _ _ ⟨rfl, rfl⟩
    have h5 : 0 ≤ wr (n + i) % 5 ∧ wr (n + i) % 5 < 5 := ⟨Int.emod_nonneg _ (by omega), Int.emod_lt_of_pos _ (by omega)⟩
    obtain ⟨m, hm⟩ : ∃ m : Int, wr (n + i) % 5 = m := ⟨_, rfl⟩
    rw [hm] at h5
    rw [hm]
    simp -implicitDefEqProofs (disch := first | assumption | omega | (simp only [gL] <;> omega) | ((repeat (first | exact Ext.refl _ | assumption | apply Ext.app | apply Ext.mk | (refine Ext.setr ?_ (by (first | omega | (simp only [gL] <;> omega))) _))); done) | (simp only [gL, gA, hx1] <;> omega) | fail) only [gB, setAll, partL, fldV, reduceIte, Nat.reduceAdd, Nat.reduceMul, hx1]
    have := fin (Ext.refl _) (nvd_leaf (h := h1) (D := fun o => h1.length ≤ o ∧ o < h1.length) (n := .set (2 ^ m.toNat)) rfl)
    have hp : ptN n (mkNs l) i = .set (2 ^ m.toNat) := by
      have : (mkNs l)[i]? = none := by rw [mkNs_map, List.getElem?_eq_none]; simp; omega
      simp only [ptN, List.getD_eq_getElem?_getD, this, Option.getD_none, sgn, hm]
    rw [hp]
    exact WP.ret this
theorem set_last (h : Heap) (x y : AObj) : (h ++ [x]).set h.length y = h ++ [y] := by simp
structure MC (h h1 : Heap) (k n : Int) (l : List Rw) (s : AV) (css : List (List AV)) : Prop where
  ext : Ext h h1
  len : h1.length = h.length + 2
  r0 : h1[h.length]? = some (.cells ⟨[I k, I n, s], 0, 0, false⟩)
  r1 : h1[h.length + 1]? = some (.cells ⟨[I 0, I 0, I 0, I 0, .nils], 0, 0, false⟩)
  sl : Sl h1 3 s css
  rv : RVs h1 l css
theorem MC.fin {h h1 : Heap} {k n : Int} {l : List Rw} {s : AV} {css : List (List AV)} (mc : MC h h1 k n l s css) {n' : Nd} {c5 : List AV} {H : Heap} (e : Ext h1 H) (nv : NVD H (fun o => h1.length ≤ o ∧ o < H.length) n' c5) : NewN h n' (.agg c5) (H.set (h.length + 1) (.cells ⟨c5, 0, 0, false⟩)) := by
  have := e.len
  have := mc.len
  refine ⟨(mc.ext.trans e).set (by omega) _, c5, rfl, nv.frs (FrS.set1 H (h.length + 1) _) (fun o h1 h2 h3 => by omega) fun o h1 h2 => ⟨by omega, by simp; exact h2.2⟩⟩

theorem make_l4 {h h1 : Heap} {k n : Int} {l : List Rw} {s : AV} {css : List (List AV)} (mc : MC h h1 k n l s css) (hS : ∀ c ∈ l, MakeS c) :
    ∀ (d i : Nat) (s4 : AV) (lg : Nat) (cs4 : List (List AV)) (H : Heap), i + d = max 2 (min l.length 4) → NB h1 H [I 4, I 0, I 0, I 0] s4 lg ((ptsN n (mkNs l)).take i) cs4 →
      WP (fun p : Nat × Nat => milestonelaw4_Raw_Make_l4 tab p.1 p.2 (.ptr h.length 0 3 0) (.ptr (h.length + 1) 0 5 0) (.ptr h1.length 0 5 0) (I i) H) (NewN h (.join (ptsN n (mkNs l)))) := by
  have hml : (mkNs l).length = l.length := by rw [mkNs_map, List.length_map]
  have hpl : (ptsN n (mkNs l)).length = max 2 (min l.length 4) := by simp [ptsN, hml]
  have h1l := mc.len
  intro d
  induction d with
  | zero =>
    intro i s4 lg cs4 H hi nb
    refine WP.rnd (fun i' j => milestonelaw4_Raw_Make_l4_eq tab i' j (.ptr h.length 0 3 0) (.ptr (h.length + 1) 0 5 0) (.ptr h1.length 0 5 0) (I i) H) ?_
    have hx0 := nb.ext.get mc.r0
    have hx1 := nb.ext.get mc.r1
    have sl' : Sl H 3 s (css.map fun x => x) := by rw [List.map_id']; exact mc.sl.ext nb.ext
    have hlen := mc.rv.len
    have hrow : H[h1.length]? = some (.cells ⟨[I 4, I 0, I 0, I 0, s4], 0, 0, false⟩) := nb.row
    have hso := nb.gr.sl.one
    have hno := nb.no
    rw [List.take_of_length_le (by omega)] at nb
    have nv := nb.done (n := .join (ptsN n (mkNs l))) rfl rfl
    have fin := mc.fin nb.ext (nv.frs (FrS.refl (fun _ => False) H) (fun _ _ _ z => z) (D' := fun o => h1.length ≤ o ∧ o < H.length) fun o _ z => ⟨by omega, z.2⟩)
    by_cases h4 : i < l.length
    · simp -implicitDefEqProofs (disch := first | assumption | omega | (simp only [gL] <;> omega) | ((repeat (first | exact Ext.refl _ | assumption | apply Ext.app | apply Ext.mk | (refine Ext.setr ?_ (by (first | omega | (simp only [gL] <;> omega))) _))); done) | (simp only [gL, gA, hx0, sl'.lenG, hrow, hx1, hso] <;> omega) | fail) only [gB, setAll, partL, fldV, reduceIte, Nat.reduceAdd, Nat.reduceMul, hx0, sl'.lenG, hrow, hx1, hso]
      exact WP.lv (WP.ret fin) fun i j => rfl
    · simp -implicitDefEqProofs (disch := first | assumption | omega | (simp only [gL] <;> omega) | ((repeat (first | exact Ext.refl _ | assumption | apply Ext.app | apply Ext.mk | (refine Ext.setr ?_ (by (first | omega | (simp only [gL] <;> omega))) _))); done) | (simp only [gL, gA, hx0, sl'.lenG, hrow, hx1, hso] <;> omega) | fail) only [gB, setAll, partL, fldV, reduceIte, Nat.reduceAdd, Nat.reduceMul, hx0, sl'.lenG, hrow, hx1, hso]
      exact WP.lv (WP.ret fin) fun i j => rfl
  | succ d ih =>
    intro i s4 lg cs4 H hi nb
    refine WP.rnd (fun i' j => milestonelaw4_Raw_Make_l4_eq tab i' j (.ptr h.length 0 3 0) (.ptr (h.length + 1) 0 5 0) (.ptr h1.length 0 5 0) (I i) H) ?_
    have hx0 := nb.ext.get mc.r0
    have sl' : Sl H 3 s (css.map fun x => x) := by rw [List.map_id']; exact mc.sl.ext nb.ext
    have hlen := mc.rv.len
    have hrow : H[h1.length]? = some (.cells ⟨[I 4, I 0, I 0, I 0, s4], 0, 0, false⟩) := nb.row
    have hcl : cs4.length ≤ 1000 := by rw [← nb.nvs.len, List.length_take]; omega
    have hil : i < 4 := by omega
    have htk : (ptsN n (mkNs l)).take (i + 1) = (ptsN n (mkNs l)).take i ++ [ptN n (mkNs l) i] := by
      rw [List.take_add_one]
      congr 1
      simp [ptsN, hml, show i < max 2 (min l.length 4) by omega]
    by_cases h2 : i < 2
    · simp -implicitDefEqProofs (disch := first | assumption | omega | (simp only [gL] <;> omega) | ((repeat (first | exact Ext.refl _ | assumption | apply Ext.app | apply Ext.mk | (refine Ext.setr ?_ (by (first | omega | (simp only [gL] <;> omega))) _))); done) | (simp only [gL, gA, hx0, hrow] <;> omega) | fail) only [gB, setAll, partL, fldV, reduceIte, Nat.reduceAdd, Nat.reduceMul, hx0, hrow]
      refine WP.call (part_spec (k := k) hS [I k, I n, s] (.mk (mc.sl.ext nb.ext) (mc.rv.ext nb.ext)) (i := i) (by omega)) ?_
      rintro _ H1 ⟨e1, c5, rfl, nv⟩
      obtain ⟨s5, rfl, ho5⟩ := nv.inv
      have hrow1 := e1.get hrow
      obtain ⟨s', H3, m1, m2, m3, m4, lg', nb'⟩ := nb.add rfl e1 nv hcl
      have m4' : H3[h1.length]? = some (.cells ⟨[I 4, I 0, I 0, I 0, s4], 0, 0, false⟩) := m4
      rw [mkObj_eq] at m1
      simp -implicitDefEqProofs (disch := first | assumption | omega | (simp only [gL] <;> omega) | ((repeat (first | exact Ext.refl _ | assumption | apply Ext.app | apply Ext.mk | (refine Ext.setr ?_ (by (first | omega | (simp only [gL] <;> omega))) _))); done) | (simp only [gL, gA, hrow1, ho5, m1, m4', m2, m3] <;> omega) | fail) only [gB, setAll, partL, fldV, reduceIte, Nat.reduceAdd, Nat.reduceMul, hrow1, ho5, m1, m4', m2, m3]
      rw [← htk] at nb'
      exact ih (i + 1) s' lg' _ _ (by omega) nb'
    · simp -implicitDefEqProofs (disch := first | assumption | omega | (simp only [gL] <;> omega) | ((repeat (first | exact Ext.refl _ | assumption | apply Ext.app | apply Ext.mk | (refine Ext.setr ?_ (by (first | omega | (simp only [gL] <;> omega))) _))); done) | (simp only [gL, gA, hx0, sl'.lenG, hrow] <;> omega) | fail) only [gB, setAll, partL, fldV, reduceIte, Nat.reduceAdd, Nat.reduceMul, hx0, sl'.lenG, hrow]
      refine WP.call (part_spec (k := k) hS [I k, I n, s] (.mk (mc.sl.ext nb.ext) (mc.rv.ext nb.ext)) (i := i) (by omega)) ?_
      rintro _ H1 ⟨e1, c5, rfl, nv⟩
      obtain ⟨s5, rfl, ho5⟩ := nv.inv
      have hrow1 := e1.get hrow
      obtain ⟨s', H3, m1, m2, m3, m4, lg', nb'⟩ := nb.add rfl e1 nv hcl
      have m4' : H3[h1.length]? = some (.cells ⟨[I 4, I 0, I 0, I 0, s4], 0, 0, false⟩) := m4
      rw [mkObj_eq] at m1
      simp -implicitDefEqProofs (disch := first | assumption | omega | (simp only [gL] <;> omega) | ((repeat (first | exact Ext.refl _ | assumption | apply Ext.app | apply Ext.mk | (refine Ext.setr ?_ (by (first | omega | (simp only [gL] <;> omega))) _))); done) | (simp only [gL, gA, hrow1, ho5, m1, m4', m2, m3] <;> omega) | fail) only [gB, setAll, partL, fldV, reduceIte, Nat.reduceAdd, Nat.reduceMul, hrow1, ho5, m1, m4', m2, m3]
      rw [← htk] at nb'
      exact ih (i + 1) s' lg' _ _ (by omega) nb'

theorem make_l6 {h h1 : Heap} {k n : Int} {l : List Rw} {s : AV} {css : List (List AV)} (mc : MC h h1 k n l s css) (hS : ∀ c ∈ l, MakeS c) :
    ∀ (d i : Nat) (s4 : AV) (lg : Nat) (cs4 : List (List AV)) (H : Heap), i + d = max 2 (min l.length 4) → NB h1 H [I 5, I 0, I 0, I 0] s4 lg ((ptsN n (mkNs l)).take i) cs4 →
      WP (fun p : Nat × Nat => milestonelaw4_Raw_Make_l6 tab p.1 p.2 (.ptr h.length 0 3 0) (.ptr (h.length + 1) 0 5 0) (.ptr h1.length 0 5 0) (I i) H) (NewN h (.uni (ptsN n (mkNs l)))) := by
  have hml : (mkNs l).length = l.length := by rw [mkNs_map, List.length_map]
  have hpl : (ptsN n (mkNs l)).length = max 2 (min l.length 4) := by simp [ptsN, hml]
  have h1l := mc.len
  intro d
  induction d with
  | zero =>
    intro i s4 lg cs4 H hi nb
    refine WP.rnd (fun i' j => milestonelaw4_Raw_Make_l6_eq tab i' j (.ptr h.length 0 3 0) (.ptr (h.length + 1) 0 5 0) (.ptr h1.length 0 5 0) (I i) H) ?_
    have hx0 := nb.ext.get mc.r0
    have hx1 := nb.ext.get mc.r1
    have sl' : Sl H 3 s (css.map fun x => x) := by rw [List.map_id']; exact mc.sl.ext nb.ext
    have hlen := mc.rv.len
    have hrow : H[h1.length]? = some (.cells ⟨[I 5, I 0, I 0, I 0, s4], 0, 0, false⟩) := nb.row
    have hso := nb.gr.sl.one
    have hno := nb.no
    rw [List.take_of_length_le (by omega)] at nb
    have nv := nb.done (n := .uni (ptsN n (mkNs l))) rfl rfl
    have fin := mc.fin nb.ext (nv.frs (FrS.refl (fun _ => False) H) (fun _ _ _ z => z) (D' := fun o => h1.length ≤ o ∧ o < H.length) fun o _ z => ⟨by omega, z.2⟩)
    by_cases h4 : i < l.length
    · simp -implicitDefEqProofs (disch := first | assumption | omega | (simp only [gL] <;> omega) | ((repeat (first | exact Ext.refl _ | assumption | apply Ext.app | apply Ext.mk | (refine Ext.setr ?_ (by (first | omega | (simp only [gL] <;> omega))) _))); done) | (simp only [gL, gA, hx0, sl'.lenG, hrow, hx1, hso] <;> omega) | fail) only [gB, setAll, partL, fldV, reduceIte, Nat.reduceAdd, Nat.reduceMul, hx0, sl'.lenG, hrow, hx1, hso]
      exact WP.lv (WP.ret fin) fun i j => rfl
    · simp -implicitDefEqProofs (disch := first | assumption | omega | (simp only [gL] <;> omega) | ((repeat (first | exact Ext.refl _ | assumption | apply Ext.app | apply Ext.mk | (refine Ext.setr ?_ (by (first | omega | (simp only [gL] <;> omega))) _))); done) | (simp only [gL, gA, hx0, sl'.lenG, hrow, hx1, hso] <;> omega) | fail) only [gB, setAll, partL, fldV, reduceIte, Nat.reduceAdd, Nat.reduceMul, hx0, sl'.lenG, hrow, hx1, hso]
      exact WP.lv (WP.ret fin) fun i j => rfl
  | succ d ih =>
    intro i s4 lg cs4 H hi nb
    refine WP.rnd (fun i' j => milestonelaw4_Raw_Make_l6_eq tab i' j (.ptr h.length 0 3 0) (.ptr (h.length + 1) 0 5 0) (.ptr h1.length 0 5 0) (I i) H) ?_
    have hx0 := nb.ext.get mc.r0
    have sl' : Sl H 3 s (css.map fun x => x) := by rw [List.map_id']; exact mc.sl.ext nb.ext
    have hlen := mc.rv.len
    have hrow : H[h1.length]? = some (.cells ⟨[I 5, I 0, I 0, I 0, s4], 0, 0, false⟩) := nb.row
    have hcl : cs4.length ≤ 1000 := by rw [← nb.nvs.len, List.length_take]; omega
    have hil : i < 4 := by omega
    have htk : (ptsN n (mkNs l)).take (i + 1) = (ptsN n (mkNs l)).take i ++ [ptN n (mkNs l) i] := by
      rw [List.take_add_one]
      congr 1
      simp [ptsN, hml, show i < max 2 (min l.length 4) by omega]
    by_cases h2 : i < 2
    · simp -implicitDefEqProofs (disch := first | assumption | omega | (simp only [gL] <;> omega) | ((repeat (first | exact Ext.refl _ | assumption | apply Ext.app | apply Ext.mk | (refine Ext.setr ?_ (by (first | omega | (simp only [gL] <;> omega))) _))); done) | (simp only [gL, gA, hx0, hrow] <;> omega) | fail) only [gB, setAll, partL, fldV, reduceIte, Nat.reduceAdd, Nat.reduceMul, hx0, hrow]
      refine WP.call (part_spec (k := k) hS [I k, I n, s] (.mk (mc.sl.ext nb.ext) (mc.rv.ext nb.ext)) (i := i) (by omega)) ?_
      rintro _ H1 ⟨e1, c5, rfl, nv⟩
      obtain ⟨s5, rfl, ho5⟩ := nv.inv
      have hrow1 := e1.get hrow
      obtain ⟨s', H3, m1, m2, m3, m4, lg', nb'⟩ := nb.add rfl e1 nv hcl
      have m4' : H3[h1.length]? = some (.cells ⟨[I 5, I 0, I 0, I 0, s4], 0, 0, false⟩) := m4
      rw [mkObj_eq] at m1
      simp -implicitDefEqProofs (disch := first | assumption | omega | (simp only [gL] <;> omega) | ((repeat (first | exact Ext.refl _ | assumption | apply Ext.app | apply Ext.mk | (refine Ext.setr ?_ (by (first | omega | (simp only [gL] <;> omega))) _))); done) | (simp only [gL, gA, hrow1, ho5, m1, m4', m2, m3] <;> omega) | fail) only [gB, setAll, partL, fldV, reduceIte, Nat.reduceAdd, Nat.reduceMul, hrow1, ho5, m1, m4', m2, m3]
      rw [← htk] at nb'
      exact ih (i + 1) s' lg' _ _ (by omega) nb'
    · simp -implicitDefEqProofs (disch := first | assumption | omega | (simp only [gL] <;> omega) | ((repeat (first | exact Ext.refl _ | assumption | apply Ext.app | apply Ext.mk | (refine Ext.setr ?_ (by (first | omega | (simp only [gL] <;> omega))) _))); done) | (simp only [gL, gA, hx0, sl'.lenG, hrow] <;> omega) | fail) only [gB, setAll, partL, fldV, reduceIte, Nat.reduceAdd, Nat.reduceMul, hx0, sl'.lenG, hrow]
      refine WP.call (part_spec (k := k) hS [I k, I n, s] (.mk (mc.sl.ext nb.ext) (mc.rv.ext nb.ext)) (i := i) (by omega)) ?_
      rintro _ H1 ⟨e1, c5, rfl, nv⟩
      obtain ⟨s5, rfl, ho5⟩ := nv.inv
      have hrow1 := e1.get hrow
      obtain ⟨s', H3, m1, m2, m3, m4, lg', nb'⟩ := nb.add rfl e1 nv hcl
      have m4' : H3[h1.length]? = some (.cells ⟨[I 5, I 0, I 0, I 0, s4], 0, 0, false⟩) := m4
      rw [mkObj_eq] at m1
      simp -implicitDefEqProofs (disch := first | assumption | omega | (simp only [gL] <;> omega) | ((repeat (first | exact Ext.refl _ | assumption | apply Ext.app | apply Ext.mk | (refine Ext.setr ?_ (by (first | omega | (simp only [gL] <;> omega))) _))); done) | (simp only [gL, gA, hrow1, ho5, m1, m4', m2, m3] <;> omega) | fail) only [gB, setAll, partL, fldV, reduceIte, Nat.reduceAdd, Nat.reduceMul, hrow1, ho5, m1, m4', m2, m3]
      rw [← htk] at nb'
      exact ih (i + 1) s' lg' _ _ (by omega) nb'

theorem MC.leaf {h h1 : Heap} {k n : Int} {l : List Rw} {s : AV} {css : List (List AV)} (mc : MC h h1 k n l s css) {n' : Nd} (hn : n'.kids = []) {H : Heap} (e : Ext h1 H) : NewN h n' (.agg [I n'.kind, I n'.st, I n'.lo, I n'.hi, .nils]) (H.set (h.length + 1) (.cells ⟨[I n'.kind, I n'.st, I n'.lo, I n'.hi, .nils], 0, 0, false⟩)) := mc.fin e (nvd_leaf hn)
theorem MC.kid {h h1 : Heap} {k n : Int} {l : List Rw} {s : AV} {css : List (List AV)} (mc : MC h h1 k n l s css) {n' c : Nd} (hn : n'.kids = [c]) {H1 : Heap} (e : Ext h1 H1) {c5 : List AV} (nv : NVD H1 (fun o => h1.length ≤ o ∧ o < H1.length) c c5) :
    NewN h n' (.agg [I n'.kind, I n'.st, I n'.lo, I n'.hi, .sl H1.length 0 1 5 none 0]) ((H1 ++ [AObj.cells ⟨c5, 0, 0, false⟩]).set (h.length + 1) (.cells ⟨[I n'.kind, I n'.st, I n'.lo, I n'.hi, .sl H1.length 0 1 5 none 0], 0, 0, false⟩)) := by
  have e3 : Ext H1 (H1 ++ [AObj.cells ⟨c5, 0, 0, false⟩]) := Ext.push H1 _
  have hle := e.len
  refine mc.fin (e.trans e3) (.mk (css := [c5]) (Gr.lit (sz := 5) nv.len).sl (fun _ => ⟨hle, by simp [AV.obj]⟩) ?_)
  rw [hn]
  exact .cons (nv.ext e3 fun o h1 h2 => ⟨h2.1, by simp; omega⟩) .nil
section
variable {h h1 : Heap} {k n : Int} {l : List Rw} {s : AV} {css : List (List AV)}
theorem make_b7 (mc : MC h h1 k n l s css) (hS : ∀ c ∈ l, MakeS c) : WP (fun i : Nat => milestonelaw4_Raw_Make_b7 tab i (.ptr h.length 0 3 0) (.ptr (h.length + 1) 0 5 0) h1) (NewN h (.rep (n % 4).toNat ((n % 4).toNat + (wr (n.tdiv 4) % 3).toNat) (ptN n (mkNs l) 0))) := by
  refine WP.congr (fun i => milestonelaw4_Raw_Make_b7_eq tab i (.ptr h.length 0 3 0) (.ptr (h.length + 1) 0 5 0) h1) ?_
  have hx0 := mc.r0
  simp -implicitDefEqProofs (disch := first | assumption | omega | (simp only [gL] <;> omega) | ((repeat (first | exact Ext.refl _ | assumption | apply Ext.app | apply Ext.mk | (refine Ext.setr ?_ (by (first | omega | (simp only [gL] <;> omega))) _))); done) | (simp only [gL, gA, hx0] <;> omega) | fail) only [gB, setAll, partL, fldV, reduceIte, Nat.reduceAdd, Nat.reduceMul, hx0]
  refine WP.call (within4_spec (n := 4) (by omega) (by unfold Fit; omega) h1) ?_
  rintro _ _ ⟨rfl, rfl⟩
  simp -implicitDefEqProofs (disch := first | assumption | omega | (simp only [gL] <;> omega) | ((repeat (first | exact Ext.refl _ | assumption | apply Ext.app | apply Ext.mk | (refine Ext.setr ?_ (by (first | omega | (simp only [gL] <;> omega))) _))); done) | (simp only [gL, gA, hx0] <;> omega) | fail) only [gB, setAll, partL, fldV, reduceIte, Nat.reduceAdd, Nat.reduceMul, hx0]
  refine WP.call (within4_spec (n := 3) (by omega) (by unfold Fit; omega) h1) ?_
  rintro _ _ ⟨rfl, rfl⟩
  have a1 : 0 ≤ n % 4 ∧ n % 4 < 4 := ⟨Int.emod_nonneg _ (by omega), Int.emod_lt_of_pos _ (by omega)⟩
  have a2 : 0 ≤ wr (n.tdiv 4) % 3 ∧ wr (n.tdiv 4) % 3 < 3 := ⟨Int.emod_nonneg _ (by omega), Int.emod_lt_of_pos _ (by omega)⟩
  obtain ⟨a, ha⟩ : ∃ a : Nat, n % 4 = a := ⟨(n % 4).toNat, by omega⟩
  obtain ⟨b, hb⟩ : ∃ b : Nat, wr (n.tdiv 4) % 3 = b := ⟨(wr (n.tdiv 4) % 3).toNat, by omega⟩
  have hb' : IntKind.i64.wrap (n.tdiv 4) % 3 = b := hb
  simp -implicitDefEqProofs (disch := first | assumption | omega | (simp only [gL] <;> omega) | ((repeat (first | exact Ext.refl _ | assumption | apply Ext.app | apply Ext.mk | (refine Ext.setr ?_ (by (first | omega | (simp only [gL] <;> omega))) _))); done) | (simp only [gL, gA, hx0, ha, hb, hb'] <;> omega) | fail) only [gB, setAll, partL, fldV, reduceIte, Nat.reduceAdd, Nat.reduceMul, hx0, ha, hb, hb']
  rw [show AV.int .i64 0 = I ((0 : Nat) : Int) from rfl]
  refine WP.call (part_spec (k := k) hS [I k, I n, s] (.mk mc.sl mc.rv) (i := 0) (by omega)) ?_
  rintro _ H1 ⟨e1, c5, rfl, nv⟩
  obtain ⟨s5, rfl, ho5⟩ := nv.inv
  have hx1 := e1.get mc.r1
  have hle := e1.len
  have hl1 := mc.len
  simp -implicitDefEqProofs (disch := first | assumption | omega | (simp only [gL] <;> omega) | ((repeat (first | exact Ext.refl _ | assumption | apply Ext.app | apply Ext.mk | (refine Ext.setr ?_ (by (first | omega | (simp only [gL] <;> omega))) _))); done) | (simp only [gL, gA, hx1, ho5] <;> omega) | fail) only [gB, setAll, partL, fldV, reduceIte, Nat.reduceAdd, Nat.reduceMul, hx1, ho5]
  have := mc.kid (n' := .rep a (a + b) (ptN n (mkNs l) 0)) rfl e1 nv
  try rw [show (n % 4).toNat = a by omega, show (wr (n.tdiv 4) % 3).toNat = b by omega]
  simp only [Nd.kind, Nd.st, Nd.lo, Nd.hi, Int.natCast_add] at this
  exact WP.ret this
theorem make_b10 (mc : MC h h1 k n l s css) (hS : ∀ c ∈ l, MakeS c) : WP (fun i : Nat => milestonelaw4_Raw_Make_b5 tab i (.ptr h.length 0 3 0) (.ptr (h.length + 1) 0 5 0) (I 10) (.bool false) h1) (NewN h (.star (ptN n (mkNs l) 0))) := by
  refine WP.congr (fun i => milestonelaw4_Raw_Make_b5_eq tab i (.ptr h.length 0 3 0) (.ptr (h.length + 1) 0 5 0) (I 10) (.bool false) h1) ?_
  have hx0 := mc.r0
  simp -implicitDefEqProofs (disch := first | assumption | omega | (simp only [gL] <;> omega) | ((repeat (first | exact Ext.refl _ | assumption | apply Ext.app | apply Ext.mk | (refine Ext.setr ?_ (by (first | omega | (simp only [gL] <;> omega))) _))); done) | (simp only [gL, gA, hx0] <;> omega) | fail) only [gB, setAll, partL, fldV, reduceIte, Nat.reduceAdd, Nat.reduceMul, hx0]
  rw [show AV.int .i64 0 = I ((0 : Nat) : Int) from rfl]
  refine WP.call (part_spec (k := k) hS [I k, I n, s] (.mk mc.sl mc.rv) (i := 0) (by omega)) ?_
  rintro _ H1 ⟨e1, c5, rfl, nv⟩
  obtain ⟨s5, rfl, ho5⟩ := nv.inv
  have hx1 := e1.get mc.r1
  have hle := e1.len
  have hl1 := mc.len
  simp -implicitDefEqProofs (disch := first | assumption | omega | (simp only [gL] <;> omega) | ((repeat (first | exact Ext.refl _ | assumption | apply Ext.app | apply Ext.mk | (refine Ext.setr ?_ (by (first | omega | (simp only [gL] <;> omega))) _))); done) | (simp only [gL, gA, hx1, ho5] <;> omega) | fail) only [gB, setAll, partL, fldV, reduceIte, Nat.reduceAdd, Nat.reduceMul, hx1, ho5]
  have := mc.kid (n' := .star (ptN n (mkNs l) 0)) rfl e1 nv
  simp only [Nd.kind, Nd.st, Nd.lo, Nd.hi] at this
  exact WP.ret this
theorem make_b11 (mc : MC h h1 k n l s css) (hS : ∀ c ∈ l, MakeS c) : WP (fun i : Nat => milestonelaw4_Raw_Make_b5 tab i (.ptr h.length 0 3 0) (.ptr (h.length + 1) 0 5 0) (I 11) (.bool false) h1) (NewN h (.plus (ptN n (mkNs l) 0))) := by
  refine WP.congr (fun i => milestonelaw4_Raw_Make_b5_eq tab i (.ptr h.length 0 3 0) (.ptr (h.length + 1) 0 5 0) (I 11) (.bool false) h1) ?_
  have hx0 := mc.r0
  simp -implicitDefEqProofs (disch := first | assumption | omega | (simp only [gL] <;> omega) | ((repeat (first | exact Ext.refl _ | assumption | apply Ext.app | apply Ext.mk | (refine Ext.setr ?_ (by (first | omega | (simp only [gL] <;> omega))) _))); done) | (simp only [gL, gA, hx0] <;> omega) | fail) only [gB, setAll, partL, fldV, reduceIte, Nat.reduceAdd, Nat.reduceMul, hx0]
  rw [show AV.int .i64 0 = I ((0 : Nat) : Int) from rfl]
  refine WP.call (part_spec (k := k) hS [I k, I n, s] (.mk mc.sl mc.rv) (i := 0) (by omega)) ?_
  rintro _ H1 ⟨e1, c5, rfl, nv⟩
  obtain ⟨s5, rfl, ho5⟩ := nv.inv
  have hx1 := e1.get mc.r1
  have hle := e1.len
  have hl1 := mc.len
  simp -implicitDefEqProofs (disch := first | assumption | omega | (simp only [gL] <;> omega) | ((repeat (first | exact Ext.refl _ | assumption | apply Ext.app | apply Ext.mk | (refine Ext.setr ?_ (by (first | omega | (simp only [gL] <;> omega))) _))); done) | (simp only [gL, gA, hx1, ho5] <;> omega) | fail) only [gB, setAll, partL, fldV, reduceIte, Nat.reduceAdd, Nat.reduceMul, hx1, ho5]
  have := mc.kid (n' := .plus (ptN n (mkNs l) 0)) rfl e1 nv
  simp only [Nd.kind, Nd.st, Nd.lo, Nd.hi] at this
  exact WP.ret this
theorem make_b12 (mc : MC h h1 k n l s css) (hS : ∀ c ∈ l, MakeS c) : WP (fun i : Nat => milestonelaw4_Raw_Make_b5 tab i (.ptr h.length 0 3 0) (.ptr (h.length + 1) 0 5 0) (I 12) (.bool false) h1) (NewN h (.opt (ptN n (mkNs l) 0))) := by
  refine WP.congr (fun i => milestonelaw4_Raw_Make_b5_eq tab i (.ptr h.length 0 3 0) (.ptr (h.length + 1) 0 5 0) (I 12) (.bool false) h1) ?_
  have hx0 := mc.r0
  simp -implicitDefEqProofs (disch := first | assumption | omega | (simp only [gL] <;> omega) | ((repeat (first | exact Ext.refl _ | assumption | apply Ext.app | apply Ext.mk | (refine Ext.setr ?_ (by (first | omega | (simp only [gL] <;> omega))) _))); done) | (simp only [gL, gA, hx0] <;> omega) | fail) only [gB, setAll, partL, fldV, reduceIte, Nat.reduceAdd, Nat.reduceMul, hx0]
  rw [show AV.int .i64 0 = I ((0 : Nat) : Int) from rfl]
  refine WP.call (part_spec (k := k) hS [I k, I n, s] (.mk mc.sl mc.rv) (i := 0) (by omega)) ?_
  rintro _ H1 ⟨e1, c5, rfl, nv⟩
  obtain ⟨s5, rfl, ho5⟩ := nv.inv
  have hx1 := e1.get mc.r1
  have hle := e1.len
  have hl1 := mc.len
  simp -implicitDefEqProofs (disch := first | assumption | omega | (simp only [gL] <;> omega) | ((repeat (first | exact Ext.refl _ | assumption | apply Ext.app | apply Ext.mk | (refine Ext.setr ?_ (by (first | omega | (simp only [gL] <;> omega))) _))); done) | (simp only [gL, gA, hx1, ho5] <;> omega) | fail) only [gB, setAll, partL, fldV, reduceIte, Nat.reduceAdd, Nat.reduceMul, hx1, ho5]
  have := mc.kid (n' := .opt (ptN n (mkNs l) 0)) rfl e1 nv
  simp only [Nd.kind, Nd.st, Nd.lo, Nd.hi] at this
  exact WP.ret this
theorem make_b13 (mc : MC h h1 k n l s css) (hS : ∀ c ∈ l, MakeS c) : WP (fun i : Nat => milestonelaw4_Raw_Make_b5 tab i (.ptr h.length 0 3 0) (.ptr (h.length + 1) 0 5 0) (I 13) (.bool false) h1) (NewN h (.rep (n % 4).toNat ((n % 4).toNat + (wr (n.tdiv 4) % 3).toNat) (ptN n (mkNs l) 0))) := by
  refine WP.congr (fun i => milestonelaw4_Raw_Make_b5_eq tab i (.ptr h.length 0 3 0) (.ptr (h.length + 1) 0 5 0) (I 13) (.bool false) h1) ?_
  simp -implicitDefEqProofs (disch := first | assumption | omega | (simp only [gL] <;> omega) | ((repeat (first | exact Ext.refl _ | assumption | apply Ext.app | apply Ext.mk | (refine Ext.setr ?_ (by (first | omega | (simp only [gL] <;> omega))) _))); done) | (simp only [gL, gA] <;> omega) | fail) only [gB, setAll, partL, fldV, reduceIte, Nat.reduceAdd, Nat.reduceMul]
  exact make_b7 mc hS
theorem make_uni (mc : MC h h1 k n l s css) (hS : ∀ c ∈ l, MakeS c) (c : AV) : WP (fun i : Nat => milestonelaw4_Raw_Make_b5 tab i (.ptr h.length 0 3 0) (.ptr (h.length + 1) 0 5 0) c (.bool true) h1) (NewN h (.uni (ptsN n (mkNs l)))) := by
  refine WP.congr (fun i => milestonelaw4_Raw_Make_b5_eq tab i (.ptr h.length 0 3 0) (.ptr (h.length + 1) 0 5 0) c (.bool true) h1) ?_
  simp -implicitDefEqProofs (disch := first | assumption | omega | (simp only [gL] <;> omega) | ((repeat (first | exact Ext.refl _ | assumption | apply Ext.app | apply Ext.mk | (refine Ext.setr ?_ (by (first | omega | (simp only [gL] <;> omega))) _))); done) | (simp only [gL, gA] <;> omega) | fail) only [gB, setAll, partL, fldV, reduceIte, Nat.reduceAdd, Nat.reduceMul]
  rw [set_last]
  exact WP.ent (make_l6 mc hS (max 2 (min l.length 4)) 0 .nils 0 [] _ (by omega) (NB.new h1 _)) fun i => rfl
theorem make_join (mc : MC h h1 k n l s css) (hS : ∀ c ∈ l, MakeS c) (c : AV) : WP (fun i : Nat => milestonelaw4_Raw_Make_b3 tab i (.ptr h.length 0 3 0) (.ptr (h.length + 1) 0 5 0) c (.bool true) h1) (NewN h (.join (ptsN n (mkNs l)))) := by
  refine WP.congr (fun i => milestonelaw4_Raw_Make_b3_eq tab i (.ptr h.length 0 3 0) (.ptr (h.length + 1) 0 5 0) c (.bool true) h1) ?_
  simp -implicitDefEqProofs (disch := first | assumption | omega | (simp only [gL] <;> omega) | ((repeat (first | exact Ext.refl _ | assumption | apply Ext.app | apply Ext.mk | (refine Ext.setr ?_ (by (first | omega | (simp only [gL] <;> omega))) _))); done) | (simp only [gL, gA] <;> omega) | fail) only [gB, setAll, partL, fldV, reduceIte, Nat.reduceAdd, Nat.reduceMul]
  rw [set_last]
  exact WP.ent (make_l4 mc hS (max 2 (min l.length 4)) 0 .nils 0 [] _ (by omega) (NB.new h1 _)) fun i => rfl
theorem make_set (mc : MC h h1 k n l s css) (c : AV) : WP (fun i : Nat => milestonelaw4_Raw_Make_b1 tab i (.ptr h.length 0 3 0) (.ptr (h.length + 1) 0 5 0) c (.bool true) h1) (NewN h (.set (1 + (n % 31).toNat))) := by
  refine WP.congr (fun i => milestonelaw4_Raw_Make_b1_eq tab i (.ptr h.length 0 3 0) (.ptr (h.length + 1) 0 5 0) c (.bool true) h1) ?_
  have hx0 := mc.r0
  have hx1 := mc.r1
  have hl1 := mc.len
  simp -implicitDefEqProofs (disch := first | assumption | omega | (simp only [gL] <;> omega) | ((repeat (first | exact Ext.refl _ | assumption | apply Ext.app | apply Ext.mk | (refine Ext.setr ?_ (by (first | omega | (simp only [gL] <;> omega))) _))); done) | (simp only [gL, gA, hx0] <;> omega) | fail) only [gB, setAll, partL, fldV, reduceIte, Nat.reduceAdd, Nat.reduceMul, hx0]
  refine WP.call (within4_spec (n := 31) (by omega) (by unfold Fit; omega) h1) ?_
  rintro _ _ ⟨rfl, rfl⟩
  have a1 : 0 ≤ n % 31 ∧ n % 31 < 31 := ⟨Int.emod_nonneg _ (by omega), Int.emod_lt_of_pos _ (by omega)⟩
  obtain ⟨a, ha⟩ : ∃ a : Nat, n % 31 = a := ⟨(n % 31).toNat, by omega⟩
  simp -implicitDefEqProofs (disch := first | assumption | omega | (simp only [gL] <;> omega) | ((repeat (first | exact Ext.refl _ | assumption | apply Ext.app | apply Ext.mk | (refine Ext.setr ?_ (by (first | omega | (simp only [gL] <;> omega))) _))); done) | (simp only [gL, gA, hx1, ha] <;> omega) | fail) only [gB, setAll, partL, fldV, reduceIte, Nat.reduceAdd, Nat.reduceMul, hx1, ha]
  have := mc.leaf (n' := .set (1 + a)) rfl (Ext.refl _)
  try rw [show (n % 31).toNat = a by omega]
  simp only [Nd.kind, Nd.st, Nd.lo, Nd.hi, Int.natCast_add] at this
  exact WP.ret this
theorem make_sgn (mc : MC h h1 k n l s css) (c : AV) : WP (fun i : Nat => milestonelaw4_Raw_Make_b2 tab i (.ptr h.length 0 3 0) (.ptr (h.length + 1) 0 5 0) c (.bool true) h1) (NewN h (sgn n)) := by
  refine WP.congr (fun i => milestonelaw4_Raw_Make_b2_eq tab i (.ptr h.length 0 3 0) (.ptr (h.length + 1) 0 5 0) c (.bool true) h1) ?_
  have hx0 := mc.r0
  have hx1 := mc.r1
  have hl1 := mc.len
  simp -implicitDefEqProofs (disch := first | assumption | omega | (simp only [gL] <;> omega) | ((repeat (first | exact Ext.refl _ | assumption | apply Ext.app | apply Ext.mk | (refine Ext.setr ?_ (by (first | omega | (simp only [gL] <;> omega))) _))); done) | (simp only [gL, gA, hx0] <;> omega) | fail) only [gB, setAll, partL, fldV, reduceIte, Nat.reduceAdd, Nat.reduceMul, hx0]
  refine WP.call (within4_spec (n := 5) (by omega) (by unfold Fit; omega) h1) ?_
  rintro _ _ ⟨rfl, rfl⟩
  have a1 : 0 ≤ n % 5 ∧ n % 5 < 5 := ⟨Int.emod_nonneg _ (by omega), Int.emod_lt_of_pos _ (by omega)⟩
  obtain ⟨m, hm⟩ : ∃ m : Int, n % 5 = m := ⟨_, rfl⟩
  rw [hm] at a1
  simp -implicitDefEqProofs (disch := first | assumption | omega | (simp only [gL] <;> omega) | ((repeat (first | exact Ext.refl _ | assumption | apply Ext.app | apply Ext.mk | (refine Ext.setr ?_ (by (first | omega | (simp only [gL] <;> omega))) _))); done) | (simp only [gL, gA, hx1, hm] <;> omega) | fail) only [gB, setAll, partL, fldV, reduceIte, Nat.reduceAdd, Nat.reduceMul, hx1, hm]
  have := mc.leaf (n' := .set (2 ^ m.toNat)) rfl (Ext.refl _)
  rw [show sgn n = .set (2 ^ m.toNat) by rw [sgn, hm]]
  simp only [Nd.kind, Nd.st, Nd.lo, Nd.hi] at this
  exact WP.ret this
theorem make_no (mc : MC h h1 k n l s css) : WP (fun i : Nat => milestonelaw4_Raw_Make_b2 tab i (.ptr h.length 0 3 0) (.ptr (h.length + 1) 0 5 0) (I 4) (.bool false) h1) (NewN h (if n % 3 = 0 then .emp else .eps)) := by
  refine WP.congr (fun i => milestonelaw4_Raw_Make_b2_eq tab i (.ptr h.length 0 3 0) (.ptr (h.length + 1) 0 5 0) (I 4) (.bool false) h1) ?_
  obtain ⟨h2, hh2⟩ : ∃ h2, h2 = h1 ++ [AObj.cells ⟨[I 2, I 3, I 3], 0, 0, false⟩] := ⟨_, rfl⟩
  have e2 : Ext h1 h2 := by rw [hh2]; ((repeat (first | exact Ext.refl _ | assumption | apply Ext.app | apply Ext.mk | (refine Ext.setr ?_ (by (first | omega | (simp only [gL] <;> omega))) _))))
  have hx0 := e2.get mc.r0
  have hx1 := e2.get mc.r1
  have hl1 := mc.len
  have hl2 : h2.length = h1.length + 1 := by rw [hh2]; simp
  have hx2 : h2[h1.length]? = some (.cells ⟨[I 2, I 3, I 3], 0, 0, false⟩) := by rw [hh2]; simp
  simp -implicitDefEqProofs (disch := first | assumption | omega | (simp only [gL] <;> omega) | ((repeat (first | exact Ext.refl _ | assumption | apply Ext.app | apply Ext.mk | (refine Ext.setr ?_ (by (first | omega | (simp only [gL] <;> omega))) _))); done) | (simp only [gL, gA] <;> omega) | fail) only [gB, setAll, partL, fldV, reduceIte, Nat.reduceAdd, Nat.reduceMul]
  rw [← hh2]
  simp -implicitDefEqProofs (disch := first | assumption | omega | (simp only [gL] <;> omega) | ((repeat (first | exact Ext.refl _ | assumption | apply Ext.app | apply Ext.mk | (refine Ext.setr ?_ (by (first | omega | (simp only [gL] <;> omega))) _))); done) | (simp only [gL, gA, mc.r0] <;> omega) | fail) only [gB, setAll, partL, fldV, reduceIte, Nat.reduceAdd, Nat.reduceMul, mc.r0]
  refine WP.call (within4_spec (n := 3) (by omega) (by unfold Fit; omega) h2) ?_
  rintro _ _ ⟨rfl, rfl⟩
  have a1 : 0 ≤ n % 3 ∧ n % 3 < 3 := ⟨Int.emod_nonneg _ (by omega), Int.emod_lt_of_pos _ (by omega)⟩
  have a2 : n % 3 = 0 ∨ n % 3 = 1 ∨ n % 3 = 2 := by omega
  rcases a2 with a2 | a2 | a2
  · rw [if_pos a2]
    simp -implicitDefEqProofs (disch := first | assumption | omega | (simp only [gL] <;> omega) | ((repeat (first | exact Ext.refl _ | assumption | apply Ext.app | apply Ext.mk | (refine Ext.setr ?_ (by (first | omega | (simp only [gL] <;> omega))) _))); done) | (simp only [gL, gA, hx1, hx2, a2, show Int.toNat 0 = 0 from rfl] <;> omega) | fail) only [gB, setAll, partL, fldV, reduceIte, Nat.reduceAdd, Nat.reduceMul, hx1, hx2, a2, show Int.toNat 0 = 0 from rfl]
    exact WP.ret (mc.leaf (n' := .emp) rfl e2)
  · rw [if_neg (by omega)]
    simp -implicitDefEqProofs (disch := first | assumption | omega | (simp only [gL] <;> omega) | ((repeat (first | exact Ext.refl _ | assumption | apply Ext.app | apply Ext.mk | (refine Ext.setr ?_ (by (first | omega | (simp only [gL] <;> omega))) _))); done) | (simp only [gL, gA, hx1, hx2, a2, show Int.toNat 1 = 1 from rfl] <;> omega) | fail) only [gB, setAll, partL, fldV, reduceIte, Nat.reduceAdd, Nat.reduceMul, hx1, hx2, a2, show Int.toNat 1 = 1 from rfl]
    exact WP.ret (mc.leaf (n' := .eps) rfl e2)
  · rw [if_neg (by omega)]
    simp -implicitDefEqProofs (disch := first | assumption | omega | (simp only [gL] <;> omega) | ((repeat (first | exact Ext.refl _ | assumption | apply Ext.app | apply Ext.mk | (refine Ext.setr ?_ (by (first | omega | (simp only [gL] <;> omega))) _))); done) | (simp only [gL, gA, hx1, hx2, a2, show Int.toNat 2 = 2 from rfl] <;> omega) | fail) only [gB, setAll, partL, fldV, reduceIte, Nat.reduceAdd, Nat.reduceMul, hx1, hx2, a2, show Int.toNat 2 = 2 from rfl]
    exact WP.ret (mc.leaf (n' := .eps) rfl e2)
end
theorem make_spec (r : Rw) : MakeS r := by
  refine Rw.ind (p := MakeS) ?_ r
  rintro ⟨k, n, l⟩ hS c3 h rv
  cases rv with
  | @mk _ _ _ s css sl rv =>
  refine WP.tot (fun k' => (call_milestonelaw4_Raw_Make k' _ h).trans (milestonelaw4_Raw_Make_eq tab k' _ h)) ?_
  have hso := sl.one
  obtain ⟨h1, hh1⟩ : ∃ h1, h1 = (h ++ [AObj.cells ⟨[I k, I n, s], 0, 0, false⟩]) ++ [AObj.cells ⟨[I 0, I 0, I 0, I 0, .nils], 0, 0, false⟩] := ⟨_, rfl⟩
  have e1 : Ext h h1 := by rw [hh1]; ((repeat (first | exact Ext.refl _ | assumption | apply Ext.app | apply Ext.mk | (refine Ext.setr ?_ (by (first | omega | (simp only [gL] <;> omega))) _))))
  have mc : MC h h1 k n l s css := ⟨e1, by rw [hh1]; simp, by rw [hh1]; simp, by rw [hh1]; simp, sl.ext e1, rv.ext e1⟩
  have hx0 := mc.r0
  simp -implicitDefEqProofs (disch := first | assumption | omega | (simp only [gL] <;> omega) | ((repeat (first | exact Ext.refl _ | assumption | apply Ext.app | apply Ext.mk | (refine Ext.setr ?_ (by (first | omega | (simp only [gL] <;> omega))) _))); done) | (simp only [gL, gA, hso] <;> omega) | fail) only [gB, setAll, partL, fldV, reduceIte, Nat.reduceAdd, Nat.reduceMul, hso]
  rw [← hh1]
  refine WP.call (within4_spec (n := 14) (by omega) (by unfold Fit; omega) h1) ?_
  rintro _ _ ⟨rfl, rfl⟩
  have a1 : 0 ≤ k % 14 ∧ k % 14 < 14 := ⟨Int.emod_nonneg _ (by omega), Int.emod_lt_of_pos _ (by omega)⟩
  obtain ⟨c, hc⟩ : ∃ c : Nat, k % 14 = c := ⟨(k % 14).toNat, by omega⟩
  have hmk : mkN (.mk k n l) = mkOf k n (mkNs l) := by rw [mkN]
  have hct : (k % 14).toNat = c := by omega
  rw [hmk]
  unfold mkOf
  rw [hct, hc]
  have hcc : c = 0 ∨ c = 1 ∨ c = 2 ∨ c = 3 ∨ c = 4 ∨ c = 5 ∨ c = 6 ∨ c = 7 ∨ c = 8 ∨ c = 9 ∨ c = 10 ∨ c = 11 ∨ c = 12 ∨ c = 13 := by omega
  rcases hcc with rfl | rfl | rfl | rfl | rfl | rfl | rfl | rfl | rfl | rfl | rfl | rfl | rfl | rfl
  · simp -implicitDefEqProofs (disch := first | assumption | omega | (simp only [gL] <;> omega) | ((repeat (first | exact Ext.refl _ | assumption | apply Ext.app | apply Ext.mk | (refine Ext.setr ?_ (by (first | omega | (simp only [gL] <;> omega))) _))); done) | (simp only [gL, gA] <;> omega) | fail) only [gB, setAll, partL, fldV, reduceIte, Nat.reduceAdd, Nat.reduceMul]
    exact make_set mc _
  · simp -implicitDefEqProofs (disch := first | assumption | omega | (simp only [gL] <;> omega) | ((repeat (first | exact Ext.refl _ | assumption | apply Ext.app | apply Ext.mk | (refine Ext.setr ?_ (by (first | omega | (simp only [gL] <;> omega))) _))); done) | (simp only [gL, gA] <;> omega) | fail) only [gB, setAll, partL, fldV, reduceIte, Nat.reduceAdd, Nat.reduceMul]
    exact make_set mc _
  · simp -implicitDefEqProofs (disch := first | assumption | omega | (simp only [gL] <;> omega) | ((repeat (first | exact Ext.refl _ | assumption | apply Ext.app | apply Ext.mk | (refine Ext.setr ?_ (by (first | omega | (simp only [gL] <;> omega))) _))); done) | (simp only [gL, gA] <;> omega) | fail) only [gB, setAll, partL, fldV, reduceIte, Nat.reduceAdd, Nat.reduceMul]
    refine WP.congr (fun i => milestonelaw4_Raw_Make_b1_eq tab i (.ptr h.length 0 3 0) (.ptr (h.length + 1) 0 5 0) (I 2) (.bool false) h1) ?_
    simp -implicitDefEqProofs (disch := first | assumption | omega | (simp only [gL] <;> omega) | ((repeat (first | exact Ext.refl _ | assumption | apply Ext.app | apply Ext.mk | (refine Ext.setr ?_ (by (first | omega | (simp only [gL] <;> omega))) _))); done) | (simp only [gL, gA] <;> omega) | fail) only [gB, setAll, partL, fldV, reduceIte, Nat.reduceAdd, Nat.reduceMul]
    exact make_sgn mc _
  · simp -implicitDefEqProofs (disch := first | assumption | omega | (simp only [gL] <;> omega) | ((repeat (first | exact Ext.refl _ | assumption | apply Ext.app | apply Ext.mk | (refine Ext.setr ?_ (by (first | omega | (simp only [gL] <;> omega))) _))); done) | (simp only [gL, gA] <;> omega) | fail) only [gB, setAll, partL, fldV, reduceIte, Nat.reduceAdd, Nat.reduceMul]
    refine WP.congr (fun i => milestonelaw4_Raw_Make_b1_eq tab i (.ptr h.length 0 3 0) (.ptr (h.length + 1) 0 5 0) (I 3) (.bool false) h1) ?_
    simp -implicitDefEqProofs (disch := first | assumption | omega | (simp only [gL] <;> omega) | ((repeat (first | exact Ext.refl _ | assumption | apply Ext.app | apply Ext.mk | (refine Ext.setr ?_ (by (first | omega | (simp only [gL] <;> omega))) _))); done) | (simp only [gL, gA] <;> omega) | fail) only [gB, setAll, partL, fldV, reduceIte, Nat.reduceAdd, Nat.reduceMul]
    exact make_sgn mc _
  · simp -implicitDefEqProofs (disch := first | assumption | omega | (simp only [gL] <;> omega) | ((repeat (first | exact Ext.refl _ | assumption | apply Ext.app | apply Ext.mk | (refine Ext.setr ?_ (by (first | omega | (simp only [gL] <;> omega))) _))); done) | (simp only [gL, gA] <;> omega) | fail) only [gB, setAll, partL, fldV, reduceIte, Nat.reduceAdd, Nat.reduceMul]
    refine WP.congr (fun i => milestonelaw4_Raw_Make_b1_eq tab i (.ptr h.length 0 3 0) (.ptr (h.length + 1) 0 5 0) (I 4) (.bool false) h1) ?_
    simp -implicitDefEqProofs (disch := first | assumption | omega | (simp only [gL] <;> omega) | ((repeat (first | exact Ext.refl _ | assumption | apply Ext.app | apply Ext.mk | (refine Ext.setr ?_ (by (first | omega | (simp only [gL] <;> omega))) _))); done) | (simp only [gL, gA] <;> omega) | fail) only [gB, setAll, partL, fldV, reduceIte, Nat.reduceAdd, Nat.reduceMul]
    exact make_no mc
  · simp -implicitDefEqProofs (disch := first | assumption | omega | (simp only [gL] <;> omega) | ((repeat (first | exact Ext.refl _ | assumption | apply Ext.app | apply Ext.mk | (refine Ext.setr ?_ (by (first | omega | (simp only [gL] <;> omega))) _))); done) | (simp only [gL, gA] <;> omega) | fail) only [gB, setAll, partL, fldV, reduceIte, Nat.reduceAdd, Nat.reduceMul]
    refine WP.congr (fun i => milestonelaw4_Raw_Make_b1_eq tab i (.ptr h.length 0 3 0) (.ptr (h.length + 1) 0 5 0) (I 5) (.bool false) h1) ?_
    simp -implicitDefEqProofs (disch := first | assumption | omega | (simp only [gL] <;> omega) | ((repeat (first | exact Ext.refl _ | assumption | apply Ext.app | apply Ext.mk | (refine Ext.setr ?_ (by (first | omega | (simp only [gL] <;> omega))) _))); done) | (simp only [gL, gA] <;> omega) | fail) only [gB, setAll, partL, fldV, reduceIte, Nat.reduceAdd, Nat.reduceMul]
    refine WP.congr (fun i => milestonelaw4_Raw_Make_b2_eq tab i (.ptr h.length 0 3 0) (.ptr (h.length + 1) 0 5 0) (I 5) (.bool false) h1) ?_
    simp -implicitDefEqProofs (disch := first | assumption | omega | (simp only [gL] <;> omega) | ((repeat (first | exact Ext.refl _ | assumption | apply Ext.app | apply Ext.mk | (refine Ext.setr ?_ (by (first | omega | (simp only [gL] <;> omega))) _))); done) | (simp only [gL, gA] <;> omega) | fail) only [gB, setAll, partL, fldV, reduceIte, Nat.reduceAdd, Nat.reduceMul]
    exact make_join mc hS _
  · simp -implicitDefEqProofs (disch := first | assumption | omega | (simp only [gL] <;> omega) | ((repeat (first | exact Ext.refl _ | assumption | apply Ext.app | apply Ext.mk | (refine Ext.setr ?_ (by (first | omega | (simp only [gL] <;> omega))) _))); done) | (simp only [gL, gA] <;> omega) | fail) only [gB, setAll, partL, fldV, reduceIte, Nat.reduceAdd, Nat.reduceMul]
    refine WP.congr (fun i => milestonelaw4_Raw_Make_b1_eq tab i (.ptr h.length 0 3 0) (.ptr (h.length + 1) 0 5 0) (I 6) (.bool false) h1) ?_
    simp -implicitDefEqProofs (disch := first | assumption | omega | (simp only [gL] <;> omega) | ((repeat (first | exact Ext.refl _ | assumption | apply Ext.app | apply Ext.mk | (refine Ext.setr ?_ (by (first | omega | (simp only [gL] <;> omega))) _))); done) | (simp only [gL, gA] <;> omega) | fail) only [gB, setAll, partL, fldV, reduceIte, Nat.reduceAdd, Nat.reduceMul]
    refine WP.congr (fun i => milestonelaw4_Raw_Make_b2_eq tab i (.ptr h.length 0 3 0) (.ptr (h.length + 1) 0 5 0) (I 6) (.bool false) h1) ?_
    simp -implicitDefEqProofs (disch := first | assumption | omega | (simp only [gL] <;> omega) | ((repeat (first | exact Ext.refl _ | assumption | apply Ext.app | apply Ext.mk | (refine Ext.setr ?_ (by (first | omega | (simp only [gL] <;> omega))) _))); done) | (simp only [gL, gA] <;> omega) | fail) only [gB, setAll, partL, fldV, reduceIte, Nat.reduceAdd, Nat.reduceMul]
    exact make_join mc hS _
  · simp -implicitDefEqProofs (disch := first | assumption | omega | (simp only [gL] <;> omega) | ((repeat (first | exact Ext.refl _ | assumption | apply Ext.app | apply Ext.mk | (refine Ext.setr ?_ (by (first | omega | (simp only [gL] <;> omega))) _))); done) | (simp only [gL, gA] <;> omega) | fail) only [gB, setAll, partL, fldV, reduceIte, Nat.reduceAdd, Nat.reduceMul]
    refine WP.congr (fun i => milestonelaw4_Raw_Make_b1_eq tab i (.ptr h.length 0 3 0) (.ptr (h.length + 1) 0 5 0) (I 7) (.bool false) h1) ?_
    simp -implicitDefEqProofs (disch := first | assumption | omega | (simp only [gL] <;> omega) | ((repeat (first | exact Ext.refl _ | assumption | apply Ext.app | apply Ext.mk | (refine Ext.setr ?_ (by (first | omega | (simp only [gL] <;> omega))) _))); done) | (simp only [gL, gA] <;> omega) | fail) only [gB, setAll, partL, fldV, reduceIte, Nat.reduceAdd, Nat.reduceMul]
    refine WP.congr (fun i => milestonelaw4_Raw_Make_b2_eq tab i (.ptr h.length 0 3 0) (.ptr (h.length + 1) 0 5 0) (I 7) (.bool false) h1) ?_
    simp -implicitDefEqProofs (disch := first | assumption | omega | (simp only [gL] <;> omega) | ((repeat (first | exact Ext.refl _ | assumption | apply Ext.app | apply Ext.mk | (refine Ext.setr ?_ (by (first | omega | (simp only [gL] <;> omega))) _))); done) | (simp only [gL, gA] <;> omega) | fail) only [gB, setAll, partL, fldV, reduceIte, Nat.reduceAdd, Nat.reduceMul]
    exact make_join mc hS _
  · simp -implicitDefEqProofs (disch := first | assumption | omega | (simp only [gL] <;> omega) | ((repeat (first | exact Ext.refl _ | assumption | apply Ext.app | apply Ext.mk | (refine Ext.setr ?_ (by (first | omega | (simp only [gL] <;> omega))) _))); done) | (simp only [gL, gA] <;> omega) | fail) only [gB, setAll, partL, fldV, reduceIte, Nat.reduceAdd, Nat.reduceMul]
    refine WP.congr (fun i => milestonelaw4_Raw_Make_b1_eq tab i (.ptr h.length 0 3 0) (.ptr (h.length + 1) 0 5 0) (I 8) (.bool false) h1) ?_
    simp -implicitDefEqProofs (disch := first | assumption | omega | (simp only [gL] <;> omega) | ((repeat (first | exact Ext.refl _ | assumption | apply Ext.app | apply Ext.mk | (refine Ext.setr ?_ (by (first | omega | (simp only [gL] <;> omega))) _))); done) | (simp only [gL, gA] <;> omega) | fail) only [gB, setAll, partL, fldV, reduceIte, Nat.reduceAdd, Nat.reduceMul]
    refine WP.congr (fun i => milestonelaw4_Raw_Make_b2_eq tab i (.ptr h.length 0 3 0) (.ptr (h.length + 1) 0 5 0) (I 8) (.bool false) h1) ?_
    simp -implicitDefEqProofs (disch := first | assumption | omega | (simp only [gL] <;> omega) | ((repeat (first | exact Ext.refl _ | assumption | apply Ext.app | apply Ext.mk | (refine Ext.setr ?_ (by (first | omega | (simp only [gL] <;> omega))) _))); done) | (simp only [gL, gA] <;> omega) | fail) only [gB, setAll, partL, fldV, reduceIte, Nat.reduceAdd, Nat.reduceMul]
    refine WP.congr (fun i => milestonelaw4_Raw_Make_b3_eq tab i (.ptr h.length 0 3 0) (.ptr (h.length + 1) 0 5 0) (I 8) (.bool false) h1) ?_
    simp -implicitDefEqProofs (disch := first | assumption | omega | (simp only [gL] <;> omega) | ((repeat (first | exact Ext.refl _ | assumption | apply Ext.app | apply Ext.mk | (refine Ext.setr ?_ (by (first | omega | (simp only [gL] <;> omega))) _))); done) | (simp only [gL, gA] <;> omega) | fail) only [gB, setAll, partL, fldV, reduceIte, Nat.reduceAdd, Nat.reduceMul]
    exact make_uni mc hS _
  · simp -implicitDefEqProofs (disch := first | assumption | omega | (simp only [gL] <;> omega) | ((repeat (first | exact Ext.refl _ | assumption | apply Ext.app | apply Ext.mk | (refine Ext.setr ?_ (by (first | omega | (simp only [gL] <;> omega))) _))); done) | (simp only [gL, gA] <;> omega) | fail) only [gB, setAll, partL, fldV, reduceIte, Nat.reduceAdd, Nat.reduceMul]
    refine WP.congr (fun i => milestonelaw4_Raw_Make_b1_eq tab i (.ptr h.length 0 3 0) (.ptr (h.length + 1) 0 5 0) (I 9) (.bool false) h1) ?_
    simp -implicitDefEqProofs (disch := first | assumption | omega | (simp only [gL] <;> omega) | ((repeat (first | exact Ext.refl _ | assumption | apply Ext.app | apply Ext.mk | (refine Ext.setr ?_ (by (first | omega | (simp only [gL] <;> omega))) _))); done) | (simp only [gL, gA] <;> omega) | fail) only [gB, setAll, partL, fldV, reduceIte, Nat.reduceAdd, Nat.reduceMul]
    refine WP.congr (fun i => milestonelaw4_Raw_Make_b2_eq tab i (.ptr h.length 0 3 0) (.ptr (h.length + 1) 0 5 0) (I 9) (.bool false) h1) ?_
    simp -implicitDefEqProofs (disch := first | assumption | omega | (simp only [gL] <;> omega) | ((repeat (first | exact Ext.refl _ | assumption | apply Ext.app | apply Ext.mk | (refine Ext.setr ?_ (by (first | omega | (simp only [gL] <;> omega))) _))); done) | (simp only [gL, gA] <;> omega) | fail) only [gB, setAll, partL, fldV, reduceIte, Nat.reduceAdd, Nat.reduceMul]
    refine WP.congr (fun i => milestonelaw4_Raw_Make_b3_eq tab i (.ptr h.length 0 3 0) (.ptr (h.length + 1) 0 5 0) (I 9) (.bool false) h1) ?_
    simp -implicitDefEqProofs (disch := first | assumption | omega | (simp only [gL] <;> omega) | ((repeat (first | exact Ext.refl _ | assumption | apply Ext.app | apply Ext.mk | (refine Ext.setr ?_ (by (first | omega | (simp only [gL] <;> omega))) _))); done) | (simp only [gL, gA] <;> omega) | fail) only [gB, setAll, partL, fldV, reduceIte, Nat.reduceAdd, Nat.reduceMul]
    exact make_uni mc hS _
  · simp -implicitDefEqProofs (disch := first | assumption | omega | (simp only [gL] <;> omega) | ((repeat (first | exact Ext.refl _ | assumption | apply Ext.app | apply Ext.mk | (refine Ext.setr ?_ (by (first | omega | (simp only [gL] <;> omega))) _))); done) | (simp only [gL, gA] <;> omega) | fail) only [gB, setAll, partL, fldV, reduceIte, Nat.reduceAdd, Nat.reduceMul]
    refine WP.congr (fun i => milestonelaw4_Raw_Make_b1_eq tab i (.ptr h.length 0 3 0) (.ptr (h.length + 1) 0 5 0) (I 10) (.bool false) h1) ?_
    simp -implicitDefEqProofs (disch := first | assumption | omega | (simp only [gL] <;> omega) | ((repeat (first | exact Ext.refl _ | assumption | apply Ext.app | apply Ext.mk | (refine Ext.setr ?_ (by (first | omega | (simp only [gL] <;> omega))) _))); done) | (simp only [gL, gA] <;> omega) | fail) only [gB, setAll, partL, fldV, reduceIte, Nat.reduceAdd, Nat.reduceMul]
    refine WP.congr (fun i => milestonelaw4_Raw_Make_b2_eq tab i (.ptr h.length 0 3 0) (.ptr (h.length + 1) 0 5 0) (I 10) (.bool false) h1) ?_
    simp -implicitDefEqProofs (disch := first | assumption | omega | (simp only [gL] <;> omega) | ((repeat (first | exact Ext.refl _ | assumption | apply Ext.app | apply Ext.mk | (refine Ext.setr ?_ (by (first | omega | (simp only [gL] <;> omega))) _))); done) | (simp only [gL, gA] <;> omega) | fail) only [gB, setAll, partL, fldV, reduceIte, Nat.reduceAdd, Nat.reduceMul]
    refine WP.congr (fun i => milestonelaw4_Raw_Make_b3_eq tab i (.ptr h.length 0 3 0) (.ptr (h.length + 1) 0 5 0) (I 10) (.bool false) h1) ?_
    simp -implicitDefEqProofs (disch := first | assumption | omega | (simp only [gL] <;> omega) | ((repeat (first | exact Ext.refl _ | assumption | apply Ext.app | apply Ext.mk | (refine Ext.setr ?_ (by (first | omega | (simp only [gL] <;> omega))) _))); done) | (simp only [gL, gA] <;> omega) | fail) only [gB, setAll, partL, fldV, reduceIte, Nat.reduceAdd, Nat.reduceMul]
    exact make_b10 mc hS
  · simp -implicitDefEqProofs (disch := first | assumption | omega | (simp only [gL] <;> omega) | ((repeat (first | exact Ext.refl _ | assumption | apply Ext.app | apply Ext.mk | (refine Ext.setr ?_ (by (first | omega | (simp only [gL] <;> omega))) _))); done) | (simp only [gL, gA] <;> omega) | fail) only [gB, setAll, partL, fldV, reduceIte, Nat.reduceAdd, Nat.reduceMul]
    refine WP.congr (fun i => milestonelaw4_Raw_Make_b1_eq tab i (.ptr h.length 0 3 0) (.ptr (h.length + 1) 0 5 0) (I 11) (.bool false) h1) ?_
    simp -implicitDefEqProofs (disch := first | assumption | omega | (simp only [gL] <;> omega) | ((repeat (first | exact Ext.refl _ | assumption | apply Ext.app | apply Ext.mk | (refine Ext.setr ?_ (by (first | omega | (simp only [gL] <;> omega))) _))); done) | (simp only [gL, gA] <;> omega) | fail) only [gB, setAll, partL, fldV, reduceIte, Nat.reduceAdd, Nat.reduceMul]
    refine WP.congr (fun i => milestonelaw4_Raw_Make_b2_eq tab i (.ptr h.length 0 3 0) (.ptr (h.length + 1) 0 5 0) (I 11) (.bool false) h1) ?_
    simp -implicitDefEqProofs (disch := first | assumption | omega | (simp only [gL] <;> omega) | ((repeat (first | exact Ext.refl _ | assumption | apply Ext.app | apply Ext.mk | (refine Ext.setr ?_ (by (first | omega | (simp only [gL] <;> omega))) _))); done) | (simp only [gL, gA] <;> omega) | fail) only [gB, setAll, partL, fldV, reduceIte, Nat.reduceAdd, Nat.reduceMul]
    refine WP.congr (fun i => milestonelaw4_Raw_Make_b3_eq tab i (.ptr h.length 0 3 0) (.ptr (h.length + 1) 0 5 0) (I 11) (.bool false) h1) ?_
    simp -implicitDefEqProofs (disch := first | assumption | omega | (simp only [gL] <;> omega) | ((repeat (first | exact Ext.refl _ | assumption | apply Ext.app | apply Ext.mk | (refine Ext.setr ?_ (by (first | omega | (simp only [gL] <;> omega))) _))); done) | (simp only [gL, gA] <;> omega) | fail) only [gB, setAll, partL, fldV, reduceIte, Nat.reduceAdd, Nat.reduceMul]
    exact make_b11 mc hS
  · simp -implicitDefEqProofs (disch := first | assumption | omega | (simp only [gL] <;> omega) | ((repeat (first | exact Ext.refl _ | assumption | apply Ext.app | apply Ext.mk | (refine Ext.setr ?_ (by (first | omega | (simp only [gL] <;> omega))) _))); done) | (simp only [gL, gA] <;> omega) | fail) only [gB, setAll, partL, fldV, reduceIte, Nat.reduceAdd, Nat.reduceMul]
    refine WP.congr (fun i => milestonelaw4_Raw_Make_b1_eq tab i (.ptr h.length 0 3 0) (.ptr (h.length + 1) 0 5 0) (I 12) (.bool false) h1) ?_
    simp -implicitDefEqProofs (disch := first | assumption | omega | (simp only [gL] <;> omega) | ((repeat (first | exact Ext.refl _ | assumption | apply Ext.app | apply Ext.mk | (refine Ext.setr ?_ (by (first | omega | (simp only [gL] <;> omega))) _))); done) | (simp only [gL, gA] <;> omega) | fail) only [gB, setAll, partL, fldV, reduceIte, Nat.reduceAdd, Nat.reduceMul]
    refine WP.congr (fun i => milestonelaw4_Raw_Make_b2_eq tab i (.ptr h.length 0 3 0) (.ptr (h.length + 1) 0 5 0) (I 12) (.bool false) h1) ?_
    simp -implicitDefEqProofs (disch := first | assumption | omega | (simp only [gL] <;> omega) | ((repeat (first | exact Ext.refl _ | assumption | apply Ext.app | apply Ext.mk | (refine Ext.setr ?_ (by (first | omega | (simp only [gL] <;> omega))) _))); done) | (simp only [gL, gA] <;> omega) | fail) only [gB, setAll, partL, fldV, reduceIte, Nat.reduceAdd, Nat.reduceMul]
    refine WP.congr (fun i => milestonelaw4_Raw_Make_b3_eq tab i (.ptr h.length 0 3 0) (.ptr (h.length + 1) 0 5 0) (I 12) (.bool false) h1) ?_
    simp -implicitDefEqProofs (disch := first | assumption | omega | (simp only [gL] <;> omega) | ((repeat (first | exact Ext.refl _ | assumption | apply Ext.app | apply Ext.mk | (refine Ext.setr ?_ (by (first | omega | (simp only [gL] <;> omega))) _))); done) | (simp only [gL, gA] <;> omega) | fail) only [gB, setAll, partL, fldV, reduceIte, Nat.reduceAdd, Nat.reduceMul]
    exact make_b12 mc hS
  · simp -implicitDefEqProofs (disch := first | assumption | omega | (simp only [gL] <;> omega) | ((repeat (first | exact Ext.refl _ | assumption | apply Ext.app | apply Ext.mk | (refine Ext.setr ?_ (by (first | omega | (simp only [gL] <;> omega))) _))); done) | (simp only [gL, gA] <;> omega) | fail) only [gB, setAll, partL, fldV, reduceIte, Nat.reduceAdd, Nat.reduceMul]
    refine WP.congr (fun i => milestonelaw4_Raw_Make_b1_eq tab i (.ptr h.length 0 3 0) (.ptr (h.length + 1) 0 5 0) (I 13) (.bool false) h1) ?_
    simp -implicitDefEqProofs (disch := first | assumption | omega | (simp only [gL] <;> omega) | ((repeat (first | exact Ext.refl _ | assumption | apply Ext.app | apply Ext.mk | (refine Ext.setr ?_ (by (first | omega | (simp only [gL] <;> omega))) _))); done) | (simp only [gL, gA] <;> omega) | fail) only [gB, setAll, partL, fldV, reduceIte, Nat.reduceAdd, Nat.reduceMul]
    refine WP.congr (fun i => milestonelaw4_Raw_Make_b2_eq tab i (.ptr h.length 0 3 0) (.ptr (h.length + 1) 0 5 0) (I 13) (.bool false) h1) ?_
    simp -implicitDefEqProofs (disch := first | assumption | omega | (simp only [gL] <;> omega) | ((repeat (first | exact Ext.refl _ | assumption | apply Ext.app | apply Ext.mk | (refine Ext.setr ?_ (by (first | omega | (simp only [gL] <;> omega))) _))); done) | (simp only [gL, gA] <;> omega) | fail) only [gB, setAll, partL, fldV, reduceIte, Nat.reduceAdd, Nat.reduceMul]
    refine WP.congr (fun i => milestonelaw4_Raw_Make_b3_eq tab i (.ptr h.length 0 3 0) (.ptr (h.length + 1) 0 5 0) (I 13) (.bool false) h1) ?_
    simp -implicitDefEqProofs (disch := first | assumption | omega | (simp only [gL] <;> omega) | ((repeat (first | exact Ext.refl _ | assumption | apply Ext.app | apply Ext.mk | (refine Ext.setr ?_ (by (first | omega | (simp only [gL] <;> omega))) _))); done) | (simp only [gL, gA] <;> omega) | fail) only [gB, setAll, partL, fldV, reduceIte, Nat.reduceAdd, Nat.reduceMul]
    exact make_b13 mc hS
end Go.Gm.A5

set_option linter.unusedVariables false
set_option linter.unusedSimpArgs false
namespace Go.Gm.A5
open Go Go.Gm

/-! ### What is made is right, and small -/
mutual
def cntR : Rw → Nat
  | .mk _ _ l => 1 + cntRs l
def cntRs : List Rw → Nat
  | [] => 0
  | r :: l => cntR r + cntRs l
end
theorem cntR_kids (r : Rw) : cntR r = 1 + cntRs r.kids := by cases r; rw [cntR]; rfl
theorem sz_cnt : ∀ (d : Nat) (rs : List Rw), szF d rs ≤ 14 → (cntRs rs : Int) ≤ szF d rs
  | 0, rs, h => by simp [szF] at h
  | d + 1, rs, h => by
    have : ∀ (rs : List Rw) (n : Int), 0 ≤ n → szAdd d n rs ≤ 14 → n + cntRs rs ≤ szAdd d n rs := by
      intro rs
      induction rs with
      | nil => intro n h0 h; simp [szAdd, cntRs]
      | cons r rs ih =>
        intro n hp h
        have hs : szAdd d n (r :: rs) = szAdd d (if n ≤ 14 then n + 1 + szF d r.kids else n) rs := rfl
        rw [hs] at h ⊢
        by_cases hn : n ≤ 14
        · rw [if_pos hn] at h ⊢
          have hr := sz_rng d r.kids
          have h1 := ih _ (by omega) h
          have h2 : n + 1 + szF d r.kids ≤ 14 := by
            by_cases q : n + 1 + szF d r.kids ≤ 14
            · exact q
            · rw [szAdd_gt d rs q] at h; omega
          have h0 := sz_cnt d r.kids (by omega)
          rw [cntRs, cntR_kids]
          omega
        · rw [if_neg hn, szAdd_gt d rs hn] at h
          omega
    have := this rs 0 (by omega) h
    simp only [szAdd] at this
    simp only [szF]; omega

theorem cntL_le {l : List Nd} {b : Nat} : ∀ {m : Nat}, l.length ≤ m → (∀ c ∈ l, cntN c ≤ b) → cntL l ≤ m * b := by
  induction l with
  | nil => intro m _ _; simp [cntL]
  | cons a l ih =>
    intro m hm h
    obtain ⟨m, rfl⟩ : ∃ m', m = m' + 1 := ⟨m - 1, by simp at hm; omega⟩
    have h1 := ih (m := m) (by simp at hm; omega) fun c hc => h c (by simp [hc])
    have h2 := h a (by simp)
    rw [cntL, Nat.add_mul]; omega
theorem cntL_map (l : List Rw) (h : ∀ r ∈ l, cntN (mkN r) ≤ 3 * cntR r) : cntL (mkNs l) ≤ 3 * cntRs l := by
  induction l with
  | nil => simp [mkNs, cntL]
  | cons r l ih =>
    have h1 := ih fun c hc => h c (by simp [hc])
    have h2 := h r (by simp)
    rw [mkNs, cntL, cntRs]; omega
theorem ptN_mem {n : Int} {ls : List Nd} {i : Nat} : ptN n ls i ∈ ls ∨ ptN n ls i = sgn (wr (n + i)) := by
  simp only [ptN, List.getD_eq_getElem?_getD]
  cases h : ls[i]? with
  | none => exact .inr rfl
  | some c => exact .inl (List.mem_of_getElem? h)
theorem cnt_getD (n : Int) (ls : List Nd) (i : Nat) : cntN (ptN n ls i) ≤ 1 + cntL ls := by
  simp only [ptN, List.getD_eq_getElem?_getD]
  cases h : ls[i]? with
  | none => simp [sgn, cntN]
  | some c =>
    have := cntL_take h
    have h2 : cntL (ls.take (i + 1)) ≤ cntL ls := by
      have : ∀ (l : List Nd) (m : Nat), cntL (l.take m) ≤ cntL l := by
        intro l
        induction l with
        | nil => intro m; simp
        | cons a l ih =>
          intro m
          cases m with
          | zero => simp [cntL]
          | succ m => simp only [List.take_succ_cons, cntL]; have := ih m; omega
      exact this _ _
    simp only [Option.getD_some]; omega
theorem ptsN_len (n : Int) (ls : List Nd) : (ptsN n ls).length = max 2 (min ls.length 4) := by simp [ptsN]
theorem ptsN_eq (n : Int) (ls : List Nd) : cntL (ptsN n ls) ≤ 2 + cntL ls := by
  have h : ∀ (m : Nat), cntL ((List.range m).map (ptN n ls)) ≤ (m - ls.length) + cntL (ls.take m) := by
    intro m
    induction m with
    | zero => simp [cntL]
    | succ m ih =>
      have ha : ∀ (a : List Nd) (c : Nd), cntL (a ++ [c]) = cntL a + cntN c := by
        intro a c
        induction a with
        | nil => simp [cntL]
        | cons x a ih => simp only [List.cons_append, cntL, ih]; omega
      rw [List.range_succ, List.map_append, List.map_singleton, ha]
      by_cases hm : m < ls.length
      · have h1 : ls[m]? = some ls[m] := List.getElem?_eq_getElem hm
        rw [cntL_take h1]
        have h2 : ptN n ls m = ls[m] := by simp [ptN, List.getD_eq_getElem?_getD, h1]
        rw [h2]; omega
      · have h2 : ptN n ls m = sgn (wr (n + m)) := by simp [ptN, List.getD_eq_getElem?_getD, List.getElem?_eq_none (by omega : ls.length ≤ m)]
        rw [h2, List.take_of_length_le (by omega)]
        rw [List.take_of_length_le (by omega)] at ih
        simp only [sgn, cntN]; omega
  have h1 := h (max 2 (min ls.length 4))
  have h2 : ∀ (l : List Nd) (m : Nat), cntL (l.take m) ≤ cntL l := by
    intro l
    induction l with
    | nil => intro m; simp
    | cons a l ih =>
      intro m
      cases m with
      | zero => simp [cntL]
      | succ m => simp only [List.take_succ_cons, cntL]; have := ih m; omega
  have h3 := h2 ls (max 2 (min ls.length 4))
  simp only [ptsN] ; omega
theorem cnt_of (k n : Int) (ls : List Nd) : cntN (mkOf k n ls) ≤ 3 + cntL ls := by
  have h1 := ptsN_eq n ls
  have h2 := cnt_getD n ls 0
  unfold mkOf
  split <;> (try split) <;> simp only [sgn, cntN] <;> omega
theorem cnt_mk (r : Rw) : cntN (mkN r) ≤ 3 * cntR r := by
  refine Rw.ind (p := fun r => cntN (mkN r) ≤ 3 * cntR r) ?_ r
  rintro ⟨k, n, l⟩ ih
  have h1 := cntL_map l ih
  have h2 := cnt_of k n (mkNs l)
  rw [mkN, cntR]; omega
/-- Bounds that a text's expression keeps. -/
def Fine (n : Nd) : Prop := Ok n ∧ Wf n
theorem fine_leaf {n : Nd} (h : n.kids = []) (h1 : n.st < 2 ^ 62) (h2 : n.lo ≤ n.hi) (h3 : n.hi ≤ 100) : Fine n :=
  ⟨.mk h1 (by omega) h3 (by simp [h]) (by simp [h]), .mk h2 (by simp [h])⟩
theorem fine_mk {n : Nd} (h1 : n.st < 2 ^ 62) (h2 : n.lo ≤ n.hi) (h3 : n.hi ≤ 100) (h4 : n.kids.length ≤ 1000) (h5 : ∀ c ∈ n.kids, Fine c) : Fine n :=
  ⟨.mk h1 (by omega) h3 h4 fun c hc => (h5 c hc).1, .mk h2 fun c hc => (h5 c hc).2⟩
theorem fine_sgn (n : Int) : Fine (sgn n) := by
  have a1 : 0 ≤ n % 5 ∧ n % 5 < 5 := ⟨Int.emod_nonneg _ (by omega), Int.emod_lt_of_pos _ (by omega)⟩
  refine fine_leaf rfl ?_ (Nat.le_refl _) (Nat.zero_le _)
  have : 2 ^ (n % 5).toNat < 2 ^ 62 := Nat.pow_lt_pow_right (by omega) (by omega)
  exact this
theorem fine_pt {n : Int} {ls : List Nd} (h : ∀ c ∈ ls, Fine c) (i : Nat) : Fine (ptN n ls i) := by
  rcases ptN_mem (n := n) (ls := ls) (i := i) with q | q
  · exact h _ q
  · rw [q]; exact fine_sgn _
theorem fine_of (k n : Int) (ls : List Nd) (h : ∀ c ∈ ls, Fine c) : Fine (mkOf k n ls) := by
  have hp := ptsN_len n ls
  have h1 : ∀ c ∈ [ptN n ls 0], Fine c := fun c hc => by rw [List.mem_singleton.1 hc]; exact fine_pt h 0
  have h2 : ∀ c ∈ ptsN n ls, Fine c := fun c hc => by
    simp only [ptsN, List.mem_map] at hc
    obtain ⟨i, _, rfl⟩ := hc
    exact fine_pt h i
  have a1 : 0 ≤ n % 4 ∧ n % 4 < 4 := ⟨Int.emod_nonneg _ (by omega), Int.emod_lt_of_pos _ (by omega)⟩
  have a2 : 0 ≤ wr (n.tdiv 4) % 3 ∧ wr (n.tdiv 4) % 3 < 3 := ⟨Int.emod_nonneg _ (by omega), Int.emod_lt_of_pos _ (by omega)⟩
  have a3 : 0 ≤ n % 31 ∧ n % 31 < 31 := ⟨Int.emod_nonneg _ (by omega), Int.emod_lt_of_pos _ (by omega)⟩
  unfold mkOf
  split
  · exact fine_leaf rfl (by simp only [Nd.st]; omega) (Nat.le_refl _) (Nat.zero_le _)
  · exact fine_leaf rfl (by simp only [Nd.st]; omega) (Nat.le_refl _) (Nat.zero_le _)
  · exact fine_sgn n
  · exact fine_sgn n
  · split <;> exact fine_leaf rfl (by simp [Nd.st]) (Nat.le_refl _) (Nat.zero_le _)
  · exact fine_mk (by simp [Nd.st]) (Nat.le_refl _) (Nat.zero_le _) (by simp only [Nd.kids]; omega) h2
  · exact fine_mk (by simp [Nd.st]) (Nat.le_refl _) (Nat.zero_le _) (by simp only [Nd.kids]; omega) h2
  · exact fine_mk (by simp [Nd.st]) (Nat.le_refl _) (Nat.zero_le _) (by simp only [Nd.kids]; omega) h2
  · exact fine_mk (by simp [Nd.st]) (Nat.le_refl _) (Nat.zero_le _) (by simp only [Nd.kids]; omega) h2
  · exact fine_mk (by simp [Nd.st]) (Nat.le_refl _) (Nat.zero_le _) (by simp only [Nd.kids]; omega) h2
  · exact fine_mk (by simp [Nd.st]) (Nat.le_refl _) (Nat.zero_le _) (by simp [Nd.kids]) h1
  · exact fine_mk (by simp [Nd.st]) (Nat.le_refl _) (Nat.zero_le _) (by simp [Nd.kids]) h1
  · exact fine_mk (by simp [Nd.st]) (Nat.le_refl _) (Nat.zero_le _) (by simp [Nd.kids]) h1
  · exact fine_mk (by simp [Nd.st]) (by simp only [Nd.lo, Nd.hi]; omega) (by simp only [Nd.hi]; omega) (by simp [Nd.kids]) h1
theorem fine_make (r : Rw) : Fine (mkN r) := by
  refine Rw.ind (p := fun r => Fine (mkN r)) ?_ r
  rintro ⟨k, n, l⟩ ih
  rw [mkN]
  refine fine_of k n _ fun c hc => ?_
  rw [mkNs_map, List.mem_map] at hc
  obtain ⟨r, hr, rfl⟩ := hc
  exact ih r hr
/-- The first's expression; of none a sign. -/
def oneN : List Rw → Nd
  | [] => .set 1
  | r :: _ => mkN r
theorem fine_one (l : List Rw) : Fine (oneN l) := by
  cases l with
  | nil => exact fine_leaf rfl (by simp [oneN, Nd.st]) (Nat.le_refl _) (Nat.zero_le _)
  | cons r l => exact fine_make r
theorem cnt_one (l : List Rw) (h : szF 7 l ≤ 14) : cntN (oneN l) ≤ 42 := by
  have h1 := sz_cnt 7 l h
  cases l with
  | nil => simp [oneN, cntN]
  | cons r l => have := cnt_mk r; rw [cntRs] at h1; simp only [oneN]; omega
theorem few_spec {l : List Rw} {s : AV} {css : List (List AV)} {h : Heap} (hs : Sl h 3 s css) (hr : RVs h l css) :
    Tot tab f_milestonelaw4_Few [s] h fun r h' => r = .bool (decide (szF 7 l ≤ 14)) ∧ h = h' := by
  refine WP.tot (fun k => (call_milestonelaw4_Few k _ h).trans (milestonelaw4_Few_eq tab k _ h)) ?_
  have := size_spec 7 (by omega) l s css h hs hr
  rw [show (7 : Int) - ((7 : Nat) : Int) = 0 by omega] at this
  refine WP.call this ?_
  rintro _ _ ⟨rfl, rfl⟩
  simp -implicitDefEqProofs (disch := first | assumption | omega | (simp only [gL] <;> omega) | ((repeat (first | exact Ext.refl _ | assumption | apply Ext.app | apply Ext.mk | (refine Ext.setr ?_ (by (first | omega | (simp only [gL] <;> omega))) _))); done) | (simp only [gL, gA, bin_leq] <;> omega) | fail) only [gB, setAll, partL, fldV, reduceIte, Nat.reduceAdd, Nat.reduceMul, bin_leq]
  exact WP.ret ⟨rfl, rfl⟩
theorem one_spec4 {l : List Rw} {s : AV} {css : List (List AV)} {h : Heap} (hs : Sl h 3 s css) (hr : RVs h l css) :
    Tot tab f_milestonelaw4_One [s] h (NewN h (oneN l)) := by
  refine WP.tot (fun k => (call_milestonelaw4_One k _ h).trans (milestonelaw4_One_eq tab k _ h)) ?_
  obtain ⟨h1, hh1⟩ : ∃ h1, h1 = h ++ [AObj.cells ⟨[I 0, I 0, I 0, I 0, .nils], 0, 0, false⟩] := ⟨_, rfl⟩
  have e1 : Ext h h1 := by rw [hh1]; ((repeat (first | exact Ext.refl _ | assumption | apply Ext.app | apply Ext.mk | (refine Ext.setr ?_ (by (first | omega | (simp only [gL] <;> omega))) _))))
  have hl1 : h1.length = h.length + 1 := by rw [hh1]; simp
  have hx1 : h1[h.length]? = some (.cells ⟨[I 0, I 0, I 0, I 0, .nils], 0, 0, false⟩) := by rw [hh1]; simp
  have sl' : Sl h1 3 s (css.map fun x => x) := by rw [List.map_id']; exact hs.ext e1
  have hlen := hr.len
  simp -implicitDefEqProofs (disch := first | assumption | omega | (simp only [gL] <;> omega) | ((repeat (first | exact Ext.refl _ | assumption | apply Ext.app | apply Ext.mk | (refine Ext.setr ?_ (by (first | omega | (simp only [gL] <;> omega))) _))); done) | (simp only [gL, gA] <;> omega) | fail) only [gB, setAll, partL, fldV, reduceIte, Nat.reduceAdd, Nat.reduceMul]
  rw [← hh1]
  have fin : ∀ {n' : Nd} {c5 : List AV} {H : Heap} (e : Ext h1 H) (nv : NVD H (fun o => h1.length ≤ o ∧ o < H.length) n' c5), NewN h n' (.agg c5) (H.set h.length (.cells ⟨c5, 0, 0, false⟩)) := by
    intro n' c5 H e nv
    have := e.len
    refine ⟨(e1.trans e).set (by omega) _, c5, rfl, nv.frs (FrS.set1 H h.length _) (fun o h1 h2 h3 => by omega) fun o h1 h2 => ⟨by omega, by simp; exact h2.2⟩⟩
  cases l with
  | nil =>
    have h0 : css.length = 0 := by simpa using hlen.symm
    simp -implicitDefEqProofs (disch := first | assumption | omega | (simp only [gL] <;> omega) | ((repeat (first | exact Ext.refl _ | assumption | apply Ext.app | apply Ext.mk | (refine Ext.setr ?_ (by (first | omega | (simp only [gL] <;> omega))) _))); done) | (simp only [gL, gA, sl'.lenG, hx1] <;> omega) | fail) only [gB, setAll, partL, fldV, reduceIte, Nat.reduceAdd, Nat.reduceMul, sl'.lenG, hx1]
    exact WP.ret (fin (Ext.refl _) (nvd_leaf (n := .set 1) rfl))
  | cons r l =>
    obtain ⟨cs, hcs, rv⟩ := hr.get (i := 0) (r := r) rfl
    have hg : gi css (0 : Int) = cs := gi_map hcs
    have h0 : 0 < css.length := by rw [← hlen]; simp
    have e0 := Ext.refl h1
    simp -implicitDefEqProofs (disch := first | assumption | omega | (simp only [gL] <;> omega) | ((repeat (first | exact Ext.refl _ | assumption | apply Ext.app | apply Ext.mk | (refine Ext.setr ?_ (by (first | omega | (simp only [gL] <;> omega))) _))); done) | (simp only [gL, gA, sl'.lenG, sl'.idxG, sl'.ldN, hg] <;> omega) | fail) only [gB, setAll, partL, fldV, reduceIte, Nat.reduceAdd, Nat.reduceMul, sl'.lenG, sl'.idxG, sl'.ldN, hg]
    refine WP.call (make_spec r cs h1 (rv.ext e1)) ?_
    rintro _ H ⟨e2, c5, rfl, nv⟩
    have hx2 := e2.get hx1
    obtain ⟨s5, rfl, ho5⟩ := nv.inv
    have hHl := e2.len
    simp -implicitDefEqProofs (disch := first | assumption | omega | (simp only [gL] <;> omega) | ((repeat (first | exact Ext.refl _ | assumption | apply Ext.app | apply Ext.mk | (refine Ext.setr ?_ (by (first | omega | (simp only [gL] <;> omega))) _))); done) | (simp only [gL, gA, hx2, ho5] <;> omega) | fail) only [gB, setAll, partL, fldV, reduceIte, Nat.reduceAdd, Nat.reduceMul, hx2, ho5]
    exact WP.ret (fin e2 nv)
end Go.Gm.A5

set_option linter.unusedVariables false
set_option linter.unusedSimpArgs false
namespace Go.Gm.A5
open Go Go.Gm

theorem nv_leaf {h : Heap} {n : Nd} (hn : n.kids = []) : NV h n [I n.kind, I n.st, I n.lo, I n.hi, .nils] := .mk (css := []) (.inl ⟨rfl, rfl⟩) (by rw [hn]; exact .nil)
theorem nv_eps {h : Heap} : NV h .eps [I 3, I 0, I 0, I 0, .nils] := nv_leaf rfl
theorem nv_emp {h : Heap} : NV h .emp [I 2, I 0, I 0, I 0, .nils] := nv_leaf rfl
theorem nv_set {h : Heap} (s : Nat) : NV h (.set s) [I 1, I s, I 0, I 0, .nils] := nv_leaf rfl
theorem ok_eps : Ok .eps := (fine_leaf rfl (by simp [Nd.st]) (Nat.le_refl _) (Nat.zero_le _)).1
theorem ok_emp : Ok .emp := (fine_leaf rfl (by simp [Nd.st]) (Nat.le_refl _) (Nat.zero_le _)).1
theorem fine_set {s : Nat} (h : s < 2 ^ 62) : Fine (.set s) := fine_leaf rfl h (Nat.le_refl _) (Nat.zero_le _)
/-- A row of a word's numbers, just written out. -/
theorem sl_lit (h : Heap) (w : List Int) : Sl (h ++ [AObj.cells ⟨w.map I, 0, 0, false⟩]) 1 (.sl h.length 0 w.length 1 none 0) (w.map encI) := by
  refine .inr ⟨h.length, 0, none, 0, ⟨w.map I, 0, 0, false⟩, by simp, by simp, Nat.le_refl _, ?_, fun x hx => ?_⟩
  · simp only [List.drop_zero, List.length_map, Nat.mul_one]
    rw [List.take_of_length_le (by simp)]
    induction w with
    | nil => rfl
    | cons a w ih => simp [encI, ih]
  · simp only [List.mem_map] at hx
    obtain ⟨a, _, rfl⟩ := hx; rfl
theorem sl_nil {h : Heap} : Sl h 1 .nils (([] : List Int).map encI) := .inl ⟨rfl, rfl⟩
theorem bool_t {b : Bool} {p : Prop} (h : b = true ↔ p) (hp : p) : b = true := h.2 hp
theorem bool_f {b : Bool} {p : Prop} (h : b = true ↔ p) (hp : ¬ p) : b = false := by cases b; rfl; exact absurd (h.1 rfl) hp
theorem words_set1 : wordsN (.set 1) 1 = [[0]] := by
  rw [words_cong (p := p1 (selS 1)) fun t _ w hw => In_p1 (wl_mem.1 hw).2]
  decide +kernel
theorem set_lastO {h : Heap} {x y : AObj} {o : Nat} (ho : o = h.length) : (h ++ [x]).set o y = h ++ [y] := by subst ho; simp
/-- A row of expressions, just written out. -/
theorem sl_nodes {h : Heap} {o : Nat} {css : List (List AV)} {n : Nat} (hr : h[o]? = some (.cells ⟨css.flatten, 0, 0, false⟩)) (hn : n = css.length) (hl : ∀ c ∈ css, c.length = 5) : Sl h 5 (.sl o 0 n 5 none 0) css := by
  subst hn
  exact .inr ⟨o, 0, none, 0, _, rfl, hr, Nat.le_refl _, by rw [List.drop_zero]; exact List.take_of_length_le (by rw [flatten_len hl]; exact Nat.le_refl _), hl⟩
theorem nv_one {h : Heap} {n c : Nd} {o : Nat} {c5 : List AV} (hk : n.kids = [c]) (hr : h[o]? = some (.cells ⟨c5, 0, 0, false⟩)) (nv : NV h c c5) : NV h n [I n.kind, I n.st, I n.lo, I n.hi, .sl o 0 1 5 none 0] :=
  .mk (css := [c5]) (sl_nodes (by simpa using hr) rfl (by simp [nv.len])) (by rw [hk]; exact .cons nv .nil)
theorem nv_two {h : Heap} {n a b : Nd} {o : Nat} {ca cb : List AV} (hk : n.kids = [a, b]) (hr : h[o]? = some (.cells ⟨ca ++ cb, 0, 0, false⟩)) (na : NV h a ca) (nb : NV h b cb) : NV h n [I n.kind, I n.st, I n.lo, I n.hi, .sl o 0 2 5 none 0] :=
  .mk (css := [ca, cb]) (sl_nodes (by simpa using hr) rfl (by simp [na.len, nb.len])) (by rw [hk]; exact .cons na (.cons nb .nil))
/-- The chapter's example. -/
theorem known_spec (h : Heap) : Tot tab f_milestonelaw5_known [] h fun r h' => r = .bool true ∧ Ext h h' := by
  refine WP.tot (fun k => (call_milestonelaw5_known k h).trans (milestonelaw5_known_eq tab k h)) ?_
  obtain ⟨h1, hh1⟩ : ∃ h1, h1 = (h ++ [AObj.cells ⟨[I 1, I 1, I 0, I 0, .nils], 0, 0, false⟩]) := ⟨_, rfl⟩
  have e1 : Ext h h1 := by rw [hh1]; ((repeat (first | exact Ext.refl _ | assumption | apply Ext.app | apply Ext.mk | (refine Ext.setr ?_ (by (first | omega | (simp only [gL] <;> omega))) _))))
  have hx1 : h1[h.length]? = some (.cells ⟨[I 1, I 1, I 0, I 0, .nils], 0, 0, false⟩) := by rw [hh1]; simp
  simp -implicitDefEqProofs (disch := first | assumption | omega | (simp only [gL] <;> omega) | ((repeat (first | exact Ext.refl _ | assumption | apply Ext.app | apply Ext.mk | (refine Ext.setr ?_ (by (first | omega | (simp only [gL] <;> omega))) _))); done) | (simp only [gL, gA, set_last] <;> omega) | fail) only [gB, setAll, partL, fldV, reduceIte, Nat.reduceAdd, Nat.reduceMul, set_last]
  rw [← hh1]
  refine WP.call (match_spec nv_eps ok_eps (by simp [cntN]) sl_nil (by simp)) ?_
  rintro _ h2 ⟨e2, b, rfl, hb⟩
  obtain rfl := bool_t hb (In_eps.2 rfl)
  have hx2 := e2.get hx1
  simp -implicitDefEqProofs (disch := first | assumption | omega | (simp only [gL] <;> omega) | ((repeat (first | exact Ext.refl _ | assumption | apply Ext.app | apply Ext.mk | (refine Ext.setr ?_ (by (first | omega | (simp only [gL] <;> omega))) _))); done) | (simp only [gL, gA, hx2] <;> omega) | fail) only [gB, setAll, partL, fldV, reduceIte, Nat.reduceAdd, Nat.reduceMul, hx2]
  have e3 : Ext h2 (h2 ++ [AObj.cells ⟨[I 0], 0, 0, false⟩]) := Ext.push h2 _
  refine WP.call (match_spec (w := [0]) (nv_set 1) (fine_set (by omega)).1 (by simp [cntN]) (sl_lit h2 [0]) (by simp)) ?_
  rintro _ h4 ⟨e4, b, rfl, hb⟩
  obtain rfl := bool_t hb (In_set.2 ⟨0, rfl, by omega, by omega, rfl⟩)
  have hx4 := e4.get (e3.get hx2)
  simp -implicitDefEqProofs (disch := first | assumption | omega | (simp only [gL] <;> omega) | ((repeat (first | exact Ext.refl _ | assumption | apply Ext.app | apply Ext.mk | (refine Ext.setr ?_ (by (first | omega | (simp only [gL] <;> omega))) _))); done) | (simp only [gL, gA, hx4] <;> omega) | fail) only [gB, setAll, partL, fldV, reduceIte, Nat.reduceAdd, Nat.reduceMul, hx4]
  have e5 : Ext h4 (h4 ++ [AObj.cells ⟨[I 1], 0, 0, false⟩]) := Ext.push h4 _
  refine WP.call (match_spec (w := [1]) (nv_set 1) (fine_set (by omega)).1 (by simp [cntN]) (sl_lit h4 [1]) (by simp)) ?_
  rintro _ h6 ⟨e6, b, rfl, hb⟩
  obtain rfl := bool_f hb (fun q => by
    obtain ⟨c, h1, _, _, h2⟩ := In_set.1 q
    simp only [List.cons.injEq, and_true] at h1
    subst h1; exact absurd h2 (by decide))
  have hx6 := e6.get (e5.get hx4)
  simp -implicitDefEqProofs (disch := first | assumption | omega | (simp only [gL] <;> omega) | ((repeat (first | exact Ext.refl _ | assumption | apply Ext.app | apply Ext.mk | (refine Ext.setr ?_ (by (first | omega | (simp only [gL] <;> omega))) _))); done) | (simp only [gL, gA, Bool.not_false] <;> omega) | fail) only [gB, setAll, partL, fldV, reduceIte, Nat.reduceAdd, Nat.reduceMul, Bool.not_false]
  refine WP.call (null_spec nv_eps ok_eps (by simp [cntN])) ?_
  rintro _ h7 ⟨e7, b, rfl, hb⟩
  obtain rfl := bool_t hb (In_eps.2 rfl)
  have hx7 := e7.get hx6
  simp -implicitDefEqProofs (disch := first | assumption | omega | (simp only [gL] <;> omega) | ((repeat (first | exact Ext.refl _ | assumption | apply Ext.app | apply Ext.mk | (refine Ext.setr ?_ (by (first | omega | (simp only [gL] <;> omega))) _))); done) | (simp only [gL, gA, hx7] <;> omega) | fail) only [gB, setAll, partL, fldV, reduceIte, Nat.reduceAdd, Nat.reduceMul, hx7]
  rw [show AV.int .i64 1 = I ((1 : Nat) : Int) from rfl]
  refine WP.call (words_spec (nv_set 1) (fine_set (by omega)).1 (by simp [cntN]) (most := 1) (by omega)) ?_
  rintro r h8 ⟨e8, rows, hr, wv⟩
  have hl := hr.lenG
  rw [wv.1, words_set1] at hl
  simp -implicitDefEqProofs (disch := first | assumption | omega | (simp only [gL] <;> omega) | ((repeat (first | exact Ext.refl _ | assumption | apply Ext.app | apply Ext.mk | (refine Ext.setr ?_ (by (first | omega | (simp only [gL] <;> omega))) _))); done) | (simp only [gL, gA, hl] <;> omega) | fail) only [gB, setAll, partL, fldV, reduceIte, Nat.reduceAdd, Nat.reduceMul, hl]
  exact WP.ret ⟨rfl, e1.trans (e2.trans (e3.trans (e4.trans (e5.trans (e6.trans (e7.trans e8))))))⟩
end Go.Gm.A5
