/- A part of the proof: GmA5H: an abstract machine, what it does, and what the functions of the program come to on it. -/
import Derived.Test.YtdpmglimjmecgaaGmA5G
set_option linter.unusedVariables false
set_option linter.unusedSimpArgs false
namespace Go.Gm.A5
open Go Go.Gm

section
variable {h : Heap} {w0 : AV} {w : List Int} {most : Nat} {lo : Nat}
theorem next_l1 (hw0 : Sl h 1 w0 (w.map encI)) (hwl : w.length ≤ 1000) (hm : most ≤ 1000) (hlo : h.length ≤ lo) :
    ∀ (i : Nat) (p z : List Int) (s : AV) (H : Heap), p.length = i → i + z.length = w.length → (∀ c ∈ p, 0 ≤ c ∧ c < 5) → Ext h H → lo ≤ H.length → Gr lo H.length H 1 s ((p ++ z).map encI) →
      WP (fun q : Nat × Nat => milestoneref5_Next_l1 tab q.1 q.2 w0 (I most) s (I i) H) fun r h' => Ext h h' ∧ ∃ s', r = .tup [s', .bool (!(inc p).2 || decide (w.length < most))] ∧ Gr lo h'.length h' 1 s' ((if (inc p).2 then (inc p).1 ++ z ++ [0] else (inc p).1 ++ z).map encI) := by
  intro i
  induction i with
  | zero =>
    intro p z s H hp hz hr ex hlH gr
    obtain rfl := List.eq_nil_of_length_eq_zero hp
    refine WP.rnd (fun i' j => milestoneref5_Next_l1_eq tab i' j w0 (I most) s (I (0 : Nat)) H) ?_
    simp -implicitDefEqProofs (disch := first | assumption | omega | (simp -implicitDefEqProofs only [gL] <;> omega) | ((repeat (first | exact Ext.refl _ | assumption | apply Ext.app | apply Ext.mk | (refine Ext.setr ?_ (by (first | omega | (simp -implicitDefEqProofs only [gL] <;> omega))) _))); done) | (simp -implicitDefEqProofs only [gL, gA] <;> omega) | fail) only [gB, setAll, partL, fldV, reduceIte, Nat.reduceAdd, Nat.reduceMul]
    refine WP.lv (WP.congr (fun i => milestoneref5_Next_b2_eq tab i w0 (I most) s H) ?_) fun i j => rfl
    obtain ⟨s', H', u1, u2, u3⟩ := gr.append1 (bytes := 8) (v := [I 0]) rfl (by omega) (by omega) (by rw [List.length_map]; simp at hz ⊢; omega) hlH (Nat.le_refl _)
    rw [mkObj_eq] at u1
    have e2 := u3.ext ex hlo
    have hw2 := hw0.ext e2
    simp -implicitDefEqProofs (disch := first | assumption | omega | (simp -implicitDefEqProofs only [gL] <;> omega) | ((repeat (first | exact Ext.refl _ | assumption | apply Ext.app | apply Ext.mk | (refine Ext.setr ?_ (by (first | omega | (simp -implicitDefEqProofs only [gL] <;> omega))) _))); done) | (simp -implicitDefEqProofs only [gL, gA, u1, hw2.lenG, bin_lss] <;> omega) | fail) only [gB, setAll, partL, fldV, reduceIte, Nat.reduceAdd, Nat.reduceMul, u1, hw2.lenG, bin_lss]
    refine WP.ret ⟨e2, s', ?_, u2.cong (by simp [inc, incR, encI])⟩
    simp [inc, incR]
  | succ i ih =>
    intro p z s H hp hz hr ex hlH gr
    obtain ⟨c, p', hpp⟩ : ∃ c p', p = p' ++ [c] := by
      have hne : p ≠ [] := by rintro rfl; simp at hp
      exact ⟨_, _, (List.dropLast_concat_getLast hne).symm⟩
    subst hpp
    have hp' : p'.length = i := by simp at hp; exact hp
    have hc := hr c (by simp)
    refine WP.rnd (fun i' j => milestoneref5_Next_l1_eq tab i' j w0 (I most) s (I ((i + 1 : Nat) : Int)) H) ?_
    have gs := gr.sl
    have e0 := Ext.refl H
    have hln : (p' ++ [c] ++ z).length = w.length := by simp at hz ⊢; omega
    have hgi : gi (p' ++ [c] ++ z) ((i : Nat) : Int) = c := gi_map (by rw [List.append_assoc, List.getElem?_append_right (by omega), hp']; simp)
    obtain ⟨H1, m1, m2, m3, m4⟩ := gr.write0 (i := (i : Int)) (by omega) (by rw [List.length_map]; omega) (v := I (c + 1)) rfl rfl
    have hset : ∀ x : Int, (List.map encI (p' ++ [c] ++ z)).set ((i : Int).toNat) [I x] = List.map encI (p' ++ x :: z) := fun x => by
      rw [Int.toNat_natCast, show [I x] = encI x from rfl, ← List.map_set, List.append_assoc, List.set_append_right _ _ (by omega), hp']
      simp
    rw [show (I (c + 1)).cells = [I (c + 1)] from rfl, hset] at m2
    have gs1 := m2.sl
    have e1 := Ext.refl H1
    have hln1 : (p' ++ (c + 1) :: z).length = w.length := by simp at hz ⊢; omega
    have hgi1 : gi (p' ++ (c + 1) :: z) ((i : Nat) : Int) = c + 1 := gi_map (by rw [List.getElem?_append_right (by omega), hp']; simp)
    have hsub : ((i + 1 : Nat) : Int) - 1 = (i : Int) := by omega
    by_cases h5 : c + 1 < 5
    · simp -implicitDefEqProofs (disch := first | assumption | omega | (simp -implicitDefEqProofs only [gL] <;> omega) | ((repeat (first | exact Ext.refl _ | assumption | apply Ext.app | apply Ext.mk | (refine Ext.setr ?_ (by (first | omega | (simp -implicitDefEqProofs only [gL] <;> omega))) _))); done) | (simp -implicitDefEqProofs only [gL, gA, hsub, gs.idxG, gs.ld0, encI, hgi, m1, gs1.idxG, gs1.ld0, hgi1] <;> omega) | fail) only [gB, setAll, partL, fldV, reduceIte, Nat.reduceAdd, Nat.reduceMul, hsub, gs.idxG, gs.ld0, encI, hgi, m1, gs1.idxG, gs1.ld0, hgi1]
      refine WP.lv (WP.ret ⟨m3.ext ex hlo, s, ?_, ?_⟩) fun i j => rfl
      · rw [inc_lt h5]; rfl
      · rw [inc_lt h5]
        rw [← m4] at m2
        exact m2.cong (by simp [encI])
    · obtain ⟨H2, n1, n2, n3, n4⟩ := m2.write0 (i := (i : Int)) (by omega) (by rw [List.length_map]; omega) (v := I 0) rfl rfl
      have hset1 : (List.map encI (p' ++ (c + 1) :: z)).set ((i : Int).toNat) [I 0] = List.map encI (p' ++ 0 :: z) := by
        rw [Int.toNat_natCast, show [I 0] = encI 0 from rfl, ← List.map_set, List.set_append_right _ _ (by omega), hp']
        simp
      rw [show (I 0).cells = [I 0] from rfl, hset1] at n2
      simp -implicitDefEqProofs (disch := first | assumption | omega | (simp -implicitDefEqProofs only [gL] <;> omega) | ((repeat (first | exact Ext.refl _ | assumption | apply Ext.app | apply Ext.mk | (refine Ext.setr ?_ (by (first | omega | (simp -implicitDefEqProofs only [gL] <;> omega))) _))); done) | (simp -implicitDefEqProofs only [gL, gA, hsub, gs.idxG, gs.ld0, encI, hgi, m1, gs1.idxG, gs1.ld0, hgi1, n1] <;> omega) | fail) only [gB, setAll, partL, fldV, reduceIte, Nat.reduceAdd, Nat.reduceMul, hsub, gs.idxG, gs.ld0, encI, hgi, m1, gs1.idxG, gs1.ld0, hgi1, n1]
      have e2 := n3.ext (m3.ext ex hlo) hlo
      refine WP.mono (ih p' (0 :: z) s H2 hp' (by simp at hz ⊢; omega) (fun x hx => hr x (by simp [hx])) e2 (by omega) (n2.mono (Nat.le_refl _) (by omega))) ?_
      rintro r h' ⟨q1, s', q2, q3⟩
      refine ⟨q1, s', ?_, q3.cong ?_⟩
      · rw [q2, inc_ge h5]
      · rw [inc_ge h5]; simp
theorem next_spec (hw0 : Sl h 1 w0 (w.map encI)) (hwl : w.length ≤ 1000) (hm : most ≤ 1000) (hr : ∀ c ∈ w, 0 ≤ c ∧ c < 5) :
    Tot tab f_milestoneref5_Next [w0, I most] h fun r h' => Ext h h' ∧ ∃ s', r = .tup [s', .bool (!(inc w).2 || decide (w.length < most))] ∧ Gr h.length h'.length h' 1 s' ((nxt w).map encI) := by
  refine WP.tot (fun k' => (call_milestoneref5_Next k' _ _ h).trans (milestoneref5_Next_eq tab k' _ _ h)) ?_
  obtain ⟨s', h', h1, h2, h3⟩ := clone_i (bytes := 8) hw0 (by omega) (by omega) (by rw [List.length_map]; omega)
  rw [mkObj_eq] at h1
  have hl := h2.sl.lenG
  simp -implicitDefEqProofs (disch := first | assumption | omega | (simp -implicitDefEqProofs only [gL] <;> omega) | ((repeat (first | exact Ext.refl _ | assumption | apply Ext.app | apply Ext.mk | (refine Ext.setr ?_ (by (first | omega | (simp -implicitDefEqProofs only [gL] <;> omega))) _))); done) | (simp -implicitDefEqProofs only [gL, gA, h1, hl] <;> omega) | fail) only [gB, setAll, partL, fldV, reduceIte, Nat.reduceAdd, Nat.reduceMul, h1, hl]
  refine WP.ent (WP.mono (next_l1 hw0 hwl hm (Nat.le_refl _) w.length w [] s' h' rfl (by simp) hr h3 h3.len (by simpa using h2)) ?_) fun i => rfl
  rintro r h'' ⟨q1, s'', q2, q3⟩
  refine ⟨q1, s'', q2, q3.cong ?_⟩
  simp [nxt]
end
section
variable {H0 : Heap} {n : Nd} {c5 : List AV} {n2 : AV} {most : Nat}
theorem rround (nv : NV H0 n c5) (ok : Ok n) (wf : Wf n) (hn2 : At H0 n2 c5) {out : AV} {og : Nat} {ro : List AV} {wo : List (List Int)} {s : AV} {H : Heap} {w : List Int} {Q : AV → Heap → Prop}
    (hwl : w.length ≤ 1000) (hb : wo.length ≤ 50000) (wi : WI H0 H out og ro wo .nils 0 [] [] .nils [] []) (hs : Sl H 1 s (w.map encI)) (hx : s ≠ .nils → ¬ WX out og .nils 0 s.obj)
    (hc : ∀ (out' : AV) (og' : Nat) (ro' : List AV) (H' : Heap), WI H0 H' out' og' ro' (wo ++ flt n [w]) .nils 0 [] [] .nils [] [] → Sl H' 1 s (w.map encI) → WP (fun q : Nat × Nat => milestoneref5_Words_b2 tab q.1 q.2 (I most) n2 out' s H') Q) :
    WP (fun q : Nat × Nat => milestoneref5_Words_l1 tab q.1 q.2 (I most) n2 out s (.bool true) H) Q := by
  have hc5 : c5.length = 5 := by obtain ⟨_, _, rfl, _, _⟩ := nv.inv; rfl
  have htk5 : c5.take 5 = c5 := List.take_of_length_le (by omega)
  refine WP.rnd (fun i' j => milestoneref5_Words_l1_eq tab i' j (I most) n2 out s (.bool true) H) ?_
  have hn := hn2.ext wi.ext
  have e0 := Ext.refl H
  simp -implicitDefEqProofs (disch := first | assumption | omega | (simp -implicitDefEqProofs only [gL] <;> omega) | ((repeat (first | exact Ext.refl _ | assumption | apply Ext.app | apply Ext.mk | (refine Ext.setr ?_ (by (first | omega | (simp -implicitDefEqProofs only [gL] <;> omega))) _))); done) | (simp -implicitDefEqProofs only [gL, gA, hn.ldNE, hc5, htk5] <;> omega) | fail) only [gB, setAll, partL, fldV, reduceIte, Nat.reduceAdd, Nat.reduceMul, hn.ldNE, hc5, htk5]
  refine WP.call (rmatch_spec (nv.keeps (.ofExt wi.ext)) ok wf hs (by omega)) ?_
  rintro _ H1 ⟨e1, b, rfl, hb'⟩
  have wi1 := wi.extH e1
  have hs1 := hs.ext e1
  cases b with
  | true =>
    obtain ⟨r, H2, u1, u2, u3⟩ := clone_i (bytes := 8) hs1 (by omega) (by omega) (by rw [List.length_map]; omega)
    rw [mkObj_eq] at u1
    have wi2 := wi1.extH u3
    have ho2 := u2.sl.one
    have hc2 := u2.sl.cells
    have hrl := wi.vo.1
    obtain ⟨s', H3, og', m1, m2, m3, m4⟩ := wi2.addOut (w := w) u2.sl (fun q d => by
      have h1 := u2.objIn q
      rcases d with ⟨d1, d2⟩ | ⟨d1, d2⟩
      · have := (wi1.oo d1).2; omega
      · exact d1 rfl) (by omega)
    rw [mkObj_eq] at m1
    simp -implicitDefEqProofs (disch := first | assumption | omega | (simp -implicitDefEqProofs only [gL] <;> omega) | ((repeat (first | exact Ext.refl _ | assumption | apply Ext.app | apply Ext.mk | (refine Ext.setr ?_ (by (first | omega | (simp -implicitDefEqProofs only [gL] <;> omega))) _))); done) | (simp -implicitDefEqProofs only [gL, gA, u1, ho2, hc2, m1] <;> omega) | fail) only [gB, setAll, partL, fldV, reduceIte, Nat.reduceAdd, Nat.reduceMul, u1, ho2, hc2, m1]
    refine hc s' og' (ro ++ [r]) H3 ?_ (Sl.frs (hs1.ext u3) m3 fun q d => hx q (.inl d))
    rw [flt_t (hb'.1 rfl)]
    exact m2
  | false =>
    simp -implicitDefEqProofs (disch := first | assumption | omega | (simp -implicitDefEqProofs only [gL] <;> omega) | ((repeat (first | exact Ext.refl _ | assumption | apply Ext.app | apply Ext.mk | (refine Ext.setr ?_ (by (first | omega | (simp -implicitDefEqProofs only [gL] <;> omega))) _))); done) | (simp -implicitDefEqProofs only [gL, gA] <;> omega) | fail) only [gB, setAll, partL, fldV, reduceIte, Nat.reduceAdd, Nat.reduceMul]
    refine hc out og ro H1 ?_ hs1
    rw [flt_f (fun q => by have := hb'.2 q; simp at this), List.append_nil]
    exact wi1
theorem rwords_l1 (nv : NV H0 n c5) (ok : Ok n) (wf : Wf n) (hn2 : At H0 n2 c5) (hm : most ≤ 1000) :
    ∀ (l : List (List Int)) (out : AV) (og : Nat) (ro : List AV) (wo : List (List Int)) (s : AV) (H : Heap) (w : List Int), (∀ v ∈ w :: l, v.length ≤ 1000 ∧ ∀ c ∈ v, 0 ≤ c ∧ c < 5) → Good most (w :: l) → wo.length + l.length ≤ 50000 → WI H0 H out og ro wo .nils 0 [] [] .nils [] [] → Sl H 1 s (w.map encI) → (s ≠ .nils → ¬ WX out og .nils 0 s.obj) →
      WP (fun q : Nat × Nat => milestoneref5_Words_l1 tab q.1 q.2 (I most) n2 out s (.bool true) H) fun r h' => Ext H0 h' ∧ ∃ rows, Sl h' 1 r (rows.map enc1) ∧ WV h' rows (wo ++ flt n (w :: l)) (fun o => False) := by
  intro l
  induction l with
  | nil =>
    intro out og ro wo s H w hr hg hb wi hs hx
    refine rround nv ok wf hn2 (hr w (by simp)).1 (by simpa using hb) wi hs hx fun out' og' ro' H' wi' hs' => ?_
    refine WP.congr (fun i => milestoneref5_Words_b2_eq tab i.1 i.2 (I most) n2 out' s H') ?_
    refine WP.call (next_spec hs' (hr w (by simp)).1 hm (hr w (by simp)).2) ?_
    rintro _ H2 ⟨e2, s2, rfl, g2⟩
    have hfl : (!(inc w).2 || decide (w.length < most)) = false := by
      rw [hg.1, decide_eq_false hg.2]; rfl
    rw [hfl]
    simp -implicitDefEqProofs (disch := first | assumption | omega | (simp -implicitDefEqProofs only [gL] <;> omega) | ((repeat (first | exact Ext.refl _ | assumption | apply Ext.app | apply Ext.mk | (refine Ext.setr ?_ (by (first | omega | (simp -implicitDefEqProofs only [gL] <;> omega))) _))); done) | (simp -implicitDefEqProofs only [gL, gA, extr_tup] <;> omega) | fail) only [gB, setAll, partL, fldV, reduceIte, Nat.reduceAdd, Nat.reduceMul, extr_tup]
    refine WP.rnd (fun i' j => milestoneref5_Words_l1_eq tab i' j (I most) n2 out' s2 (.bool false) H2) ?_
    simp -implicitDefEqProofs (disch := first | assumption | omega | (simp -implicitDefEqProofs only [gL] <;> omega) | ((repeat (first | exact Ext.refl _ | assumption | apply Ext.app | apply Ext.mk | (refine Ext.setr ?_ (by (first | omega | (simp -implicitDefEqProofs only [gL] <;> omega))) _))); done) | (simp -implicitDefEqProofs only [gL, gA] <;> omega) | fail) only [gB, setAll, partL, fldV, reduceIte, Nat.reduceAdd, Nat.reduceMul]
    have wi2 := wi'.extH e2
    refine WP.lv (WP.ret ⟨wi2.ext, ro', wi2.go.sl, wi2.vo.frs (FrS.refl (fun _ => False) _) (fun _ q => q.elim) fun _ _ q => q.elim⟩) fun i j => rfl
  | cons v l ih =>
    intro out og ro wo s H w hr hg hb wi hs hx
    refine rround nv ok wf hn2 (hr w (by simp)).1 (by simp at hb; omega) wi hs hx fun out' og' ro' H' wi' hs' => ?_
    refine WP.congr (fun i => milestoneref5_Words_b2_eq tab i.1 i.2 (I most) n2 out' s H') ?_
    refine WP.call (next_spec hs' (hr w (by simp)).1 hm (hr w (by simp)).2) ?_
    rintro _ H2 ⟨e2, s2, rfl, g2⟩
    have hfl : (!(inc w).2 || decide (w.length < most)) = true := by
      cases hq : (inc w).2 with
      | false => rfl
      | true => rw [decide_eq_true (hg.2.1 hq)]; rfl
    rw [hfl, hg.1] at *
    simp -implicitDefEqProofs (disch := first | assumption | omega | (simp -implicitDefEqProofs only [gL] <;> omega) | ((repeat (first | exact Ext.refl _ | assumption | apply Ext.app | apply Ext.mk | (refine Ext.setr ?_ (by (first | omega | (simp -implicitDefEqProofs only [gL] <;> omega))) _))); done) | (simp -implicitDefEqProofs only [gL, gA, extr_tup] <;> omega) | fail) only [gB, setAll, partL, fldV, reduceIte, Nat.reduceAdd, Nat.reduceMul, extr_tup]
    have wi2 := wi'.extH e2
    have := ih out' og' ro' (wo ++ flt n [w]) s2 H2 v (fun x hx => hr x (by simp at hx ⊢; exact .inr hx)) hg.2.2 (by have := flt_len n [w]; simp at hb this ⊢; omega) wi2 g2.sl (fun q d => by
      have h1 := g2.objIn q
      rcases d with ⟨d1, d2⟩ | ⟨d1, d2⟩
      · have := (wi'.oo d1).2; omega
      · exact d1 rfl)
    rw [List.append_assoc, ← flt_app] at this
    exact this
end
theorem rwords_spec {n : Nd} {c5 : List AV} {h : Heap} (nv : NV h n c5) (ok : Ok n) (wf : Wf n) {most : Nat} (hm : most ≤ 4) :
    Tot tab f_milestoneref5_Words [.agg c5, I most] h fun r h' => Ext h h' ∧ ∃ rows, Sl h' 1 r (rows.map enc1) ∧ WV h' rows (wordsN n most) (fun _ => False) := by
  refine WP.tot (fun k' => (call_milestoneref5_Words k' _ _ h).trans (milestoneref5_Words_eq tab k' _ _ h)) ?_
  have nv' := nv
  obtain ⟨s5, css, rfl, sl5, nvs⟩ := nv.inv
  have ho5 : s5.one = true := sl5.one
  obtain ⟨h1, hh1⟩ : ∃ h1, h1 = h ++ [AObj.cells ⟨[I n.kind, I n.st, I n.lo, I n.hi, s5], 0, 0, false⟩] := ⟨_, rfl⟩
  have e1 : Ext h h1 := by rw [hh1]; ((repeat (first | exact Ext.refl _ | assumption | apply Ext.app | apply Ext.mk | (refine Ext.setr ?_ (by (first | omega | (simp -implicitDefEqProofs only [gL] <;> omega))) _))))
  have hx1 : h1[h.length]? = some (.cells ⟨[I n.kind, I n.st, I n.lo, I n.hi, s5], 0, 0, false⟩) := by rw [hh1]; simp
  simp -implicitDefEqProofs (disch := first | assumption | omega | (simp -implicitDefEqProofs only [gL] <;> omega) | ((repeat (first | exact Ext.refl _ | assumption | apply Ext.app | apply Ext.mk | (refine Ext.setr ?_ (by (first | omega | (simp -implicitDefEqProofs only [gL] <;> omega))) _))); done) | (simp -implicitDefEqProofs only [gL, gA, ho5] <;> omega) | fail) only [gB, setAll, partL, fldV, reduceIte, Nat.reduceAdd, Nat.reduceMul, ho5]
  have hl1 : h1.length = h.length + 1 := by rw [hh1]; simp
  rw [← hh1, ← hl1]
  have e2 : Ext h1 (h1 ++ [.cells ⟨[], 0, 0, false⟩]) := Ext.push h1 _
  obtain ⟨r, hr1, hr2⟩ := good_words most
  have hall : ∀ v ∈ [] :: r, v.length ≤ 1000 ∧ ∀ c ∈ v, 0 ≤ c ∧ c < 5 := fun v hv => by
    rw [← hr1] at hv
    have := words_rng hv
    exact ⟨by omega, this.2⟩
  have hlen : ([] :: r : List (List Int)).length ≤ 1000 := by
    rw [← hr1]
    have : most = 0 ∨ most = 1 ∨ most = 2 ∨ most = 3 ∨ most = 4 := by omega
    rcases this with rfl | rfl | rfl | rfl | rfl <;> simp [List.range_succ, wl_len]
  refine WP.ent (WP.mono (rwords_l1 (nv'.keeps (.ofExt (e1.trans e2))) ok wf ((At.row hx1 (Nat.le_refl _) rfl).ext e2) (by omega) r .nils 0 [] [] _ _ [] hall hr2 (by simp at hlen ⊢; omega) ?_ (Gr.empty (h := h1) (sz := 1)).sl (fun _ d => by rcases d with d | d <;> exact d.1 rfl)) ?_) fun i => rfl
  · refine ⟨Ext.refl _, Gr.nil .., Gr.nil .., fun q => absurd rfl q, fun q => absurd rfl q, fun q => absurd rfl q, ⟨rfl, fun i r w q => by simp at q⟩, ⟨rfl, fun i r w q => by simp at q⟩, ⟨rfl, fun i r w q => by simp at q⟩, .inl ⟨rfl, rfl⟩, fun q d => by rcases d with d | d <;> exact d.1 rfl⟩
  · rintro r' h' ⟨e3, rows, q1, q2⟩
    refine ⟨(e1.trans e2).trans e3, rows, q1, ?_⟩
    have : wordsN n most = flt n ((List.range (most + 1)).flatMap wl) := rfl
    rw [this, hr1]
    exact q2
end Go.Gm.A5
