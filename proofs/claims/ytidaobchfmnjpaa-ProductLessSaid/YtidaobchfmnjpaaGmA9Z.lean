/- A part of the proof (GmA9Z): an abstract machine, what it does, and what the functions of the program come to on it. -/
import Derived.Test.YtidaobchfmnjpaaGmA9Y
set_option linter.unusedVariables false
set_option linter.unusedSimpArgs false
set_option linter.unusedSectionVars false
namespace Go.Gm.A9
open Go Go.Gm
def BW (oc : Nat) (c7 : AV) (N : Nat) (k : Nat → Nat) (h : Heap) : Prop :=
  ∃ rows : List AV, Gr oc (oc + 1) h 1 c7 (rows.map fun s => [s]) ∧ rows.length = N ∧ Fam (fun o => oc < o) h 1 (fun v : Nat => v < N) (fun v : Nat => gi rows (v : Int)) (fun v => (List.replicate (k v) (-1 : Int)).map encI)
theorem BW.ext {oc : Nat} {c7 : AV} {N : Nat} {k : Nat → Nat} {h h' : Heap} (b : BW oc c7 N k h) (e : Ext h h') : BW oc c7 N k h' := by
  obtain ⟨rows, g, l, f⟩ := b
  exact ⟨rows, g.ext e, l, f.frs (D := fun _ => False) (FrS.ofExt e) fun _ _ _ z => z⟩
theorem BW.congr {oc : Nat} {c7 : AV} {N : Nat} {k k' : Nat → Nat} {h : Heap} (b : BW oc c7 N k h) (e : ∀ v, v < N → k' v = k v) : BW oc c7 N k' h := by
  obtain ⟨rows, g, l, f⟩ := b
  exact ⟨rows, g, l, f.congr fun v hv => ⟨rfl, by rw [e v hv]⟩⟩
theorem BW.step {oc : Nat} {c7 : AV} {N : Nat} {k : Nat → Nat} {h : Heap} (b : BW oc c7 N k h) {v : Nat} (hv : v < N) (hk : k v ≤ 100000) (hoc : oc < h.length) :
    ∃ s1 s2 h2 h3, idxS 1 c7 (I v) = some (elP 1 c7 v) ∧ ld1 h (elP 1 c7 v) = some s1 ∧ apnd 1 8 s1 (.sl h.length 0 1 1 none 0) (h ++ [AObj.cells ⟨[I (-1)], 0, 0, false⟩]) = some (s2, h2) ∧ stN 1 h2 (elP 1 c7 v) s2 = some h3 ∧
      BW oc c7 N (fun t => if t = v then k t + 1 else k t) h3 ∧ FrS (fun o => oc ≤ o) h h3 := by
  obtain ⟨rows, g, lr, f⟩ := b
  have b1 : Sl (h ++ [AObj.cells ⟨[I (-1)], 0, 0, false⟩]) 1 (.sl h.length 0 1 1 none 0) [[I (-1)]] := by
    have := (Gr.lit (h := h) (sz := 1) (v := [I (-1)]) rfl).sl
    rwa [mkObj_eq] at this
  have e1 : Ext h (h ++ [AObj.cells ⟨[I (-1)], 0, 0, false⟩]) := Ext.push _ _
  have f' := f.frs (D := fun _ => False) (FrS.ofExt e1) fun _ _ _ z => z
  obtain ⟨s2, h2, k1, k2, k3, k4⟩ := f'.append (bytes := 8) (t := v) hv b1 (by simp) (by omega) (by omega) (by simp; omega)
  have g2 := (g.ext e1).frs k4 fun o z1 z2 => by omega
  have c2 : s2.cells = [s2] := by
    have := (k3.sl (t := v) hv).cells
    simpa using this
  obtain ⟨h3, n1, n2, n3, n4⟩ := g2.write0 (i := (v : Int)) (by omega) (by rw [List.length_map]; omega) (v := s2) (by rw [c2]; rfl) (by rw [c2]; simp [k2])
  have hlq := k4.len
  have gs := g.sl
  refine ⟨gi rows (v : Int), s2, h2, h3, gs.idxG (by omega) (by omega), ?_, k1, n1, ?_, ?_⟩
  · have := gs.ld0 (Ext.refl _) (i := (v : Int)) (by omega) (by omega) (by omega)
    exact this
  · refine ⟨rows.set v s2, n2.cong ?_, by rw [List.length_set]; exact lr, ?_⟩
    · rw [c2, List.map_set, Int.toNat_natCast]
    · have f3 := k3.frs n3.s (fun o z1 z2 z3 => by rcases z2 with z2 | z2 <;> simp only [List.length_append] at * <;> omega)
      refine (f3.mono fun o z1 z2 => ?_).congr fun t ht => ⟨?_, ?_⟩
      · rcases z2 with z2 | z2
        · exact z2
        · simp only [List.length_append] at z2; omega
      · show gi (rows.set v s2) (t : Int) = if t = v then s2 else gi rows (t : Int)
        rw [giset2 (by omega)]
      · show (List.replicate (if t = v then k t + 1 else k t) (-1 : Int)).map encI = if t = v then (List.replicate (k v) (-1 : Int)).map encI ++ [[I (-1)]] else (List.replicate (k t) (-1 : Int)).map encI
        by_cases qt : t = v
        · subst qt
          rw [if_pos rfl, if_pos rfl, List.replicate_succ', List.map_append]; rfl
        · rw [if_neg qt, if_neg qt]
  · have z1 : FrS (fun o => oc ≤ o) h (h ++ [AObj.cells ⟨[I (-1)], 0, 0, false⟩]) := FrS.ofExt e1
    exact (z1.trans (k4.mono fun o _ z => Nat.le_of_lt z)).trans (n3.s.mono fun o _ z => z.1)
section
variable {N : Nat} {es : List E} {D : List (List Int)} {acc : List Bool}
def kk (S V s t : Nat) : Nat := if t < V then S else if t = V then s else 0
theorem bld_l2 {hb : Heap} {o3 o4 oc V : Nat} {sD sA c7 vf : AV} (ok : DOk D acc) (hoc : hb.length ≤ oc) (hD : Sl hb 5 sD (D.map encR)) (r4 : hb[o4]? = some (.cells ⟨[sD, sA], 0, 0, false⟩)) (hV : V < N) (hN : V ≤ 1000000) {Q : AV → Heap → Prop}
    (hQ : ∀ h, Ext hb h → oc < h.length → BW oc c7 N (kk D.length (V + 1) 0) h → WP (fun p : Nat × Nat => milestoneref9_least_l1 tab p.1 p.2 vf (.ptr o3 0 2 0) (.ptr o4 0 2 0) c7 (I (V + 1)) h) Q) :
    ∀ (d s : Nat) (h : Heap), s + d = D.length → Ext hb h → oc < h.length → BW oc c7 N (kk D.length V s) h →
      WP (fun p : (Nat × Nat) × Nat => milestoneref9_least_l2 tab p.1.1 p.1.2 p.2 vf (.ptr o3 0 2 0) (.ptr o4 0 2 0) c7 (I V) (I s) h) Q := by
  have l1 := ok.l1
  intro d
  induction d with
  | zero =>
    intro s h h1 e ho b
    refine WP.rnd (fun i j => milestoneref9_least_l2_eq tab i.1 i.2 j vf (.ptr o3 0 2 0) (.ptr o4 0 2 0) c7 (I V) (I s) h) ?_
    obtain rfl : s = D.length := by omega
    have r4' := e.get r4
    simp -implicitDefEqProofs (maxSteps := 1000000) (disch := first | assumption | omega | (simp only [gL] <;> omega) | ((repeat (first | exact Ext.refl _ | assumption | apply Ext.app | apply Ext.mk | (refine Ext.setr ?_ (by (first | omega | (simp only [gL] <;> omega))) _))); done) | (simp only [gL, gA, r4', hD.lenG] <;> omega) | fail) only [gB, setAll, partL, fldV, reduceIte, Nat.reduceAdd, Nat.reduceMul, r4', hD.lenG]
    have hb3 : WP (fun p : Nat × Nat => milestoneref9_least_b3 tab p.1 p.2 vf (.ptr o3 0 2 0) (.ptr o4 0 2 0) c7 (I V) h) Q := by
      refine WP.congr (fun p => milestoneref9_least_b3_eq tab p.1 p.2 vf (.ptr o3 0 2 0) (.ptr o4 0 2 0) c7 (I V) h) ?_
      have : V ≤ 1000000 := hN
      simp -implicitDefEqProofs (maxSteps := 1000000) (disch := first | assumption | omega | (simp only [gL] <;> omega) | ((repeat (first | exact Ext.refl _ | assumption | apply Ext.app | apply Ext.mk | (refine Ext.setr ?_ (by (first | omega | (simp only [gL] <;> omega))) _))); done) | (simp only [gL, gA] <;> omega) | fail) only [gB, setAll, partL, fldV, reduceIte, Nat.reduceAdd, Nat.reduceMul]
      refine hQ h e ho (b.congr fun t ht => ?_)
      simp only [kk]
      by_cases q : t < V
      · rw [if_pos q, if_pos (by omega)]
      · by_cases q2 : t = V
        · rw [if_neg q, if_pos (by omega), if_pos q2]
        · rw [if_neg q, if_neg (by omega), if_neg q2]
          split <;> rfl
    exact WP.lv hb3 fun i j => rfl
  | succ d ih =>
    intro s h h1 e ho b
    refine WP.rnd (fun i j => milestoneref9_least_l2_eq tab i.1 i.2 j vf (.ptr o3 0 2 0) (.ptr o4 0 2 0) c7 (I V) (I s) h) ?_
    have r4' := e.get r4
    have hkv : kk D.length V s V = s := by simp [kk]
    obtain ⟨s1, s2, h2, h3, k1, k2, k3, k4, k5, k6⟩ := b.step hV (by rw [hkv]; omega) ho
    simp -implicitDefEqProofs (maxSteps := 1000000) (disch := first | assumption | omega | (simp only [gL] <;> omega) | ((repeat (first | exact Ext.refl _ | assumption | apply Ext.app | apply Ext.mk | (refine Ext.setr ?_ (by (first | omega | (simp only [gL] <;> omega))) _))); done) | (simp only [gL, gA, r4', hD.lenG, k1, k2, k3, k4] <;> omega) | fail) only [gB, setAll, partL, fldV, reduceIte, Nat.reduceAdd, Nat.reduceMul, r4', hD.lenG, k1, k2, k3, k4]
    have hl := k6.len
    refine ih (s + 1) h3 (by omega) (k6.ext e fun o z1 z2 => by omega) (by omega) (k5.congr fun t ht => ?_)
    simp only [kk]
    by_cases q : t = V
    · subst q; simp
    · by_cases q2 : t < V
      · simp [q, q2]
      · simp [q, q2]
theorem on_gok (ok : DOk D acc) (no : NetOk N es) (co : COk es) : GOk (N * D.length) 2147483647 (hopA es D.length (onL es D)) := by
  refine ⟨by omega, fun x hx y e w hm => ?_⟩
  obtain ⟨i, s, i1, s1, rfl, rfl, rfl⟩ := hop_inv ok no hx hm
  have he : 0 ≤ (eg es i).fr ∧ (eg es i).fr < N ∧ 0 ≤ (eg es i).to ∧ (eg es i).to < N ∧ 0 ≤ (eg es i).md ∧ (eg es i).md < 5 := no.edge _ (gi_mem (xs := es) (i := (i : Int)) (by omega) (by omega))
  have ht : 0 ≤ nx D s (eg es i).md ∧ nx D s (eg es i).md < D.length := ok.to s (eg es i).md (by omega) (by omega) he.2.2.2.2.1 he.2.2.2.2.2
  have hco : 0 ≤ (eg es i).co ∧ (eg es i).co ≤ 2147483647 := co.c _ (gi_mem (xs := es) (i := (i : Int)) (by omega) (by omega))
  exact ⟨spotN (by omega) (by omega), hco.1, hco.2⟩
theorem least_spec {h : Heap} {sE sD sA : AV} (no : NetOk N es) (co : COk es) (hn2 : N * D.length ≤ 1000000) (hs : Sl h 4 sE (es.map encE)) (ok : DOk D acc) (hD : Sl h 5 sD (D.map encR)) (hA : Sl h 1 sA (acc.map encB)) {v : Nat} (hv : v < N) :
    Tot tab f_milestoneref9_least [.agg [I N, sE], .agg [sD, sA], I v] h fun r h' => Ext h h' ∧ ∃ c rows W, LC (N * D.length) (hopA es D.length (onL es D)) (fun x => x = v * D.length) c ∧ MatW W 0 r N D.length rows c h' := by
  refine WP.tot (fun k => (call_milestoneref9_least k _ _ _ h).trans (milestoneref9_least_eq tab k _ _ _ h)) ?_
  have hN : N ≤ 100000 := by have := no.n1; omega
  obtain ⟨h1, hh1⟩ : ∃ h1, h1 = (h ++ [AObj.cells ⟨[I N, sE], 0, 0, false⟩]) ++ [AObj.cells ⟨[sD, sA], 0, 0, false⟩] := ⟨_, rfl⟩
  have e1 : Ext h h1 := by rw [hh1]; ((repeat (first | exact Ext.refl _ | assumption | apply Ext.app | apply Ext.mk | (refine Ext.setr ?_ (by (first | omega | (simp only [gL] <;> omega))) _))))
  have hl1 : h1.length = h.length + 2 := by rw [hh1]; simp
  have r3 : h1[h.length]? = some (.cells ⟨[I N, sE], 0, 0, false⟩) := by rw [hh1]; simp
  have r4 : h1[h.length + 1]? = some (.cells ⟨[sD, sA], 0, 0, false⟩) := by rw [hh1]; simp
  obtain ⟨c7, h2, a2, g2, e2, _, l2⟩ := mkSl_gr (zero := [AV.nils]) (sz := 1) (bytes := 24) (n := (N : Int)) h1 (by omega) (by omega) (by omega) rfl rfl
  simp -implicitDefEqProofs (maxSteps := 1000000) (disch := first | assumption | omega | (simp only [gL] <;> omega) | ((repeat (first | exact Ext.refl _ | assumption | apply Ext.app | apply Ext.mk | (refine Ext.setr ?_ (by (first | omega | (simp only [gL] <;> omega))) _))); done) | (simp only [gL, gA, hs.one, hs.cells, hD.one, hD.cells, hA.one, hA.cells] <;> omega) | fail) only [gB, setAll, partL, fldV, reduceIte, Nat.reduceAdd, Nat.reduceMul, hs.one, hs.cells, hD.one, hD.cells, hA.one, hA.cells]
  rw [← hh1]
  simp -implicitDefEqProofs (maxSteps := 1000000) (disch := first | assumption | omega | (simp only [gL] <;> omega) | ((repeat (first | exact Ext.refl _ | assumption | apply Ext.app | apply Ext.mk | (refine Ext.setr ?_ (by (first | omega | (simp only [gL] <;> omega))) _))); done) | (simp only [gL, gA, a2] <;> omega) | fail) only [gB, setAll, partL, fldV, reduceIte, Nat.reduceAdd, Nat.reduceMul, a2]
  have b0 : BW h1.length c7 N (kk D.length 0 0) h2 := by
    refine ⟨List.replicate N .nils, g2.cong (by simp), by simp, Fam.nil _ _ _ fun t ht => ⟨gi_rep (by omega) (by omega), by simp [kk]⟩⟩
  have hg := on_gok ok no co
  have main : ∀ (d V : Nat) (h' : Heap), V + d = N → Ext h1 h' → h1.length < h'.length → BW h1.length c7 N (kk D.length V 0) h' →
      WP (fun p : Nat × Nat => milestoneref9_least_l1 tab p.1 p.2 (I v) (.ptr h.length 0 2 0) (.ptr (h.length + 1) 0 2 0) c7 (I V) h') fun r h' => Ext h h' ∧ ∃ c rows W, LC (N * D.length) (hopA es D.length (onL es D)) (fun x => x = v * D.length) c ∧ MatW W 0 r N D.length rows c h' := by
    intro d
    induction d with
    | zero =>
      intro V h' hV e ho b
      refine WP.rnd (fun i j => milestoneref9_least_l1_eq tab i j (I v) (.ptr h.length 0 2 0) (.ptr (h.length + 1) 0 2 0) c7 (I V) h') ?_
      obtain rfl : V = N := by omega
      have r3' := e.get r3
      simp -implicitDefEqProofs (maxSteps := 1000000) (disch := first | assumption | omega | (simp only [gL] <;> omega) | ((repeat (first | exact Ext.refl _ | assumption | apply Ext.app | apply Ext.mk | (refine Ext.setr ?_ (by (first | omega | (simp only [gL] <;> omega))) _))); done) | (simp only [gL, gA, r3'] <;> omega) | fail) only [gB, setAll, partL, fldV, reduceIte, Nat.reduceAdd, Nat.reduceMul, r3']
      obtain ⟨rows, gc, lr, f⟩ := b
      have w : MatW (fun o => h1.length < o ∧ o < h'.length) 0 c7 V D.length rows (fun _ => -1) h' := by
        refine ⟨gc.sl, fun h'' fr => (gc.frs fr fun o z1 z2 z3 => by omega).sl, lr, (f.mono fun o z1 z2 => ⟨z2, z1⟩).congr fun t ht => ⟨rfl, ?_⟩⟩
        congr 1
        simp only [rowL, kk]
        rw [if_pos ht]
        apply List.ext_getElem <;> simp
      obtain ⟨h3, s3, w3, f3⟩ := w.set hv ok.l0 0
      have e3 : Ext h1 h3 := f3.ext e fun o z1 z2 => by omega
      have rv := w.row hv
      have gv0 := rowL_gi (c := fun _ => (-1 : Int)) (v := v) ok.l0
      have hb4 : WP (fun i : Nat => milestoneref9_least_b4 tab i (I v) (.ptr h.length 0 2 0) (.ptr (h.length + 1) 0 2 0) c7 h') fun r h' => Ext h h' ∧ ∃ c rows W, LC (V * D.length) (hopA es D.length (onL es D)) (fun x => x = v * D.length) c ∧ MatW W 0 r V D.length rows c h' := by
        refine WP.congr (fun i => milestoneref9_least_b4_eq tab i (I v) (.ptr h.length 0 2 0) (.ptr (h.length + 1) 0 2 0) c7 h') ?_
        have l0 := ok.l0
        have s3' : stN 1 h' (elP 1 (gi rows (v : Int)) 0) (I 0) = some h3 := s3
        simp -implicitDefEqProofs (maxSteps := 1000000) (disch := first | assumption | omega | (simp only [gL] <;> omega) | ((repeat (first | exact Ext.refl _ | assumption | apply Ext.app | apply Ext.mk | (refine Ext.setr ?_ (by (first | omega | (simp only [gL] <;> omega))) _))); done) | (simp only [gL, gA, w.gc.idxG, w.gc.ld0, lr, rv.idxG, rowL_len, s3'] <;> omega) | fail) only [gB, setAll, partL, fldV, reduceIte, Nat.reduceAdd, Nat.reduceMul, w.gc.idxG, w.gc.ld0, lr, rv.idxG, rowL_len, s3']
        have hst : ∀ x, x = v * D.length → x < V * D.length := fun x z => by
          have := spotN (S := D.length) hv ok.l0
          omega
        refine WP.ent (least_l5 (hb := h1) (hcl := h'.length) (st := fun x => x = v * D.length) (rows := rows) (W := fun o => h1.length < o ∧ o < h'.length) (acc := acc) ok no co hn2 hg hst (fun o z => ⟨by omega, z.2⟩) (hs.ext e1) (hD.ext e1) r3 r4 e.len (fun h4 c4 e4 w4 lc4 => ⟨e1.trans e4, c4, rows, _, lc4, w4⟩) (mu (V * D.length) 2147483647 (up (fun _ => -1) (v * D.length + 0) 0)).toNat h3 _ (by have := mu_nonneg (n := V * D.length) (W := 2147483647) (by omega) (up (fun _ => -1) (v * D.length + 0) 0); omega) e3 f3.len w3 ?_) fun i => rfl
        refine RI.start hg (hst _ rfl) (fun x => Iff.rfl) fun x hx => ?_
        simp only [up, Nat.add_zero]
      exact WP.lv hb4 fun i j => rfl
    | succ d ih =>
      intro V h' hV e ho b
      refine WP.rnd (fun i j => milestoneref9_least_l1_eq tab i j (I v) (.ptr h.length 0 2 0) (.ptr (h.length + 1) 0 2 0) c7 (I V) h') ?_
      have r3' := e.get r3
      simp -implicitDefEqProofs (maxSteps := 1000000) (disch := first | assumption | omega | (simp only [gL] <;> omega) | ((repeat (first | exact Ext.refl _ | assumption | apply Ext.app | apply Ext.mk | (refine Ext.setr ?_ (by (first | omega | (simp only [gL] <;> omega))) _))); done) | (simp only [gL, gA, r3'] <;> omega) | fail) only [gB, setAll, partL, fldV, reduceIte, Nat.reduceAdd, Nat.reduceMul, r3']
      exact WP.ent (bld_l2 ok (Nat.le_refl _) (hD.ext e1) r4 (V := V) (N := N) (by omega) (by omega) (fun h4 e4 ho4 b4 => ih (V + 1) h4 (by omega) e4 ho4 b4) D.length 0 h' (by omega) e ho b) fun i => rfl
  exact WP.ent (main N 0 h2 (by omega) e2 (by omega) b0) fun i => rfl
/-! ### The document's least costs -/
theorem rcosts_l2 {hb : Heap} {o3 o4 lo v : Nat} {sD sA c7 : AV} {rows : List AV} {W : Nat → Prop} {c : Nat → Int} {xs : List Int} (ok : DOk D acc) (hN : N ≤ 100000) (hlo : hb.length ≤ lo) (w0 : MatW W 0 c7 N D.length rows c hb) (hD : Sl hb 5 sD (D.map encR)) (hA : Sl hb 1 sA (acc.map encB)) (r4 : hb[o4]? = some (.cells ⟨[sD, sA], 0, 0, false⟩)) (hv : v < N) (hx : xs.length = v) {out : AV} {h : Heap} (e : Ext hb h) (g : Gr hb.length h.length h 1 out (xs.map encI)) {Q : AV → Heap → Prop}
    (hQ : ∀ h' out', Ext hb h' → Gr hb.length h'.length h' 1 out' ((xs ++ [bv c acc (v * D.length) D.length]).map encI) → WP (fun p : Nat × Nat => milestoneref9_Costs_l1 tab p.1 p.2 (.ptr o3 0 2 0) (.ptr o4 0 2 0) c7 out' (I (v + 1)) h') Q) :
    ∀ (d s : Nat), s + d = D.length →
      WP (fun p : (Nat × Nat) × Nat => milestoneref9_Costs_l2 tab p.1.1 p.1.2 p.2 (.ptr o3 0 2 0) (.ptr o4 0 2 0) c7 out (I v) (I (bv c acc (v * D.length) s)) (I s) h) Q := by
  have l1 := ok.l1
  have la := ok.la
  have r4' := e.get r4
  have w := w0.ext e
  intro d
  induction d with
  | zero =>
    intro s h1
    refine WP.rnd (fun i j => milestoneref9_Costs_l2_eq tab i.1 i.2 j (.ptr o3 0 2 0) (.ptr o4 0 2 0) c7 out (I v) (I (bv c acc (v * D.length) s)) (I s) h) ?_
    obtain rfl : s = D.length := by omega
    simp -implicitDefEqProofs (maxSteps := 1000000) (disch := first | assumption | omega | (simp only [gL] <;> omega) | ((repeat (first | exact Ext.refl _ | assumption | apply Ext.app | apply Ext.mk | (refine Ext.setr ?_ (by (first | omega | (simp only [gL] <;> omega))) _))); done) | (simp only [gL, gA, r4', hD.lenG] <;> omega) | fail) only [gB, setAll, partL, fldV, reduceIte, Nat.reduceAdd, Nat.reduceMul, r4', hD.lenG]
    have hb3 : WP (fun p : Nat × Nat => milestoneref9_Costs_b3 tab p.1 p.2 (.ptr o3 0 2 0) (.ptr o4 0 2 0) c7 out (I v) (I (bv c acc (v * D.length) D.length)) h) Q := by
      refine WP.congr (fun p => milestoneref9_Costs_b3_eq tab p.1 p.2 (.ptr o3 0 2 0) (.ptr o4 0 2 0) c7 out (I v) (I (bv c acc (v * D.length) D.length)) h) ?_
      have hlb := e.len
      obtain ⟨s', h', q1, q2, q3⟩ := Gr.append1 (bytes := 8) g (v := [I (bv c acc (v * D.length) D.length)]) rfl (by omega) (by omega) (by simp; omega) (by omega) (by omega)
      rw [mkObj_eq] at q1
      simp -implicitDefEqProofs (maxSteps := 1000000) (disch := first | assumption | omega | (simp only [gL] <;> omega) | ((repeat (first | exact Ext.refl _ | assumption | apply Ext.app | apply Ext.mk | (refine Ext.setr ?_ (by (first | omega | (simp only [gL] <;> omega))) _))); done) | (simp only [gL, gA, q1] <;> omega) | fail) only [gB, setAll, partL, fldV, reduceIte, Nat.reduceAdd, Nat.reduceMul, q1]
      refine WP.congr (fun p => milestoneref9_Costs_b4_eq tab p.1 p.2 (.ptr o3 0 2 0) (.ptr o4 0 2 0) c7 s' (I v) h') ?_
      simp -implicitDefEqProofs (maxSteps := 1000000) (disch := first | assumption | omega | (simp only [gL] <;> omega) | ((repeat (first | exact Ext.refl _ | assumption | apply Ext.app | apply Ext.mk | (refine Ext.setr ?_ (by (first | omega | (simp only [gL] <;> omega))) _))); done) | (simp only [gL, gA] <;> omega) | fail) only [gB, setAll, partL, fldV, reduceIte, Nat.reduceAdd, Nat.reduceMul]
      exact hQ h' s' (q3.ext e (by omega)) (q2.cong (by simp [encI]))
    exact WP.lv hb3 fun i j => rfl
  | succ d ih =>
    intro s h1
    refine WP.rnd (fun i j => milestoneref9_Costs_l2_eq tab i.1 i.2 j (.ptr o3 0 2 0) (.ptr o4 0 2 0) c7 out (I v) (I (bv c acc (v * D.length) s)) (I s) h) ?_
    have hs : s < D.length := by omega
    have lr := w.lr
    have rf := w.row hv
    have gf1 := rowL_gi (c := c) (v := v) hs
    have hbs : bv c acc (v * D.length) (s + 1) = if gi acc s = true ∧ 0 ≤ c (v * D.length + s) ∧ (bv c acc (v * D.length) s < 0 ∨ c (v * D.length + s) < bv c acc (v * D.length) s) then c (v * D.length + s) else bv c acc (v * D.length) s := rfl
    have ihs := ih (s + 1) (by omega)
    rw [hbs] at ihs
    obtain ⟨b, hbb⟩ : ∃ b, bv c acc (v * D.length) s = b := ⟨_, rfl⟩
    obtain ⟨x, hxx⟩ : ∃ x, c (v * D.length + s) = x := ⟨_, rfl⟩
    rw [hbb, hxx] at ihs
    rw [hxx] at gf1
    rw [hbb]
    have hA' := hA.ext e
    cases hac : gi acc (s : Int) with
    | false =>
      rw [if_neg (by rw [hac]; simp)] at ihs
      simp -implicitDefEqProofs (maxSteps := 1000000) (disch := first | assumption | omega | (simp only [gL] <;> omega) | ((repeat (first | exact Ext.refl _ | assumption | apply Ext.app | apply Ext.mk | (refine Ext.setr ?_ (by (first | omega | (simp only [gL] <;> omega))) _))); done) | (simp only [gL, gA, r4', hD.lenG, hA'.idxG, hA'.ld0, encB, hac] <;> omega) | fail) only [gB, setAll, partL, fldV, reduceIte, Nat.reduceAdd, Nat.reduceMul, r4', hD.lenG, hA'.idxG, hA'.ld0, encB, hac]
      exact ihs
    | true =>
      by_cases c1 : 0 ≤ x
      · by_cases c2 : b < 0
        · rw [if_pos ⟨hac, c1, .inl c2⟩] at ihs
          simp -implicitDefEqProofs (maxSteps := 1000000) (disch := first | assumption | omega | (simp only [gL] <;> omega) | ((repeat (first | exact Ext.refl _ | assumption | apply Ext.app | apply Ext.mk | (refine Ext.setr ?_ (by (first | omega | (simp only [gL] <;> omega))) _))); done) | (simp only [gL, gA, r4', hD.lenG, hA'.idxG, hA'.ld0, encB, hac, w.gc.idxG, w.gc.ld0, lr, rf.idxG, rf.ld0, rowL_len, encI, gf1] <;> omega) | fail) only [gB, setAll, partL, fldV, reduceIte, Nat.reduceAdd, Nat.reduceMul, r4', hD.lenG, hA'.idxG, hA'.ld0, encB, hac, w.gc.idxG, w.gc.ld0, lr, rf.idxG, rf.ld0, rowL_len, encI, gf1]
          exact ihs
        · by_cases c3 : x < b
          · rw [if_pos ⟨hac, c1, .inr c3⟩] at ihs
            simp -implicitDefEqProofs (maxSteps := 1000000) (disch := first | assumption | omega | (simp only [gL] <;> omega) | ((repeat (first | exact Ext.refl _ | assumption | apply Ext.app | apply Ext.mk | (refine Ext.setr ?_ (by (first | omega | (simp only [gL] <;> omega))) _))); done) | (simp only [gL, gA, r4', hD.lenG, hA'.idxG, hA'.ld0, encB, hac, w.gc.idxG, w.gc.ld0, lr, rf.idxG, rf.ld0, rowL_len, encI, gf1] <;> omega) | fail) only [gB, setAll, partL, fldV, reduceIte, Nat.reduceAdd, Nat.reduceMul, r4', hD.lenG, hA'.idxG, hA'.ld0, encB, hac, w.gc.idxG, w.gc.ld0, lr, rf.idxG, rf.ld0, rowL_len, encI, gf1]
            exact ihs
          · rw [if_neg (fun z => by omega)] at ihs
            simp -implicitDefEqProofs (maxSteps := 1000000) (disch := first | assumption | omega | (simp only [gL] <;> omega) | ((repeat (first | exact Ext.refl _ | assumption | apply Ext.app | apply Ext.mk | (refine Ext.setr ?_ (by (first | omega | (simp only [gL] <;> omega))) _))); done) | (simp only [gL, gA, r4', hD.lenG, hA'.idxG, hA'.ld0, encB, hac, w.gc.idxG, w.gc.ld0, lr, rf.idxG, rf.ld0, rowL_len, encI, gf1] <;> omega) | fail) only [gB, setAll, partL, fldV, reduceIte, Nat.reduceAdd, Nat.reduceMul, r4', hD.lenG, hA'.idxG, hA'.ld0, encB, hac, w.gc.idxG, w.gc.ld0, lr, rf.idxG, rf.ld0, rowL_len, encI, gf1]
            exact ihs
      · rw [if_neg (fun z => by omega)] at ihs
        simp -implicitDefEqProofs (maxSteps := 1000000) (disch := first | assumption | omega | (simp only [gL] <;> omega) | ((repeat (first | exact Ext.refl _ | assumption | apply Ext.app | apply Ext.mk | (refine Ext.setr ?_ (by (first | omega | (simp only [gL] <;> omega))) _))); done) | (simp only [gL, gA, r4', hD.lenG, hA'.idxG, hA'.ld0, encB, hac, w.gc.idxG, w.gc.ld0, lr, rf.idxG, rf.ld0, rowL_len, encI, gf1] <;> omega) | fail) only [gB, setAll, partL, fldV, reduceIte, Nat.reduceAdd, Nat.reduceMul, r4', hD.lenG, hA'.idxG, hA'.ld0, encB, hac, w.gc.idxG, w.gc.ld0, lr, rf.idxG, rf.ld0, rowL_len, encI, gf1]
        exact ihs
theorem costL_take (N S : Nat) (c : Nat → Int) (acc : List Bool) (v : Nat) : costL (v + 1) S c acc = costL v S c acc ++ [bv c acc (v * S) S] := by
  simp [costL, List.range_succ]
theorem rCosts_spec {h : Heap} {sE sD sA : AV} (no : NetOk N es) (co : COk es) (hn2 : N * D.length ≤ 1000000) (hs : Sl h 4 sE (es.map encE)) (ok : DOk D acc) (hD : Sl h 5 sD (D.map encR)) (hA : Sl h 1 sA (acc.map encB)) {v : Nat} (hv : v < N) :
    Tot tab f_milestoneref9_Costs [.agg [I N, sE], .agg [sD, sA], I v] h fun r h' => Ext h h' ∧ ∃ c, LC (N * D.length) (hopA es D.length (onL es D)) (fun x => x = v * D.length) c ∧ Gr h.length h'.length h' 1 r ((costL N D.length c acc).map encI) := by
  refine WP.tot (fun k => (call_milestoneref9_Costs k _ _ _ h).trans (milestoneref9_Costs_eq tab k _ _ _ h)) ?_
  have hN : N ≤ 100000 := by have := no.n1; omega
  obtain ⟨h1, hh1⟩ : ∃ h1, h1 = (h ++ [AObj.cells ⟨[I N, sE], 0, 0, false⟩]) ++ [AObj.cells ⟨[sD, sA], 0, 0, false⟩] := ⟨_, rfl⟩
  have e1 : Ext h h1 := by rw [hh1]; ((repeat (first | exact Ext.refl _ | assumption | apply Ext.app | apply Ext.mk | (refine Ext.setr ?_ (by (first | omega | (simp only [gL] <;> omega))) _))))
  have r3 : h1[h.length]? = some (.cells ⟨[I N, sE], 0, 0, false⟩) := by rw [hh1]; simp
  have r4 : h1[h.length + 1]? = some (.cells ⟨[sD, sA], 0, 0, false⟩) := by rw [hh1]; simp
  simp -implicitDefEqProofs (maxSteps := 1000000) (disch := first | assumption | omega | (simp only [gL] <;> omega) | ((repeat (first | exact Ext.refl _ | assumption | apply Ext.app | apply Ext.mk | (refine Ext.setr ?_ (by (first | omega | (simp only [gL] <;> omega))) _))); done) | (simp only [gL, gA, hs.one, hs.cells, hD.one, hD.cells, hA.one, hA.cells] <;> omega) | fail) only [gB, setAll, partL, fldV, reduceIte, Nat.reduceAdd, Nat.reduceMul, hs.one, hs.cells, hD.one, hD.cells, hA.one, hA.cells]
  rw [← hh1]
  refine WP.call (least_spec no co hn2 (hs.ext e1) ok (hD.ext e1) (hA.ext e1) hv) ?_
  rintro c7 h2 ⟨e2, c, rows, W, lc, w⟩
  have e12 := e1.trans e2
  have main : ∀ (d v' : Nat) (h' : Heap) (out : AV), v' + d = N → Ext h2 h' → Gr h2.length h'.length h' 1 out ((costL v' D.length c acc).map encI) →
      WP (fun p : Nat × Nat => milestoneref9_Costs_l1 tab p.1 p.2 (.ptr h.length 0 2 0) (.ptr (h.length + 1) 0 2 0) c7 out (I v') h') fun r h' => Ext h h' ∧ ∃ c, LC (N * D.length) (hopA es D.length (onL es D)) (fun x => x = v * D.length) c ∧ Gr h.length h'.length h' 1 r ((costL N D.length c acc).map encI) := by
    intro d
    induction d with
    | zero =>
      intro v' h' out hV e g
      refine WP.rnd (fun i j => milestoneref9_Costs_l1_eq tab i j (.ptr h.length 0 2 0) (.ptr (h.length + 1) 0 2 0) c7 out (I v') h') ?_
      obtain rfl : v' = N := by omega
      have r3' := e.get (e2.get r3)
      simp -implicitDefEqProofs (maxSteps := 1000000) (disch := first | assumption | omega | (simp only [gL] <;> omega) | ((repeat (first | exact Ext.refl _ | assumption | apply Ext.app | apply Ext.mk | (refine Ext.setr ?_ (by (first | omega | (simp only [gL] <;> omega))) _))); done) | (simp only [gL, gA, r3'] <;> omega) | fail) only [gB, setAll, partL, fldV, reduceIte, Nat.reduceAdd, Nat.reduceMul, r3']
      exact WP.ret ⟨e12.trans e, c, lc, g.mono e12.len (Nat.le_refl _)⟩
    | succ d ih =>
      intro v' h' out hV e g
      refine WP.rnd (fun i j => milestoneref9_Costs_l1_eq tab i j (.ptr h.length 0 2 0) (.ptr (h.length + 1) 0 2 0) c7 out (I v') h') ?_
      have r3' := e.get (e2.get r3)
      simp -implicitDefEqProofs (maxSteps := 1000000) (disch := first | assumption | omega | (simp only [gL] <;> omega) | ((repeat (first | exact Ext.refl _ | assumption | apply Ext.app | apply Ext.mk | (refine Ext.setr ?_ (by (first | omega | (simp only [gL] <;> omega))) _))); done) | (simp only [gL, gA, r3'] <;> omega) | fail) only [gB, setAll, partL, fldV, reduceIte, Nat.reduceAdd, Nat.reduceMul, r3']
      refine WP.ent (rcosts_l2 (hb := h2) (lo := h2.length) (c := c) (v := v') ok hN (Nat.le_refl _) w (hD.ext e12) (hA.ext e12) (e2.get r4) (by omega) (costL_len v' D.length c acc) e g (fun h3 out3 e3 g3 => ih (v' + 1) h3 out3 (by omega) e3 (g3.cong (by rw [costL_take N]))) D.length 0 (by omega)) fun i => rfl
  exact WP.ent (main N 0 h2 .nils (by omega) (Ext.refl _) (Gr.nil ..)) fun i => rfl
end
end Go.Gm.A9
