/- A part of the proof: an abstract machine, what it does, and what the functions of the program come to on it (GmA9CG, GmA9L3, GmEntry, GmE, GmRw, GmRaw). -/
import Derived.OpenShut
import Derived.ChangeArms
import Derived.DataReads
import Derived.Test.YtidaobchfmnjpaaProductAnyP8
set_option linter.unusedVariables false
set_option linter.unusedSimpArgs false
set_option linter.unusedSectionVars false
namespace Go.Gm.A9
open Go Go.Gm
section
variable {D : List (List Int)} {acc : List Bool}
theorem MKn.bis {xs rk : List Int} {Ss : List Nat} {D' : List (List Int)} {acc' : List Bool} (ok : DOk D acc) (st : Stab (dl D) (fun a : Nat => gi acc (a : Int)) D.length (gf xs)) (k : MKn D acc xs rk Ss D' acc' Ss.length) :
    ∀ (w : List Int), (∀ m ∈ w, 0 ≤ m ∧ m < 5) → ∀ a j : Nat, a < D.length → j < Ss.length → gf xs a = gf xs (gf Ss j) → gi acc (goS D a w) = gi acc' (goS D' j w)
  | [], _, a, j, ha, hj, h => by
    have h1 := st.ac a (gf Ss j) ha (k.pm.lt j hj) h
    exact h1.trans (k.po j hj).1.symm
  | m :: w, hm, a, j, ha, hj, h => by
    have hmm := hm m (by simp)
    obtain ⟨mn, rfl⟩ : ∃ mn : Nat, m = mn := ⟨m.toNat, by omega⟩
    obtain ⟨j', j1, j2, j3⟩ := (k.po j hj).2 mn (by omega)
    have h1 := st.to a (gf Ss j) ha (k.pm.lt j hj) h mn (by omega)
    have h2 : 0 ≤ nx D a mn ∧ nx D a mn < D.length := ok.to a mn (by omega) (by omega) (by omega) (by omega)
    have e1 : nx D a mn = (dl D a mn : Nat) := by rw [dl]; omega
    have ih := bis ok st k w (fun z hz => hm z (List.mem_cons_of_mem _ hz)) (dl D a mn) j' (dl_lt ok ha (by omega)) j1 (h1.trans j3.symm)
    show gi acc (goS D (nx D a mn) w) = gi acc' (goS D' (nx D' j mn) w)
    rw [e1, show nx D' (j : Int) (mn : Int) = (j' : Int) from j2]
    exact ih
theorem MKn.dok {xs rk : List Int} {Ss : List Nat} {D' : List (List Int)} {acc' : List Bool} (ok : DOk D acc) (k : MKn D acc xs rk Ss D' acc' Ss.length) : DOk D' acc' ∧ D'.length ≤ D.length := by
  have h1 := k.pm.le
  have h2 := k.s0
  have h3 := k.ld
  have l1 := ok.l1
  refine ⟨⟨by omega, by omega, k.la.trans h3.symm, fun s s0 s1 => k.l5 _ (b4_ s0 s1), fun s m s0 s1 m0 m1 => ?_⟩, by omega⟩
  obtain ⟨a, rfl⟩ : ∃ a : Nat, s = a := ⟨s.toNat, by omega⟩
  obtain ⟨b, rfl⟩ : ∃ b : Nat, m = b := ⟨m.toNat, by omega⟩
  obtain ⟨j, j1, j2, _⟩ := (k.po a (by omega)).2 b (by omega)
  have : gi (gi D' (a : Int)) (b : Int) = j := j2
  omega
def MinQ (D : List (List Int)) (acc : List Bool) (lo : Nat) (r : AV) (h' : Heap) : Prop :=
  ∃ (D' : List (List Int)) (acc' : List Bool) (sN sA : AV), r = .agg [sN, sA] ∧ Gr lo h'.length h' 5 sN (D'.map encR) ∧ Gr lo h'.length h' 1 sA (acc'.map encB) ∧ DOk D' acc' ∧ D'.length ≤ D.length ∧
    ∀ w : List Int, (∀ m ∈ w, 0 ≤ m ∧ m < 5) → gi acc (goS D 0 w) = gi acc' (goS D' 0 w)
theorem b4Y {h0 hb : Heap} {sD sA0 sc rank : AV} {xs : List Int} {od ot : Nat} (b : MBs D acc hb sD sA0 sc xs od) (e0 : Ext h0 hb) (hot : h0.length ≤ ot) (rt : hb[ot]? = some (.cells ⟨[.nils, .nils], 0, 0, false⟩)) :
    ∀ (d i : Nat) (h : Heap) (states sN sA : AV) (oS oN oA : Nat) (rk : List Int) (Ss : List Nat) (D' : List (List Int)) (acc' : List Bool), i + d = D.length → MI D.length hb h rank states sN sA oS oN oA rk Ss D' acc' → MKn D acc xs rk Ss D' acc' i →
      WP (fun p : Nat × Nat => i2_ tab p.1 p.2 (.ptr od 0 2 0) (.ptr ot 0 2 0) sc (.ptr hb.length 0 2 0) rank states (I i) h) fun r h' => Ext h0 h' ∧ MinQ D acc h0.length r h' := by
  have l1 := b.ok.l1
  have bt := (List.getElem?_eq_some_iff.1 rt).1
  intro d
  induction d with
  | zero =>
    intro i h states sN sA oS oN oA rk Ss D' acc' h1 mi mk
    refine WP.rnd (fun i' j => u7_ tab i' j (.ptr od 0 2 0) (.ptr ot 0 2 0) sc (.ptr hb.length 0 2 0) rank states (I i) h) ?_
    have hle := mk.pm.le
    have hil := mk.il
    obtain rfl : i = Ss.length := by omega
    have gs := mi.gs.sl.lenG
    have ro := mi.ro
    have rt' := mi.eb.get rt
    have b0 := (List.getElem?_eq_some_iff.1 rt').1
    have o1 := mi.gn.sl.one
    have o2 := mi.gn.sl.cells
    have o3 := mi.ga.sl.one
    have o4 := mi.ga.sl.cells
    simp -implicitDefEqProofs (maxSteps := 1000000) (disch := first | assumption | omega | (simp only [gL] <;> omega) | ((repeat (first | exact Ext.refl _ | assumption | apply Ext.app | apply Ext.mk | (refine Ext.setr ?_ (by (first | omega | (simp only [gL] <;> omega))) _))); done) | (simp only [gL, gA, gs, ro, rt', o1, o2, o3, o4] <;> omega) | fail) only [gB, setAll, partL, fldV, reduceIte, Nat.reduceAdd, Nat.reduceMul, gs, ro, rt', o1, o2, o3, o4]
    obtain ⟨k1, k2⟩ := mk.dok b.ok
    have l0 := e0.len
    have nl : ∀ {lo : Nat} {sz : Nat} {s : AV} {xs : List (List AV)} (x : AObj), Gr lo (lo + 1) h sz s xs → (s ≠ .nils → hb.length ≤ lo ∧ lo < h.length) → Gr h0.length (h.set ot x).length (h.set ot x) sz s xs := by
      intro lo sz s xs x g hq
      by_cases q : s = .nils
      · subst q
        have := g.isNil
        subst this
        exact Gr.nil ..
      · have := hq q
        exact (g.set (.inl (by omega)) _).mono (by omega) (by simp; omega)
    refine WP.ret ⟨(e0.trans mi.eb).setr hot _, D', acc', sN, sA, rfl, nl _ mi.gn fun z => ?_, nl _ mi.ga fun z => ?_, k1, k2, fun w hw => ?_⟩
    · have := mi.pn z; omega
    · have := mi.pa z; omega
    · exact mk.bis b.ok b.st w hw 0 0 b.ok.l0 mk.s0 (by rw [mk.z0])
  | succ d ih =>
    intro i h states sN sA oS oN oA rk Ss D' acc' h1 mi mk
    refine WP.rnd (fun i' j => u7_ tab i' j (.ptr od 0 2 0) (.ptr ot 0 2 0) sc (.ptr hb.length 0 2 0) rank states (I i) h) ?_
    have hle := mk.pm.le
    have hil := mk.il
    have gs := mi.gs.sl.lenG
    by_cases q : i = Ss.length
    · subst q
      have ro := mi.ro
      have rt' := mi.eb.get rt
      have b0 := (List.getElem?_eq_some_iff.1 rt').1
      have o1 := mi.gn.sl.one
      have o2 := mi.gn.sl.cells
      have o3 := mi.ga.sl.one
      have o4 := mi.ga.sl.cells
      simp -implicitDefEqProofs (maxSteps := 1000000) (disch := first | assumption | omega | (simp only [gL] <;> omega) | ((repeat (first | exact Ext.refl _ | assumption | apply Ext.app | apply Ext.mk | (refine Ext.setr ?_ (by (first | omega | (simp only [gL] <;> omega))) _))); done) | (simp only [gL, gA, gs, ro, rt', o1, o2, o3, o4] <;> omega) | fail) only [gB, setAll, partL, fldV, reduceIte, Nat.reduceAdd, Nat.reduceMul, gs, ro, rt', o1, o2, o3, o4]
      obtain ⟨k1, k2⟩ := mk.dok b.ok
      have l0 := e0.len
      have nl : ∀ {lo : Nat} {sz : Nat} {s : AV} {xs : List (List AV)} (x : AObj), Gr lo (lo + 1) h sz s xs → (s ≠ .nils → hb.length ≤ lo ∧ lo < h.length) → Gr h0.length (h.set ot x).length (h.set ot x) sz s xs := by
        intro lo sz s xs x g hq
        by_cases q : s = .nils
        · subst q
          have := g.isNil
          subst this
          exact Gr.nil ..
        · have := hq q
          exact (g.set (.inl (by omega)) _).mono (by omega) (by simp; omega)
      refine WP.ret ⟨(e0.trans mi.eb).setr hot _, D', acc', sN, sA, rfl, nl _ mi.gn fun z => ?_, nl _ mi.ga fun z => ?_, k1, k2, fun w hw => ?_⟩
      · have := mi.pn z; omega
      · have := mi.pa z; omega
      · exact mk.bis b.ok b.st w hw 0 0 b.ok.l0 mk.s0 (by rw [mk.z0])
    · have hi : i < Ss.length := by omega
      simp -implicitDefEqProofs (maxSteps := 1000000) (disch := first | assumption | omega | (simp only [gL] <;> omega) | ((repeat (first | exact Ext.refl _ | assumption | apply Ext.app | apply Ext.mk | (refine Ext.setr ?_ (by (first | omega | (simp only [gL] <;> omega))) _))); done) | (simp only [gL, gA, gs] <;> omega) | fail) only [gB, setAll, partL, fldV, reduceIte, Nat.reduceAdd, Nat.reduceMul, gs]
      have bl := mi.bl
      have e1 : Ext h (h ++ [AObj.cells ⟨List.map I [0, 0, 0, 0, 0], 0, 0, false⟩]) := Ext.push _ _
      refine WP.ent (b4X (ot := ot) (on := h.length) b (fun h2 states oS rk Ss nxs mi mk hi nk pr => ?_) 5 0 (h ++ [AObj.cells ⟨List.map I [0, 0, 0, 0, 0], 0, 0, false⟩]) states oS rk Ss [0, 0, 0, 0, 0] (by omega) (mi.ext e1) mk hi ⟨by simp, rfl, bl, fun z => ?_, fun z => ?_, fun z => ?_⟩ fun m' hm' => by omega) fun i => rfl
      · refine WP.congr (fun p => a2G tab p.1 p.2 (.ptr od 0 2 0) (.ptr ot 0 2 0) sc (.ptr hb.length 0 2 0) rank states (I i) (.ptr h.length 0 5 0) h2) ?_
        obtain ⟨n1, n2, n3, n4, n5, n6⟩ := nk
        have hDl := mk.ld
        have hAl := mk.la
        have hle2 := mk.pm.le
        have ro := mi.ro
        have b0 := (List.getElem?_eq_some_iff.1 ro).1
        obtain ⟨sN2, h3, oN2, q1, q2, q3, q4, mi3⟩ := mi.row n2 (by omega)
        have b1 := (List.getElem?_eq_some_iff.1 q4).1
        have hmk : (nxs.map I).take 5 = nxs.map I := List.take_of_length_le (by simp [n2])
        obtain ⟨h4, hh4⟩ : ∃ h4, h4 = h3.set hb.length (.cells ⟨[sN2, sA], 0, 0, false⟩) := ⟨_, rfl⟩
        rw [← hh4] at mi3
        have ro4 := mi3.ro
        have b4 := (List.getElem?_eq_some_iff.1 ro4).1
        have rd4 := mi3.eb.get b.rd
        have gs4 := mi3.gs.sl
        obtain ⟨si, hsi⟩ : ∃ si, gi Ss (i : Int) = si := ⟨_, rfl⟩
        have hsl : si < D.length := hsi ▸ mk.pm.lt i hi
        have hA4 := b.hA.ext mi3.eb
        have la := b.ok.la
        obtain ⟨bb, hbb⟩ : ∃ bb, gi acc (si : Int) = bb := ⟨_, rfl⟩
        obtain ⟨sA2, h5, oA2, w1, w2, w3, w4, mi5⟩ := mi3.accept bb (by omega)
        have b5 := (List.getElem?_eq_some_iff.1 w4).1
        have hld : rdNAt 5 h2[h.length]? 0 5 0 = some (.agg (nxs.map I)) := by
          rw [n1]
          simp only [rdNAt]
          rw [if_pos ⟨by omega, Nat.le_refl _⟩, List.drop_zero, hmk]
        obtain ⟨c0, c1, c2, c3, c4, rfl⟩ : ∃ c0 c1 c2 c3 c4, nxs = [c0, c1, c2, c3, c4] := by
          match nxs, n2 with
          | [c0, c1, c2, c3, c4], _ => exact ⟨c0, c1, c2, c3, c4, rfl⟩
        simp only [List.map_cons, List.map_nil] at hld q1
        simp -implicitDefEqProofs (maxSteps := 1000000) (disch := first | assumption | omega | (simp only [gL] <;> omega) | ((repeat (first | exact Ext.refl _ | assumption | apply Ext.app | apply Ext.mk | (refine Ext.setr ?_ (by (first | omega | (simp only [gL] <;> omega))) _))); done) | (simp only [gL, gA, ro, hld, q1, q4, q2, q3] <;> omega) | fail) only [gB, setAll, partL, fldV, reduceIte, Nat.reduceAdd, Nat.reduceMul, ro, hld, q1, q4, q2, q3]
        rw [← hh4]
        simp -implicitDefEqProofs (maxSteps := 1000000) (disch := first | assumption | omega | (simp only [gL] <;> omega) | ((repeat (first | exact Ext.refl _ | assumption | apply Ext.app | apply Ext.mk | (refine Ext.setr ?_ (by (first | omega | (simp only [gL] <;> omega))) _))); done) | (simp only [gL, gA, ro4, rd4, gs4.idxG, gs4.ld0, hsi, encN, hA4.idxG, hA4.ld0, hbb, encB, w1, w4, w2, w3] <;> omega) | fail) only [gB, setAll, partL, fldV, reduceIte, Nat.reduceAdd, Nat.reduceMul, ro4, rd4, gs4.idxG, gs4.ld0, hsi, encN, hA4.idxG, hA4.ld0, hbb, encB, w1, w4, w2, w3]
        obtain ⟨h6, hh6⟩ : ∃ h6, h6 = h5.set hb.length (.cells ⟨[sN2, sA2], 0, 0, false⟩) := ⟨_, rfl⟩
        rw [← hh6] at mi5 ⊢
        refine WP.congr (fun p => a2F tab p.1 p.2 (.ptr od 0 2 0) (.ptr ot 0 2 0) sc (.ptr hb.length 0 2 0) rank states (I i) h6) ?_
        simp -implicitDefEqProofs (maxSteps := 1000000) (disch := first | assumption | omega | (simp only [gL] <;> omega) | ((repeat (first | exact Ext.refl _ | assumption | apply Ext.app | apply Ext.mk | (refine Ext.setr ?_ (by (first | omega | (simp only [gL] <;> omega))) _))); done) | (simp only [gL, gA] <;> omega) | fail) only [gB, setAll, partL, fldV, reduceIte, Nat.reduceAdd, Nat.reduceMul]
        refine ih (i + 1) h6 states sN2 sA2 oS oN2 oA2 rk Ss (D' ++ [[c0, c1, c2, c3, c4]]) (acc' ++ [bb]) (by omega) mi5 ⟨mk.pm, fun a ha => ?_, mk.z0, by omega, mk.s0, by simp [hDl], by simp [hAl], fun r hr => ?_⟩
        · by_cases z : a = i
          · subst z
            have z1 : gi (acc' ++ [bb]) (a : Int) = bb := by
              rw [q8_ (by simp [hAl])]; simp [← hAl]
            have z2 : gi (D' ++ [[c0, c1, c2, c3, c4]]) (a : Int) = [c0, c1, c2, c3, c4] := by
              rw [q8_ (by simp [hDl])]; simp [← hDl]
            refine ⟨z1.trans (by rw [← hbb, ← hsi]), fun m hm => ?_⟩
            obtain ⟨j, j1, j2, j3⟩ := pr m hm
            refine ⟨j, j1, ?_, j3⟩
            show gi (gi (D' ++ [[c0, c1, c2, c3, c4]]) (a : Int)) (m : Int) = j
            rw [z2]; exact j2
          · obtain ⟨z1, z2⟩ := mk.po a (by omega)
            have y1 : gi (acc' ++ [bb]) (a : Int) = gi acc' (a : Int) := a3V (by omega) (by omega)
            have y2 : gi (D' ++ [[c0, c1, c2, c3, c4]]) (a : Int) = gi D' (a : Int) := a3V (by omega) (by omega)
            refine ⟨y1.trans z1, fun m hm => ?_⟩
            obtain ⟨j, j1, j2, j3⟩ := z2 m hm
            refine ⟨j, j1, ?_, j3⟩
            show gi (gi (D' ++ [[c0, c1, c2, c3, c4]]) (a : Int)) (m : Int) = j
            rw [y2]; exact j2
        · rcases List.mem_append.1 hr with z | z
          · exact mk.l5 r z
          · obtain rfl := List.mem_singleton.1 z; rfl
      · have := mi.ps z; omega
      · have := mi.pn z; omega
      · have := mi.pa z; omega
theorem b0Y {h : Heap} {sD sA : AV} (ok : DOk D acc) (hD : Sl h 5 sD (D.map encR)) (hA : Sl h 1 sA (acc.map encB)) :
    Tot tab e1_ [.agg [sD, sA]] h fun r h' => Ext h h' ∧ MinQ D acc h.length r h' := by
  refine WP.tot (fun k => (a3f k _ h).trans (a3D tab k _ h)) ?_
  have l0 := ok.l0
  have l1 := ok.l1
  obtain ⟨h1, hh1⟩ : ∃ h1, h1 = (h ++ [AObj.cells ⟨[sD, sA], 0, 0, false⟩]) ++ [AObj.cells ⟨[.nils, .nils], 0, 0, false⟩] := ⟨_, rfl⟩
  have e1 : Ext h h1 := by rw [hh1]; ((repeat (first | exact Ext.refl _ | assumption | apply Ext.app | apply Ext.mk | (refine Ext.setr ?_ (by (first | omega | (simp only [gL] <;> omega))) _))))
  have rd : h1[h.length]? = some (.cells ⟨[sD, sA], 0, 0, false⟩) := by rw [hh1]; simp
  have rt : h1[h.length + 1]? = some (.cells ⟨[.nils, .nils], 0, 0, false⟩) := by rw [hh1]; simp
  simp -implicitDefEqProofs (maxSteps := 1000000) (disch := first | assumption | omega | (simp only [gL] <;> omega) | ((repeat (first | exact Ext.refl _ | assumption | apply Ext.app | apply Ext.mk | (refine Ext.setr ?_ (by (first | omega | (simp only [gL] <;> omega))) _))); done) | (simp only [gL, gA, hD.one, hD.cells, hA.one, hA.cells] <;> omega) | fail) only [gB, setAll, partL, fldV, reduceIte, Nat.reduceAdd, Nat.reduceMul, hD.one, hD.cells, hA.one, hA.cells]
  rw [← hh1]
  refine WP.call (b1K ok (hD.ext e1) (hA.ext e1)) ?_
  rintro sc h2 ⟨e2, xs, g2, lx, st⟩
  have rd2 := e2.get rd
  have rt2 := e2.get rt
  have hc2 := g2.sl
  have hD2 := (hD.ext e1).ext e2
  have hA2 := (hA.ext e1).ext e2
  obtain ⟨h3, hh3⟩ : ∃ h3, h3 = h2 ++ [AObj.cells ⟨[.nils, .nils], 0, 0, false⟩] := ⟨_, rfl⟩
  have e3 : Ext h2 h3 := by rw [hh3]; exact Ext.push _ _
  have l3 : h3.length = h2.length + 1 := by rw [hh3]; simp
  have ro3 : h3[h2.length]? = some (.cells ⟨[.nils, .nils], 0, 0, false⟩) := by rw [hh3]; simp
  obtain ⟨rank, h4, a4, g4, e4, _, l4⟩ := q4_ (zero := [AV.int .i64 0]) (sz := 1) (bytes := 8) (n := (D.length : Int)) h3 (by omega) (by omega) (by omega) rfl rfl
  have hre : List.replicate (D.length : Int).toNat [AV.int .i64 0] = (List.replicate D.length (0 : Int)).map encI := by simp [encI, I]
  rw [hre] at g4
  obtain ⟨h5, hh5⟩ : ∃ h5, h5 = h4 ++ [AObj.cells ⟨encN 0, 0, 0, false⟩] := ⟨_, rfl⟩
  have e5 : Ext h4 h5 := by rw [hh5]; exact Ext.push _ _
  have l5 : h5.length = h4.length + 1 := by rw [hh5]; simp
  have gs5 : Gr h4.length (h4.length + 1) h5 1 (.sl h4.length 0 1 1 none 0) ([0].map encN) := by
    have := Gr.lit (h := h4) (sz := 1) (v := encN 0) rfl
    rw [a9_] at this
    rw [hh5]; exact this
  have e25 := (e3.trans e4).trans e5
  obtain ⟨v, hv⟩ : ∃ v : Nat, gi xs 0 = v := ⟨(gi xs 0).toNat, by have : 0 ≤ gi xs ((0 : Nat) : Int) := (st.rng 0 l0).1; exact (Int.toNat_of_nonneg this).symm⟩
  have hvl : v < D.length := by
    have : gi xs ((0 : Nat) : Int) < D.length := (st.rng 0 l0).2
    have : gi xs 0 < D.length := this
    omega
  have mi5 : MI D.length h2 h5 rank (.sl h4.length 0 1 1 none 0) .nils .nils h4.length 0 0 (List.replicate D.length 0) [0] [] [] := by
    refine ⟨e25, (e4.trans e5).get ro3, (g4.ext e5).mono (by omega) (by omega), gs5, Gr.nil .., Gr.nil .., fun _ => by omega, fun z => absurd rfl z, fun z => absurd rfl z, by simp, by omega⟩
  obtain ⟨h6, w1, mi6, w3⟩ := mi5.setRk hvl 1
  have gr5 := (g4.ext e5).sl
  have hc5 := hc2.ext e25
  have s5 : h4 ++ [AObj.cells ⟨[AV.int .i64 0], 0, 0, false⟩] = h5 := by rw [hh5]; rfl
  have rd3 := e3.get rd2
  have hD3 := hD2.ext e3
  rw [← hh3]
  simp -implicitDefEqProofs (maxSteps := 1000000) (disch := first | assumption | omega | (simp only [gL] <;> omega) | ((repeat (first | exact Ext.refl _ | assumption | apply Ext.app | apply Ext.mk | (refine Ext.setr ?_ (by (first | omega | (simp only [gL] <;> omega))) _))); done) | (simp only [gL, gA, rd3, hD3.lenG, a4] <;> omega) | fail) only [gB, setAll, partL, fldV, reduceIte, Nat.reduceAdd, Nat.reduceMul, rd3, hD3.lenG, a4]
  rw [s5]
  simp -implicitDefEqProofs (maxSteps := 1000000) (disch := first | assumption | omega | (simp only [gL] <;> omega) | ((repeat (first | exact Ext.refl _ | assumption | apply Ext.app | apply Ext.mk | (refine Ext.setr ?_ (by (first | omega | (simp only [gL] <;> omega))) _))); done) | (simp only [gL, gA, hc5.idxG, hc5.ld0, hv, encI, gr5.idxG, w1] <;> omega) | fail) only [gB, setAll, partL, fldV, reduceIte, Nat.reduceAdd, Nat.reduceMul, hc5.idxG, hc5.ld0, hv, encI, gr5.idxG, w1]
  have b : MBs D acc h2 sD sA sc xs h.length := ⟨ok, hD2, hA2, hc2, lx, st, rd2⟩
  refine WP.ent (b4Y (ot := h.length + 1) b (e1.trans e2) (by omega) rt2 D.length 0 h6 _ _ _ _ _ _ _ _ _ _ (by omega) mi6 ⟨⟨fun j hj => ?_, fun w hw => ?_, ?_⟩, fun a ha => by omega, rfl, by simp, by simp, rfl, rfl, fun r hr => by simp at hr⟩) fun i => rfl
  · simp only [List.length_cons, List.length_nil] at hj
    obtain rfl : j = 0 := by omega
    exact l0
  · rw [show gf ((List.replicate D.length (0 : Int)).set v 1) = _ from gset (by simpa using hvl) _]
    by_cases q : w = v
    · subst q
      exact .inr ⟨0, by simp, by simp, hv⟩
    · refine .inl ⟨?_, fun j hj => ?_⟩
      · simp only [if_neg q]
        exact a3h (by omega) (by omega)
      · simp only [List.length_cons, List.length_nil] at hj
        obtain rfl : j = 0 := by omega
        have : gf xs (gf [0] 0) = (v : Int) := hv
        rw [this]; omega
  · have e : (fun w : Nat => gf ((List.replicate D.length (0 : Int)).set v 1) w - 1) = up (fun w : Nat => gf (List.replicate D.length (0 : Int)) w - 1) v 0 := by
      funext w
      rw [show gf ((List.replicate D.length (0 : Int)).set v 1) = _ from gset (by simpa using hvl) _]
      simp only [up]
      split <;> rfl
    have z : ∀ x : Nat, x < D.length → gf (List.replicate D.length (0 : Int)) x - 1 = -1 := fun x hx => by
      have : gf (List.replicate D.length (0 : Int)) x = 0 := a3h (by omega) (by omega)
      omega
    rw [e, un_up hvl (Int.le_refl _), if_pos (by have := z v hvl; omega), b3r z]
    simp
end
end Go.Gm.A9

namespace Go.Gm.A9
open Go Go.Gm
section
variable {h : Heap} {N : Nat} {es : List E} {D : List (List Int)} {acc : List Bool}
theorem b4G {a b : AV} {xs ys : List Int} (ha : Sl h 1 a (xs.map encI)) (hb : Sl h 1 b (ys.map encI)) (e : xs = ys) (hl : xs.length ≤ 1000000) :
    ∀ (d i : Nat), i + d = xs.length → WP (fun p : Nat × Nat => n3_ tab p.1 p.2 a b (I i) h) fun r h' => r = .bool true ∧ h = h' := by
  subst e
  intro d
  induction d with
  | zero =>
    intro i h1
    refine WP.rnd (fun i' j => a0q tab i' j a b (I i) h) ?_
    obtain rfl : i = xs.length := by omega
    simp -implicitDefEqProofs (maxSteps := 1000000) (disch := first | assumption | omega | (simp only [gL] <;> omega) | ((repeat (first | exact Ext.refl _ | assumption | apply Ext.app | apply Ext.mk | (refine Ext.setr ?_ (by (first | omega | (simp only [gL] <;> omega))) _))); done) | (simp only [gL, gA, ha.lenG] <;> omega) | fail) only [gB, setAll, partL, fldV, reduceIte, Nat.reduceAdd, Nat.reduceMul, ha.lenG]
    exact WP.ret ⟨rfl, rfl⟩
  | succ d ih =>
    intro i h1
    refine WP.rnd (fun i' j => a0q tab i' j a b (I i) h) ?_
    simp -implicitDefEqProofs (maxSteps := 1000000) (disch := first | assumption | omega | (simp only [gL] <;> omega) | ((repeat (first | exact Ext.refl _ | assumption | apply Ext.app | apply Ext.mk | (refine Ext.setr ?_ (by (first | omega | (simp only [gL] <;> omega))) _))); done) | (simp only [gL, gA, ha.lenG, ha.idxG, ha.ld0, hb.idxG, hb.ld0, encI] <;> omega) | fail) only [gB, setAll, partL, fldV, reduceIte, Nat.reduceAdd, Nat.reduceMul, ha.lenG, ha.idxG, ha.ld0, hb.idxG, hb.ld0, encI]
    exact ih (i + 1) (by omega)
theorem b3C {a b : AV} {xs : List Int} (ha : Sl h 1 a (xs.map encI)) (hb : Sl h 1 b (xs.map encI)) (hl : xs.length ≤ 1000000) :
    Tot tab j0_ [a, b] h fun r h' => r = .bool true ∧ h = h' := by
  refine WP.tot (fun k => (a5a k _ _ h).trans (a6u tab k _ _ h)) ?_
  simp -implicitDefEqProofs (maxSteps := 1000000) (disch := first | assumption | omega | (simp only [gL] <;> omega) | ((repeat (first | exact Ext.refl _ | assumption | apply Ext.app | apply Ext.mk | (refine Ext.setr ?_ (by (first | omega | (simp only [gL] <;> omega))) _))); done) | (simp only [gL, gA, ha.lenG, hb.lenG] <;> omega) | fail) only [gB, setAll, partL, fldV, reduceIte, Nat.reduceAdd, Nat.reduceMul, ha.lenG, hb.lenG]
  exact WP.ent (b4G ha hb rfl hl xs.length 0 (by omega)) fun i => rfl
theorem b2G {sE sD sA : AV} (no : NetOk N es) (co : COk es) (hn2 : N * D.length ≤ 1000000) (hs : Sl h 4 sE (es.map encE)) (ok : DOk D acc) (hD : Sl h 5 sD (D.map encR)) (hA : Sl h 1 sA (acc.map encB)) {v u : Nat} (hv : v < N) (hu : u < N) :
    Tot tab i9_ [.agg [I N, sE], .agg [sD, sA], I v, I u] h fun r h' => Ext h h' ∧ ∃ B, LW es v u (fun w => gi acc (goS D 0 w) = true) B ∧ (r = .tup [I (max B 0), .bool (decide (0 ≤ B))]) := by
  refine WP.tot (fun k => (a4Z k _ _ _ _ h).trans (a6t tab k _ _ _ _ h)) ?_
  obtain ⟨h1, hh1⟩ : ∃ h1, h1 = (h ++ [AObj.cells ⟨[I N, sE], 0, 0, false⟩]) ++ [AObj.cells ⟨[sD, sA], 0, 0, false⟩] := ⟨_, rfl⟩
  have e1 : Ext h h1 := by rw [hh1]; ((repeat (first | exact Ext.refl _ | assumption | apply Ext.app | apply Ext.mk | (refine Ext.setr ?_ (by (first | omega | (simp only [gL] <;> omega))) _))))
  have := no.n1
  simp -implicitDefEqProofs (maxSteps := 1000000) (disch := first | assumption | omega | (simp only [gL] <;> omega) | ((repeat (first | exact Ext.refl _ | assumption | apply Ext.app | apply Ext.mk | (refine Ext.setr ?_ (by (first | omega | (simp only [gL] <;> omega))) _))); done) | (simp only [gL, gA, hs.one, hs.cells, hD.one, hD.cells, hA.one, hA.cells] <;> omega) | fail) only [gB, setAll, partL, fldV, reduceIte, Nat.reduceAdd, Nat.reduceMul, hs.one, hs.cells, hD.one, hD.cells, hA.one, hA.cells]
  rw [← hh1]
  refine WP.call (a9g no co hn2 (hs.ext e1) ok (hD.ext e1) (hA.ext e1) hv) ?_
  rintro r h2 ⟨e2, c, lc, g2⟩
  have x := g2.sl
  have lw := bv_lw ok no hv hu lc
  have hl := a5C N D.length c acc
  have hg := a9D (S := D.length) (c := c) (acc := acc) hu
  generalize bv c acc (u * D.length) D.length = B at lw hg
  by_cases q : B < 0
  · have hB : B = -1 := by rcases lw.ex with h | ⟨h, _⟩ <;> omega
    simp -implicitDefEqProofs (maxSteps := 1000000) (disch := first | assumption | omega | (simp only [gL] <;> omega) | ((repeat (first | exact Ext.refl _ | assumption | apply Ext.app | apply Ext.mk | (refine Ext.setr ?_ (by (first | omega | (simp only [gL] <;> omega))) _))); done) | (simp only [gL, gA, x.idxG, x.ld0, encI, hg] <;> omega) | fail) only [gB, setAll, partL, fldV, reduceIte, Nat.reduceAdd, Nat.reduceMul, x.idxG, x.ld0, encI, hg]
    refine WP.ret ⟨e1.trans e2, B, lw, ?_⟩
    rw [hB]; rfl
  · simp -implicitDefEqProofs (maxSteps := 1000000) (disch := first | assumption | omega | (simp only [gL] <;> omega) | ((repeat (first | exact Ext.refl _ | assumption | apply Ext.app | apply Ext.mk | (refine Ext.setr ?_ (by (first | omega | (simp only [gL] <;> omega))) _))); done) | (simp only [gL, gA, x.idxG, x.ld0, encI, hg] <;> omega) | fail) only [gB, setAll, partL, fldV, reduceIte, Nat.reduceAdd, Nat.reduceMul, x.idxG, x.ld0, encI, hg]
    refine WP.ret ⟨e1.trans e2, B, lw, ?_⟩
    rw [show max B 0 = B by omega, decide_eq_true (by omega)]
theorem any_spec {h : Heap} {size modes states acc5 frm to : Int} {ns ms : AV} {zs ws : List Int} (hns : Sl h 1 ns (zs.map encI)) (hms : Sl h 1 ms (ws.map encI)) :
    Tot tab n7_ [I size, ns, I modes, I states, ms, I acc5, I frm, I to] h fun r _ => r = .bool true := by
  refine WP.tot (fun k => (a2r k _ _ _ _ _ _ _ _ h).trans (a2R tab k _ _ _ _ _ _ _ _ h)) ?_
  refine WP.call (b2y h) ?_
  rintro _ h1 ⟨rfl, e1⟩
  simp -implicitDefEqProofs (maxSteps := 1000000) (disch := first | assumption | omega | (simp only [gL] <;> omega) | ((repeat (first | exact Ext.refl _ | assumption | apply Ext.app | apply Ext.mk | (refine Ext.setr ?_ (by (first | omega | (simp only [gL] <;> omega))) _))); done) | (simp only [gL, gA] <;> omega) | fail) only [gB, setAll, partL, fldV, reduceIte, Nat.reduceAdd, Nat.reduceMul]
  refine WP.call (b3c (hns.ext e1)) ?_
  rintro _ h2 ⟨e2, s, rfl, g2⟩
  refine WP.call (b2B (hms.ext (e1.trans e2))) ?_
  rintro _ h3 ⟨e3, D, acc, sD, sA, rfl, ok, lD, yD, yA⟩
  have zD := yD.sl
  have zA := yA.sl
  have no := b4K size zs modes
  have co := b4W size zs modes
  have hl := b4j size zs modes
  have hN := a5z size
  obtain ⟨N, hNN⟩ : ∃ N : Nat, mkN size = N := ⟨(mkN size).toNat, by omega⟩
  rw [hNN] at no hN
  rw [hNN]
  generalize mkE size zs modes = es at no co hl g2
  have gs := g2.sl
  simp -implicitDefEqProofs (maxSteps := 1000000) (disch := first | assumption | omega | (simp only [gL] <;> omega) | ((repeat (first | exact Ext.refl _ | assumption | apply Ext.app | apply Ext.mk | (refine Ext.setr ?_ (by (first | omega | (simp only [gL] <;> omega))) _))); done) | (simp only [gL, gA, gs.one, gs.cells, zD.one, zD.cells, zA.one, zA.cells] <;> omega) | fail) only [gB, setAll, partL, fldV, reduceIte, Nat.reduceAdd, Nat.reduceMul, gs.one, gs.cells, zD.one, zD.cells, zA.one, zA.cells]
  obtain ⟨h4, hh4⟩ : ∃ h4, h4 = (List.set (h3 ++ [AObj.cells ⟨[AV.int .i64 0, .nils], 0, 0, false⟩] ++ [AObj.cells ⟨[.nils, .nils], 0, 0, false⟩]) h3.length (AObj.cells ⟨[I N, s], 0, 0, false⟩)).set (h3.length + 1) (AObj.cells ⟨[sD, sA], 0, 0, false⟩) := ⟨_, rfl⟩
  have e4 : Ext h3 h4 := by rw [hh4]; ((repeat (first | exact Ext.refl _ | assumption | apply Ext.app | apply Ext.mk | (refine Ext.setr ?_ (by (first | omega | (simp only [gL] <;> omega))) _))))
  have rn : h4[h3.length]? = some (.cells ⟨[I N, s], 0, 0, false⟩) := by rw [hh4]; simp -implicitDefEqProofs (maxSteps := 1000000) (disch := first | assumption | omega | (simp only [gL] <;> omega) | ((repeat (first | exact Ext.refl _ | assumption | apply Ext.app | apply Ext.mk | (refine Ext.setr ?_ (by (first | omega | (simp only [gL] <;> omega))) _))); done) | (simp only [gL, gA] <;> omega) | fail) only [gB, setAll, partL, fldV, reduceIte, Nat.reduceAdd, Nat.reduceMul]
  have rd : h4[h3.length + 1]? = some (.cells ⟨[sD, sA], 0, 0, false⟩) := by rw [hh4]; simp -implicitDefEqProofs (maxSteps := 1000000) (disch := first | assumption | omega | (simp only [gL] <;> omega) | ((repeat (first | exact Ext.refl _ | assumption | apply Ext.app | apply Ext.mk | (refine Ext.setr ?_ (by (first | omega | (simp only [gL] <;> omega))) _))); done) | (simp only [gL, gA] <;> omega) | fail) only [gB, setAll, partL, fldV, reduceIte, Nat.reduceAdd, Nat.reduceMul]
  have l4 : h4.length = h3.length + 2 := by rw [hh4]; simp
  have l3 := e3.len
  have l2 := e2.len
  rw [← hh4]
  refine WP.call (a8y (by omega) (by unfold Fit; omega) _) ?_
  rintro _ _ ⟨rfl, rfl⟩
  simp -implicitDefEqProofs (maxSteps := 1000000) (disch := first | assumption | omega | (simp only [gL] <;> omega) | ((repeat (first | exact Ext.refl _ | assumption | apply Ext.app | apply Ext.mk | (refine Ext.setr ?_ (by (first | omega | (simp only [gL] <;> omega))) _))); done) | (simp only [gL, gA, rn] <;> omega) | fail) only [gB, setAll, partL, fldV, reduceIte, Nat.reduceAdd, Nat.reduceMul, rn]
  refine WP.call (a8y (by omega) (by unfold Fit; omega) _) ?_
  rintro _ _ ⟨rfl, rfl⟩
  obtain ⟨v, hv⟩ : ∃ v : Nat, frm % (N : Int) = v := ⟨(frm % (N : Int)).toNat, by have := Int.emod_nonneg frm (show (N : Int) ≠ 0 by omega); omega⟩
  have hvN : v < N := by have := Int.emod_lt_of_pos frm (show (0 : Int) < N by omega); omega
  obtain ⟨u, hu⟩ : ∃ u : Nat, to % (N : Int) = u := ⟨(to % (N : Int)).toNat, by have := Int.emod_nonneg to (show (N : Int) ≠ 0 by omega); omega⟩
  have huN : u < N := by have := Int.emod_lt_of_pos to (show (0 : Int) < N by omega); omega
  rw [hv, hu]
  have hn2 : N * D.length ≤ 1000000 := by
    have : N * D.length ≤ 12 * 9 := Nat.mul_le_mul (by omega) lD
    omega
  have hes2 : es.length * D.length ≤ 10000000 := by
    have : es.length * D.length ≤ 100000 * 9 := Nat.mul_le_mul no.len lD
    omega
  have hE := (g2.ext e3).ext e4 |>.sl
  have hD := (yD.ext e4).sl
  have hA := (yA.ext e4).sl
  simp -implicitDefEqProofs (maxSteps := 1000000) (disch := first | assumption | omega | (simp only [gL] <;> omega) | ((repeat (first | exact Ext.refl _ | assumption | apply Ext.app | apply Ext.mk | (refine Ext.setr ?_ (by (first | omega | (simp only [gL] <;> omega))) _))); done) | (simp only [gL, gA, rn, rd] <;> omega) | fail) only [gB, setAll, partL, fldV, reduceIte, Nat.reduceAdd, Nat.reduceMul, rn, rd]
  refine WP.call (a9g no co hn2 hE ok hD hA hvN) ?_
  rintro rc h5 ⟨e5, c, lc, g5⟩
  have rn5 := e5.get rn
  have rd5 := e5.get rd
  have xc := g5.sl
  have lw := bv_lw ok no hvN huN lc
  have hcl := a5C N D.length c acc
  have hcg := a9D (S := D.length) (c := c) (acc := acc) huN
  obtain ⟨B, hB⟩ : ∃ B, bv c acc (u * D.length) D.length = B := ⟨_, rfl⟩
  rw [hB] at lw hcg
  have uni : ∀ {c'}, LC (N * D.length) (hopA es D.length (onL es D)) (fun x => x = v * D.length) c' → bv c' acc (u * D.length) D.length = B := fun lc' => (bv_lw ok no hvN huN lc').uniq lw
  simp -implicitDefEqProofs (maxSteps := 1000000) (disch := first | assumption | omega | (simp only [gL] <;> omega) | ((repeat (first | exact Ext.refl _ | assumption | apply Ext.app | apply Ext.mk | (refine Ext.setr ?_ (by (first | omega | (simp only [gL] <;> omega))) _))); done) | (simp only [gL, gA, rn5, rd5] <;> omega) | fail) only [gB, setAll, partL, fldV, reduceIte, Nat.reduceAdd, Nat.reduceMul, rn5, rd5]
  refine WP.call (a7E no co hn2 (hE.ext e5) ok (hD.ext e5) (hA.ext e5) hvN huN) ?_
  rintro rr h6 ⟨e6, c6, lc6, rq⟩
  have hb6 := uni lc6
  have e46 := e5.trans e6
  have rn6 := e6.get rn5
  have rd6 := e6.get rd5
  have bn6 := (List.getElem?_eq_some_iff.1 rn6).1
  have bd6 := (List.getElem?_eq_some_iff.1 rd6).1
  -- what a route is, in either case
  obtain ⟨cost, sl, is, l, hrr, his, hsl, hroute⟩ : ∃ (cost : Int) (sl : AV) (is : Bool) (l : List Nat), rr = .tup [.agg [I cost, sl], .bool is] ∧ (is = decide (0 ≤ B)) ∧ Sl h6 1 sl ((l.map fun (e : Nat) => (e : Int)).map encI) ∧
      (is = true → cost = B ∧ l.length ≤ 1000000 ∧ OkW es v l ∧ atV es v l = u ∧ atC es l = B ∧ gi acc (atS es D 0 l) = true) := by
    rcases rq with ⟨q1, q2⟩ | ⟨q1, q, l, sl, hq, q2, q3, q4, q5, q6, q7⟩
    · rw [hb6] at q1
      exact ⟨0, .nils, false, [], q2, (decide_eq_false (by omega)).symm, .inl ⟨rfl, rfl⟩, fun z => by cases z⟩
    · rw [hb6] at q1 q3 q4 q6
      obtain ⟨w1, w2, w3, w4, w5⟩ := b2l ok no hvN q4
      obtain ⟨d1, d2⟩ := a6Z (v := u) (S := D.length) (s := q) hq
      rw [d1] at w2
      rw [d2] at w3
      exact ⟨B, sl, true, l, q6, (decide_eq_true q1).symm, q7.sl, fun _ => ⟨rfl, q5, w1, w2, w4, by rw [w3]; exact q2⟩⟩
  subst hrr
  simp -implicitDefEqProofs (maxSteps := 1000000) (disch := first | assumption | omega | (simp only [gL] <;> omega) | ((repeat (first | exact Ext.refl _ | assumption | apply Ext.app | apply Ext.mk | (refine Ext.setr ?_ (by (first | omega | (simp only [gL] <;> omega))) _))); done) | (simp only [gL, gA, a4_, a5_, hsl.one, hsl.cells, rn6, rd6] <;> omega) | fail) only [gB, setAll, partL, fldV, reduceIte, Nat.reduceAdd, Nat.reduceMul, a4_, a5_, hsl.one, hsl.cells, rn6, rd6]
  obtain ⟨h7, hh7⟩ : ∃ h7, h7 = ((h6 ++ [AObj.cells ⟨[AV.int .i64 0, .nils], 0, 0, false⟩]).set h6.length (.cells ⟨[I cost, sl], 0, 0, false⟩)) := ⟨_, rfl⟩
  have e7 : Ext h6 h7 := by rw [hh7]; ((repeat (first | exact Ext.refl _ | assumption | apply Ext.app | apply Ext.mk | (refine Ext.setr ?_ (by (first | omega | (simp only [gL] <;> omega))) _))))
  have r7 : h7[h6.length]? = some (.cells ⟨[I cost, sl], 0, 0, false⟩) := by rw [hh7]; exact a3_ (by simp)
  rw [← hh7]
  have e47 := e46.trans e7
  refine WP.call (b3x no co hn2 hes2 (hE.ext e47) ok (hD.ext e47) (hA.ext e47) hvN huN) ?_
  rintro _ h8 ⟨e8, L, rfl, hL⟩
  obtain rfl : L = B := (hL c lc).trans hB
  have e48 := e47.trans e8
  have rn8 := (e7.trans e8).get rn6
  have rd8 := (e7.trans e8).get rd6
  have r8 := e8.get r7
  simp -implicitDefEqProofs (maxSteps := 1000000) (disch := first | assumption | omega | (simp only [gL] <;> omega) | ((repeat (first | exact Ext.refl _ | assumption | apply Ext.app | apply Ext.mk | (refine Ext.setr ?_ (by (first | omega | (simp only [gL] <;> omega))) _))); done) | (simp only [gL, gA, a4_, a5_, rn8, rd8] <;> omega) | fail) only [gB, setAll, partL, fldV, reduceIte, Nat.reduceAdd, Nat.reduceMul, a4_, a5_, rn8, rd8]
  refine WP.call (b0Y ok (hD.ext e48) (hA.ext e48)) ?_
  rintro _ h9 ⟨e9, D', acc', sN, sA', rfl, gN, gA, ok', lD', bis⟩
  have e49 := e48.trans e9
  have rn9 := e9.get rn8
  have rd9 := e9.get rd8
  have r9 := e9.get r8
  simp -implicitDefEqProofs (maxSteps := 1000000) (disch := first | assumption | omega | (simp only [gL] <;> omega) | ((repeat (first | exact Ext.refl _ | assumption | apply Ext.app | apply Ext.mk | (refine Ext.setr ?_ (by (first | omega | (simp only [gL] <;> omega))) _))); done) | (simp only [gL, gA, rn9] <;> omega) | fail) only [gB, setAll, partL, fldV, reduceIte, Nat.reduceAdd, Nat.reduceMul, rn9]
  have hn2' : N * D'.length ≤ 1000000 := by
    have : N * D'.length ≤ N * D.length := Nat.mul_le_mul (Nat.le_refl _) lD'
    omega
  refine WP.call (b2G no co hn2' (hE.ext e49) ok' gN.sl gA.sl hvN huN) ?_
  rintro _ h10 ⟨e10, B', lw', rfl⟩
  obtain rfl : B' = L := by
    refine LW.uniq lw' (lw.congr fun l hl => ?_)
    rw [bis _ (hl.md no)]
  have e410 := e49.trans e10
  have rn10 := e10.get rn9
  have rd10 := e10.get rd9
  have r10 := e10.get r9
  simp -implicitDefEqProofs (maxSteps := 1000000) (disch := first | assumption | omega | (simp only [gL] <;> omega) | ((repeat (first | exact Ext.refl _ | assumption | apply Ext.app | apply Ext.mk | (refine Ext.setr ?_ (by (first | omega | (simp only [gL] <;> omega))) _))); done) | (simp only [gL, gA, a4_, a5_, rn10, rd10] <;> omega) | fail) only [gB, setAll, partL, fldV, reduceIte, Nat.reduceAdd, Nat.reduceMul, a4_, a5_, rn10, rd10]
  refine WP.call (b0e no co hn2 (hE.ext e410) ok (hD.ext e410) (hA.ext e410) hvN) ?_
  rintro rp h11 ⟨e11, cp, lcp, g11⟩
  have heq : costL N D.length cp acc = costL N D.length c acc := b1J (lcp.uniq lc)
  rw [heq] at g11
  have e611 := ((((e7.trans e8).trans e9).trans e10).trans e11)
  have xc11 := xc.ext (e6.trans e611)
  refine WP.call (b3C g11.sl xc11 (by omega)) ?_
  rintro _ _ ⟨rfl, rfl⟩
  have rn11 := e11.get rn10
  have rd11 := e11.get rd10
  have r11 := e11.get r10
  have e411 := e410.trans e11
  cases is with
  | false =>
    have hneg : ¬ 0 ≤ B' := fun z => by rw [decide_eq_true z] at his; cases his
    simp -implicitDefEqProofs (maxSteps := 1000000) (disch := first | assumption | omega | (simp only [gL] <;> omega) | ((repeat (first | exact Ext.refl _ | assumption | apply Ext.app | apply Ext.mk | (refine Ext.setr ?_ (by (first | omega | (simp only [gL] <;> omega))) _))); done) | (simp only [gL, gA, xc11.idxG, xc11.ld0, encI, hcg, decide_eq_false hneg] <;> omega) | fail) only [gB, setAll, partL, fldV, reduceIte, Nat.reduceAdd, Nat.reduceMul, xc11.idxG, xc11.ld0, encI, hcg, decide_eq_false hneg]
    exact WP.ret rfl
  | true =>
    have hpos : 0 ≤ B' := Classical.byContradiction fun z => by rw [decide_eq_false z] at his; cases his
    have hmx : max B' 0 = B' := by omega
    obtain ⟨rfl, k1, k2, k3, k4, k5⟩ := hroute rfl
    simp -implicitDefEqProofs (maxSteps := 1000000) (disch := first | assumption | omega | (simp only [gL] <;> omega) | ((repeat (first | exact Ext.refl _ | assumption | apply Ext.app | apply Ext.mk | (refine Ext.setr ?_ (by (first | omega | (simp only [gL] <;> omega))) _))); done) | (simp only [gL, gA, xc11.idxG, xc11.ld0, encI, hcg, decide_eq_true hpos, hmx, rn11, rd11, r11] <;> omega) | fail) only [gB, setAll, partL, fldV, reduceIte, Nat.reduceAdd, Nat.reduceMul, xc11.idxG, xc11.ld0, encI, hcg, decide_eq_true hpos, hmx, rn11, rd11, r11]
    refine WP.call (b2D no co ok (hE.ext e411) (hD.ext e411) (hA.ext e411) (hsl.ext e611) k1 hvN huN k2 k3 k4 k5) ?_
    rintro _ h12 ⟨rfl, e12⟩
    exact WP.ret rfl
end
end Go.Gm.A9

namespace Go.Gm
open Go.RowKit
def roObj (cs : List AV) : AObj := .cells ⟨cs, 0, 0, true⟩
def initH (L : List (List AV × Option Loc)) : Heap := L.map fun p => roObj p.1
def initR (L : List (List AV × Option Loc)) : Ren := ⟨fun o g => if g = 0 then (L[o]?).bind (·.2) else none, fun _ => none⟩

def EntOk (W : World) (φ : Ren) (p : List AV × Option Loc) : Prop := ∀ l, p.2 = some l → ∃ C e fr, W.heap[l.b]? = some (.cells C e fr) ∧ C.size = l.N ∧ l.n = p.1.length ∧ CellsAt φ p.1 l C

theorem initS {W : World} {L : List (List AV × Option Loc)} (hL : ∀ p ∈ L, EntOk W (initR L) p) :
    S W.heap.size W (initR L) (initH L) W := by
  have got : ∀ o g l, (initR L).c o g = some l → g = 0 ∧ ∃ cs, L[o]? = some (cs, some l) := fun o g l h => by
    simp only [initR] at h
    split at h
    · rename_i hg
      cases hq : L[o]? with
      | none => rw [hq] at h; cases h
      | some p => rw [hq] at h; exact ⟨hg, p.1, by rw [← (show p.2 = some l from h)]⟩
    · cases h
  have ro : ∀ o g l, (initR L).c o g = some l → isRo (initH L) o = true := fun o g l h => by
    obtain ⟨_, cs, hq⟩ := got o g l h
    simp [isRo, initH, hq, roObj]
  refine ⟨⟨fun o g l h => ?_, fun o b h => (by cases h), fun o g l o' g' l' h h' _ => .inr ⟨ro o g l h, ro o' g' l' h'⟩, fun o b o' b' h => (by cases h)⟩, Below.refl _ _, Nat.le_refl _⟩
  obtain ⟨hg, cs, hq⟩ := got o g l h
  subst hg
  obtain ⟨C, e, fr, h1, h2, h3, h4⟩ := hL _ (List.mem_of_getElem? hq) l rfl
  exact ⟨⟨cs, 0, 0, true⟩, by simp [initH, hq, roObj], Nat.le_refl _, Nat.le_refl _, ⟨C, e, fr, h1, h2, fun q => (by cases q), fun _ => h4⟩, fun _ => h3⟩

theorem entry {P : Program} {T : Tab} (hv : Valid P T) {W : World} {L : List (List AV × Option Loc)} (hL : ∀ p ∈ L, EntOk W (initR L) p)
    {f : FuncId} {args : List AV} {args' : List Value} (ha : VRs (initR L) args args') {Q : AV → Heap → Prop} (ht : Tot T f args (initH L) Q) (hq : ∀ v h, Q v h → v = .bool true) :
    Calls P f args'.toArray W fun e w' => e = .returned (.bool true) ∧ Below W.heap.size W w' := by
  obtain ⟨v, h', h1, N, hN⟩ := ht
  have hv1 := hq v h' h1
  subst hv1
  obtain ⟨_, h2⟩ := fnSim (B := W.heap.size) (w0 := W) hv N f args (initH L) _ _ (hN N (Nat.le_refl N))
  refine (h2 _ W args' ha (initS hL)).mono ?_
  rintro e w' ⟨ψ, v', rfl, k1, k2, k3⟩
  cases k1
  exact ⟨rfl, k2.below⟩

theorem intsArg {W : World} {a : Addr} {len cap : Nat} {zs : List Int} (hl : len ≤ cap) (hm : cap ≤ maxLen) (hz : zs.length = cap) (hc : ∀ i, i < zs.length → W.cell? (a.add i) = some (.int .i64 (zs.getD i 0))) (o : Nat) :
    ∃ (p : List AV × Option Loc) (x : AV), (∀ φ, EntOk W φ p) ∧ ∀ L : List (List AV × Option Loc), L[o]? = some p → VR (initR L) x (.slice (some a) len cap) ∧ Sl (initH L) 1 x ((zs.take len).map fun n => [I n]) := by
  by_cases h0 : 0 < zs.length
  · obtain ⟨b, off, rfl, hcell⟩ := Go.ints_at hc h0
    have h1 := hcell 0 h0
    obtain ⟨C, e, fr, hb, hC⟩ : ∃ C e fr, W.heap[b]? = some (.cells C e fr) ∧ ∀ j, j < zs.length → C[off + j]? = some (.int .i64 (zs.getD j 0)) := by
      simp only [World.cell?] at h1
      cases hh : W.heap[b]? with
      | none => rw [hh] at h1; cases h1
      | some ob =>
        cases ob with
        | cells C e fr =>
          refine ⟨C, e, fr, rfl, fun j hj => ?_⟩
          have := hcell j hj
          simpa [World.cell?, hh] using this
        | _ => rw [hh] at h1; cases h1
    have hN : off + cap ≤ C.size := by
      have := (Array.getElem?_eq_some_iff.1 (hC (zs.length - 1) (by omega))).1
      omega
    refine ⟨(zs.map I, some ⟨b, off, C.size, cap⟩), .sl o 0 len 1 (some cap) 0, fun φ l hl' => ?_, fun L hL => ⟨?_, ?_⟩⟩
    · injection hl' with hl'
      subst hl'
      refine ⟨C, e, fr, hb, rfl, by simp [hz], by simp [hz], hN, fun i hi => ?_⟩
      refine ⟨I (zs.getD i 0), _, ?_, hC i (by simpa [hz] using hi), .int _ _, rfl⟩
      simp only at hi
      simp [List.getD_eq_getElem?_getD, hz, hi]
    · refine VR.sl (l := ⟨b, off, C.size, cap⟩) ?_ (by simp; exact hl) hl hm (by simp; exact hN) (fun c q => by injection q)
      simp [initR, hL]
    · refine .inr ⟨o, 0, some cap, 0, ⟨zs.map I, 0, 0, true⟩, ?_, ?_, Nat.le_refl _, ?_, ?_⟩
      · simp [hz, Nat.min_eq_left hl]
      · simp [initH, hL, roObj]
      · simp only [List.drop_zero, List.length_map, Nat.mul_one]
        rw [List.length_take, hz, Nat.min_eq_left hl, ← List.map_take]
        generalize zs.take len = ys
        induction ys with
        | nil => rfl
        | cons y ys ih => simp [ih]
      · intro x hx
        simp only [List.mem_map] at hx
        obtain ⟨n, _, rfl⟩ := hx
        rfl
  · have hz0 : zs = [] := List.eq_nil_of_length_eq_zero (by omega)
    subst hz0
    simp only [List.length_nil] at hz
    subst hz
    obtain rfl : len = 0 := by omega
    refine ⟨([], none), .sl o 0 0 1 (some 0) 0, fun φ l q => (by cases q), fun L hL => ⟨.sl0 (fun q => by cases q) (fun c q => by injection q with q; exact q.symm), ?_⟩⟩
    exact .inr ⟨o, 0, some 0, 0, ⟨[], 0, 0, true⟩, rfl, by simp [initH, hL, roObj], Nat.le_refl _, rfl, fun x hx => by simp at hx⟩
theorem rowArg {W : World} {a : Option Addr} {len cap : Nat} {zs : List Int}
    (w : (a = none ∧ len = 0 ∧ cap = 0 ∧ zs = []) ∨ ∃ x, a = some x ∧ len ≤ cap ∧ cap ≤ maxLen ∧ zs.length = cap ∧ (∀ i, i < zs.length → W.cell? (x.add i) = some (.int .i64 (zs.getD i 0))) ∧ ∀ n ∈ zs, (Lit.int .i64 n).wf = true) (o : Nat) :
    ∃ (p : List AV × Option Loc) (x : AV), (∀ φ, EntOk W φ p) ∧ ∀ L : List (List AV × Option Loc), L[o]? = some p → VR (initR L) x (.slice a len cap) ∧ Sl (initH L) 1 x ((zs.take len).map fun n => [I n]) := by
  rcases w with ⟨rfl, rfl, rfl, rfl⟩ | ⟨x, rfl, h1, h2, h3, h4, _⟩
  · exact ⟨([], none), .nils, fun φ l q => (by cases q), fun L hL => ⟨.nils, .inl ⟨rfl, rfl⟩⟩⟩
  · exact intsArg h1 h2 h3 h4 o
end Go.Gm

namespace Go.Gm
theorem AV.beq_iff {a b : AV} : AV.beq a b = true ↔ a = b := ⟨AV.beq_eq, fun h => h ▸ AV.beq_refl a⟩
instance : DecidableEq AV := fun a b => if h : AV.beq a b = true then isTrue (AV.beq_iff.1 h) else isFalse fun q => h (AV.beq_iff.2 q)
structure ExM (k : Nat) (h h' : Heap) : Prop where
  len : h.length ≤ h'.length
  get : ∀ o, o ≠ k → o < h.length → h'[o]? = h[o]?
  isM : ∃ ks es es', h[k]? = some (.map ks es) ∧ h'[k]? = some (.map ks es')
section
variable {k : Nat} {h h' h'' : Heap}
theorem ExM.lt (a : ExM k h h') : k < h.length := by
  obtain ⟨_, _, _, e, _⟩ := a.isM
  exact (List.getElem?_eq_some_iff.1 e).1
theorem ExM.refl {ks : KS} {es : List (AV × AV)} (e : h[k]? = some (.map ks es)) : ExM k h h := ⟨Nat.le_refl _, fun _ _ _ => rfl, ks, es, es, e, e⟩
theorem ExM.trans (a : ExM k h h') (b : ExM k h' h'') : ExM k h h'' := by
  refine ⟨Nat.le_trans a.len b.len, fun o h1 h2 => (b.get o h1 (Nat.lt_of_lt_of_le h2 a.len)).trans (a.get o h1 h2), ?_⟩
  obtain ⟨ks, es, es', e1, e2⟩ := a.isM
  obtain ⟨ks2, es2, es3, e3, e4⟩ := b.isM
  rw [e2] at e3
  injection e3 with e3
  injection e3 with e3 e5
  subst e3 e5
  exact ⟨ks, es, es3, e1, e4⟩
theorem ExM.ofExt {ks : KS} {es : List (AV × AV)} (e : h[k]? = some (.map ks es)) (x : Ext h h') : ExM k h h' :=
  ⟨x.len, fun o _ h2 => (a6p.1 x).2 o h2, ks, es, es, e, x.get e⟩
theorem ExM.ext (a : ExM k h h') (x : Ext h' h'') : ExM k h h'' := by
  obtain ⟨ks, es, es', e1, e2⟩ := a.isM
  exact a.trans (ExM.ofExt e2 x)
theorem ExM.fr (a : ExM k h h') {lo hi : Nat} (f : Fr lo hi h' h'') (hl : h.length ≤ lo) : ExM k h h'' := by
  have hk := a.lt
  have hlen := a.len
  refine ⟨Nat.le_trans a.len f.len, fun o h1 h2 => (f.get (by omega) (by omega)).trans (a.get o h1 h2), ?_⟩
  obtain ⟨ks, es, es', e1, e2⟩ := a.isM
  exact ⟨ks, es, es', e1, (f.get (by omega) (by omega)).trans e2⟩
theorem ExM.put {ks : KS} {es : List (AV × AV)} (e : h[k]? = some (.map ks es)) (es' : List (AV × AV)) : ExM k h (h.set k (.map ks es')) := by
  refine ⟨by simp, fun o h1 h2 => List.getElem?_set_ne (Ne.symm h1), ks, es, es', e, ?_⟩
  rw [List.getElem?_set_self (List.getElem?_eq_some_iff.1 e).1]
theorem ExM.cells (a : ExM k h h') {o : Nat} {c : CObj} (e : h[o]? = some (.cells c)) : h'[o]? = some (.cells c) := by
  have : o ≠ k := by
    rintro rfl
    obtain ⟨_, _, _, e1, _⟩ := a.isM
    rw [e] at e1; cases e1
  exact (a.get o this (List.getElem?_eq_some_iff.1 e).1).trans e
end
theorem Sl.fr {lo hi : Nat} {h h' : Heap} {sz : Nat} {s : AV} {xs : List (List AV)} (a : Sl h sz s xs) (f : Fr lo hi h h') (hd : s ≠ .nils → s.obj < lo ∨ hi ≤ s.obj) : Sl h' sz s xs := by
  rcases a with a | ⟨o, off, lim, g, c, rfl, h2, h3⟩
  · exact .inl a
  · exact .inr ⟨o, off, lim, g, c, rfl, (f.get (hd (by simp)) (List.getElem?_eq_some_iff.1 h2).1).trans h2, h3⟩
theorem Sl.nnil {h : Heap} {sz : Nat} {s : AV} {xs : List (List AV)} (a : Sl h sz s xs) (hx : xs ≠ []) : s ≠ .nils := by
  rcases a with a | ⟨o, off, lim, g, c, rfl, h2, h3⟩
  · exact absurd a.2 hx
  · simp
end Go.Gm

namespace Go.Gm
inductive Rw where
  | mk (k n : Int) (l : List Rw)
  deriving Inhabited
def Rw.kids : Rw → List Rw
  | .mk _ _ l => l
theorem Rw.kid_lt {c r : Rw} (h : c ∈ r.kids) : SizeOf.sizeOf c < SizeOf.sizeOf r := by
  cases r with
  | mk k n l => have := List.sizeOf_lt_of_mem (show c ∈ l from h); simp only [Rw.mk.sizeOf_spec]; omega
theorem Rw.ind {p : Rw → Prop} (h : ∀ r, (∀ c ∈ r.kids, p c) → p r) (r : Rw) : p r := by
  have : ∀ (N : Nat) (r : Rw), SizeOf.sizeOf r ≤ N → p r := by
    intro N
    induction N with
    | zero => intro r hr; exact h r fun c hc => by have := Rw.kid_lt hc; omega
    | succ N ih => intro r hr; exact h r fun c hc => ih c (by have := Rw.kid_lt hc; omega)
  exact this _ r (Nat.le_refl _)
mutual
inductive RV (h : Heap) : Rw → List AV → Prop
  | mk {k n : Int} {l : List Rw} {s : AV} {css : List (List AV)} : Sl h 3 s css → RVs h l css → RV h (.mk k n l) [I k, I n, s]
inductive RVs (h : Heap) : List Rw → List (List AV) → Prop
  | nil : RVs h [] []
  | cons {r : Rw} {cs : List AV} {l : List Rw} {css : List (List AV)} : RV h r cs → RVs h l css → RVs h (r :: l) (cs :: css)
end
mutual
theorem RV.ext {h h' : Heap} (e : Ext h h') : ∀ {r : Rw} {cs : List AV}, RV h r cs → RV h' r cs
  | _, _, .mk a b => .mk (a.ext e) (RVs.ext e b)
theorem RVs.ext {h h' : Heap} (e : Ext h h') : ∀ {l : List Rw} {css : List (List AV)}, RVs h l css → RVs h' l css
  | _, _, .nil => .nil
  | _, _, .cons a b => .cons (RV.ext e a) (RVs.ext e b)
end
theorem RVs.len {h : Heap} : ∀ {l : List Rw} {css : List (List AV)}, RVs h l css → l.length = css.length
  | _, _, .nil => rfl
  | _, _, .cons _ b => by simp [RVs.len b]
theorem RVs.get {h : Heap} : ∀ {l : List Rw} {css : List (List AV)}, RVs h l css → ∀ {i : Nat} {r : Rw}, l[i]? = some r → ∃ cs, css[i]? = some cs ∧ RV h r cs
  | _, _, .nil, i, r, q => by simp at q
  | _, _, .cons a b, 0, r, q => by
    simp only [List.getElem?_cons_zero, Option.some.injEq] at q
    subst q; exact ⟨_, rfl, a⟩
  | _, _, .cons a b, i + 1, r, q => by
    obtain ⟨cs, h1, h2⟩ := RVs.get b (i := i) (by simpa using q)
    exact ⟨cs, by simpa using h1, h2⟩
theorem RV.len {h : Heap} {r : Rw} {cs : List AV} (a : RV h r cs) : cs.length = 3 := by cases a; rfl
theorem RV.one {h : Heap} {r : Rw} {cs : List AV} (a : RV h r cs) : cs.all AV.one = true := by
  cases a with
  | mk a b => simp only [List.all_cons, List.all_nil, a6o, a.one, Bool.and_self]

end Go.Gm

namespace Go.Gm
structure RawTy (P : Program) (T E I3 : TypeId) : Prop where
  t : P.underlying T = some (.slice E)
  e : ∃ f0 f1 f2 : Field, P.underlying E = some (.struct #[f0, f1, f2]) ∧ f0.type = I3 ∧ f0.offset = 0 ∧ f1.type = I3 ∧ f1.offset = 1 ∧ f2.type = T ∧ f2.offset = 2
  i : P.underlying I3 = some (.int .i64)
  ce : P.cellsOf E = 3
  ci : P.cellsOf I3 = 1
  ct : P.cellsOf T = 1
def Emb (F : List (List AV × Option Loc)) (o : Nat) (L : List (List AV × Option Loc)) : Prop := ∀ (i : Nat) p, F[i]? = some p → L[o + i]? = some p
theorem Emb.left {F G L : List (List AV × Option Loc)} {o : Nat} (e : Emb (F ++ G) o L) : Emb F o L := fun i q h => e i q (by rw [List.getElem?_append_left (List.getElem?_eq_some_iff.1 h).1]; exact h)
theorem Emb.right {F G L : List (List AV × Option Loc)} {o : Nat} (e : Emb (F ++ G) o L) : Emb G (o + F.length) L := fun i q h => by
  have := e (F.length + i) q (by rw [List.getElem?_append_right (by omega), Nat.add_sub_cancel_left]; exact h)
  rwa [show o + (F.length + i) = o + F.length + i by omega] at this

section
variable {H : Type} {enc : TypeId × Value → H} {P : Program} {T E I3 : TypeId} {W : World}
theorem RVs.snoc {h : Heap} {r : Rw} {cs : List AV} (a : RV h r cs) : ∀ {l : List Rw} {css : List (List AV)}, RVs h l css → RVs h (l ++ [r]) (css ++ [cs])
  | _, _, .nil => .cons a .nil
  | _, _, .cons x y => .cons x (RVs.snoc a y)
end
end Go.Gm

