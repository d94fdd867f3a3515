/- A part of the proof (GmA5L7): an abstract machine, what it does, and what the functions of the program come to on it. -/
import Derived.Test.YtdpmglimjmecgaaGmA5L3
set_option linter.unusedVariables false
set_option linter.unusedSimpArgs false
namespace Go.Gm.A5
open Go Go.Gm

/-- All of one, anew; it is not nil. -/
theorem clone_n {h : Heap} {sz bytes : Nat} {x : AV} {ys : List (List AV)} (b : Sl h sz x ys) (hsz : 0 < sz) (hb : 0 < bytes) (hl : ys.length * bytes ≤ 140737488355328) :
    ∃ s' h', apnd sz bytes (.sl h.length 0 0 sz none 0) x (mkObj h []) = some (s', h') ∧ Gr h.length h'.length h' sz s' ys ∧ Ext h h' ∧ s' ≠ .nils := by
  obtain ⟨s', h', h1, h2, h3, h4⟩ := (Gr.empty h sz).appendS (b.ext (Ext.push h _)) hsz hb (by simpa using hl) (by simp [mkObj]) (by simp [mkObj])
  exact ⟨s', h', h1, h2, h3.ext (Ext.push h _) (Nat.le_refl _), (h4 (by simp)).2⟩
section
variable {h : Heap} {p q w0 x0 ns : AV} {n : Nd} {c5 : List AV} {nz w x : List Int}
theorem none_b1 (na : NA h p n c5) (ne : NA h q .emp [I 2, I 0, I 0, I 0, .nils]) (fi : Fine n) (hc : cntN n ≤ 700000) (hw : Sl h 1 w0 (w.map encI)) (hwl : w.length ≤ 1000) (hwm : ∀ c ∈ w, 0 ≤ c ∧ c < 5) (hx : Sl h 1 x0 (x.map encI)) (hxl : x.length ≤ 1000) (hxm : ∃ c ∈ x, ¬ (0 ≤ c ∧ c < 5)) :
    WP (fun i : Nat => milestonelaw5_MatchNone_b1 tab i p q w0 x0 h) fun r _ => r = .bool true := by
  refine WP.congr (fun i => milestonelaw5_MatchNone_b1_eq tab i p q w0 x0 h) ?_
  have hxn : ∀ m : Nd, ¬ In m x := fun m hm => by
    obtain ⟨c, h1, h2⟩ := hxm
    exact h2 (In_modes hm c h1)
  obtain ⟨h2, hh2⟩ : ∃ h2, h2 = (h ++ [AObj.cells ⟨[I 1, I 31, I 0, I 0, .nils], 0, 0, false⟩]) ++ [AObj.cells ⟨[I 6, I 0, I 0, I 0, .sl h.length 0 1 5 none 0], 0, 0, false⟩] := ⟨_, rfl⟩
  have e2 : Ext h h2 := by rw [hh2]; exact (Ext.push _ _).trans (Ext.push _ _)
  have nS : NV h2 (.star (.set 31)) [I 6, I 0, I 0, I 0, .sl h.length 0 1 5 none 0] := nv_one rfl (by rw [hh2]; simp) (nv_set 31)
  have fS : Fine (.star (.set 31)) := fine_mk (by simp [Nd.st]) (Nat.le_refl _) (Nat.zero_le _) (by simp [Nd.kids]) (by simp [Nd.kids]; exact fine_set (by omega))
  have nAll : NA h2 (.ptr (h.length + 1) 0 5 0) (.star (.set 31)) [I 6, I 0, I 0, I 0, .sl h.length 0 1 5 none 0] := ⟨At.row (wg := 0) (g := 0) (ro := false) (by rw [hh2]; simp) (Nat.le_refl _) rfl, nS⟩
  have rA : h2[h.length + 1]? = some (.cells ⟨[I 6, I 0, I 0, I 0, .sl h.length 0 1 5 none 0], 0, 0, false⟩) := by rw [hh2]; simp
  have ne2 := ne.ext e2
  have na2 := na.ext e2
  have e0 := Ext.refl h2
  simp -implicitDefEqProofs (disch := first | assumption | omega | (simp -implicitDefEqProofs only [gL] <;> omega) | ((repeat (first | exact Ext.refl _ | assumption | apply Ext.app | apply Ext.mk | (refine Ext.setr ?_ (by (first | omega | (simp -implicitDefEqProofs only [gL] <;> omega))) _))); done) | (simp -implicitDefEqProofs only [gL, gA, set_lastO] <;> omega) | fail) only [gB, setAll, partL, fldV, reduceIte, Nat.reduceAdd, Nat.reduceMul, set_lastO]
  rw [← hh2]
  simp -implicitDefEqProofs (disch := first | assumption | omega | (simp -implicitDefEqProofs only [gL] <;> omega) | ((repeat (first | exact Ext.refl _ | assumption | apply Ext.app | apply Ext.mk | (refine Ext.setr ?_ (by (first | omega | (simp -implicitDefEqProofs only [gL] <;> omega))) _))); done) | (simp -implicitDefEqProofs only [gL, gA, ne2.ld] <;> omega) | fail) only [gB, setAll, partL, fldV, reduceIte, Nat.reduceAdd, Nat.reduceMul, ne2.ld]
  refine WP.call (match_spec ne2.nv ok_emp (by simp [cntN]) (hw.ext e2) (by omega)) ?_
  rintro _ h3 ⟨e3, b1, rfl, hb1⟩
  obtain rfl := bool_f hb1 In_emp
  have ne3 := ne2.ext e3
  have na3 := na2.ext e3
  have e0 := Ext.refl h3
  obtain ⟨s5, _, rfl, sl5, _⟩ := na.nv.inv
  have ho5 : s5.one = true := sl5.one
  simp -implicitDefEqProofs (disch := first | assumption | omega | (simp -implicitDefEqProofs only [gL] <;> omega) | ((repeat (first | exact Ext.refl _ | assumption | apply Ext.app | apply Ext.mk | (refine Ext.setr ?_ (by (first | omega | (simp -implicitDefEqProofs only [gL] <;> omega))) _))); done) | (simp -implicitDefEqProofs only [gL, gA, ne3.ld, na3.ld, ho5] <;> omega) | fail) only [gB, setAll, partL, fldV, reduceIte, Nat.reduceAdd, Nat.reduceMul, ne3.ld, na3.ld, ho5]
  have e4 : Ext h3 (h3 ++ [AObj.cells ⟨[I n.kind, I n.st, I n.lo, I n.hi, s5] ++ [I 2, I 0, I 0, I 0, .nils], 0, 0, false⟩]) := Ext.push _ _
  have nJ : NV (h3 ++ [AObj.cells ⟨[I n.kind, I n.st, I n.lo, I n.hi, s5] ++ [I 2, I 0, I 0, I 0, .nils], 0, 0, false⟩]) (.join [n, .emp]) [I 4, I 0, I 0, I 0, .sl h3.length 0 2 5 none 0] := nv_two (n := .join [n, .emp]) rfl (by simp) (na3.ext e4).nv (ne3.ext e4).nv
  have fJ : Fine (.join [n, .emp]) := fine_mk (by simp [Nd.st]) (Nat.le_refl _) (Nat.zero_le _) (by simp [Nd.kids]) (by simp [Nd.kids]; exact ⟨fi, ok_emp, (fine_leaf (n := .emp) rfl (by simp [Nd.st]) (Nat.le_refl _) (Nat.zero_le _)).2⟩)
  refine WP.call (match_spec nJ fJ.1 (by simp [cntN, cntL]; omega) ((hw.ext e2).ext (e3.trans e4)) (by omega)) ?_
  rintro _ h5 ⟨e5, b2, rfl, hb2⟩
  obtain rfl := bool_f hb2 (fun z => by obtain ⟨_, _, _, z⟩ := In_join.1 z; exact In_emp z)
  have ne5 := (ne3.ext e4).ext e5
  have na5 := (na3.ext e4).ext e5
  have e0 := Ext.refl h5
  simp -implicitDefEqProofs (disch := first | assumption | omega | (simp -implicitDefEqProofs only [gL] <;> omega) | ((repeat (first | exact Ext.refl _ | assumption | apply Ext.app | apply Ext.mk | (refine Ext.setr ?_ (by (first | omega | (simp -implicitDefEqProofs only [gL] <;> omega))) _))); done) | (simp -implicitDefEqProofs only [gL, gA, ne5.ld, na5.ld, ho5] <;> omega) | fail) only [gB, setAll, partL, fldV, reduceIte, Nat.reduceAdd, Nat.reduceMul, ne5.ld, na5.ld, ho5]
  have e6 : Ext h5 (h5 ++ [AObj.cells ⟨[I 2, I 0, I 0, I 0, .nils] ++ [I n.kind, I n.st, I n.lo, I n.hi, s5], 0, 0, false⟩]) := Ext.push _ _
  have nU : NV (h5 ++ [AObj.cells ⟨[I 2, I 0, I 0, I 0, .nils] ++ [I n.kind, I n.st, I n.lo, I n.hi, s5], 0, 0, false⟩]) (.uni [.emp, n]) [I 5, I 0, I 0, I 0, .sl h5.length 0 2 5 none 0] := nv_two (n := .uni [.emp, n]) rfl (by simp) (ne5.ext e6).nv (na5.ext e6).nv
  have fU : Fine (.uni [.emp, n]) := fine_mk (by simp [Nd.st]) (Nat.le_refl _) (Nat.zero_le _) (by simp [Nd.kids]) (by simp [Nd.kids]; exact ⟨⟨ok_emp, (fine_leaf (n := .emp) rfl (by simp [Nd.st]) (Nat.le_refl _) (Nat.zero_le _)).2⟩, fi⟩)
  have na6 := na5.ext e6
  have e0 := Ext.refl (h5 ++ [AObj.cells ⟨[I 2, I 0, I 0, I 0, .nils] ++ [I n.kind, I n.st, I n.lo, I n.hi, s5], 0, 0, false⟩])
  have ew := e2.trans (e3.trans (e4.trans (e5.trans e6)))
  refine WP.call (match_spec nU fU.1 (by simp [cntN, cntL]; omega) (hw.ext ew) (by omega)) ?_
  rintro _ h7 ⟨e7, b3, rfl, hb3⟩
  have na7 := na6.ext e7
  have e0 := Ext.refl h7
  simp -implicitDefEqProofs (disch := first | assumption | omega | (simp -implicitDefEqProofs only [gL] <;> omega) | ((repeat (first | exact Ext.refl _ | assumption | apply Ext.app | apply Ext.mk | (refine Ext.setr ?_ (by (first | omega | (simp -implicitDefEqProofs only [gL] <;> omega))) _))); done) | (simp -implicitDefEqProofs only [gL, gA, na7.ld] <;> omega) | fail) only [gB, setAll, partL, fldV, reduceIte, Nat.reduceAdd, Nat.reduceMul, na7.ld]
  refine WP.call (match_spec na7.nv fi.1 (by omega) ((hw.ext ew).ext e7) (by omega)) ?_
  rintro _ h8 ⟨e8, b4, rfl, hb4⟩
  have hu : In (.uni [.emp, n]) w ↔ In n w := In_uni.trans ⟨fun z => z.resolve_left In_emp, .inr⟩
  obtain rfl := bool_eq (hb3.trans hu) hb4
  have ex := e3.trans (e4.trans (e5.trans (e6.trans (e7.trans e8))))
  have nA8 := nAll.ext ex
  have rA8 := ex.get rA
  have e0 := Ext.refl h8
  simp -implicitDefEqProofs (disch := first | assumption | omega | (simp -implicitDefEqProofs only [gL] <;> omega) | ((repeat (first | exact Ext.refl _ | assumption | apply Ext.app | apply Ext.mk | (refine Ext.setr ?_ (by (first | omega | (simp -implicitDefEqProofs only [gL] <;> omega))) _))); done) | (simp -implicitDefEqProofs only [gL, gA, rA8] <;> omega) | fail) only [gB, setAll, partL, fldV, reduceIte, Nat.reduceAdd, Nat.reduceMul, rA8]
  refine WP.call (match_spec nA8.nv fS.1 (by simp [cntN]) ((hw.ext ew).ext (e7.trans e8)) (by omega)) ?_
  rintro _ h9 ⟨e9, b5, rfl, hb5⟩
  obtain rfl := bool_t hb5 (In_all hwm)
  have nA9 := nA8.ext e9
  have rA9 := e9.get rA8
  have e0 := Ext.refl h9
  simp -implicitDefEqProofs (disch := first | assumption | omega | (simp -implicitDefEqProofs only [gL] <;> omega) | ((repeat (first | exact Ext.refl _ | assumption | apply Ext.app | apply Ext.mk | (refine Ext.setr ?_ (by (first | omega | (simp -implicitDefEqProofs only [gL] <;> omega))) _))); done) | (simp -implicitDefEqProofs only [gL, gA, rA9] <;> omega) | fail) only [gB, setAll, partL, fldV, reduceIte, Nat.reduceAdd, Nat.reduceMul, rA9]
  refine WP.call (match_spec nA9.nv fS.1 (by simp [cntN]) ((hx.ext e2).ext (ex.trans e9)) (by omega)) ?_
  rintro _ hA ⟨eA, b6, rfl, hb6⟩
  obtain rfl := bool_f hb6 (hxn _)
  have naA := na2.ext (ex.trans (e9.trans eA))
  have e0 := Ext.refl hA
  simp -implicitDefEqProofs (disch := first | assumption | omega | (simp -implicitDefEqProofs only [gL] <;> omega) | ((repeat (first | exact Ext.refl _ | assumption | apply Ext.app | apply Ext.mk | (refine Ext.setr ?_ (by (first | omega | (simp -implicitDefEqProofs only [gL] <;> omega))) _))); done) | (simp -implicitDefEqProofs only [gL, gA, naA.ld] <;> omega) | fail) only [gB, setAll, partL, fldV, reduceIte, Nat.reduceAdd, Nat.reduceMul, naA.ld]
  refine WP.call (match_spec naA.nv fi.1 (by omega) ((hx.ext e2).ext (ex.trans (e9.trans eA))) (by omega)) ?_
  rintro _ hB ⟨eB, b7, rfl, hb7⟩
  obtain rfl := bool_f hb7 (hxn _)
  have neB := ne2.ext (ex.trans (e9.trans (eA.trans eB)))
  have e0 := Ext.refl hB
  simp -implicitDefEqProofs (disch := first | assumption | omega | (simp -implicitDefEqProofs only [gL] <;> omega) | ((repeat (first | exact Ext.refl _ | assumption | apply Ext.app | apply Ext.mk | (refine Ext.setr ?_ (by (first | omega | (simp -implicitDefEqProofs only [gL] <;> omega))) _))); done) | (simp -implicitDefEqProofs only [gL, gA, neB.ld] <;> omega) | fail) only [gB, setAll, partL, fldV, reduceIte, Nat.reduceAdd, Nat.reduceMul, neB.ld]
  rw [show AV.int .i64 3 = I ((3 : Nat) : Int) from rfl]
  refine WP.call (words_spec neB.nv ok_emp (by simp [cntN]) (most := 3) (by omega)) ?_
  rintro r hC ⟨eC, rows, hr, wv⟩
  have hnil : wordsN .emp 3 = [] := List.eq_nil_iff_forall_not_mem.2 fun w hw => In_emp (words_in hw).1
  have hl := hr.lenG
  rw [wv.1, hnil] at hl
  simp -implicitDefEqProofs (disch := first | assumption | omega | (simp -implicitDefEqProofs only [gL] <;> omega) | ((repeat (first | exact Ext.refl _ | assumption | apply Ext.app | apply Ext.mk | (refine Ext.setr ?_ (by (first | omega | (simp -implicitDefEqProofs only [gL] <;> omega))) _))); done) | (simp -implicitDefEqProofs only [gL, gA, hl] <;> omega) | fail) only [gB, setAll, partL, fldV, reduceIte, Nat.reduceAdd, Nat.reduceMul, hl]
  exact WP.ret rfl
theorem none_spec5 {l : List Rw} {s : AV} {css : List (List AV)} {a bad : Int} (hs : Sl h 3 s css) (hr : RVs h l css) (hn : Sl h 1 ns (nz.map encI)) :
    Tot tab f_milestonelaw5_MatchNone [s, ns, I a, I bad] h fun r _ => r = .bool true := by
  refine WP.tot (fun k => (call_milestonelaw5_MatchNone k _ _ _ _ h).trans (milestonelaw5_MatchNone_eq tab k _ _ _ _ h)) ?_
  refine WP.call (known_spec h) ?_
  rintro _ h1 ⟨rfl, e1⟩
  simp -implicitDefEqProofs (disch := first | assumption | omega | (simp -implicitDefEqProofs only [gL] <;> omega) | ((repeat (first | exact Ext.refl _ | assumption | apply Ext.app | apply Ext.mk | (refine Ext.setr ?_ (by (first | omega | (simp -implicitDefEqProofs only [gL] <;> omega))) _))); done) | (simp -implicitDefEqProofs only [gL, gA] <;> omega) | fail) only [gB, setAll, partL, fldV, reduceIte, Nat.reduceAdd, Nat.reduceMul]
  refine WP.call (few_spec (hs.ext e1) (hr.ext e1)) ?_
  rintro _ _ ⟨rfl, rfl⟩
  by_cases hf : szF 7 l ≤ 14
  · rw [decide_eq_true hf]
    simp -implicitDefEqProofs (disch := first | assumption | omega | (simp -implicitDefEqProofs only [gL] <;> omega) | ((repeat (first | exact Ext.refl _ | assumption | apply Ext.app | apply Ext.mk | (refine Ext.setr ?_ (by (first | omega | (simp -implicitDefEqProofs only [gL] <;> omega))) _))); done) | (simp -implicitDefEqProofs only [gL, gA] <;> omega) | fail) only [gB, setAll, partL, fldV, reduceIte, Nat.reduceAdd, Nat.reduceMul]
    refine WP.call (one_spec4 (hs.ext e1) (hr.ext e1)) ?_
    rintro _ h2 ⟨e2, c5, rfl, nv⟩
    obtain ⟨s5, rfl, ho5⟩ := nv.inv
    have fi := fine_one l
    have hcn := cnt_one l hf
    generalize oneN l = n at *
    obtain ⟨h3, hh3⟩ : ∃ h3, h3 = (h2 ++ [AObj.cells ⟨[I n.kind, I n.st, I n.lo, I n.hi, s5], 0, 0, false⟩]) ++ [AObj.cells ⟨[I 2, I 0, I 0, I 0, .nils], 0, 0, false⟩] := ⟨_, rfl⟩
    have na : NA h3 (.ptr h2.length 0 5 0) n [I n.kind, I n.st, I n.lo, I n.hi, s5] := by rw [hh3]; exact (NA.new nv.nv).ext (Ext.push _ _)
    have ne : NA h3 (.ptr (h2.length + 1) 0 5 0) .emp [I 2, I 0, I 0, I 0, .nils] := ⟨At.row (wg := 0) (g := 0) (ro := false) (by rw [hh3]; simp) (Nat.le_refl _) rfl, nv_emp⟩
    have e3 : Ext h2 h3 := by rw [hh3]; exact (Ext.push _ _).trans (Ext.push _ _)
    simp -implicitDefEqProofs (disch := first | assumption | omega | (simp -implicitDefEqProofs only [gL] <;> omega) | ((repeat (first | exact Ext.refl _ | assumption | apply Ext.app | apply Ext.mk | (refine Ext.setr ?_ (by (first | omega | (simp -implicitDefEqProofs only [gL] <;> omega))) _))); done) | (simp -implicitDefEqProofs only [gL, gA, ho5, set_lastO] <;> omega) | fail) only [gB, setAll, partL, fldV, reduceIte, Nat.reduceAdd, Nat.reduceMul, ho5, set_lastO]
    rw [← hh3, show AV.int .i64 6 = I ((6 : Nat) : Int) from rfl, show AV.int .i64 4 = I (4 : Int) from rfl]
    refine WP.call (word_spec (m := 6) (few := 4) (hn.ext (e1.trans (e2.trans e3))) (by omega)) ?_
    rintro w0 h4 ⟨e4, gw⟩
    have hwl := wordL_len nz 6 4
    have hwm : ∀ c ∈ wordL nz 6 4, 0 ≤ c ∧ c < 5 := fun c hc => wordL_mem hc
    generalize wordL nz 6 4 = w at *
    obtain ⟨x0, h5, u1, u2, u3, u4⟩ := clone_n (bytes := 8) gw.sl (by omega) (by omega) (by rw [List.length_map]; omega)
    rw [mkObj_eq] at u1
    have hll := u2.sl.lenG
    by_cases hbad : bad < 0 ∨ bad > 4
    · have a2 : 0 ≤ a % ((w.length : Int) + 1) ∧ a % ((w.length : Int) + 1) < (w.length : Int) + 1 := ⟨Int.emod_nonneg _ (by omega), Int.emod_lt_of_pos _ (by omega)⟩
      have tail : WP (fun i : Nat => ob (evalFn tab i f_milestonelaw5_within [I a, I ((w.length : Int) + 1)] h5) fun t38 h_31 =>
          oa (slSl 1 x0 none (some t38) none) fun t39 =>
          ob (buildSl 1 1 [.int .i64 0] [(0, 1, I bad)] h_31) fun t41 h_34 =>
          ob (apnd 1 8 t39 t41 h_34) fun t42 h_36 =>
          milestonelaw5_MatchNone_b1 tab i (.ptr h2.length 0 5 0) (.ptr (h2.length + 1) 0 5 0) w0 t42 h_36) fun r _ => r = .bool true := by
        refine WP.call (within5_spec (n := (w.length : Int) + 1) (by omega) (by unfold Fit; omega) h5) ?_
        rintro _ _ ⟨rfl, rfl⟩
        obtain ⟨x1, v1, v2, v3⟩ := u2.take (n := a % ((w.length : Int) + 1)) a2.1 (by rw [List.length_map]; omega) u4
        obtain ⟨x2, h6, y1, y2, y3⟩ := v2.append1 (bytes := 8) (v := [I bad]) rfl (by omega) (by omega) (by rw [List.length_take, List.length_map]; omega) u3.len (Nat.le_refl _)
        rw [mkObj_eq] at y1
        simp -implicitDefEqProofs (disch := first | assumption | omega | (simp -implicitDefEqProofs only [gL] <;> omega) | ((repeat (first | exact Ext.refl _ | assumption | apply Ext.app | apply Ext.mk | (refine Ext.setr ?_ (by (first | omega | (simp -implicitDefEqProofs only [gL] <;> omega))) _))); done) | (simp -implicitDefEqProofs only [gL, gA, v1, y1] <;> omega) | fail) only [gB, setAll, partL, fldV, reduceIte, Nat.reduceAdd, Nat.reduceMul, v1, y1]
        have e6 := e4.trans (y3.ext u3 (Nat.le_refl _))
        refine none_b1 (w := w) (x := w.take (a % ((w.length : Int) + 1)).toNat ++ [bad]) (na.ext e6) (ne.ext e6) fi (by omega) (gw.sl.ext (y3.ext u3 (Nat.le_refl _))) (by omega) hwm (y2.sl.map (by simp [encI])) (by simp; omega) ⟨bad, by simp, by omega⟩
      by_cases hb0 : bad < 0
      · simp -implicitDefEqProofs (disch := first | assumption | omega | (simp -implicitDefEqProofs only [gL] <;> omega) | ((repeat (first | exact Ext.refl _ | assumption | apply Ext.app | apply Ext.mk | (refine Ext.setr ?_ (by (first | omega | (simp -implicitDefEqProofs only [gL] <;> omega))) _))); done) | (simp -implicitDefEqProofs only [gL, gA, u1, hll] <;> omega) | fail) only [gB, setAll, partL, fldV, reduceIte, Nat.reduceAdd, Nat.reduceMul, u1, hll]
        exact tail
      · simp -implicitDefEqProofs (disch := first | assumption | omega | (simp -implicitDefEqProofs only [gL] <;> omega) | ((repeat (first | exact Ext.refl _ | assumption | apply Ext.app | apply Ext.mk | (refine Ext.setr ?_ (by (first | omega | (simp -implicitDefEqProofs only [gL] <;> omega))) _))); done) | (simp -implicitDefEqProofs only [gL, gA, u1, hll] <;> omega) | fail) only [gB, setAll, partL, fldV, reduceIte, Nat.reduceAdd, Nat.reduceMul, u1, hll]
        exact tail
    · obtain ⟨x2, h6, y1, y2, y3⟩ := u2.append1 (bytes := 8) (v := [I 5]) rfl (by omega) (by omega) (by rw [List.length_map]; omega) u3.len (Nat.le_refl _)
      rw [mkObj_eq] at y1
      simp -implicitDefEqProofs (disch := first | assumption | omega | (simp -implicitDefEqProofs only [gL] <;> omega) | ((repeat (first | exact Ext.refl _ | assumption | apply Ext.app | apply Ext.mk | (refine Ext.setr ?_ (by (first | omega | (simp -implicitDefEqProofs only [gL] <;> omega))) _))); done) | (simp -implicitDefEqProofs only [gL, gA, u1, y1] <;> omega) | fail) only [gB, setAll, partL, fldV, reduceIte, Nat.reduceAdd, Nat.reduceMul, u1, y1]
      have e6 := e4.trans (y3.ext u3 (Nat.le_refl _))
      refine none_b1 (w := w) (x := w ++ [5]) (na.ext e6) (ne.ext e6) fi (by omega) (gw.sl.ext (y3.ext u3 (Nat.le_refl _))) (by omega) hwm (y2.sl.map (by simp [encI])) (by simp; omega) ⟨5, by simp, by omega⟩
  · rw [decide_eq_false hf]
    simp -implicitDefEqProofs (disch := first | assumption | omega | (simp -implicitDefEqProofs only [gL] <;> omega) | ((repeat (first | exact Ext.refl _ | assumption | apply Ext.app | apply Ext.mk | (refine Ext.setr ?_ (by (first | omega | (simp -implicitDefEqProofs only [gL] <;> omega))) _))); done) | (simp -implicitDefEqProofs only [gL, gA] <;> omega) | fail) only [gB, setAll, partL, fldV, reduceIte, Nat.reduceAdd, Nat.reduceMul]
    exact WP.ret rfl
end
end Go.Gm.A5
