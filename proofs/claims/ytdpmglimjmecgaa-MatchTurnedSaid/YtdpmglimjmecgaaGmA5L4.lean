/- A part of the proof (GmA5L4): an abstract machine, what it does, and what the functions of the program come to on it. -/
import Derived.Test.YtdpmglimjmecgaaGmA5L3
set_option linter.unusedVariables false
set_option linter.unusedSimpArgs false
namespace Go.Gm.A5
open Go Go.Gm

/-- The parts in the order in which they are gone through. -/
def srcN : Nd → List Nd
  | .join l => l.reverse
  | n => n.kids
theorem tur_kids (n : Nd) : (tur n).kids = (srcN n).map tur := by
  cases n <;> simp [tur, Nd.kids, srcN, turs_map]
theorem tur_hd (n : Nd) : (tur n).kind = n.kind ∧ (tur n).st = n.st ∧ (tur n).lo = n.lo ∧ (tur n).hi = n.hi := by
  cases n <;> simp [tur, Nd.kind, Nd.st, Nd.lo, Nd.hi]
theorem srcN_len (n : Nd) : (srcN n).length = n.kids.length := by cases n <;> simp [srcN, Nd.kids]
theorem srcN_mem {n c : Nd} (h : c ∈ srcN n) : c ∈ n.kids := by cases n <;> first | exact h | exact List.mem_reverse.1 h
def TurS (n : Nd) : Prop := ∀ (c5 : List AV) (h : Heap), NV h n c5 → Tot tab f_milestonelaw5_turned [.agg c5] h (NewN h (tur n))
/-- The variables of one's call. -/
structure TC (h h1 : Heap) (n : Nd) (s5 : AV) (css : List (List AV)) : Prop where
  ext : Ext h h1
  len : h1.length = h.length + 2
  r0 : h1[h.length]? = some (.cells ⟨[I n.kind, I n.st, I n.lo, I n.hi, s5], 0, 0, false⟩)
  r1 : h1[h.length + 1]? = some (.cells ⟨[I 0, I 0, I 0, I 0, .nils], 0, 0, false⟩)
  sl : Sl h1 5 s5 css
  nvs : NVs h1 n.kids css
theorem TC.fin {h h1 : Heap} {n : Nd} {s5 : AV} {css : List (List AV)} (mc : TC h h1 n s5 css) {n' : Nd} {c5 : List AV} {H : Heap} (e : Ext h1 H) (nv : NVD H (fun o => h1.length ≤ o ∧ o < H.length) n' c5) : NewN h n' (.agg c5) (H.set (h.length + 1) (.cells ⟨c5, 0, 0, false⟩)) := by
  have := e.len
  have := mc.len
  refine ⟨(mc.ext.trans e).set (by omega) _, c5, rfl, nv.frs (FrS.set1 H (h.length + 1) _) (fun o h1 h2 h3 => by omega) fun o h1 h2 => ⟨by omega, by simp; exact h2.2⟩⟩
theorem tur_l1 {h h1 : Heap} {n : Nd} {s5 : AV} {css : List (List AV)} (mc : TC h h1 n s5 css) (hk : n.kids.length ≤ 1000) (hS : ∀ c ∈ n.kids, TurS c) :
    ∀ (d i : Nat) (s4 : AV) (lg : Nat) (cs4 : List (List AV)) (H : Heap), i + d = n.kids.length → NB h1 H [I n.kind, I n.st, I n.lo, I n.hi] s4 lg (((srcN n).map tur).take i) cs4 →
      WP (fun p : Nat × Nat => milestonelaw5_turned_l1 tab p.1 p.2 (.ptr h.length 0 5 0) (.ptr (h.length + 1) 0 5 0) (.ptr h1.length 0 5 0) (I i) H) (NewN h (tur n)) := by
  have h1l := mc.len
  have hsl := srcN_len n
  have hcl := mc.nvs.length
  intro d
  induction d with
  | zero =>
    intro i s4 lg cs4 H hi nb
    refine WP.rnd (fun i' j => milestonelaw5_turned_l1_eq tab i' j (.ptr h.length 0 5 0) (.ptr (h.length + 1) 0 5 0) (.ptr h1.length 0 5 0) (I i) H) ?_
    have hx0 := nb.ext.get mc.r0
    have hx1 := nb.ext.get mc.r1
    have sl' : Sl H 5 s5 (css.map fun x => x) := by rw [List.map_id']; exact mc.sl.ext nb.ext
    have hrow : H[h1.length]? = some (.cells ⟨[I n.kind, I n.st, I n.lo, I n.hi, s4], 0, 0, false⟩) := nb.row
    have hso := nb.gr.sl.one
    have hno := nb.no
    rw [List.take_of_length_le (by simp; omega)] at nb
    obtain ⟨t1, t2, t3, t4⟩ := tur_hd n
    have nv := nb.done (n := tur n) (by rw [t1, t2, t3, t4]) (tur_kids n)
    have fin := mc.fin nb.ext (nv.frs (FrS.refl (fun _ => False) H) (fun _ _ _ z => z) (D' := fun o => h1.length ≤ o ∧ o < H.length) fun o _ z => ⟨by omega, z.2⟩)
    simp -implicitDefEqProofs (disch := first | assumption | omega | (simp -implicitDefEqProofs only [gL] <;> omega) | ((repeat (first | exact Ext.refl _ | assumption | apply Ext.app | apply Ext.mk | (refine Ext.setr ?_ (by (first | omega | (simp -implicitDefEqProofs only [gL] <;> omega))) _))); done) | (simp -implicitDefEqProofs only [gL, gA, hx0, sl'.lenG, hrow, hx1, hso] <;> omega) | fail) only [gB, setAll, partL, fldV, reduceIte, Nat.reduceAdd, Nat.reduceMul, hx0, sl'.lenG, hrow, hx1, hso]
    exact WP.lv (WP.ret fin) fun i j => rfl
  | succ d ih =>
    intro i s4 lg cs4 H hi nb
    refine WP.rnd (fun i' j => milestonelaw5_turned_l1_eq tab i' j (.ptr h.length 0 5 0) (.ptr (h.length + 1) 0 5 0) (.ptr h1.length 0 5 0) (I i) H) ?_
    have hx0 := nb.ext.get mc.r0
    have slH := mc.sl.ext nb.ext
    have sl' : Sl H 5 s5 (css.map fun x => x) := by rw [List.map_id']; exact slH
    have nvs := mc.nvs.keeps (.ofExt nb.ext)
    have hrow : H[h1.length]? = some (.cells ⟨[I n.kind, I n.st, I n.lo, I n.hi, s4], 0, 0, false⟩) := nb.row
    have hc4 : cs4.length ≤ 1000 := by rw [← nb.nvs.len, List.length_take]; simp; omega
    obtain ⟨c, hc⟩ : ∃ c, (srcN n)[i]? = some c := ⟨_, List.getElem?_eq_getElem (by omega)⟩
    have htk : ((srcN n).map tur).take (i + 1) = ((srcN n).map tur).take i ++ [tur c] := by
      rw [List.take_add_one]
      congr 1
      simp [hc]
    have hcm := srcN_mem (List.mem_of_getElem? hc)
    -- the part at its place
    have part : ∀ (k : Nat), n.kids[k]? = some c → WP (fun p : Nat × Nat => milestonelaw5_turned_b2 tab p.1 p.2 (.ptr h.length 0 5 0) (.ptr (h.length + 1) 0 5 0) (.ptr h1.length 0 5 0) (I i) (I k) H) (NewN h (tur n)) := by
      intro k hkc
      refine WP.congr (fun p => milestonelaw5_turned_b2_eq tab p.1 p.2 (.ptr h.length 0 5 0) (.ptr (h.length + 1) 0 5 0) (.ptr h1.length 0 5 0) (I i) (I k) H) ?_
      obtain ⟨cc, hcc, nvc⟩ := nvs.get hkc
      have hg : gi css (k : Int) = cc := gi_map hcc
      have hkl := (List.getElem?_eq_some_iff.1 hkc).1
      have e0 := Ext.refl H
      simp -implicitDefEqProofs (disch := first | assumption | omega | (simp -implicitDefEqProofs only [gL] <;> omega) | ((repeat (first | exact Ext.refl _ | assumption | apply Ext.app | apply Ext.mk | (refine Ext.setr ?_ (by (first | omega | (simp -implicitDefEqProofs only [gL] <;> omega))) _))); done) | (simp -implicitDefEqProofs only [gL, gA, hx0, hrow, sl'.idxG, sl'.ldN, hg] <;> omega) | fail) only [gB, setAll, partL, fldV, reduceIte, Nat.reduceAdd, Nat.reduceMul, hx0, hrow, sl'.idxG, sl'.ldN, hg]
      refine WP.call (hS c hcm cc H nvc) ?_
      rintro _ H1 ⟨e1, c5, rfl, nv⟩
      obtain ⟨s6, rfl, ho6⟩ := nv.inv
      have hrow1 := e1.get hrow
      obtain ⟨s', H3, m1, m2, m3, m4, lg', nb'⟩ := nb.add rfl e1 nv hc4
      have m4' : H3[h1.length]? = some (.cells ⟨[I n.kind, I n.st, I n.lo, I n.hi, s4], 0, 0, false⟩) := m4
      rw [mkObj_eq] at m1
      simp -implicitDefEqProofs (disch := first | assumption | omega | (simp -implicitDefEqProofs only [gL] <;> omega) | ((repeat (first | exact Ext.refl _ | assumption | apply Ext.app | apply Ext.mk | (refine Ext.setr ?_ (by (first | omega | (simp -implicitDefEqProofs only [gL] <;> omega))) _))); done) | (simp -implicitDefEqProofs only [gL, gA, hrow1, ho6, m1, m4', m2, m3] <;> omega) | fail) only [gB, setAll, partL, fldV, reduceIte, Nat.reduceAdd, Nat.reduceMul, hrow1, ho6, m1, m4', m2, m3]
      rw [← htk] at nb'
      exact ih (i + 1) s' lg' _ _ (by omega) nb'
    by_cases hj : n.kind = 4
    · have hn : ∃ l, n = .join l := by cases n <;> simp [Nd.kind] at hj; exact ⟨_, rfl⟩
      obtain ⟨l, rfl⟩ := hn
      simp only [srcN, Nd.kids] at hc hi hcl part hk
      have hk2 : (Nd.join l).kids[l.length - 1 - i]? = some c := by
        rw [List.getElem?_reverse (by omega)] at hc
        exact hc
      have := part _ hk2
      rw [show ((l.length - 1 - i : Nat) : Int) = (css.length : Int) - 1 - i by omega] at this
      simp only [Nd.kind] at hx0 this ⊢
      simp -implicitDefEqProofs (disch := first | assumption | omega | (simp -implicitDefEqProofs only [gL] <;> omega) | ((repeat (first | exact Ext.refl _ | assumption | apply Ext.app | apply Ext.mk | (refine Ext.setr ?_ (by (first | omega | (simp -implicitDefEqProofs only [gL] <;> omega))) _))); done) | (simp -implicitDefEqProofs only [gL, gA, hx0, sl'.lenG] <;> omega) | fail) only [gB, setAll, partL, fldV, reduceIte, Nat.reduceAdd, Nat.reduceMul, hx0, sl'.lenG]
      exact this
    · have hn : srcN n = n.kids := by cases n <;> first | rfl | simp [Nd.kind] at hj
      rw [hn] at hc
      have := part i hc
      have hj' : binV .eql .scalar (I n.kind) (.int .i64 4) = some (.bool false) := eql_f hj
      simp -implicitDefEqProofs (disch := first | assumption | omega | (simp -implicitDefEqProofs only [gL] <;> omega) | ((repeat (first | exact Ext.refl _ | assumption | apply Ext.app | apply Ext.mk | (refine Ext.setr ?_ (by (first | omega | (simp -implicitDefEqProofs only [gL] <;> omega))) _))); done) | (simp -implicitDefEqProofs only [gL, gA, hx0, sl'.lenG, hj'] <;> omega) | fail) only [gB, setAll, partL, fldV, reduceIte, Nat.reduceAdd, Nat.reduceMul, hx0, sl'.lenG, hj']
      exact this
theorem tur_spec (n : Nd) : Ok n → TurS n := by
  refine Nd.ind (p := fun n => Ok n → TurS n) ?_ n
  intro n ih ok c5 h nv
  refine WP.tot (fun k' => (call_milestonelaw5_turned k' _ h).trans (milestonelaw5_turned_eq tab k' _ h)) ?_
  obtain ⟨s5, css, rfl, sl5, nvs⟩ := nv.inv
  cases ok with
  | mk o1 o2 o3 o4 o5 =>
  have ho5 : s5.one = true := sl5.one
  obtain ⟨h1, hh1⟩ : ∃ h1, h1 = (h ++ [AObj.cells ⟨[I n.kind, I n.st, I n.lo, I n.hi, s5], 0, 0, false⟩]) ++ [AObj.cells ⟨[I 0, I 0, I 0, I 0, .nils], 0, 0, false⟩] := ⟨_, rfl⟩
  have e1 : Ext h h1 := by rw [hh1]; ((repeat (first | exact Ext.refl _ | assumption | apply Ext.app | apply Ext.mk | (refine Ext.setr ?_ (by (first | omega | (simp -implicitDefEqProofs only [gL] <;> omega))) _))))
  have mc : TC h h1 n s5 css := ⟨e1, by rw [hh1]; simp, by rw [hh1]; simp, by rw [hh1]; simp, sl5.ext e1, nvs.keeps (.ofExt e1)⟩
  have hx0 := mc.r0
  simp -implicitDefEqProofs (disch := first | assumption | omega | (simp -implicitDefEqProofs only [gL] <;> omega) | ((repeat (first | exact Ext.refl _ | assumption | apply Ext.app | apply Ext.mk | (refine Ext.setr ?_ (by (first | omega | (simp -implicitDefEqProofs only [gL] <;> omega))) _))); done) | (simp -implicitDefEqProofs only [gL, gA, ho5] <;> omega) | fail) only [gB, setAll, partL, fldV, reduceIte, Nat.reduceAdd, Nat.reduceMul, ho5]
  rw [← hh1]
  rw [show h.length + 1 + 1 = h1.length from mc.len.symm, set_last, set_last]
  exact WP.ent (tur_l1 mc o4 (fun c hc => ih c hc (o5 c hc)) n.kids.length 0 .nils 0 [] _ (by omega) (NB.new h1 _)) fun i => rfl
theorem fine_tur {n : Nd} (h : Fine n) : Fine (tur n) := by
  revert h
  refine Nd.ind (p := fun n => Fine n → Fine (tur n)) ?_ n
  rintro n ih ⟨ok, wf⟩
  cases ok with
  | mk o1 o2 o3 o4 o5 =>
  cases wf with
  | mk w1 w2 =>
  obtain ⟨t1, t2, t3, t4⟩ := tur_hd n
  refine fine_mk (by rw [t2]; exact o1) (by rw [t3, t4]; exact w1) (by rw [t4]; exact o3) (by rw [tur_kids, List.length_map, srcN_len]; exact o4) fun c hc => ?_
  rw [tur_kids, List.mem_map] at hc
  obtain ⟨d, hd, rfl⟩ := hc
  exact ih d (srcN_mem hd) ⟨o5 d (srcN_mem hd), w2 d (srcN_mem hd)⟩
theorem cntL_append (a b : List Nd) : cntL (a ++ b) = cntL a + cntL b := by
  induction a with
  | nil => simp [cntL]
  | cons x a ih => simp only [List.cons_append, cntL, ih]; omega
theorem cntL_rev (l : List Nd) : cntL l.reverse = cntL l := by
  induction l with
  | nil => rfl
  | cons a l ih => rw [List.reverse_cons, cntL_append, ih]; simp [cntL]; omega
theorem cnt_tur (n : Nd) : cntN (tur n) = cntN n := by
  refine Nd.ind (p := fun n => cntN (tur n) = cntN n) ?_ n
  intro n ih
  rw [cntN_kids, cntN_kids n, tur_kids]
  have hm : ∀ l : List Nd, (∀ c ∈ l, cntN (tur c) = cntN c) → cntL (l.map tur) = cntL l := by
    intro l
    induction l with
    | nil => intro _; rfl
    | cons a l ihl => intro h; simp only [List.map_cons, cntL, h a (by simp), ihl fun c hc => h c (by simp [hc])]
  rw [hm _ fun c hc => ih c (srcN_mem hc)]
  congr 1
  cases n <;> simp only [srcN, Nd.kids, cntL_rev]
section
variable {h : Heap} {p q ns : AV} {n : Nd} {c5 d5 : List AV} {nz : List Int} {fw : Int}
theorem turned_b5 (na : NA h p n c5) (nb : NA h q (tur n) d5) (fi : Fine n) (hc : cntN n ≤ 800000) {H : Heap} (e : Ext h H) :
    WP (fun i : Nat => milestonelaw5_MatchTurned_b5 tab i p q H) fun r _ => r = .bool true := by
  refine WP.congr (fun i => milestonelaw5_MatchTurned_b5_eq tab i p q H) ?_
  have e0 := Ext.refl H
  have na' := na.ext e
  have nb' := nb.ext e
  simp -implicitDefEqProofs (disch := first | assumption | omega | (simp -implicitDefEqProofs only [gL] <;> omega) | ((repeat (first | exact Ext.refl _ | assumption | apply Ext.app | apply Ext.mk | (refine Ext.setr ?_ (by (first | omega | (simp -implicitDefEqProofs only [gL] <;> omega))) _))); done) | (simp -implicitDefEqProofs only [gL, gA, na'.ld, nb'.ld] <;> omega) | fail) only [gB, setAll, partL, fldV, reduceIte, Nat.reduceAdd, Nat.reduceMul, na'.ld, nb'.ld]
  refine WP.call (null_spec na'.nv fi.1 hc) ?_
  rintro _ h1 ⟨e1, b, rfl, hb⟩
  have nb1 := nb'.ext e1
  have e0 := Ext.refl h1
  simp -implicitDefEqProofs (disch := first | assumption | omega | (simp -implicitDefEqProofs only [gL] <;> omega) | ((repeat (first | exact Ext.refl _ | assumption | apply Ext.app | apply Ext.mk | (refine Ext.setr ?_ (by (first | omega | (simp -implicitDefEqProofs only [gL] <;> omega))) _))); done) | (simp -implicitDefEqProofs only [gL, gA, nb1.ld] <;> omega) | fail) only [gB, setAll, partL, fldV, reduceIte, Nat.reduceAdd, Nat.reduceMul, nb1.ld]
  refine WP.call (null_spec nb1.nv (fine_tur fi).1 (by rw [cnt_tur]; exact hc)) ?_
  rintro _ h2 ⟨e2, b2, rfl, hb2⟩
  have hb3 := hb2.trans (In_tur (n := n) (w := []))
  obtain rfl := bool_eq hb hb3
  simp -implicitDefEqProofs (disch := first | assumption | omega | (simp -implicitDefEqProofs only [gL] <;> omega) | ((repeat (first | exact Ext.refl _ | assumption | apply Ext.app | apply Ext.mk | (refine Ext.setr ?_ (by (first | omega | (simp -implicitDefEqProofs only [gL] <;> omega))) _))); done) | (simp -implicitDefEqProofs only [gL, gA] <;> omega) | fail) only [gB, setAll, partL, fldV, reduceIte, Nat.reduceAdd, Nat.reduceMul]
  exact WP.ret rfl
theorem turned_l2 (na : NA h p n c5) (nb : NA h q (tur n) d5) (fi : Fine n) (hc : cntN n ≤ 800000) {k : Nat} {w0 : AV} {w : List Int} (hwl : w.length ≤ 1000) (hw : Sl h 1 w0 (w.map encI)) {Q : AV → Heap → Prop}
    (hcnt : ∀ H, Ext h H → WP (fun p' : Nat × Nat => milestonelaw5_MatchTurned_b4 tab p'.1 p'.2 ns (I fw) p q (I k) H) Q) :
    ∀ (i : Nat) (b0 : AV) (H : Heap), i ≤ w.length → Ext h H → Gr h.length H.length H 1 b0 ((w.drop i).reverse.map encI) →
      WP (fun p' : (Nat × Nat) × Nat => milestonelaw5_MatchTurned_l2 tab p'.1.1 p'.1.2 p'.2 ns (I fw) p q (I k) w0 b0 (I i) H) Q := by
  intro i
  induction i with
  | zero =>
    intro b0 H hi e gr
    refine WP.rnd (fun i' j => milestonelaw5_MatchTurned_l2_eq tab i'.1 i'.2 j ns (I fw) p q (I k) w0 b0 (I (0 : Nat)) H) ?_
    simp -implicitDefEqProofs (disch := first | assumption | omega | (simp -implicitDefEqProofs only [gL] <;> omega) | ((repeat (first | exact Ext.refl _ | assumption | apply Ext.app | apply Ext.mk | (refine Ext.setr ?_ (by (first | omega | (simp -implicitDefEqProofs only [gL] <;> omega))) _))); done) | (simp -implicitDefEqProofs only [gL, gA] <;> omega) | fail) only [gB, setAll, partL, fldV, reduceIte, Nat.reduceAdd, Nat.reduceMul]
    refine WP.lv (WP.congr (fun i => milestonelaw5_MatchTurned_b3_eq tab i.1 i.2 ns (I fw) p q (I k) w0 b0 H) ?_) fun i j => rfl
    have e0 := Ext.refl H
    have na' := na.ext e
    have nb' := nb.ext e
    simp -implicitDefEqProofs (disch := first | assumption | omega | (simp -implicitDefEqProofs only [gL] <;> omega) | ((repeat (first | exact Ext.refl _ | assumption | apply Ext.app | apply Ext.mk | (refine Ext.setr ?_ (by (first | omega | (simp -implicitDefEqProofs only [gL] <;> omega))) _))); done) | (simp -implicitDefEqProofs only [gL, gA, na'.ld, nb'.ld] <;> omega) | fail) only [gB, setAll, partL, fldV, reduceIte, Nat.reduceAdd, Nat.reduceMul, na'.ld, nb'.ld]
    refine WP.call (match_spec na'.nv fi.1 hc (hw.ext e) (by omega)) ?_
    rintro _ h1 ⟨e1, b, rfl, hb⟩
    have nb1 := nb'.ext e1
    have e0 := Ext.refl h1
    simp -implicitDefEqProofs (disch := first | assumption | omega | (simp -implicitDefEqProofs only [gL] <;> omega) | ((repeat (first | exact Ext.refl _ | assumption | apply Ext.app | apply Ext.mk | (refine Ext.setr ?_ (by (first | omega | (simp -implicitDefEqProofs only [gL] <;> omega))) _))); done) | (simp -implicitDefEqProofs only [gL, gA, nb1.ld] <;> omega) | fail) only [gB, setAll, partL, fldV, reduceIte, Nat.reduceAdd, Nat.reduceMul, nb1.ld]
    refine WP.call (match_spec (w := w.reverse) nb1.nv (fine_tur fi).1 (by rw [cnt_tur]; exact hc) (gr.sl.ext e1) (by simp; omega)) ?_
    rintro _ h2 ⟨e2, b2, rfl, hb2⟩
    obtain rfl := bool_eq hb (hb2.trans In_tur)
    simp -implicitDefEqProofs (disch := first | assumption | omega | (simp -implicitDefEqProofs only [gL] <;> omega) | ((repeat (first | exact Ext.refl _ | assumption | apply Ext.app | apply Ext.mk | (refine Ext.setr ?_ (by (first | omega | (simp -implicitDefEqProofs only [gL] <;> omega))) _))); done) | (simp -implicitDefEqProofs only [gL, gA] <;> omega) | fail) only [gB, setAll, partL, fldV, reduceIte, Nat.reduceAdd, Nat.reduceMul]
    exact hcnt h2 (e.trans (e1.trans e2))
  | succ i ih =>
    intro b0 H hi e gr
    refine WP.rnd (fun i' j => milestonelaw5_MatchTurned_l2_eq tab i'.1 i'.2 j ns (I fw) p q (I k) w0 b0 (I ((i + 1 : Nat) : Int)) H) ?_
    have hw' := hw.ext e
    have e0 := Ext.refl H
    have hsub : ((i + 1 : Nat) : Int) - 1 = (i : Int) := by omega
    obtain ⟨c, hc'⟩ : ∃ c, w[i]? = some c := ⟨_, List.getElem?_eq_getElem (by omega)⟩
    have hg := gi_map hc'
    have hle := e.len
    obtain ⟨s', H', u1, u2, u3⟩ := gr.append1 (bytes := 8) (v := [I c]) rfl (by omega) (by omega) (by simp; omega) hle (Nat.le_refl _)
    rw [mkObj_eq] at u1
    simp -implicitDefEqProofs (disch := first | assumption | omega | (simp -implicitDefEqProofs only [gL] <;> omega) | ((repeat (first | exact Ext.refl _ | assumption | apply Ext.app | apply Ext.mk | (refine Ext.setr ?_ (by (first | omega | (simp -implicitDefEqProofs only [gL] <;> omega))) _))); done) | (simp -implicitDefEqProofs only [gL, gA, hsub, hw'.idxG, hw'.ld0, encI, hg, u1] <;> omega) | fail) only [gB, setAll, partL, fldV, reduceIte, Nat.reduceAdd, Nat.reduceMul, hsub, hw'.idxG, hw'.ld0, encI, hg, u1]
    refine ih s' H' (by omega) (u3.ext e (Nat.le_refl _)) (u2.cong ?_)
    have hdr : w.drop i = c :: w.drop (i + 1) := by
      rw [List.drop_eq_getElem_cons (by omega)]
      congr 1
      rw [List.getElem?_eq_getElem (by omega)] at hc'
      injection hc'
    rw [hdr]; simp [encI]
theorem turned_l1 (na : NA h p n c5) (nb : NA h q (tur n) d5) (fi : Fine n) (hc : cntN n ≤ 800000) (hn : Sl h 1 ns (nz.map encI)) :
    ∀ (d i : Nat) (H : Heap), i + d = 8 → Ext h H → WP (fun p' : Nat × Nat => milestonelaw5_MatchTurned_l1 tab p'.1 p'.2 ns (I fw) p q (I i) H) fun r _ => r = .bool true := by
  intro d
  induction d with
  | zero =>
    intro i H hi e
    refine WP.rnd (fun i' j => milestonelaw5_MatchTurned_l1_eq tab i' j ns (I fw) p q (I i) H) ?_
    simp -implicitDefEqProofs (disch := first | assumption | omega | (simp -implicitDefEqProofs only [gL] <;> omega) | ((repeat (first | exact Ext.refl _ | assumption | apply Ext.app | apply Ext.mk | (refine Ext.setr ?_ (by (first | omega | (simp -implicitDefEqProofs only [gL] <;> omega))) _))); done) | (simp -implicitDefEqProofs only [gL, gA] <;> omega) | fail) only [gB, setAll, partL, fldV, reduceIte, Nat.reduceAdd, Nat.reduceMul]
    exact WP.lv (turned_b5 na nb fi hc e) fun i j => rfl
  | succ d ih =>
    intro i H hi e
    refine WP.rnd (fun i' j => milestonelaw5_MatchTurned_l1_eq tab i' j ns (I fw) p q (I i) H) ?_
    simp -implicitDefEqProofs (disch := first | assumption | omega | (simp -implicitDefEqProofs only [gL] <;> omega) | ((repeat (first | exact Ext.refl _ | assumption | apply Ext.app | apply Ext.mk | (refine Ext.setr ?_ (by (first | omega | (simp -implicitDefEqProofs only [gL] <;> omega))) _))); done) | (simp -implicitDefEqProofs only [gL, gA] <;> omega) | fail) only [gB, setAll, partL, fldV, reduceIte, Nat.reduceAdd, Nat.reduceMul]
    refine WP.call (word_spec (hn.ext e) (m := i) (by omega)) ?_
    rintro w H1 ⟨e1, gw⟩
    have ee := e.trans e1
    have hwl := wordL_len nz i fw
    have hl := gw.sl.lenG
    simp -implicitDefEqProofs (disch := first | assumption | omega | (simp -implicitDefEqProofs only [gL] <;> omega) | ((repeat (first | exact Ext.refl _ | assumption | apply Ext.app | apply Ext.mk | (refine Ext.setr ?_ (by (first | omega | (simp -implicitDefEqProofs only [gL] <;> omega))) _))); done) | (simp -implicitDefEqProofs only [gL, gA, hl] <;> omega) | fail) only [gB, setAll, partL, fldV, reduceIte, Nat.reduceAdd, Nat.reduceMul, hl]
    refine WP.ent (turned_l2 (na.ext ee) (nb.ext ee) fi hc (k := i) (w := wordL nz i fw) (by omega) gw.sl (fun H2 e2 => ?_) (wordL nz i fw).length .nils H1 (Nat.le_refl _) (Ext.refl _) (by rw [List.drop_length]; exact Gr.nil ..)) fun i => rfl
    refine WP.congr (fun p' => milestonelaw5_MatchTurned_b4_eq tab p'.1 p'.2 ns (I fw) p q (I i) H2) ?_
    simp -implicitDefEqProofs (disch := first | assumption | omega | (simp -implicitDefEqProofs only [gL] <;> omega) | ((repeat (first | exact Ext.refl _ | assumption | apply Ext.app | apply Ext.mk | (refine Ext.setr ?_ (by (first | omega | (simp -implicitDefEqProofs only [gL] <;> omega))) _))); done) | (simp -implicitDefEqProofs only [gL, gA] <;> omega) | fail) only [gB, setAll, partL, fldV, reduceIte, Nat.reduceAdd, Nat.reduceMul]
    exact ih (i + 1) H2 (by omega) (ee.trans e2)
theorem turned_spec {l : List Rw} {s : AV} {css : List (List AV)} (hs : Sl h 3 s css) (hr : RVs h l css) (hn : Sl h 1 ns (nz.map encI)) :
    Tot tab f_milestonelaw5_MatchTurned [s, ns, I fw] h fun r _ => r = .bool true := by
  refine WP.tot (fun k => (call_milestonelaw5_MatchTurned k _ _ _ h).trans (milestonelaw5_MatchTurned_eq tab k _ _ _ h)) ?_
  refine WP.call (known_spec h) ?_
  rintro _ h1 ⟨rfl, e1⟩
  simp -implicitDefEqProofs (disch := first | assumption | omega | (simp -implicitDefEqProofs only [gL] <;> omega) | ((repeat (first | exact Ext.refl _ | assumption | apply Ext.app | apply Ext.mk | (refine Ext.setr ?_ (by (first | omega | (simp -implicitDefEqProofs only [gL] <;> omega))) _))); done) | (simp -implicitDefEqProofs only [gL, gA] <;> omega) | fail) only [gB, setAll, partL, fldV, reduceIte, Nat.reduceAdd, Nat.reduceMul]
  refine WP.call (few_spec (hs.ext e1) (hr.ext e1)) ?_
  rintro _ _ ⟨rfl, rfl⟩
  by_cases hf : szF 7 l ≤ 14
  · rw [decide_eq_true hf]
    simp -implicitDefEqProofs (disch := first | assumption | omega | (simp -implicitDefEqProofs only [gL] <;> omega) | ((repeat (first | exact Ext.refl _ | assumption | apply Ext.app | apply Ext.mk | (refine Ext.setr ?_ (by (first | omega | (simp -implicitDefEqProofs only [gL] <;> omega))) _))); done) | (simp -implicitDefEqProofs only [gL, gA] <;> omega) | fail) only [gB, setAll, partL, fldV, reduceIte, Nat.reduceAdd, Nat.reduceMul]
    refine WP.call (one_spec4 (hs.ext e1) (hr.ext e1)) ?_
    rintro _ h2 ⟨e2, c5, rfl, nv⟩
    obtain ⟨s5, rfl, ho5⟩ := nv.inv
    have fi := fine_one l
    have hcn := cnt_one l hf
    generalize oneN l = n at *
    obtain ⟨h3, hh3⟩ : ∃ h3, h3 = h2 ++ [AObj.cells ⟨[I n.kind, I n.st, I n.lo, I n.hi, s5], 0, 0, false⟩] := ⟨_, rfl⟩
    have na : NA h3 (.ptr h2.length 0 5 0) n [I n.kind, I n.st, I n.lo, I n.hi, s5] := by rw [hh3]; exact NA.new nv.nv
    have e3 : Ext h2 h3 := by rw [hh3]; exact Ext.push _ _
    have r0 : h3[h2.length]? = some (.cells ⟨[I n.kind, I n.st, I n.lo, I n.hi, s5], 0, 0, false⟩) := by rw [hh3]; simp
    simp -implicitDefEqProofs (disch := first | assumption | omega | (simp -implicitDefEqProofs only [gL] <;> omega) | ((repeat (first | exact Ext.refl _ | assumption | apply Ext.app | apply Ext.mk | (refine Ext.setr ?_ (by (first | omega | (simp -implicitDefEqProofs only [gL] <;> omega))) _))); done) | (simp -implicitDefEqProofs only [gL, gA, ho5, set_lastO] <;> omega) | fail) only [gB, setAll, partL, fldV, reduceIte, Nat.reduceAdd, Nat.reduceMul, ho5, set_lastO]
    rw [← hh3]
    refine WP.call (tur_spec n fi.1 _ h3 na.nv) ?_
    rintro _ h4 ⟨e4, d5, rfl, nvt⟩
    obtain ⟨s6, rfl, ho6⟩ := nvt.inv
    simp -implicitDefEqProofs (disch := first | assumption | omega | (simp -implicitDefEqProofs only [gL] <;> omega) | ((repeat (first | exact Ext.refl _ | assumption | apply Ext.app | apply Ext.mk | (refine Ext.setr ?_ (by (first | omega | (simp -implicitDefEqProofs only [gL] <;> omega))) _))); done) | (simp -implicitDefEqProofs only [gL, gA, ho6, set_lastO] <;> omega) | fail) only [gB, setAll, partL, fldV, reduceIte, Nat.reduceAdd, Nat.reduceMul, ho6, set_lastO]
    have e5 : Ext h4 (h4 ++ [AObj.cells ⟨[I (tur n).kind, I (tur n).st, I (tur n).lo, I (tur n).hi, s6], 0, 0, false⟩]) := Ext.push h4 _
    have ee := e1.trans (e2.trans (e3.trans (e4.trans e5)))
    rw [show AV.int .i64 0 = I ((0 : Nat) : Int) from rfl]
    exact WP.ent (turned_l1 (na.ext (e4.trans e5)) (NA.new nvt.nv) fi (by omega) (hn.ext ee) 8 0 _ rfl (Ext.refl _)) fun i => rfl
  · rw [decide_eq_false hf]
    simp -implicitDefEqProofs (disch := first | assumption | omega | (simp -implicitDefEqProofs only [gL] <;> omega) | ((repeat (first | exact Ext.refl _ | assumption | apply Ext.app | apply Ext.mk | (refine Ext.setr ?_ (by (first | omega | (simp -implicitDefEqProofs only [gL] <;> omega))) _))); done) | (simp -implicitDefEqProofs only [gL, gA] <;> omega) | fail) only [gB, setAll, partL, fldV, reduceIte, Nat.reduceAdd, Nat.reduceMul]
    exact WP.ret rfl
end
end Go.Gm.A5
