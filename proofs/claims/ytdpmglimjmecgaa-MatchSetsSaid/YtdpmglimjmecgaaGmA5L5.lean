/- A part of the proof (GmA5L5): an abstract machine, what it does, and what the functions of the program come to on it. -/
import Derived.Test.YtdpmglimjmecgaaGmA5L2
set_option linter.unusedVariables false
set_option linter.unusedSimpArgs false
namespace Go.Gm.A5
open Go Go.Gm

theorem wid_kids (b : Nat) (n : Nd) : (wid b n).kids = n.kids.map (wid b) := by
  cases n <;> simp [wid, Nd.kids, wids_map]
theorem wid_hd (b : Nat) (n : Nd) : (wid b n).kind = n.kind ∧ (wid b n).lo = n.lo ∧ (wid b n).hi = n.hi ∧ (n.kind = 1 → (wid b n).st = n.st ||| b) ∧ (n.kind ≠ 1 → (wid b n).st = n.st) := by
  cases n <;> simp [wid, Nd.kind, Nd.st, Nd.lo, Nd.hi]
def WidS (b : Nat) (n : Nd) : Prop := ∀ (c5 : List AV) (h : Heap), NV h n c5 → Tot tab f_milestonelaw5_wider [.agg c5, I b] h (NewN h (wid b n))
/-- The variables of one's call. -/
structure WC (h h1 : Heap) (n : Nd) (s5 : AV) (css : List (List AV)) : Prop where
  ext : Ext h h1
  len : h1.length = h.length + 2
  r0 : h1[h.length]? = some (.cells ⟨[I n.kind, I n.st, I n.lo, I n.hi, s5], 0, 0, false⟩)
  r1 : h1[h.length + 1]? = some (.cells ⟨[I 0, I 0, I 0, I 0, .nils], 0, 0, false⟩)
  sl : Sl h1 5 s5 css
  nvs : NVs h1 n.kids css
theorem WC.fin {h h1 : Heap} {n : Nd} {s5 : AV} {css : List (List AV)} (mc : WC h h1 n s5 css) {n' : Nd} {c5 : List AV} {H : Heap} (e : Ext h1 H) (nv : NVD H (fun o => h1.length ≤ o ∧ o < H.length) n' c5) : NewN h n' (.agg c5) (H.set (h.length + 1) (.cells ⟨c5, 0, 0, false⟩)) := by
  have := e.len
  have := mc.len
  refine ⟨(mc.ext.trans e).set (by omega) _, c5, rfl, nv.frs (FrS.set1 H (h.length + 1) _) (fun o h1 h2 h3 => by omega) fun o h1 h2 => ⟨by omega, by simp; exact h2.2⟩⟩
theorem wid_l2 {b : Nat} {h h1 : Heap} {n : Nd} {s5 : AV} {css : List (List AV)} (mc : WC h h1 n s5 css) (hk : n.kids.length ≤ 1000) (hS : ∀ c ∈ n.kids, WidS b c) :
    ∀ (d i : Nat) (s4 : AV) (lg : Nat) (cs4 : List (List AV)) (H : Heap), i + d = n.kids.length → NB h1 H [I (wid b n).kind, I (wid b n).st, I (wid b n).lo, I (wid b n).hi] s4 lg ((n.kids.map (wid b)).take i) cs4 →
      WP (fun p : Nat × Nat => milestonelaw5_wider_l2 tab p.1 p.2 (I b) (.ptr h.length 0 5 0) (.ptr (h.length + 1) 0 5 0) (.ptr h1.length 0 5 0) (I i) H) (NewN h (wid b n)) := by
  have h1l := mc.len
  have hcl := mc.nvs.length
  intro d
  induction d with
  | zero =>
    intro i s4 lg cs4 H hi nb
    refine WP.rnd (fun i' j => milestonelaw5_wider_l2_eq tab i' j (I b) (.ptr h.length 0 5 0) (.ptr (h.length + 1) 0 5 0) (.ptr h1.length 0 5 0) (I i) H) ?_
    have hx0 := nb.ext.get mc.r0
    have hx1 := nb.ext.get mc.r1
    have sl' : Sl H 5 s5 (css.map fun x => x) := by rw [List.map_id']; exact mc.sl.ext nb.ext
    have hrow : H[h1.length]? = some (.cells ⟨[I (wid b n).kind, I (wid b n).st, I (wid b n).lo, I (wid b n).hi, s4], 0, 0, false⟩) := nb.row
    have hso := nb.gr.sl.one
    have hno := nb.no
    rw [List.take_of_length_le (by simp; omega)] at nb
    have nv := nb.done (n := wid b n) rfl (wid_kids b n)
    have fin := mc.fin nb.ext (nv.frs (FrS.refl (fun _ => False) H) (fun _ _ _ z => z) (D' := fun o => h1.length ≤ o ∧ o < H.length) fun o _ z => ⟨by omega, z.2⟩)
    simp -implicitDefEqProofs (disch := first | assumption | omega | (simp -implicitDefEqProofs only [gL] <;> omega) | ((repeat (first | exact Ext.refl _ | assumption | apply Ext.app | apply Ext.mk | (refine Ext.setr ?_ (by (first | omega | (simp -implicitDefEqProofs only [gL] <;> omega))) _))); done) | (simp -implicitDefEqProofs only [gL, gA, hx0, sl'.lenG, hrow, hx1, hso] <;> omega) | fail) only [gB, setAll, partL, fldV, reduceIte, Nat.reduceAdd, Nat.reduceMul, hx0, sl'.lenG, hrow, hx1, hso]
    exact WP.lv (WP.ret fin) fun i j => rfl
  | succ d ih =>
    intro i s4 lg cs4 H hi nb
    refine WP.rnd (fun i' j => milestonelaw5_wider_l2_eq tab i' j (I b) (.ptr h.length 0 5 0) (.ptr (h.length + 1) 0 5 0) (.ptr h1.length 0 5 0) (I i) H) ?_
    have hx0 := nb.ext.get mc.r0
    have slH := mc.sl.ext nb.ext
    have sl' : Sl H 5 s5 (css.map fun x => x) := by rw [List.map_id']; exact slH
    have nvs := mc.nvs.keeps (.ofExt nb.ext)
    have hrow : H[h1.length]? = some (.cells ⟨[I (wid b n).kind, I (wid b n).st, I (wid b n).lo, I (wid b n).hi, s4], 0, 0, false⟩) := nb.row
    have hc4 : cs4.length ≤ 1000 := by rw [← nb.nvs.len, List.length_take]; simp; omega
    obtain ⟨c, hc⟩ : ∃ c, n.kids[i]? = some c := ⟨_, List.getElem?_eq_getElem (by omega)⟩
    have htk : (n.kids.map (wid b)).take (i + 1) = (n.kids.map (wid b)).take i ++ [wid b c] := by
      rw [List.take_add_one]
      congr 1
      simp [hc]
    obtain ⟨cc, hcc, nvc⟩ := nvs.get hc
    have hg : gi css (i : Int) = cc := gi_map hcc
    have e0 := Ext.refl H
    simp -implicitDefEqProofs (disch := first | assumption | omega | (simp -implicitDefEqProofs only [gL] <;> omega) | ((repeat (first | exact Ext.refl _ | assumption | apply Ext.app | apply Ext.mk | (refine Ext.setr ?_ (by (first | omega | (simp -implicitDefEqProofs only [gL] <;> omega))) _))); done) | (simp -implicitDefEqProofs only [gL, gA, hx0, hrow, sl'.lenG, sl'.idxG, sl'.ldN, hg] <;> omega) | fail) only [gB, setAll, partL, fldV, reduceIte, Nat.reduceAdd, Nat.reduceMul, hx0, hrow, sl'.lenG, sl'.idxG, sl'.ldN, hg]
    refine WP.call (hS c (List.mem_of_getElem? hc) cc H nvc) ?_
    rintro _ H1 ⟨e1, c5, rfl, nv⟩
    obtain ⟨s6, rfl, ho6⟩ := nv.inv
    have hrow1 := e1.get hrow
    obtain ⟨s', H3, m1, m2, m3, m4, lg', nb'⟩ := nb.add rfl e1 nv hc4
    have m4' : H3[h1.length]? = some (.cells ⟨[I (wid b n).kind, I (wid b n).st, I (wid b n).lo, I (wid b n).hi, s4], 0, 0, false⟩) := m4
    rw [mkObj_eq] at m1
    simp -implicitDefEqProofs (disch := first | assumption | omega | (simp -implicitDefEqProofs only [gL] <;> omega) | ((repeat (first | exact Ext.refl _ | assumption | apply Ext.app | apply Ext.mk | (refine Ext.setr ?_ (by (first | omega | (simp -implicitDefEqProofs only [gL] <;> omega))) _))); done) | (simp -implicitDefEqProofs only [gL, gA, hrow1, ho6, m1, m4', m2, m3] <;> omega) | fail) only [gB, setAll, partL, fldV, reduceIte, Nat.reduceAdd, Nat.reduceMul, hrow1, ho6, m1, m4', m2, m3]
    rw [← htk] at nb'
    exact ih (i + 1) s' lg' _ _ (by omega) nb'
theorem wid_spec {b : Nat} (hb : b < 2 ^ 62) (n : Nd) : Ok n → WidS b n := by
  refine Nd.ind (p := fun n => Ok n → WidS b n) ?_ n
  intro n ih ok c5 h nv
  refine WP.tot (fun k' => (call_milestonelaw5_wider k' _ _ h).trans (milestonelaw5_wider_eq tab k' _ _ h)) ?_
  obtain ⟨s5, css, rfl, sl5, nvs⟩ := nv.inv
  cases ok with
  | mk o1 o2 o3 o4 o5 =>
  have ho5 : s5.one = true := sl5.one
  obtain ⟨h1, hh1⟩ : ∃ h1, h1 = (h ++ [AObj.cells ⟨[I n.kind, I n.st, I n.lo, I n.hi, s5], 0, 0, false⟩]) ++ [AObj.cells ⟨[I 0, I 0, I 0, I 0, .nils], 0, 0, false⟩] := ⟨_, rfl⟩
  have e1 : Ext h h1 := by rw [hh1]; ((repeat (first | exact Ext.refl _ | assumption | apply Ext.app | apply Ext.mk | (refine Ext.setr ?_ (by (first | omega | (simp -implicitDefEqProofs only [gL] <;> omega))) _))))
  have mc : WC h h1 n s5 css := ⟨e1, by rw [hh1]; simp, by rw [hh1]; simp, by rw [hh1]; simp, sl5.ext e1, nvs.keeps (.ofExt e1)⟩
  have hx0 := mc.r0
  have hl1 := mc.len
  obtain ⟨w1, w2, w3, w4, w5⟩ := wid_hd b n
  have hlen : h.length + 1 + 1 = h1.length := hl1.symm
  have loop := fun (X : Heap) (hX : X = h1 ++ [AObj.cells ⟨[I (wid b n).kind, I (wid b n).st, I (wid b n).lo, I (wid b n).hi, .nils], 0, 0, false⟩]) =>
    wid_l2 (b := b) mc o4 (fun c hc => ih c hc (o5 c hc)) n.kids.length 0 .nils 0 [] X (by omega) (by rw [hX]; exact NB.new h1 [I (wid b n).kind, I (wid b n).st, I (wid b n).lo, I (wid b n).hi])
  by_cases hk : n.kind = 1
  · have hor := or_i o1 hb
    simp -implicitDefEqProofs (disch := first | assumption | omega | (simp -implicitDefEqProofs only [gL] <;> omega) | ((repeat (first | exact Ext.refl _ | assumption | apply Ext.app | apply Ext.mk | (refine Ext.setr ?_ (by (first | omega | (simp -implicitDefEqProofs only [gL] <;> omega))) _))); done) | (simp -implicitDefEqProofs only [gL, gA, ho5, hk] <;> omega) | fail) only [gB, setAll, partL, fldV, reduceIte, Nat.reduceAdd, Nat.reduceMul, ho5, hk]
    rw [← hk, ← hh1, hlen, set_last, set_last]
    have ex0 : Ext h1 (h1 ++ [AObj.cells ⟨[I n.kind, I n.st, I n.lo, I n.hi, .nils], 0, 0, false⟩]) := Ext.push h1 _
    have x0 := ex0.get hx0
    have x1 : (h1 ++ [AObj.cells ⟨[I n.kind, I n.st, I n.lo, I n.hi, .nils], 0, 0, false⟩])[h1.length]? = some (.cells ⟨[I n.kind, I n.st, I n.lo, I n.hi, .nils], 0, 0, false⟩) := by simp
    rw [set_last]
    refine WP.congr (fun i => milestonelaw5_wider_b1_eq tab i (I b) (.ptr h.length 0 5 0) (.ptr (h.length + 1) 0 5 0) (.ptr h1.length 0 5 0) _) ?_
    exact WP.ent (loop _ (by rw [w1, w4 hk, w2, w3])) fun i => rfl
  · have hk' : binV .eql .scalar (I n.kind) (.int .i64 1) = some (.bool false) := eql_f hk
    simp -implicitDefEqProofs (disch := first | assumption | omega | (simp -implicitDefEqProofs only [gL] <;> omega) | ((repeat (first | exact Ext.refl _ | assumption | apply Ext.app | apply Ext.mk | (refine Ext.setr ?_ (by (first | omega | (simp -implicitDefEqProofs only [gL] <;> omega))) _))); done) | (simp -implicitDefEqProofs only [gL, gA, ho5, hk'] <;> omega) | fail) only [gB, setAll, partL, fldV, reduceIte, Nat.reduceAdd, Nat.reduceMul, ho5, hk']
    rw [← hh1, hlen, set_last, set_last]
    refine WP.congr (fun i => milestonelaw5_wider_b1_eq tab i (I b) (.ptr h.length 0 5 0) (.ptr (h.length + 1) 0 5 0) (.ptr h1.length 0 5 0) _) ?_
    exact WP.ent (loop _ (by rw [w1, w5 hk, w2, w3])) fun i => rfl
theorem fine_wid {b : Nat} (hb : b < 2 ^ 62) {n : Nd} (h : Fine n) : Fine (wid b n) := by
  revert h
  refine Nd.ind (p := fun n => Fine n → Fine (wid b n)) ?_ n
  rintro n ih ⟨ok, wf⟩
  cases ok with
  | mk o1 o2 o3 o4 o5 =>
  cases wf with
  | mk w1 w2 =>
  obtain ⟨t1, t2, t3, t4, t5⟩ := wid_hd b n
  refine fine_mk ?_ (by rw [t2, t3]; exact w1) (by rw [t3]; exact o3) (by rw [wid_kids, List.length_map]; exact o4) fun c hc => ?_
  · by_cases hk : n.kind = 1
    · rw [t4 hk]; exact Nat.or_lt_two_pow o1 hb
    · rw [t5 hk]; exact o1
  · rw [wid_kids, List.mem_map] at hc
    obtain ⟨d, hd, rfl⟩ := hc
    exact ih d hd ⟨o5 d hd, w2 d hd⟩
theorem cnt_wid (b : Nat) (n : Nd) : cntN (wid b n) = cntN n := by
  refine Nd.ind (p := fun n => cntN (wid b n) = cntN n) ?_ n
  intro n ih
  rw [cntN_kids, cntN_kids n, wid_kids]
  have hm : ∀ l : List Nd, (∀ c ∈ l, cntN (wid b c) = cntN c) → cntL (l.map (wid b)) = cntL l := by
    intro l
    induction l with
    | nil => intro _; rfl
    | cons a l ihl => intro h; simp only [List.map_cons, cntL, h a (by simp), ihl fun c hc => h c (by simp [hc])]
  rw [hm _ ih]
section
variable {h : Heap} {p q ns : AV} {n : Nd} {c5 d5 : List AV} {nz : List Int} {b : Nat}
theorem sets_b2 (na : NA h p n c5) (nb : NA h q (wid b n) d5) (fi : Fine n) (hb : b < 2 ^ 62) (hc : cntN n ≤ 800000) {H : Heap} (e : Ext h H) :
    WP (fun i : Nat => milestonelaw5_MatchSets_b2 tab i p q H) fun r _ => r = .bool true := by
  refine WP.congr (fun i => milestonelaw5_MatchSets_b2_eq tab i p q H) ?_
  have e0 := Ext.refl H
  have na' := na.ext e
  have nb' := nb.ext e
  simp -implicitDefEqProofs (disch := first | assumption | omega | (simp -implicitDefEqProofs only [gL] <;> omega) | ((repeat (first | exact Ext.refl _ | assumption | apply Ext.app | apply Ext.mk | (refine Ext.setr ?_ (by (first | omega | (simp -implicitDefEqProofs only [gL] <;> omega))) _))); done) | (simp -implicitDefEqProofs only [gL, gA, na'.ld, nb'.ld] <;> omega) | fail) only [gB, setAll, partL, fldV, reduceIte, Nat.reduceAdd, Nat.reduceMul, na'.ld, nb'.ld]
  refine WP.call (nul_spec n fi.1 fi.2 c5 H na'.nv) ?_
  rintro _ h1 ⟨e1, b1, rfl, hb1⟩
  have nb1 := nb'.ext e1
  have e0 := Ext.refl h1
  simp -implicitDefEqProofs (disch := first | assumption | omega | (simp -implicitDefEqProofs only [gL] <;> omega) | ((repeat (first | exact Ext.refl _ | assumption | apply Ext.app | apply Ext.mk | (refine Ext.setr ?_ (by (first | omega | (simp -implicitDefEqProofs only [gL] <;> omega))) _))); done) | (simp -implicitDefEqProofs only [gL, gA, nb1.ld] <;> omega) | fail) only [gB, setAll, partL, fldV, reduceIte, Nat.reduceAdd, Nat.reduceMul, nb1.ld]
  refine WP.call (null_spec nb1.nv (fine_wid hb fi).1 (by rw [cnt_wid]; exact hc)) ?_
  rintro _ h2 ⟨e2, b2, rfl, hb2⟩
  have hb1' : b1 = true ↔ In n [] := hb1
  obtain rfl := bool_eq hb1' (hb2.trans In_wid0)
  simp -implicitDefEqProofs (disch := first | assumption | omega | (simp -implicitDefEqProofs only [gL] <;> omega) | ((repeat (first | exact Ext.refl _ | assumption | apply Ext.app | apply Ext.mk | (refine Ext.setr ?_ (by (first | omega | (simp -implicitDefEqProofs only [gL] <;> omega))) _))); done) | (simp -implicitDefEqProofs only [gL, gA] <;> omega) | fail) only [gB, setAll, partL, fldV, reduceIte, Nat.reduceAdd, Nat.reduceMul]
  exact WP.ret rfl
theorem sets_l1 (na : NA h p n c5) (nb : NA h q (wid b n) d5) (fi : Fine n) (hb : b < 2 ^ 62) (hc : cntN n ≤ 800000) (hn : Sl h 1 ns (nz.map encI)) :
    ∀ (d i : Nat) (H : Heap), i + d = 7 → Ext h H → WP (fun p' : Nat × Nat => milestonelaw5_MatchSets_l1 tab p'.1 p'.2 ns p q (I i) H) fun r _ => r = .bool true := by
  intro d
  induction d with
  | zero =>
    intro i H hi e
    refine WP.rnd (fun i' j => milestonelaw5_MatchSets_l1_eq tab i' j ns p q (I i) H) ?_
    simp -implicitDefEqProofs (disch := first | assumption | omega | (simp -implicitDefEqProofs only [gL] <;> omega) | ((repeat (first | exact Ext.refl _ | assumption | apply Ext.app | apply Ext.mk | (refine Ext.setr ?_ (by (first | omega | (simp -implicitDefEqProofs only [gL] <;> omega))) _))); done) | (simp -implicitDefEqProofs only [gL, gA] <;> omega) | fail) only [gB, setAll, partL, fldV, reduceIte, Nat.reduceAdd, Nat.reduceMul]
    exact WP.lv (sets_b2 na nb fi hb hc e) fun i j => rfl
  | succ d ih =>
    intro i H hi e
    refine WP.rnd (fun i' j => milestonelaw5_MatchSets_l1_eq tab i' j ns p q (I i) H) ?_
    simp -implicitDefEqProofs (disch := first | assumption | omega | (simp -implicitDefEqProofs only [gL] <;> omega) | ((repeat (first | exact Ext.refl _ | assumption | apply Ext.app | apply Ext.mk | (refine Ext.setr ?_ (by (first | omega | (simp -implicitDefEqProofs only [gL] <;> omega))) _))); done) | (simp -implicitDefEqProofs only [gL, gA] <;> omega) | fail) only [gB, setAll, partL, fldV, reduceIte, Nat.reduceAdd, Nat.reduceMul]
    rw [show AV.int .i64 4 = I (4 : Int) from rfl]
    refine WP.call (word_spec (hn.ext e) (m := i) (few := 4) (by omega)) ?_
    rintro w H1 ⟨e1, gw⟩
    have na1 := na.ext (e.trans e1)
    have e0 := Ext.refl H1
    have hwl := wordL_len nz i 4
    simp -implicitDefEqProofs (disch := first | assumption | omega | (simp -implicitDefEqProofs only [gL] <;> omega) | ((repeat (first | exact Ext.refl _ | assumption | apply Ext.app | apply Ext.mk | (refine Ext.setr ?_ (by (first | omega | (simp -implicitDefEqProofs only [gL] <;> omega))) _))); done) | (simp -implicitDefEqProofs only [gL, gA, na1.ld] <;> omega) | fail) only [gB, setAll, partL, fldV, reduceIte, Nat.reduceAdd, Nat.reduceMul, na1.ld]
    refine WP.call (match_spec na1.nv fi.1 hc gw.sl (by omega)) ?_
    rintro _ h2 ⟨e2, b1, rfl, hb1⟩
    have nb2 := nb.ext (e.trans (e1.trans e2))
    have e0 := Ext.refl h2
    cases b1 with
    | true =>
      simp -implicitDefEqProofs (disch := first | assumption | omega | (simp -implicitDefEqProofs only [gL] <;> omega) | ((repeat (first | exact Ext.refl _ | assumption | apply Ext.app | apply Ext.mk | (refine Ext.setr ?_ (by (first | omega | (simp -implicitDefEqProofs only [gL] <;> omega))) _))); done) | (simp -implicitDefEqProofs only [gL, gA, nb2.ld] <;> omega) | fail) only [gB, setAll, partL, fldV, reduceIte, Nat.reduceAdd, Nat.reduceMul, nb2.ld]
      refine WP.call (match_spec nb2.nv (fine_wid hb fi).1 (by rw [cnt_wid]; exact hc) (gw.sl.ext e2) (by omega)) ?_
      rintro _ h3 ⟨e3, b2, rfl, hb2⟩
      obtain rfl := bool_t hb2 (In_wid (hb1.1 rfl))
      simp -implicitDefEqProofs (disch := first | assumption | omega | (simp -implicitDefEqProofs only [gL] <;> omega) | ((repeat (first | exact Ext.refl _ | assumption | apply Ext.app | apply Ext.mk | (refine Ext.setr ?_ (by (first | omega | (simp -implicitDefEqProofs only [gL] <;> omega))) _))); done) | (simp -implicitDefEqProofs only [gL, gA] <;> omega) | fail) only [gB, setAll, partL, fldV, reduceIte, Nat.reduceAdd, Nat.reduceMul]
      exact ih (i + 1) h3 (by omega) (e.trans (e1.trans (e2.trans e3)))
    | false =>
      simp -implicitDefEqProofs (disch := first | assumption | omega | (simp -implicitDefEqProofs only [gL] <;> omega) | ((repeat (first | exact Ext.refl _ | assumption | apply Ext.app | apply Ext.mk | (refine Ext.setr ?_ (by (first | omega | (simp -implicitDefEqProofs only [gL] <;> omega))) _))); done) | (simp -implicitDefEqProofs only [gL, gA] <;> omega) | fail) only [gB, setAll, partL, fldV, reduceIte, Nat.reduceAdd, Nat.reduceMul]
      exact ih (i + 1) h2 (by omega) (e.trans (e1.trans e2))
theorem sets_spec {l : List Rw} {s : AV} {css : List (List AV)} {a bb md : Int} (hs : Sl h 3 s css) (hr : RVs h l css) (hn : Sl h 1 ns (nz.map encI)) :
    Tot tab f_milestonelaw5_MatchSets [I a, I bb, I md, s, ns] h fun r _ => r = .bool true := by
  refine WP.tot (fun k => (call_milestonelaw5_MatchSets k _ _ _ _ _ h).trans (milestonelaw5_MatchSets_eq tab k _ _ _ _ _ h)) ?_
  refine WP.call (known_spec h) ?_
  rintro _ h1 ⟨rfl, e1⟩
  simp -implicitDefEqProofs (disch := first | assumption | omega | (simp -implicitDefEqProofs only [gL] <;> omega) | ((repeat (first | exact Ext.refl _ | assumption | apply Ext.app | apply Ext.mk | (refine Ext.setr ?_ (by (first | omega | (simp -implicitDefEqProofs only [gL] <;> omega))) _))); done) | (simp -implicitDefEqProofs only [gL, gA] <;> omega) | fail) only [gB, setAll, partL, fldV, reduceIte, Nat.reduceAdd, Nat.reduceMul]
  refine WP.call (few_spec (hs.ext e1) (hr.ext e1)) ?_
  rintro _ _ ⟨rfl, rfl⟩
  by_cases hf : szF 7 l ≤ 14
  · rw [decide_eq_true hf]
    simp -implicitDefEqProofs (disch := first | assumption | omega | (simp -implicitDefEqProofs only [gL] <;> omega) | ((repeat (first | exact Ext.refl _ | assumption | apply Ext.app | apply Ext.mk | (refine Ext.setr ?_ (by (first | omega | (simp -implicitDefEqProofs only [gL] <;> omega))) _))); done) | (simp -implicitDefEqProofs only [gL, gA] <;> omega) | fail) only [gB, setAll, partL, fldV, reduceIte, Nat.reduceAdd, Nat.reduceMul]
    refine WP.call (within5_spec (n := 31) (by omega) (by unfold Fit; omega) h1) ?_
    rintro _ _ ⟨rfl, rfl⟩
    have a1 : 0 ≤ a % 31 ∧ a % 31 < 31 := ⟨Int.emod_nonneg _ (by omega), Int.emod_lt_of_pos _ (by omega)⟩
    have a2 : 0 ≤ md % 5 ∧ md % 5 < 5 := ⟨Int.emod_nonneg _ (by omega), Int.emod_lt_of_pos _ (by omega)⟩
    have a3 : 0 ≤ bb % 32 ∧ bb % 32 < 32 := ⟨Int.emod_nonneg _ (by omega), Int.emod_lt_of_pos _ (by omega)⟩
    obtain ⟨x, hx⟩ : ∃ x : Nat, 1 + a % 31 = x := ⟨(1 + a % 31).toNat, by omega⟩
    obtain ⟨b, hb⟩ : ∃ b : Nat, bb % 32 = b := ⟨(bb % 32).toNat, by omega⟩
    obtain ⟨m, hm⟩ : ∃ m : Int, md % 5 = m := ⟨_, rfl⟩
    simp -implicitDefEqProofs (disch := first | assumption | omega | (simp -implicitDefEqProofs only [gL] <;> omega) | ((repeat (first | exact Ext.refl _ | assumption | apply Ext.app | apply Ext.mk | (refine Ext.setr ?_ (by (first | omega | (simp -implicitDefEqProofs only [gL] <;> omega))) _))); done) | (simp -implicitDefEqProofs only [gL, gA, hx] <;> omega) | fail) only [gB, setAll, partL, fldV, reduceIte, Nat.reduceAdd, Nat.reduceMul, hx]
    refine WP.call (within5_spec (n := 5) (by omega) (by unfold Fit; omega) h1) ?_
    rintro _ _ ⟨rfl, rfl⟩
    rw [hm] at a2 ⊢
    obtain ⟨h3, hh3⟩ : ∃ h3, h3 = h1 ++ [AObj.cells ⟨[I 1, I x, I 0, I 0, .nils], 0, 0, false⟩] := ⟨_, rfl⟩
    have e3 : Ext h1 h3 := by rw [hh3]; exact Ext.push _ _
    have r0 : h3[h1.length]? = some (.cells ⟨[I 1, I x, I 0, I 0, .nils], 0, 0, false⟩) := by rw [hh3]; simp
    have fx : Fine (.set x) := fine_set (by omega)
    have hl3 : h3.length = h1.length + 1 := by rw [hh3]; simp
    simp -implicitDefEqProofs (disch := first | assumption | omega | (simp -implicitDefEqProofs only [gL] <;> omega) | ((repeat (first | exact Ext.refl _ | assumption | apply Ext.app | apply Ext.mk | (refine Ext.setr ?_ (by (first | omega | (simp -implicitDefEqProofs only [gL] <;> omega))) _))); done) | (simp -implicitDefEqProofs only [gL, gA, set_lastO] <;> omega) | fail) only [gB, setAll, partL, fldV, reduceIte, Nat.reduceAdd, Nat.reduceMul, set_lastO]
    rw [← hh3, ← hl3]
    have e4 : Ext h3 (h3 ++ [AObj.cells ⟨[I m], 0, 0, false⟩]) := Ext.push _ _
    refine WP.call (match_spec (w := [m]) (nv_set x) fx.1 (by simp [cntN]) (sl_lit h3 [m]) (by simp)) ?_
    rintro _ h4 ⟨e5, b1, rfl, hb1⟩
    have hbit : b1 = x.testBit m.toNat := by
      have : In (.set x) [m] ↔ x.testBit m.toNat = true := by
        rw [In_set]
        constructor
        · rintro ⟨c, h1, _, _, h2⟩
          simp only [List.cons.injEq, and_true] at h1
          subst h1; exact h2
        · intro h; exact ⟨m, rfl, a2.1, a2.2, h⟩
      exact bool_eq hb1 this.symm
    have heq : binV .eql .scalar (I (((x >>> m.toNat) &&& 1 : Nat) : Int)) (.int .i64 1) = some (.bool b1) := by
      rw [hbit]
      cases hq : x.testBit m.toNat with
      | true => exact bit_t a2.1 hq
      | false => exact bit_f a2.1 hq
    have hlt : x >>> m.toNat < 2 ^ 62 := by
      rw [Nat.shiftRight_eq_div_pow]
      exact Nat.lt_of_le_of_lt (Nat.div_le_self _ _) (by omega)
    have hand : binV .and .scalar (I ((x >>> m.toNat : Nat) : Int)) (.int .i64 1) = some (I ((x >>> m.toNat &&& 1 : Nat) : Int)) := and_i (b := 1) hlt (by omega)
    have r4 := e5.get (e4.get r0)
    simp -implicitDefEqProofs (disch := first | assumption | omega | (simp -implicitDefEqProofs only [gL] <;> omega) | ((repeat (first | exact Ext.refl _ | assumption | apply Ext.app | apply Ext.mk | (refine Ext.setr ?_ (by (first | omega | (simp -implicitDefEqProofs only [gL] <;> omega))) _))); done) | (simp -implicitDefEqProofs only [gL, gA, hand, heq, r4] <;> omega) | fail) only [gB, setAll, partL, fldV, reduceIte, Nat.reduceAdd, Nat.reduceMul, hand, heq, r4]
    refine WP.call (match_spec (w := []) (nv_set x) fx.1 (by simp [cntN]) sl_nil (by simp)) ?_
    rintro _ h5 ⟨e6, b2, rfl, hb2⟩
    obtain rfl := bool_f hb2 (fun q => by obtain ⟨c, h1, _⟩ := In_set.1 q; cases h1)
    have r5 := e6.get r4
    simp -implicitDefEqProofs (disch := first | assumption | omega | (simp -implicitDefEqProofs only [gL] <;> omega) | ((repeat (first | exact Ext.refl _ | assumption | apply Ext.app | apply Ext.mk | (refine Ext.setr ?_ (by (first | omega | (simp -implicitDefEqProofs only [gL] <;> omega))) _))); done) | (simp -implicitDefEqProofs only [gL, gA, r5] <;> omega) | fail) only [gB, setAll, partL, fldV, reduceIte, Nat.reduceAdd, Nat.reduceMul, r5]
    have e7 : Ext h5 (h5 ++ [AObj.cells ⟨[I m, I m], 0, 0, false⟩]) := Ext.push _ _
    refine WP.call (match_spec (w := [m, m]) (nv_set x) fx.1 (by simp [cntN]) (sl_lit h5 [m, m]) (by simp)) ?_
    rintro _ h6 ⟨e8, b3, rfl, hb3⟩
    obtain rfl := bool_f hb3 (fun q => by obtain ⟨c, h1, _⟩ := In_set.1 q; simp at h1)
    simp -implicitDefEqProofs (disch := first | assumption | omega | (simp -implicitDefEqProofs only [gL] <;> omega) | ((repeat (first | exact Ext.refl _ | assumption | apply Ext.app | apply Ext.mk | (refine Ext.setr ?_ (by (first | omega | (simp -implicitDefEqProofs only [gL] <;> omega))) _))); done) | (simp -implicitDefEqProofs only [gL, gA] <;> omega) | fail) only [gB, setAll, partL, fldV, reduceIte, Nat.reduceAdd, Nat.reduceMul]
    have ee := e1.trans (e3.trans (e4.trans (e5.trans (e6.trans (e7.trans e8)))))
    refine WP.call (one_spec4 (hs.ext ee) (hr.ext ee)) ?_
    rintro _ h7 ⟨e9, c5, rfl, nv⟩
    obtain ⟨s5, rfl, ho5⟩ := nv.inv
    have fi := fine_one l
    have hcn := cnt_one l hf
    generalize oneN l = n at *
    obtain ⟨h8, hh8⟩ : ∃ h8, h8 = (h7 ++ [AObj.cells ⟨[I n.kind, I n.st, I n.lo, I n.hi, s5], 0, 0, false⟩]) ++ [AObj.cells ⟨[I 0, I 0, I 0, I 0, .nils], 0, 0, false⟩] := ⟨_, rfl⟩
    have na : NA h8 (.ptr h7.length 0 5 0) n [I n.kind, I n.st, I n.lo, I n.hi, s5] := by rw [hh8]; exact (NA.new nv.nv).ext (Ext.push _ _)
    have e10 : Ext h7 h8 := by rw [hh8]; exact (Ext.push _ _).trans (Ext.push _ _)
    have e0 := Ext.refl h8
    have x8 : h8[h7.length + 1]? = some (.cells ⟨[I 0, I 0, I 0, I 0, .nils], 0, 0, false⟩) := by rw [hh8]; simp
    have y8 : h8[h7.length]? = some (.cells ⟨[I n.kind, I n.st, I n.lo, I n.hi, s5], 0, 0, false⟩) := by rw [hh8]; simp
    have hl8 : h8.length = h7.length + 2 := by rw [hh8]; simp
    simp -implicitDefEqProofs (disch := first | assumption | omega | (simp -implicitDefEqProofs only [gL] <;> omega) | ((repeat (first | exact Ext.refl _ | assumption | apply Ext.app | apply Ext.mk | (refine Ext.setr ?_ (by (first | omega | (simp -implicitDefEqProofs only [gL] <;> omega))) _))); done) | (simp -implicitDefEqProofs only [gL, gA, ho5, set_lastO] <;> omega) | fail) only [gB, setAll, partL, fldV, reduceIte, Nat.reduceAdd, Nat.reduceMul, ho5, set_lastO]
    rw [← hh8]
    refine WP.call (within5_spec (n := 32) (by omega) (by unfold Fit; omega) h8) ?_
    rintro _ _ ⟨rfl, rfl⟩
    simp -implicitDefEqProofs (disch := first | assumption | omega | (simp -implicitDefEqProofs only [gL] <;> omega) | ((repeat (first | exact Ext.refl _ | assumption | apply Ext.app | apply Ext.mk | (refine Ext.setr ?_ (by (first | omega | (simp -implicitDefEqProofs only [gL] <;> omega))) _))); done) | (simp -implicitDefEqProofs only [gL, gA, y8, hb] <;> omega) | fail) only [gB, setAll, partL, fldV, reduceIte, Nat.reduceAdd, Nat.reduceMul, y8, hb]
    refine WP.call (wid_spec (b := b) (by omega) n fi.1 _ h8 na.nv) ?_
    rintro _ h9 ⟨e11, d5, rfl, nvt⟩
    obtain ⟨s6, rfl, ho6⟩ := nvt.inv
    have x9 := e11.get x8
    have hl9 := e11.len
    obtain ⟨hA, hhA⟩ : ∃ hA, hA = h9.set (h7.length + 1) (.cells ⟨[I (wid b n).kind, I (wid b n).st, I (wid b n).lo, I (wid b n).hi, s6], 0, 0, false⟩) := ⟨_, rfl⟩
    have f9 : FrS (fun o => o = h7.length + 1) h9 hA := by rw [hhA]; exact FrS.set1 ..
    have eA : Ext h7 hA := f9.ext (e10.trans e11) fun o ho q => by omega
    have nA : NA hA (.ptr h7.length 0 5 0) n [I n.kind, I n.st, I n.lo, I n.hi, s5] := by
      refine ⟨?_, nv.nv.keeps (.ofExt eA)⟩
      refine At.row (wg := 0) (g := 0) (ro := false) ?_ (Nat.le_refl _) rfl
      rw [f9.get (by omega) (by omega)]
      exact e11.get y8
    have nB : NA hA (.ptr (h7.length + 1) 0 5 0) (wid b n) [I (wid b n).kind, I (wid b n).st, I (wid b n).lo, I (wid b n).hi, s6] := by
      refine ⟨At.row (wg := 0) (g := 0) (ro := false) ?_ (Nat.le_refl _) rfl, ?_⟩
      · rw [hhA, List.getElem?_set_self (by omega)]
      · exact (nvt.frs f9 (D' := fun _ => True) (fun o h1 h2 h3 => by omega) fun _ _ _ => trivial).nv
    simp -implicitDefEqProofs (disch := first | assumption | omega | (simp -implicitDefEqProofs only [gL] <;> omega) | ((repeat (first | exact Ext.refl _ | assumption | apply Ext.app | apply Ext.mk | (refine Ext.setr ?_ (by (first | omega | (simp -implicitDefEqProofs only [gL] <;> omega))) _))); done) | (simp -implicitDefEqProofs only [gL, gA, x9, ho6] <;> omega) | fail) only [gB, setAll, partL, fldV, reduceIte, Nat.reduceAdd, Nat.reduceMul, x9, ho6]
    rw [← hhA, show AV.int .i64 0 = I ((0 : Nat) : Int) from rfl]
    exact WP.ent (sets_l1 nA nB fi (by omega) (by omega) (hn.ext ((ee.trans e9).trans eA)) 7 0 _ rfl (Ext.refl _)) fun i => rfl
  · rw [decide_eq_false hf]
    simp -implicitDefEqProofs (disch := first | assumption | omega | (simp -implicitDefEqProofs only [gL] <;> omega) | ((repeat (first | exact Ext.refl _ | assumption | apply Ext.app | apply Ext.mk | (refine Ext.setr ?_ (by (first | omega | (simp -implicitDefEqProofs only [gL] <;> omega))) _))); done) | (simp -implicitDefEqProofs only [gL, gA] <;> omega) | fail) only [gB, setAll, partL, fldV, reduceIte, Nat.reduceAdd, Nat.reduceMul]
    exact WP.ret rfl
end
end Go.Gm.A5
