/- A part of the proof (GmA5L6): an abstract machine, what it does, and what the functions of the program come to on it. -/
import Derived.Test.YtdpmglimjmecgaaGmA5L2
set_option linter.unusedVariables false
set_option linter.unusedSimpArgs false
namespace Go.Gm.A5
open Go Go.Gm

/-- An expression whose row of parts grows; both lie behind Hb. -/
structure NC (Hb H : Heap) (no : Nat) (q : List AV) (s : AV) (lg : Nat) (l : List Nd) (css : List (List AV)) : Prop where
  ext : Ext Hb H
  nol : Hb.length ≤ no ∧ no < H.length
  row : H[no]? = some (.cells ⟨q ++ [s], 0, 0, false⟩)
  gr : Gr lg (lg + 1) H 5 s css
  lgl : s ≠ .nils → Hb.length ≤ lg ∧ lg < H.length ∧ lg ≠ no
  nvs : NVDs H (fun o => o ≠ no ∧ ¬ (s ≠ .nils ∧ o = lg)) l css
section
variable {Hb H : Heap} {no : Nat} {q : List AV} {s : AV} {lg : Nat} {l : List Nd} {css : List (List AV)}
theorem NC.add (a : NC Hb H no q s lg l css) {n : Nd} {c5 : List AV} (nv : NVD H (fun o => o < Hb.length) n c5) (hl : css.length ≤ 1000) :
    ∃ s' H3, apnd 5 56 s (.sl H.length 0 1 5 none 0) (mkObj H c5) = some (s', H3) ∧ s'.one = true ∧ s'.cells = [s'] ∧ H3[no]? = some (.cells ⟨q ++ [s], 0, 0, false⟩) ∧ ∃ lg', NC Hb (H3.set no (.cells ⟨q ++ [s'], 0, 0, false⟩)) no q s' lg' (l ++ [n]) (css ++ [c5]) := by
  have e3 : Ext H (mkObj H c5) := Ext.push H _
  have hl3 : (mkObj H c5).length = H.length + 1 := by simp [mkObj]
  have hH := a.nol
  obtain ⟨s', H3, lg', m1, m2, m3, m4, m5⟩ := Gr.appQ (bytes := 56) (a.gr.ext e3) (fun q => by have := (a.lgl q).2.1; omega) (Gr.lit (sz := 5) (v := c5) nv.len).sl (by omega) (by omega) (by simp; omega)
  have hlen := m4.len
  have hrow : H3[no]? = some (.cells ⟨q ++ [s], 0, 0, false⟩) := (m4.get (fun z => (a.lgl z.1).2.2 z.2.symm) (by omega)).trans (e3.get a.row)
  refine ⟨s', H3, m1, m2.sl.one, m2.sl.cells, hrow, lg', ?_⟩
  have hs' : s' ≠ .nils := m2.nnil (by simp)
  have f : FrS (fun o => o = no ∨ (s ≠ .nils ∧ o = lg)) (mkObj H c5) (H3.set no (.cells ⟨q ++ [s'], 0, 0, false⟩)) := by
    refine ⟨by simp; omega, fun o h1 h2 => ?_⟩
    rw [List.getElem?_set_ne (fun z => h1 (.inl z.symm)), m4.get (fun z => h1 (.inr z)) h2]
  have hlg' : Hb.length ≤ lg' ∧ lg' < H3.length ∧ lg' ≠ no := by
    refine ⟨?_, (m3 hs').2, ?_⟩
    · rcases (m3 hs').1 with ⟨q1, q2⟩ | q1
      · rw [q1]; exact (a.lgl q2).1
      · have := a.ext.len; omega
    · rcases (m3 hs').1 with ⟨q1, q2⟩ | q1
      · rw [q1]; exact (a.lgl q2).2.2
      · omega
  have hold : ∀ o, o < H.length + 1 → o = lg' → s ≠ .nils ∧ o = lg := by
    intro o h1 h2
    rcases (m3 hs').1 with ⟨q1, q2⟩ | q1
    · exact ⟨q2, h2.trans q1⟩
    · omega
  refine ⟨f.ext (a.ext.trans e3) fun o h1 h2 => ?_, ⟨hH.1, by simp; omega⟩, by rw [List.getElem?_set_self (by omega)], m2.set (by omega) _, fun _ => by simp; exact hlg', NVDs.snoc (n := n) (cs := c5) ?_ ?_⟩
  · rcases h2 with h2 | h2
    · omega
    · have := (a.lgl h2.1).1; omega
  · refine (nv.ext e3 (D' := fun o => o < Hb.length) fun _ _ z => z).frs f (fun o h1 h2 h3 => ?_) fun o h1 h2 => ⟨by omega, fun z => by omega⟩
    rcases h3 with h3 | h3
    · omega
    · have := (a.lgl h3.1).1; omega
  · refine (a.nvs.frs (E := fun _ => False) (FrS.ofExt e3) (fun _ _ _ z => z) (D' := fun o => o ≠ no ∧ ¬ (s ≠ .nils ∧ o = lg)) fun _ _ z => z).frs f (fun o h1 h2 h3 => ?_) fun o h1 h2 => ⟨h2.1, fun z => h2.2 (hold o (by omega) z.2)⟩
    rcases h3 with h3 | h3
    · exact h2.1 h3
    · exact h2.2 h3
theorem NC.done (a : NC Hb H no q s lg l css) {n : Nd} (hq : q = [I n.kind, I n.st, I n.lo, I n.hi]) (hl : n.kids = l) : NV H n (q ++ [s]) := by
  subst hq hl
  exact .mk a.gr.sl a.nvs.nvs
end
section
variable {h : Heap} {p w0 ns : AV} {n : Nd} {c5 : List AV} {nz : List Int} {fw : Int} {w : List Int} {a b : Nat}
/-- So many joined. -/
def jn (n : Nd) (k : Nat) : Nd := .join (.eps :: .eps :: List.replicate k n)
theorem fine_jn {n : Nd} (fi : Fine n) {k : Nat} (hk : k ≤ 900) : Fine (jn n k) := by
  refine fine_mk (by simp [jn, Nd.st]) (Nat.le_refl _) (Nat.zero_le _) (by simp [jn, Nd.kids]; omega) fun c hc => ?_
  simp only [jn, Nd.kids, List.mem_cons, List.mem_replicate] at hc
  rcases hc with rfl | rfl | ⟨_, rfl⟩
  · exact fine_leaf rfl (by simp [Nd.st]) (Nat.le_refl _) (Nat.zero_le _)
  · exact fine_leaf rfl (by simp [Nd.st]) (Nat.le_refl _) (Nat.zero_le _)
  · exact fi
theorem cnt_jn (n : Nd) (k : Nat) : cntN (jn n k) = 3 + k * cntN n := by
  have : ∀ k, cntL (List.replicate k n) = k * cntN n := by
    intro k
    induction k with
    | zero => simp [cntL]
    | succ k ih => rw [List.replicate_succ, cntL, ih, Nat.add_mul]; omega
  simp only [jn, cntN, cntL, this]; omega
theorem times_l2 (na : NA h p n c5) (nd : NVD h (fun o => o < h.length) n c5) {Hb : Heap} (eb : Ext h Hb) {k : Nat} (hk : k ≤ 10) {is : Bool} {Q : AV → Heap → Prop} {no : Nat}
    (hc : ∀ (H : Heap) (s : AV) , Ext Hb H → H[no]? = some (.cells ⟨[I 4, I 0, I 0, I 0, s], 0, 0, false⟩) → NV H (jn n k) [I 4, I 0, I 0, I 0, s] → WP (fun p' : Nat × Nat => milestonelaw5_MatchTimes_b3 tab p'.1 p'.2 p (I a) (I b) w0 (.bool is) (I k) (.ptr no 0 5 0) H) Q) :
    ∀ (d i : Nat) (s : AV) (lg : Nat) (css : List (List AV)) (H : Heap), i + d = k → NC Hb H no [I 4, I 0, I 0, I 0] s lg (.eps :: .eps :: List.replicate i n) css →
      WP (fun p' : (Nat × Nat) × Nat => milestonelaw5_MatchTimes_l2 tab p'.1.1 p'.1.2 p'.2 p (I a) (I b) w0 (.bool is) (I k) (.ptr no 0 5 0) (I i) H) Q := by
  intro d
  induction d with
  | zero =>
    intro i s lg css H hi nc
    refine WP.rnd (fun i' j => milestonelaw5_MatchTimes_l2_eq tab i'.1 i'.2 j p (I a) (I b) w0 (.bool is) (I k) (.ptr no 0 5 0) (I i) H) ?_
    simp -implicitDefEqProofs (disch := first | assumption | omega | (simp -implicitDefEqProofs only [gL] <;> omega) | ((repeat (first | exact Ext.refl _ | assumption | apply Ext.app | apply Ext.mk | (refine Ext.setr ?_ (by (first | omega | (simp -implicitDefEqProofs only [gL] <;> omega))) _))); done) | (simp -implicitDefEqProofs only [gL, gA] <;> omega) | fail) only [gB, setAll, partL, fldV, reduceIte, Nat.reduceAdd, Nat.reduceMul]
    obtain rfl : i = k := by omega
    refine WP.lv (hc H s nc.ext nc.row (nc.done (n := jn n i) rfl rfl)) fun i j => rfl
  | succ d ih =>
    intro i s lg css H hi nc
    refine WP.rnd (fun i' j => milestonelaw5_MatchTimes_l2_eq tab i'.1 i'.2 j p (I a) (I b) w0 (.bool is) (I k) (.ptr no 0 5 0) (I i) H) ?_
    have hrow : H[no]? = some (.cells ⟨[I 4, I 0, I 0, I 0, s], 0, 0, false⟩) := nc.row
    have ee := eb.trans nc.ext
    have na1 := na.ext ee
    have hle := eb.len
    have hcl : css.length ≤ 1000 := by rw [← nc.nvs.len]; simp; omega
    have e0 := Ext.refl H
    have nv : NVD H (fun o => o < Hb.length) n c5 := nd.ext ee fun o _ z => by omega
    obtain ⟨s', H3, m1, m2, m3, m4, lg', nc'⟩ := nc.add nv hcl
    obtain ⟨s5, rfl, ho5⟩ := nv.inv
    have m4' : H3[no]? = some (.cells ⟨[I 4, I 0, I 0, I 0, s], 0, 0, false⟩) := m4
    rw [mkObj_eq] at m1
    simp -implicitDefEqProofs (disch := first | assumption | omega | (simp -implicitDefEqProofs only [gL] <;> omega) | ((repeat (first | exact Ext.refl _ | assumption | apply Ext.app | apply Ext.mk | (refine Ext.setr ?_ (by (first | omega | (simp -implicitDefEqProofs only [gL] <;> omega))) _))); done) | (simp -implicitDefEqProofs only [gL, gA, hrow, na1.ld, ho5, m1, m4', m2, m3] <;> omega) | fail) only [gB, setAll, partL, fldV, reduceIte, Nat.reduceAdd, Nat.reduceMul, hrow, na1.ld, ho5, m1, m4', m2, m3]
    have hrep : Nd.eps :: Nd.eps :: List.replicate i n ++ [n] = Nd.eps :: Nd.eps :: List.replicate (i + 1) n := by
      rw [List.replicate_succ']; rfl
    rw [hrep] at nc'
    exact ih (i + 1) s' lg' _ _ (by omega) nc'
theorem times_b5 (na : NA h p n c5) (fi : Fine n) (hcn : cntN n ≤ 1000) (hab : a ≤ b) (hb : b ≤ 10) (hwl : w.length ≤ 1000) (hw : Sl h 1 w0 (w.map encI)) {is : Bool} (his : is = true ↔ ∃ k, a ≤ k ∧ k ≤ b ∧ In (jn n k) w) {H : Heap} (e : Ext h H) :
    WP (fun i : Nat => milestonelaw5_MatchTimes_b5 tab i p (I a) (I b) w0 (.bool is) H) fun r _ => r = .bool true := by
  refine WP.congr (fun i => milestonelaw5_MatchTimes_b5_eq tab i p (I a) (I b) w0 (.bool is) H) ?_
  have na' := na.ext e
  have e0 := Ext.refl H
  have hc5 := na'.nv.len
  have hc51 := na'.nv.one
  have nR : NV (H ++ [AObj.cells ⟨c5, 0, 0, false⟩]) (.rep a b n) [I 9, I 0, I a, I b, .sl H.length 0 1 5 none 0] :=
    nv_one (n := .rep a b n) rfl (by simp) (na'.nv.keeps (.ofExt (Ext.push H _)))
  have fR : Fine (.rep a b n) := fine_mk (by simp [Nd.st]) hab (by simp only [Nd.hi]; omega) (by simp [Nd.kids]) (by simp [Nd.kids]; exact fi)
  obtain ⟨s5, _, rfl, sl5, _⟩ := na'.nv.inv
  have ho5 : s5.one = true := sl5.one
  simp -implicitDefEqProofs (disch := first | assumption | omega | (simp -implicitDefEqProofs only [gL] <;> omega) | ((repeat (first | exact Ext.refl _ | assumption | apply Ext.app | apply Ext.mk | (refine Ext.setr ?_ (by (first | omega | (simp -implicitDefEqProofs only [gL] <;> omega))) _))); done) | (simp -implicitDefEqProofs only [gL, gA, na'.ld, ho5] <;> omega) | fail) only [gB, setAll, partL, fldV, reduceIte, Nat.reduceAdd, Nat.reduceMul, na'.ld, ho5]
  refine WP.call (match_spec nR fR.1 (by simp [cntN]; omega) ((hw.ext e).ext (Ext.push H _)) (by omega)) ?_
  rintro _ h2 ⟨e2, b1, rfl, hb1⟩
  obtain rfl := bool_eq (hb1.trans In_rep) his
  simp -implicitDefEqProofs (disch := first | assumption | omega | (simp -implicitDefEqProofs only [gL] <;> omega) | ((repeat (first | exact Ext.refl _ | assumption | apply Ext.app | apply Ext.mk | (refine Ext.setr ?_ (by (first | omega | (simp -implicitDefEqProofs only [gL] <;> omega))) _))); done) | (simp -implicitDefEqProofs only [gL, gA] <;> omega) | fail) only [gB, setAll, partL, fldV, reduceIte, Nat.reduceAdd, Nat.reduceMul]
  exact WP.ret rfl
theorem times_l1 (na : NA h p n c5) (nd : NVD h (fun o => o < h.length) n c5) (fi : Fine n) (hcn : cntN n ≤ 1000) (hab : a ≤ b) (hb : b ≤ 10) (hwl : w.length ≤ 1000) (hw : Sl h 1 w0 (w.map encI)) :
    ∀ (d k : Nat) (is : Bool) (H : Heap), k + d = b + 1 → a ≤ k → (is = true ↔ ∃ j, a ≤ j ∧ j < k ∧ In (jn n j) w) → Ext h H →
      WP (fun p' : Nat × Nat => milestonelaw5_MatchTimes_l1 tab p'.1 p'.2 p (I a) (I b) w0 (.bool is) (I k) H) fun r _ => r = .bool true := by
  intro d
  induction d with
  | zero =>
    intro k is H hk hak his e
    refine WP.rnd (fun i' j => milestonelaw5_MatchTimes_l1_eq tab i' j p (I a) (I b) w0 (.bool is) (I k) H) ?_
    simp -implicitDefEqProofs (disch := first | assumption | omega | (simp -implicitDefEqProofs only [gL] <;> omega) | ((repeat (first | exact Ext.refl _ | assumption | apply Ext.app | apply Ext.mk | (refine Ext.setr ?_ (by (first | omega | (simp -implicitDefEqProofs only [gL] <;> omega))) _))); done) | (simp -implicitDefEqProofs only [gL, gA] <;> omega) | fail) only [gB, setAll, partL, fldV, reduceIte, Nat.reduceAdd, Nat.reduceMul]
    refine WP.lv (times_b5 na fi hcn hab hb hwl hw (his.trans ⟨fun ⟨j, h1, h2, h3⟩ => ⟨j, h1, by omega, h3⟩, fun ⟨j, h1, h2, h3⟩ => ⟨j, h1, by omega, h3⟩⟩) e) fun i j => rfl
  | succ d ih =>
    intro k is H hk hak his e
    refine WP.rnd (fun i' j => milestonelaw5_MatchTimes_l1_eq tab i' j p (I a) (I b) w0 (.bool is) (I k) H) ?_
    simp -implicitDefEqProofs (disch := first | assumption | omega | (simp -implicitDefEqProofs only [gL] <;> omega) | ((repeat (first | exact Ext.refl _ | assumption | apply Ext.app | apply Ext.mk | (refine Ext.setr ?_ (by (first | omega | (simp -implicitDefEqProofs only [gL] <;> omega))) _))); done) | (simp -implicitDefEqProofs only [gL, gA, set_lastO] <;> omega) | fail) only [gB, setAll, partL, fldV, reduceIte, Nat.reduceAdd, Nat.reduceMul, set_lastO]
    obtain ⟨H1, hH1⟩ : ∃ H1, H1 = (H ++ [AObj.cells ⟨[I 3, I 0, I 0, I 0, .nils, I 3, I 0, I 0, I 0, .nils], 0, 0, false⟩]) ++ [AObj.cells ⟨[I 4, I 0, I 0, I 0, .sl H.length 0 2 5 none 0], 0, 0, false⟩] := ⟨_, rfl⟩
    have e1 : Ext H H1 := by rw [hH1]; exact (Ext.push _ _).trans (Ext.push _ _)
    have nc : NC H H1 (H.length + 1) [I 4, I 0, I 0, I 0] (.sl H.length 0 2 5 none 0) H.length (.eps :: .eps :: List.replicate 0 n) [[I 3, I 0, I 0, I 0, .nils], [I 3, I 0, I 0, I 0, .nils]] := by
      refine ⟨e1, ⟨by omega, by rw [hH1]; simp⟩, by rw [hH1]; simp, .inr ⟨H.length, 0, 0, [I 3, I 0, I 0, I 0, .nils, I 3, I 0, I 0, I 0, .nils], Nat.le_refl _, by omega, rfl, by rw [hH1]; simp, Nat.le_refl _, rfl, by simp⟩, fun _ => ⟨Nat.le_refl _, by rw [hH1]; simp, by omega⟩, ?_⟩
      exact .cons (nvd_leaf (n := .eps) rfl) (.cons (nvd_leaf (n := .eps) rfl) .nil)
    rw [show AV.int .i64 0 = I ((0 : Nat) : Int) from rfl]
    refine WP.ent (times_l2 (Q := fun r _ => r = .bool true) (a := a) (b := b) (w0 := w0) (is := is) (k := k) na nd e (by omega) (fun H2 s e2 hr nv => ?_) k 0 _ _ _ H1 (by omega) nc) fun i => ?_
    · refine WP.congr (fun p' => milestonelaw5_MatchTimes_b3_eq tab p'.1 p'.2 p (I a) (I b) w0 (.bool is) (I k) (.ptr (H.length + 1) 0 5 0) H2) ?_
      have nx : ∀ (x : Bool) (H3 : Heap), Ext H2 H3 → (x = true ↔ is = true ∨ In (jn n k) w) → WP (fun p' : Nat × Nat => milestonelaw5_MatchTimes_b4 tab p'.1 p'.2 p (I a) (I b) w0 (.bool x) (I k) H3) fun r _ => r = .bool true := by
        intro x H3 e3 hx
        refine WP.congr (fun p' => milestonelaw5_MatchTimes_b4_eq tab p'.1 p'.2 p (I a) (I b) w0 (.bool x) (I k) H3) ?_
        simp -implicitDefEqProofs (disch := first | assumption | omega | (simp -implicitDefEqProofs only [gL] <;> omega) | ((repeat (first | exact Ext.refl _ | assumption | apply Ext.app | apply Ext.mk | (refine Ext.setr ?_ (by (first | omega | (simp -implicitDefEqProofs only [gL] <;> omega))) _))); done) | (simp -implicitDefEqProofs only [gL, gA] <;> omega) | fail) only [gB, setAll, partL, fldV, reduceIte, Nat.reduceAdd, Nat.reduceMul]
        refine ih (k + 1) x H3 (by omega) (by omega) (hx.trans ?_) (e.trans (e2.trans e3))
        rw [his]
        constructor
        · rintro (⟨j, h1, h2, h3⟩ | h)
          · exact ⟨j, h1, by omega, h3⟩
          · exact ⟨k, hak, by omega, h⟩
        · rintro ⟨j, h1, h2, h3⟩
          by_cases hj : j = k
          · subst hj; exact .inr h3
          · exact .inl ⟨j, h1, by omega, h3⟩
      cases is with
      | true =>
        simp -implicitDefEqProofs (disch := first | assumption | omega | (simp -implicitDefEqProofs only [gL] <;> omega) | ((repeat (first | exact Ext.refl _ | assumption | apply Ext.app | apply Ext.mk | (refine Ext.setr ?_ (by (first | omega | (simp -implicitDefEqProofs only [gL] <;> omega))) _))); done) | (simp -implicitDefEqProofs only [gL, gA] <;> omega) | fail) only [gB, setAll, partL, fldV, reduceIte, Nat.reduceAdd, Nat.reduceMul]
        exact nx true H2 (Ext.refl _) (by simp)
      | false =>
        simp -implicitDefEqProofs (disch := first | assumption | omega | (simp -implicitDefEqProofs only [gL] <;> omega) | ((repeat (first | exact Ext.refl _ | assumption | apply Ext.app | apply Ext.mk | (refine Ext.setr ?_ (by (first | omega | (simp -implicitDefEqProofs only [gL] <;> omega))) _))); done) | (simp -implicitDefEqProofs only [gL, gA, hr] <;> omega) | fail) only [gB, setAll, partL, fldV, reduceIte, Nat.reduceAdd, Nat.reduceMul, hr]
        refine WP.call (match_spec nv (fine_jn fi (by omega)).1 (by
          rw [cnt_jn]
          have : k * cntN n ≤ 10 * 1000 := Nat.mul_le_mul (by omega) hcn
          omega) ((hw.ext e).ext e2) (by omega)) ?_
        rintro _ H3 ⟨e3, x, rfl, hx⟩
        exact nx x H3 e3 (by simpa using hx)
    · rw [hH1]; rfl
theorem times_spec {l : List Rw} {s : AV} {css : List (List AV)} {lo more : Int} (hs : Sl h 3 s css) (hr : RVs h l css) (hn : Sl h 1 ns (nz.map encI)) :
    Tot tab f_milestonelaw5_MatchTimes [s, I lo, I more, ns, I fw] h fun r _ => r = .bool true := by
  refine WP.tot (fun k => (call_milestonelaw5_MatchTimes k _ _ _ _ _ h).trans (milestonelaw5_MatchTimes_eq tab k _ _ _ _ _ h)) ?_
  refine WP.call (known_spec h) ?_
  rintro _ h1 ⟨rfl, e1⟩
  simp -implicitDefEqProofs (disch := first | assumption | omega | (simp -implicitDefEqProofs only [gL] <;> omega) | ((repeat (first | exact Ext.refl _ | assumption | apply Ext.app | apply Ext.mk | (refine Ext.setr ?_ (by (first | omega | (simp -implicitDefEqProofs only [gL] <;> omega))) _))); done) | (simp -implicitDefEqProofs only [gL, gA] <;> omega) | fail) only [gB, setAll, partL, fldV, reduceIte, Nat.reduceAdd, Nat.reduceMul]
  refine WP.call (few_spec (hs.ext e1) (hr.ext e1)) ?_
  rintro _ _ ⟨rfl, rfl⟩
  by_cases hf : szF 7 l ≤ 14
  · rw [decide_eq_true hf]
    simp -implicitDefEqProofs (disch := first | assumption | omega | (simp -implicitDefEqProofs only [gL] <;> omega) | ((repeat (first | exact Ext.refl _ | assumption | apply Ext.app | apply Ext.mk | (refine Ext.setr ?_ (by (first | omega | (simp -implicitDefEqProofs only [gL] <;> omega))) _))); done) | (simp -implicitDefEqProofs only [gL, gA] <;> omega) | fail) only [gB, setAll, partL, fldV, reduceIte, Nat.reduceAdd, Nat.reduceMul]
    refine WP.call (one_spec4 (hs.ext e1) (hr.ext e1)) ?_
    rintro _ h2 ⟨e2, c5, rfl, nv⟩
    obtain ⟨s5, rfl, ho5⟩ := nv.inv
    have fi := fine_one l
    have hcn := cnt_one l hf
    generalize oneN l = n at *
    obtain ⟨h3, hh3⟩ : ∃ h3, h3 = h2 ++ [AObj.cells ⟨[I n.kind, I n.st, I n.lo, I n.hi, s5], 0, 0, false⟩] := ⟨_, rfl⟩
    have na : NA h3 (.ptr h2.length 0 5 0) n [I n.kind, I n.st, I n.lo, I n.hi, s5] := by rw [hh3]; exact NA.new nv.nv
    have e3 : Ext h2 h3 := by rw [hh3]; exact Ext.push _ _
    have hl3 := e3.len
    have nd : NVD h3 (fun o => o < h3.length) n [I n.kind, I n.st, I n.lo, I n.hi, s5] := nv.ext e3 fun o h1 h2 => by omega
    simp -implicitDefEqProofs (disch := first | assumption | omega | (simp -implicitDefEqProofs only [gL] <;> omega) | ((repeat (first | exact Ext.refl _ | assumption | apply Ext.app | apply Ext.mk | (refine Ext.setr ?_ (by (first | omega | (simp -implicitDefEqProofs only [gL] <;> omega))) _))); done) | (simp -implicitDefEqProofs only [gL, gA, ho5, set_lastO] <;> omega) | fail) only [gB, setAll, partL, fldV, reduceIte, Nat.reduceAdd, Nat.reduceMul, ho5, set_lastO]
    rw [← hh3]
    refine WP.call (within5_spec (n := 4) (by omega) (by unfold Fit; omega) h3) ?_
    rintro _ _ ⟨rfl, rfl⟩
    refine WP.call (within5_spec (n := 3) (by omega) (by unfold Fit; omega) h3) ?_
    rintro _ _ ⟨rfl, rfl⟩
    have a1 : 0 ≤ lo % 4 ∧ lo % 4 < 4 := ⟨Int.emod_nonneg _ (by omega), Int.emod_lt_of_pos _ (by omega)⟩
    have a2 : 0 ≤ more % 3 ∧ more % 3 < 3 := ⟨Int.emod_nonneg _ (by omega), Int.emod_lt_of_pos _ (by omega)⟩
    obtain ⟨a, ha⟩ : ∃ a : Nat, lo % 4 = a := ⟨(lo % 4).toNat, by omega⟩
    obtain ⟨m, hm⟩ : ∃ m : Nat, more % 3 = m := ⟨(more % 3).toNat, by omega⟩
    obtain ⟨b, hb⟩ : ∃ b : Nat, lo % 4 + more % 3 = b := ⟨(lo % 4 + more % 3).toNat, by omega⟩
    simp -implicitDefEqProofs (disch := first | assumption | omega | (simp -implicitDefEqProofs only [gL] <;> omega) | ((repeat (first | exact Ext.refl _ | assumption | apply Ext.app | apply Ext.mk | (refine Ext.setr ?_ (by (first | omega | (simp -implicitDefEqProofs only [gL] <;> omega))) _))); done) | (simp -implicitDefEqProofs only [gL, gA, hb, ha] <;> omega) | fail) only [gB, setAll, partL, fldV, reduceIte, Nat.reduceAdd, Nat.reduceMul, hb, ha]
    rw [show AV.int .i64 6 = I ((6 : Nat) : Int) from rfl]
    refine WP.call (word_spec (m := 6) (few := fw) (hn.ext (e1.trans (e2.trans e3))) (by omega)) ?_
    rintro w0 h4 ⟨e4, gw⟩
    have hwl := wordL_len nz 6 fw
    have hbb : (a : Int) + more % 3 = b := by omega
    rw [hbb]
    have nd4 : NVD h4 (fun o => o < h4.length) n [I n.kind, I n.st, I n.lo, I n.hi, s5] := nd.ext e4 fun o h1 h2 => by have := e4.len; omega
    exact WP.ent (times_l1 (a := a) (b := b) (na.ext e4) nd4 fi (by omega) (by omega) (by omega) (by omega) gw.sl (b + 1 - a) a false h4 (by omega) (Nat.le_refl _) ⟨fun q => (by cases q), fun ⟨j, q1, q2, _⟩ => by omega⟩ (Ext.refl _)) fun i => rfl
  · rw [decide_eq_false hf]
    simp -implicitDefEqProofs (disch := first | assumption | omega | (simp -implicitDefEqProofs only [gL] <;> omega) | ((repeat (first | exact Ext.refl _ | assumption | apply Ext.app | apply Ext.mk | (refine Ext.setr ?_ (by (first | omega | (simp -implicitDefEqProofs only [gL] <;> omega))) _))); done) | (simp -implicitDefEqProofs only [gL, gA] <;> omega) | fail) only [gB, setAll, partL, fldV, reduceIte, Nat.reduceAdd, Nat.reduceMul]
    exact WP.ret rfl
end
end Go.Gm.A5
