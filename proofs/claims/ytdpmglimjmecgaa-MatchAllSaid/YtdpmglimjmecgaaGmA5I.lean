/- A part of the proof: GmA5I: an abstract machine, what it does, and what the functions of the program come to on it. -/
import Derived.Test.YtdpmglimjmecgaaGmA5H
import Derived.Test.YtdpmglimjmecgaaGmRw
set_option linter.unusedVariables false
set_option linter.unusedSimpArgs false
namespace Go.Gm.A5
open Go Go.Gm

/-! ### Expressions, and where they lie -/
mutual
inductive NVD (h : Heap) (D : Nat → Prop) : Nd → List AV → Prop
  | mk {n : Nd} {s : AV} {css : List (List AV)} : Sl h 5 s css → (s ≠ .nils → D s.obj) → NVDs h D n.kids css → NVD h D n [I n.kind, I n.st, I n.lo, I n.hi, s]
inductive NVDs (h : Heap) (D : Nat → Prop) : List Nd → List (List AV) → Prop
  | nil : NVDs h D [] []
  | cons {n : Nd} {cs : List AV} {l : List Nd} {css : List (List AV)} : NVD h D n cs → NVDs h D l css → NVDs h D (n :: l) (cs :: css)
end
mutual
theorem NVD.nv {h : Heap} {D : Nat → Prop} : ∀ {n : Nd} {cs : List AV}, NVD h D n cs → NV h n cs
  | _, _, .mk a _ b => .mk a (NVDs.nvs b)
theorem NVDs.nvs {h : Heap} {D : Nat → Prop} : ∀ {l : List Nd} {css : List (List AV)}, NVDs h D l css → NVs h l css
  | _, _, .nil => .nil
  | _, _, .cons a b => .cons (NVD.nv a) (NVDs.nvs b)
end
mutual
theorem NVD.frs {h h' : Heap} {D D' E : Nat → Prop} (f : FrS E h h') (h1 : ∀ o, o < h.length → D o → ¬ E o) (h2 : ∀ o, o < h.length → D o → D' o) : ∀ {n : Nd} {cs : List AV}, NVD h D n cs → NVD h' D' n cs
  | _, _, .mk a d b => .mk (Sl.frs a f fun q => h1 _ (a.objLt q) (d q)) (fun q => h2 _ (a.objLt q) (d q)) (NVDs.frs f h1 h2 b)
theorem NVDs.frs {h h' : Heap} {D D' E : Nat → Prop} (f : FrS E h h') (h1 : ∀ o, o < h.length → D o → ¬ E o) (h2 : ∀ o, o < h.length → D o → D' o) : ∀ {l : List Nd} {css : List (List AV)}, NVDs h D l css → NVDs h' D' l css
  | _, _, .nil => .nil
  | _, _, .cons a b => .cons (NVD.frs f h1 h2 a) (NVDs.frs f h1 h2 b)
end
theorem NVDs.snoc {h : Heap} {D : Nat → Prop} {n : Nd} {cs : List AV} (a : NVD h D n cs) : ∀ {l : List Nd} {css : List (List AV)}, NVDs h D l css → NVDs h D (l ++ [n]) (css ++ [cs])
  | _, _, .nil => .cons a .nil
  | _, _, .cons x y => .cons x (NVDs.snoc a y)
theorem NVD.ext {h h' : Heap} {D D' : Nat → Prop} (e : Ext h h') (h2 : ∀ o, o < h.length → D o → D' o) {n : Nd} {cs : List AV} (a : NVD h D n cs) : NVD h' D' n cs := a.frs (E := fun _ => False) (FrS.ofExt e) (fun _ _ _ q => q) h2
theorem NVD.inv {h : Heap} {D : Nat → Prop} {n : Nd} {cs : List AV} (a : NVD h D n cs) : ∃ s, cs = [I n.kind, I n.st, I n.lo, I n.hi, s] ∧ s.one = true := by
  cases a with
  | mk a b c => exact ⟨_, rfl, a.one⟩
theorem FrS.set1 (h : Heap) (o : Nat) (x : AObj) : FrS (fun p => p = o) h (h.set o x) := ⟨by simp, fun p h1 _ => List.getElem?_set_ne (fun q => h1 q.symm)⟩
theorem NVD.len {h : Heap} {D : Nat → Prop} {n : Nd} {cs : List AV} (a : NVD h D n cs) : cs.length = 5 := a.nv.len
theorem NVD.one {h : Heap} {D : Nat → Prop} {n : Nd} {cs : List AV} (a : NVD h D n cs) : cs.all AV.one = true := a.nv.one
theorem NVDs.len {h : Heap} {D : Nat → Prop} {l : List Nd} {css : List (List AV)} (a : NVDs h D l css) : l.length = css.length := a.nvs.length

/-- An expression whose row of parts grows: its cells are at the end of Hb. -/
structure NB (Hb H : Heap) (q : List AV) (s : AV) (lg : Nat) (l : List Nd) (css : List (List AV)) : Prop where
  ext : Ext Hb H
  no : Hb.length < H.length
  row : H[Hb.length]? = some (.cells ⟨q ++ [s], 0, 0, false⟩)
  gr : Gr lg (lg + 1) H 5 s css
  lgl : s ≠ .nils → Hb.length < lg ∧ lg < H.length
  nvs : NVDs H (fun o => Hb.length < o ∧ o < H.length ∧ ¬ (s ≠ .nils ∧ o = lg)) l css
theorem NB.new (Hb : Heap) (q : List AV) : NB Hb (Hb ++ [.cells ⟨q ++ [.nils], 0, 0, false⟩]) q .nils 0 [] [] where
  ext := Ext.push _ _
  no := by simp
  row := by simp
  gr := Gr.nil ..
  lgl q := absurd rfl q
  nvs := .nil
section
variable {Hb H : Heap} {q : List AV} {s : AV} {lg : Nat} {l : List Nd} {css : List (List AV)}
theorem NB.at (a : NB Hb H q s lg l css) (hq : q.length = 4) : At H (.ptr Hb.length 0 5 0) (q ++ [s]) := At.row a.row (Nat.le_refl _) (by simp [hq])
theorem NB.extH {H' : Heap} (a : NB Hb H q s lg l css) (e : Ext H H') : NB Hb H' q s lg l css where
  ext := a.ext.trans e
  no := Nat.lt_of_lt_of_le a.no e.len
  row := e.get a.row
  gr := a.gr.ext e
  lgl q := ⟨(a.lgl q).1, Nat.lt_of_lt_of_le (a.lgl q).2 e.len⟩
  nvs := a.nvs.frs (E := fun _ => False) (FrS.ofExt e) (fun _ _ _ q => q) fun o h1 h2 => ⟨h2.1, Nat.lt_of_lt_of_le h1 e.len, h2.2.2⟩
/-- A part more. -/
theorem NB.add (a : NB Hb H q s lg l css) (hq : q.length = 4) {H1 : Heap} (e : Ext H H1) {n : Nd} {c5 : List AV} (nv : NVD H1 (fun o => H.length ≤ o ∧ o < H1.length) n c5) (hl : css.length ≤ 1000) :
    ∃ s' H3, apnd 5 56 s (.sl H1.length 0 1 5 none 0) (mkObj H1 c5) = some (s', H3) ∧ s'.one = true ∧ s'.cells = [s'] ∧ H3[Hb.length]? = some (.cells ⟨q ++ [s], 0, 0, false⟩) ∧ ∃ lg', NB Hb (H3.set Hb.length (.cells ⟨q ++ [s'], 0, 0, false⟩)) q s' lg' (l ++ [n]) (css ++ [c5]) := by
  have a1 := a.extH e
  have e3 : Ext H1 (mkObj H1 c5) := Ext.push H1 _
  have a3 := a1.extH e3
  have hl3 : (mkObj H1 c5).length = H1.length + 1 := by simp [mkObj]
  have hH := a.no
  have hH1 := e.len
  obtain ⟨s', H3, lg', m1, m2, m3, m4, m5⟩ := Gr.appQ (bytes := 56) a3.gr (fun q => (a3.lgl q).2) (Gr.lit (sz := 5) (v := c5) nv.len).sl (by omega) (by omega) (by simp; omega)
  have hlen := m4.len
  have hnn : s ≠ .nils → Hb.length ≠ lg := fun q1 q2 => by have := (a.lgl q1).1; omega
  have hrow : H3[Hb.length]? = some (.cells ⟨q ++ [s], 0, 0, false⟩) := (m4.get (fun z => hnn z.1 z.2) (by omega)).trans a3.row
  refine ⟨s', H3, m1, m2.sl.one, m2.sl.cells, hrow, lg', ?_⟩
  have hs' : s' ≠ .nils := m2.nnil (by simp)
  have hlg' : Hb.length < lg' := by
    rcases (m3 hs').1 with ⟨q1, q2⟩ | q1
    · rw [q1]; exact (a.lgl q2).1
    · omega
  -- all but the expression's own cells and its row
  have f : FrS (fun o => o = Hb.length ∨ (s ≠ .nils ∧ o = lg)) (mkObj H1 c5) (H3.set Hb.length (.cells ⟨q ++ [s'], 0, 0, false⟩)) := by
    refine ⟨by simp; omega, fun o h1 h2 => ?_⟩
    rw [List.getElem?_set_ne (fun z => h1 (.inl z.symm)), m4.get (fun z => h1 (.inr z)) h2]
  have hold : ∀ o, o < H1.length + 1 → o = lg' → s ≠ .nils ∧ o = lg := by
    intro o h1 h2
    rcases (m3 hs').1 with ⟨q1, q2⟩ | q1
    · exact ⟨q2, h2.trans q1⟩
    · omega
  refine ⟨?_, by simp; omega, by rw [List.getElem?_set_self (by omega)], ?_, fun _ => ⟨hlg', by simp; exact (m3 hs').2⟩, ?_⟩
  · exact f.ext a3.ext fun o h1 h2 => by
      rcases h2 with h2 | ⟨h2, h4⟩
      · omega
      · have := (a.lgl h2).1; omega
  · exact (m2.set (by omega) _)
  · have hl4 : (H3.set Hb.length (.cells ⟨q ++ [s'], 0, 0, false⟩)).length = H3.length := by simp
    refine NVDs.snoc (n := n) (cs := c5) ?_ ?_
    · refine (nv.ext e3 (D' := fun o => H.length ≤ o ∧ o < H1.length) fun _ _ z => z).frs f (fun o h1 h2 h3 => ?_) fun o h1 h2 => ⟨by omega, by rw [hl4]; omega, fun z => ?_⟩
      · rcases h3 with h3 | ⟨h3, h4⟩
        · omega
        · have := (a.lgl h3).2; omega
      · have z2 := hold o (by omega) z.2
        have := (a.lgl z2.1).2; omega
    · refine a3.nvs.frs f (fun o h1 h2 h3 => ?_) fun o h1 h2 => ⟨h2.1, by rw [hl4]; omega, fun z => ?_⟩
      · rcases h3 with h3 | h3
        · omega
        · exact h2.2.2 h3
      · exact h2.2.2 (hold o (by omega) z.2)
theorem NB.cong {css' : List (List AV)} {l' : List Nd} (a : NB Hb H q s lg l css) (e : l = l') : NB Hb H q s lg l' css := e ▸ a
/-- All parts are there. -/
theorem NB.done (a : NB Hb H q s lg l css) {n : Nd} (hq : q = [I n.kind, I n.st, I n.lo, I n.hi]) (hl : n.kids = l) : NVD H (fun o => Hb.length < o ∧ o < H.length) n (q ++ [s]) := by
  subst hq hl
  exact .mk a.gr.sl (fun z => by have h1 := a.gr.objIn z; have h2 := a.lgl z; omega) (a.nvs.frs (FrS.refl (fun _ => False) _) (fun _ _ _ z => z) fun o _ z => ⟨z.1, z.2.1⟩)
end

/-! ### How much: 'size' (d: how deep it may go on) -/
def szF : Nat → List Rw → Int
  | 0, _ => 1000
  | d + 1, rs => rs.foldl (fun n r => if n ≤ 14 then n + 1 + szF d r.kids else n) 0
def szAdd (d : Nat) (n : Int) (rs : List Rw) : Int := rs.foldl (fun n r => if n ≤ 14 then n + 1 + szF d r.kids else n) n
theorem szAdd_gt (d : Nat) : ∀ (rs : List Rw) {n : Int}, ¬ n ≤ 14 → szAdd d n rs = n
  | [], n, _ => rfl
  | r :: rs, n, h => by
    show szAdd d (if n ≤ 14 then _ else n) rs = n
    rw [if_neg h]; exact szAdd_gt d rs h
theorem sz_rng : ∀ (d : Nat) (rs : List Rw), 0 ≤ szF d rs ∧ szF d rs ≤ 1000 + 15 * d
  | 0, rs => by simp [szF]
  | d + 1, rs => by
    have : ∀ (rs : List Rw) (n : Int), 0 ≤ n → n ≤ 1000 + 15 * (d + 1) → 0 ≤ szAdd d n rs ∧ szAdd d n rs ≤ 1000 + 15 * (d + 1) := by
      intro rs
      induction rs with
      | nil => intro n h1 h2; exact ⟨h1, h2⟩
      | cons r rs ih =>
        intro n h1 h2
        show 0 ≤ szAdd d (if n ≤ 14 then n + 1 + szF d r.kids else n) rs ∧ szAdd d (if n ≤ 14 then n + 1 + szF d r.kids else n) rs ≤ _
        have := sz_rng d r.kids
        split
        · exact ih _ (by omega) (by omega)
        · exact ih _ h1 h2
    have := this rs 0 (by omega) (by omega)
    exact ⟨this.1, by have := this.2; simp only [szAdd] at this; simp only [szF]; omega⟩
theorem size_spec : ∀ (d : Nat), d ≤ 7 → ∀ (rs : List Rw) (s : AV) (css : List (List AV)) (h : Heap), Sl h 3 s css → RVs h rs css →
    Tot tab f_milestonelaw4_size [s, I (7 - (d : Int))] h fun r h' => r = I (szF d rs) ∧ h' = h := by
  intro d
  induction d with
  | zero =>
    intro _ rs s css h hs hr
    refine WP.tot (fun k => (call_milestonelaw4_size k _ _ h).trans (milestonelaw4_size_eq tab k _ _ h)) ?_
    simp -implicitDefEqProofs (disch := first | assumption | omega | (simp -implicitDefEqProofs only [gL] <;> omega) | ((repeat (first | exact Ext.refl _ | assumption | apply Ext.app | apply Ext.mk | (refine Ext.setr ?_ (by (first | omega | (simp -implicitDefEqProofs only [gL] <;> omega))) _))); done) | (simp -implicitDefEqProofs only [gL, gA] <;> omega) | fail) only [gB, setAll, partL, fldV, reduceIte, Nat.reduceAdd, Nat.reduceMul]
    exact WP.ret ⟨rfl, rfl⟩
  | succ d ihd =>
    intro hd rs s css h hs hr
    refine WP.tot (fun k => (call_milestonelaw4_size k _ _ h).trans (milestonelaw4_size_eq tab k _ _ h)) ?_
    simp -implicitDefEqProofs (disch := first | assumption | omega | (simp -implicitDefEqProofs only [gL] <;> omega) | ((repeat (first | exact Ext.refl _ | assumption | apply Ext.app | apply Ext.mk | (refine Ext.setr ?_ (by (first | omega | (simp -implicitDefEqProofs only [gL] <;> omega))) _))); done) | (simp -implicitDefEqProofs only [gL, gA] <;> omega) | fail) only [gB, setAll, partL, fldV, reduceIte, Nat.reduceAdd, Nat.reduceMul]
    have hs' : Sl h 3 s (css.map fun x => x) := by rw [List.map_id']; exact hs
    have hlen := hr.len
    have loop : ∀ (e i : Nat) (n : Int), i + e = rs.length → (i : Int) ≤ n → n ≤ 2000 → szAdd d n (rs.drop i) = szF (d + 1) rs → WP (fun p : Nat × Nat => milestonelaw4_size_l1 tab p.1 p.2 s (I (7 - ((d + 1 : Nat) : Int))) (I n) (I i) h) fun r h' => r = I (szF (d + 1) rs) ∧ h' = h := by
      intro e
      induction e with
      | zero =>
        intro i n h1 h2 h3 h4
        refine WP.rnd (fun i' j => milestonelaw4_size_l1_eq tab i' j s (I (7 - ((d + 1 : Nat) : Int))) (I n) (I i) h) ?_
        simp -implicitDefEqProofs (disch := first | assumption | omega | (simp -implicitDefEqProofs only [gL] <;> omega) | ((repeat (first | exact Ext.refl _ | assumption | apply Ext.app | apply Ext.mk | (refine Ext.setr ?_ (by (first | omega | (simp -implicitDefEqProofs only [gL] <;> omega))) _))); done) | (simp -implicitDefEqProofs only [gL, gA, hs'.lenG] <;> omega) | fail) only [gB, setAll, partL, fldV, reduceIte, Nat.reduceAdd, Nat.reduceMul, hs'.lenG]
        rw [List.drop_of_length_le (by omega)] at h4
        exact WP.lv (WP.ret ⟨by rw [← h4]; rfl, rfl⟩) fun i j => rfl
      | succ e ih =>
        intro i n h1 h2 h3 h4
        refine WP.rnd (fun i' j => milestonelaw4_size_l1_eq tab i' j s (I (7 - ((d + 1 : Nat) : Int))) (I n) (I i) h) ?_
        by_cases hn : n ≤ 14
        · have hil : i < rs.length := by omega
          have hdr : rs.drop i = rs[i] :: rs.drop (i + 1) := List.drop_eq_getElem_cons hil
          obtain ⟨r, hr2⟩ : ∃ r, rs[i] = r := ⟨_, rfl⟩
          rw [hr2] at hdr
          have hri : rs[i]? = some r := by rw [List.getElem?_eq_getElem hil, hr2]
          obtain ⟨cs, hcs, rv⟩ := hr.get hri
          have hg : gi css (i : Int) = cs := gi_map hcs
          have e0 := Ext.refl h
          rw [hdr] at h4
          cases rv with
          | @mk k m l s2 css2 sl2 rv2 =>
          simp -implicitDefEqProofs (disch := first | assumption | omega | (simp -implicitDefEqProofs only [gL] <;> omega) | ((repeat (first | exact Ext.refl _ | assumption | apply Ext.app | apply Ext.mk | (refine Ext.setr ?_ (by (first | omega | (simp -implicitDefEqProofs only [gL] <;> omega))) _))); done) | (simp -implicitDefEqProofs only [gL, gA, hs'.lenG, hs'.idxG, hs'.ldf, hg] <;> omega) | fail) only [gB, setAll, partL, fldV, reduceIte, Nat.reduceAdd, Nat.reduceMul, hs'.lenG, hs'.idxG, hs'.ldf, hg]
          have := ihd (by omega) l s2 css2 h sl2 rv2
          rw [show (7 : Int) - (d : Int) = 7 - ((d + 1 : Nat) : Int) + 1 by omega] at this
          refine WP.call this ?_
          rintro _ _ ⟨rfl, rfl⟩
          have hrg := sz_rng d l
          simp -implicitDefEqProofs (disch := first | assumption | omega | (simp -implicitDefEqProofs only [gL] <;> omega) | ((repeat (first | exact Ext.refl _ | assumption | apply Ext.app | apply Ext.mk | (refine Ext.setr ?_ (by (first | omega | (simp -implicitDefEqProofs only [gL] <;> omega))) _))); done) | (simp -implicitDefEqProofs only [gL, gA] <;> omega) | fail) only [gB, setAll, partL, fldV, reduceIte, Nat.reduceAdd, Nat.reduceMul]
          refine ih (i + 1) (n + 1 + szF d l) (by omega) (by omega) (by omega) ?_
          rw [← h4]
          show _ = szAdd d (if n ≤ 14 then n + 1 + szF d l else n) _
          rw [if_pos hn]
        · simp -implicitDefEqProofs (disch := first | assumption | omega | (simp -implicitDefEqProofs only [gL] <;> omega) | ((repeat (first | exact Ext.refl _ | assumption | apply Ext.app | apply Ext.mk | (refine Ext.setr ?_ (by (first | omega | (simp -implicitDefEqProofs only [gL] <;> omega))) _))); done) | (simp -implicitDefEqProofs only [gL, gA, hs'.lenG] <;> omega) | fail) only [gB, setAll, partL, fldV, reduceIte, Nat.reduceAdd, Nat.reduceMul, hs'.lenG]
          rw [szAdd_gt d _ hn] at h4
          exact WP.lv (WP.ret ⟨by rw [← h4], rfl⟩) fun i j => rfl
    rw [show AV.int .i64 0 = I ((0 : Nat) : Int) from rfl]
    exact WP.ent (loop rs.length 0 0 (by omega) (by omega) (by omega) rfl) fun i => rfl
end Go.Gm.A5
