/- A part of the proof: GmA5J: an abstract machine, what it does, and what the functions of the program come to on it. -/
import Derived.Test.YtdpmglimjmecgaaGmA5I
set_option linter.unusedVariables false
set_option linter.unusedSimpArgs false
namespace Go.Gm.A5
open Go Go.Gm

abbrev wr (n : Int) : Int := IntKind.i64.wrap n
theorem add_w (a b : Int) : binV .add .scalar (I a) (I b) = some (I (wr (a + b))) := rfl
/-- A sign. -/
def sgn (n : Int) : Nd := .set (2 ^ (n % 5).toNat)
/-- A raw one's part, of the parts' expressions. -/
def ptN (n : Int) (ls : List Nd) (i : Nat) : Nd := ls.getD i (sgn (wr (n + i)))
def ptsN (n : Int) (ls : List Nd) : List Nd := (List.range (max 2 (min ls.length 4))).map (ptN n ls)
def mkOf (k n : Int) (ls : List Nd) : Nd :=
  match (k % 14).toNat with
  | 0 | 1 => .set (1 + (n % 31).toNat)
  | 2 | 3 => sgn n
  | 4 => if n % 3 = 0 then .emp else .eps
  | 5 | 6 | 7 => .join (ptsN n ls)
  | 8 | 9 => .uni (ptsN n ls)
  | 10 => .star (ptN n ls 0)
  | 11 => .plus (ptN n ls 0)
  | 12 => .opt (ptN n ls 0)
  | _ => .rep (n % 4).toNat ((n % 4).toNat + (wr (n.tdiv 4) % 3).toNat) (ptN n ls 0)
mutual
/-- The expression of a raw one. -/
def mkN : Rw → Nd
  | .mk k n l => mkOf k n (mkNs l)
def mkNs : List Rw → List Nd
  | [] => []
  | r :: l => mkN r :: mkNs l
end
theorem mkNs_map : ∀ l : List Rw, mkNs l = l.map mkN
  | [] => rfl
  | r :: l => by rw [mkNs, mkNs_map l]; rfl
/-- What one's call tells. -/
abbrev NewN (h : Heap) (n : Nd) (v : AV) (h' : Heap) : Prop := Ext h h' ∧ ∃ c5, v = .agg c5 ∧ NVD h' (fun o => h.length ≤ o ∧ o < h'.length) n c5
def MakeS (r : Rw) : Prop := ∀ (c3 : List AV) (h : Heap), RV h r c3 → Tot tab f_milestonelaw4_Raw_Make [.agg c3] h (NewN h (mkN r))
theorem nvd_leaf {h : Heap} {D : Nat → Prop} {n : Nd} (hn : n.kids = []) : NVD h D n [I n.kind, I n.st, I n.lo, I n.hi, .nils] :=
  .mk (css := []) (.inl ⟨rfl, rfl⟩) (fun q => absurd rfl q) (by rw [hn]; exact .nil)
/-- A raw one's variable. -/
structure RA (h : Heap) (p : AV) (k n : Int) (l : List Rw) (s : AV) (css : List (List AV)) : Prop where
  at_ : At h p [I k, I n, s]
  sl : Sl h 3 s css
  rv : RVs h l css
theorem RA.ext {h h' : Heap} {p : AV} {k n : Int} {l : List Rw} {s : AV} {css : List (List AV)} (a : RA h p k n l s css) (e : Ext h h') : RA h' p k n l s css := ⟨a.at_.ext e, a.sl.ext e, a.rv.ext e⟩
theorem part_spec {k n : Int} {l : List Rw} (hS : ∀ c ∈ l, MakeS c) (c3 : List AV) {h : Heap} (rv : RV h (.mk k n l) c3) {i : Nat} (hi : i ≤ 1000) :
    Tot tab f_milestonelaw4_Raw_part [.agg c3, I i] h (NewN h (ptN n (mkNs l) i)) := by
  refine WP.tot (fun k' => (call_milestonelaw4_Raw_part k' _ _ h).trans (milestonelaw4_Raw_part_eq tab k' _ _ h)) ?_
  cases rv with
  | @mk _ _ _ s css sl rv =>
  have hso := sl.one
  obtain ⟨h1, hh1⟩ : ∃ h1, h1 = (h ++ [AObj.cells ⟨[I k, I n, s], 0, 0, false⟩]) ++ [AObj.cells ⟨[I 0, I 0, I 0, I 0, .nils], 0, 0, false⟩] := ⟨_, rfl⟩
  have e1 : Ext h h1 := by rw [hh1]; ((repeat (first | exact Ext.refl _ | assumption | apply Ext.app | apply Ext.mk | (refine Ext.setr ?_ (by (first | omega | (simp -implicitDefEqProofs only [gL] <;> omega))) _))))
  have hl1 : h1.length = h.length + 2 := by rw [hh1]; simp
  have hx0 : h1[h.length]? = some (.cells ⟨[I k, I n, s], 0, 0, false⟩) := by rw [hh1]; simp
  have hx1 : h1[h.length + 1]? = some (.cells ⟨[I 0, I 0, I 0, I 0, .nils], 0, 0, false⟩) := by rw [hh1]; simp
  have sl' : Sl h1 3 s (css.map fun x => x) := by rw [List.map_id']; exact sl.ext e1
  have hlen := rv.len
  simp -implicitDefEqProofs (disch := first | assumption | omega | (simp -implicitDefEqProofs only [gL] <;> omega) | ((repeat (first | exact Ext.refl _ | assumption | apply Ext.app | apply Ext.mk | (refine Ext.setr ?_ (by (first | omega | (simp -implicitDefEqProofs only [gL] <;> omega))) _))); done) | (simp -implicitDefEqProofs only [gL, gA, hso] <;> omega) | fail) only [gB, setAll, partL, fldV, reduceIte, Nat.reduceAdd, Nat.reduceMul, hso]
  rw [← hh1]
  simp -implicitDefEqProofs (disch := first | assumption | omega | (simp -implicitDefEqProofs only [gL] <;> omega) | ((repeat (first | exact Ext.refl _ | assumption | apply Ext.app | apply Ext.mk | (refine Ext.setr ?_ (by (first | omega | (simp -implicitDefEqProofs only [gL] <;> omega))) _))); done) | (simp -implicitDefEqProofs only [gL, gA, hx0, sl'.lenG] <;> omega) | fail) only [gB, setAll, partL, fldV, reduceIte, Nat.reduceAdd, Nat.reduceMul, hx0, sl'.lenG]
  have fin : ∀ {n' : Nd} {c5 : List AV} {H : Heap} (e : Ext h1 H) (nv : NVD H (fun o => h1.length ≤ o ∧ o < H.length) n' c5), NewN h n' (.agg c5) (H.set (h.length + 1) (.cells ⟨c5, 0, 0, false⟩)) := by
    intro n' c5 H e nv
    have := e.len
    refine ⟨(e1.trans e).set (by omega) _, c5, rfl, nv.frs (FrS.set1 H (h.length + 1) _) (fun o h1 h2 h3 => by omega) fun o h1 h2 => ⟨by omega, by simp; exact h2.2⟩⟩
  by_cases hil : i < l.length
  · obtain ⟨r, hr⟩ : ∃ r, l[i]? = some r := ⟨_, List.getElem?_eq_getElem hil⟩
    obtain ⟨cs, hcs, rvr⟩ := rv.get hr
    have hg : gi css (i : Int) = cs := gi_map hcs
    have e0 := Ext.refl h1
    simp -implicitDefEqProofs (disch := first | assumption | omega | (simp -implicitDefEqProofs only [gL] <;> omega) | ((repeat (first | exact Ext.refl _ | assumption | apply Ext.app | apply Ext.mk | (refine Ext.setr ?_ (by (first | omega | (simp -implicitDefEqProofs only [gL] <;> omega))) _))); done) | (simp -implicitDefEqProofs only [gL, gA, hx0, sl'.idxG, sl'.ldN, hg] <;> omega) | fail) only [gB, setAll, partL, fldV, reduceIte, Nat.reduceAdd, Nat.reduceMul, hx0, sl'.idxG, sl'.ldN, hg]
    refine WP.call (hS r (List.mem_of_getElem? hr) cs h1 (rvr.ext e1)) ?_
    rintro _ H ⟨e2, c5, rfl, nv⟩
    have hx2 := e2.get hx1
    obtain ⟨s5, rfl, ho5⟩ := nv.inv
    have hHl := e2.len
    simp -implicitDefEqProofs (disch := first | assumption | omega | (simp -implicitDefEqProofs only [gL] <;> omega) | ((repeat (first | exact Ext.refl _ | assumption | apply Ext.app | apply Ext.mk | (refine Ext.setr ?_ (by (first | omega | (simp -implicitDefEqProofs only [gL] <;> omega))) _))); done) | (simp -implicitDefEqProofs only [gL, gA, hx2, ho5] <;> omega) | fail) only [gB, setAll, partL, fldV, reduceIte, Nat.reduceAdd, Nat.reduceMul, hx2, ho5]
    have hp : mkN r = ptN n (mkNs l) i := by simp [ptN, mkNs_map, List.getD_eq_getElem?_getD, hr]
    rw [← hp]
    exact WP.ret (fin e2 nv)
  · simp -implicitDefEqProofs (disch := first | assumption | omega | (simp -implicitDefEqProofs only [gL] <;> omega) | ((repeat (first | exact Ext.refl _ | assumption | apply Ext.app | apply Ext.mk | (refine Ext.setr ?_ (by (first | omega | (simp -implicitDefEqProofs only [gL] <;> omega))) _))); done) | (simp -implicitDefEqProofs only [gL, gA, hx0, sl'.lenG, add_w] <;> omega) | fail) only [gB, setAll, partL, fldV, reduceIte, Nat.reduceAdd, Nat.reduceMul, hx0, sl'.lenG, add_w]
    refine WP.call (within4_spec (n := 5) (by omega) (by unfold Fit; omega) h1) ?_
    rintro _ _ ⟨rfl, rfl⟩
    have h5 : 0 ≤ wr (n + i) % 5 ∧ wr (n + i) % 5 < 5 := ⟨Int.emod_nonneg _ (by omega), Int.emod_lt_of_pos _ (by omega)⟩
    obtain ⟨m, hm⟩ : ∃ m : Int, wr (n + i) % 5 = m := ⟨_, rfl⟩
    rw [hm] at h5
    rw [hm]
    simp -implicitDefEqProofs (disch := first | assumption | omega | (simp -implicitDefEqProofs only [gL] <;> omega) | ((repeat (first | exact Ext.refl _ | assumption | apply Ext.app | apply Ext.mk | (refine Ext.setr ?_ (by (first | omega | (simp -implicitDefEqProofs only [gL] <;> omega))) _))); done) | (simp -implicitDefEqProofs only [gL, gA, hx1] <;> omega) | fail) only [gB, setAll, partL, fldV, reduceIte, Nat.reduceAdd, Nat.reduceMul, hx1]
    have := fin (Ext.refl _) (nvd_leaf (h := h1) (D := fun o => h1.length ≤ o ∧ o < h1.length) (n := .set (2 ^ m.toNat)) rfl)
    have hp : ptN n (mkNs l) i = .set (2 ^ m.toNat) := by
      have : (mkNs l)[i]? = none := by rw [mkNs_map, List.getElem?_eq_none]; simp; omega
      simp only [ptN, List.getD_eq_getElem?_getD, this, Option.getD_none, sgn, hm]
    rw [hp]
    exact WP.ret this
theorem set_last (h : Heap) (x y : AObj) : (h ++ [x]).set h.length y = h ++ [y] := by simp
structure MC (h h1 : Heap) (k n : Int) (l : List Rw) (s : AV) (css : List (List AV)) : Prop where
  ext : Ext h h1
  len : h1.length = h.length + 2
  r0 : h1[h.length]? = some (.cells ⟨[I k, I n, s], 0, 0, false⟩)
  r1 : h1[h.length + 1]? = some (.cells ⟨[I 0, I 0, I 0, I 0, .nils], 0, 0, false⟩)
  sl : Sl h1 3 s css
  rv : RVs h1 l css
theorem MC.fin {h h1 : Heap} {k n : Int} {l : List Rw} {s : AV} {css : List (List AV)} (mc : MC h h1 k n l s css) {n' : Nd} {c5 : List AV} {H : Heap} (e : Ext h1 H) (nv : NVD H (fun o => h1.length ≤ o ∧ o < H.length) n' c5) : NewN h n' (.agg c5) (H.set (h.length + 1) (.cells ⟨c5, 0, 0, false⟩)) := by
  have := e.len
  have := mc.len
  refine ⟨(mc.ext.trans e).set (by omega) _, c5, rfl, nv.frs (FrS.set1 H (h.length + 1) _) (fun o h1 h2 h3 => by omega) fun o h1 h2 => ⟨by omega, by simp; exact h2.2⟩⟩

theorem make_l4 {h h1 : Heap} {k n : Int} {l : List Rw} {s : AV} {css : List (List AV)} (mc : MC h h1 k n l s css) (hS : ∀ c ∈ l, MakeS c) :
    ∀ (d i : Nat) (s4 : AV) (lg : Nat) (cs4 : List (List AV)) (H : Heap), i + d = max 2 (min l.length 4) → NB h1 H [I 4, I 0, I 0, I 0] s4 lg ((ptsN n (mkNs l)).take i) cs4 →
      WP (fun p : Nat × Nat => milestonelaw4_Raw_Make_l4 tab p.1 p.2 (.ptr h.length 0 3 0) (.ptr (h.length + 1) 0 5 0) (.ptr h1.length 0 5 0) (I i) H) (NewN h (.join (ptsN n (mkNs l)))) := by
  have hml : (mkNs l).length = l.length := by rw [mkNs_map, List.length_map]
  have hpl : (ptsN n (mkNs l)).length = max 2 (min l.length 4) := by simp [ptsN, hml]
  have h1l := mc.len
  intro d
  induction d with
  | zero =>
    intro i s4 lg cs4 H hi nb
    refine WP.rnd (fun i' j => milestonelaw4_Raw_Make_l4_eq tab i' j (.ptr h.length 0 3 0) (.ptr (h.length + 1) 0 5 0) (.ptr h1.length 0 5 0) (I i) H) ?_
    have hx0 := nb.ext.get mc.r0
    have hx1 := nb.ext.get mc.r1
    have sl' : Sl H 3 s (css.map fun x => x) := by rw [List.map_id']; exact mc.sl.ext nb.ext
    have hlen := mc.rv.len
    have hrow : H[h1.length]? = some (.cells ⟨[I 4, I 0, I 0, I 0, s4], 0, 0, false⟩) := nb.row
    have hso := nb.gr.sl.one
    have hno := nb.no
    rw [List.take_of_length_le (by omega)] at nb
    have nv := nb.done (n := .join (ptsN n (mkNs l))) rfl rfl
    have fin := mc.fin nb.ext (nv.frs (FrS.refl (fun _ => False) H) (fun _ _ _ z => z) (D' := fun o => h1.length ≤ o ∧ o < H.length) fun o _ z => ⟨by omega, z.2⟩)
    by_cases h4 : i < l.length
    · simp -implicitDefEqProofs (disch := first | assumption | omega | (simp -implicitDefEqProofs only [gL] <;> omega) | ((repeat (first | exact Ext.refl _ | assumption | apply Ext.app | apply Ext.mk | (refine Ext.setr ?_ (by (first | omega | (simp -implicitDefEqProofs only [gL] <;> omega))) _))); done) | (simp -implicitDefEqProofs only [gL, gA, hx0, sl'.lenG, hrow, hx1, hso] <;> omega) | fail) only [gB, setAll, partL, fldV, reduceIte, Nat.reduceAdd, Nat.reduceMul, hx0, sl'.lenG, hrow, hx1, hso]
      exact WP.lv (WP.ret fin) fun i j => rfl
    · simp -implicitDefEqProofs (disch := first | assumption | omega | (simp -implicitDefEqProofs only [gL] <;> omega) | ((repeat (first | exact Ext.refl _ | assumption | apply Ext.app | apply Ext.mk | (refine Ext.setr ?_ (by (first | omega | (simp -implicitDefEqProofs only [gL] <;> omega))) _))); done) | (simp -implicitDefEqProofs only [gL, gA, hx0, sl'.lenG, hrow, hx1, hso] <;> omega) | fail) only [gB, setAll, partL, fldV, reduceIte, Nat.reduceAdd, Nat.reduceMul, hx0, sl'.lenG, hrow, hx1, hso]
      exact WP.lv (WP.ret fin) fun i j => rfl
  | succ d ih =>
    intro i s4 lg cs4 H hi nb
    refine WP.rnd (fun i' j => milestonelaw4_Raw_Make_l4_eq tab i' j (.ptr h.length 0 3 0) (.ptr (h.length + 1) 0 5 0) (.ptr h1.length 0 5 0) (I i) H) ?_
    have hx0 := nb.ext.get mc.r0
    have sl' : Sl H 3 s (css.map fun x => x) := by rw [List.map_id']; exact mc.sl.ext nb.ext
    have hlen := mc.rv.len
    have hrow : H[h1.length]? = some (.cells ⟨[I 4, I 0, I 0, I 0, s4], 0, 0, false⟩) := nb.row
    have hcl : cs4.length ≤ 1000 := by rw [← nb.nvs.len, List.length_take]; omega
    have hil : i < 4 := by omega
    have htk : (ptsN n (mkNs l)).take (i + 1) = (ptsN n (mkNs l)).take i ++ [ptN n (mkNs l) i] := by
      rw [List.take_add_one]
      congr 1
      simp [ptsN, hml, show i < max 2 (min l.length 4) by omega]
    by_cases h2 : i < 2
    · simp -implicitDefEqProofs (disch := first | assumption | omega | (simp -implicitDefEqProofs only [gL] <;> omega) | ((repeat (first | exact Ext.refl _ | assumption | apply Ext.app | apply Ext.mk | (refine Ext.setr ?_ (by (first | omega | (simp -implicitDefEqProofs only [gL] <;> omega))) _))); done) | (simp -implicitDefEqProofs only [gL, gA, hx0, hrow] <;> omega) | fail) only [gB, setAll, partL, fldV, reduceIte, Nat.reduceAdd, Nat.reduceMul, hx0, hrow]
      refine WP.call (part_spec (k := k) hS [I k, I n, s] (.mk (mc.sl.ext nb.ext) (mc.rv.ext nb.ext)) (i := i) (by omega)) ?_
      rintro _ H1 ⟨e1, c5, rfl, nv⟩
      obtain ⟨s5, rfl, ho5⟩ := nv.inv
      have hrow1 := e1.get hrow
      obtain ⟨s', H3, m1, m2, m3, m4, lg', nb'⟩ := nb.add rfl e1 nv hcl
      have m4' : H3[h1.length]? = some (.cells ⟨[I 4, I 0, I 0, I 0, s4], 0, 0, false⟩) := m4
      rw [mkObj_eq] at m1
      simp -implicitDefEqProofs (disch := first | assumption | omega | (simp -implicitDefEqProofs only [gL] <;> omega) | ((repeat (first | exact Ext.refl _ | assumption | apply Ext.app | apply Ext.mk | (refine Ext.setr ?_ (by (first | omega | (simp -implicitDefEqProofs only [gL] <;> omega))) _))); done) | (simp -implicitDefEqProofs only [gL, gA, hrow1, ho5, m1, m4', m2, m3] <;> omega) | fail) only [gB, setAll, partL, fldV, reduceIte, Nat.reduceAdd, Nat.reduceMul, hrow1, ho5, m1, m4', m2, m3]
      rw [← htk] at nb'
      exact ih (i + 1) s' lg' _ _ (by omega) nb'
    · simp -implicitDefEqProofs (disch := first | assumption | omega | (simp -implicitDefEqProofs only [gL] <;> omega) | ((repeat (first | exact Ext.refl _ | assumption | apply Ext.app | apply Ext.mk | (refine Ext.setr ?_ (by (first | omega | (simp -implicitDefEqProofs only [gL] <;> omega))) _))); done) | (simp -implicitDefEqProofs only [gL, gA, hx0, sl'.lenG, hrow] <;> omega) | fail) only [gB, setAll, partL, fldV, reduceIte, Nat.reduceAdd, Nat.reduceMul, hx0, sl'.lenG, hrow]
      refine WP.call (part_spec (k := k) hS [I k, I n, s] (.mk (mc.sl.ext nb.ext) (mc.rv.ext nb.ext)) (i := i) (by omega)) ?_
      rintro _ H1 ⟨e1, c5, rfl, nv⟩
      obtain ⟨s5, rfl, ho5⟩ := nv.inv
      have hrow1 := e1.get hrow
      obtain ⟨s', H3, m1, m2, m3, m4, lg', nb'⟩ := nb.add rfl e1 nv hcl
      have m4' : H3[h1.length]? = some (.cells ⟨[I 4, I 0, I 0, I 0, s4], 0, 0, false⟩) := m4
      rw [mkObj_eq] at m1
      simp -implicitDefEqProofs (disch := first | assumption | omega | (simp -implicitDefEqProofs only [gL] <;> omega) | ((repeat (first | exact Ext.refl _ | assumption | apply Ext.app | apply Ext.mk | (refine Ext.setr ?_ (by (first | omega | (simp -implicitDefEqProofs only [gL] <;> omega))) _))); done) | (simp -implicitDefEqProofs only [gL, gA, hrow1, ho5, m1, m4', m2, m3] <;> omega) | fail) only [gB, setAll, partL, fldV, reduceIte, Nat.reduceAdd, Nat.reduceMul, hrow1, ho5, m1, m4', m2, m3]
      rw [← htk] at nb'
      exact ih (i + 1) s' lg' _ _ (by omega) nb'

theorem make_l6 {h h1 : Heap} {k n : Int} {l : List Rw} {s : AV} {css : List (List AV)} (mc : MC h h1 k n l s css) (hS : ∀ c ∈ l, MakeS c) :
    ∀ (d i : Nat) (s4 : AV) (lg : Nat) (cs4 : List (List AV)) (H : Heap), i + d = max 2 (min l.length 4) → NB h1 H [I 5, I 0, I 0, I 0] s4 lg ((ptsN n (mkNs l)).take i) cs4 →
      WP (fun p : Nat × Nat => milestonelaw4_Raw_Make_l6 tab p.1 p.2 (.ptr h.length 0 3 0) (.ptr (h.length + 1) 0 5 0) (.ptr h1.length 0 5 0) (I i) H) (NewN h (.uni (ptsN n (mkNs l)))) := by
  have hml : (mkNs l).length = l.length := by rw [mkNs_map, List.length_map]
  have hpl : (ptsN n (mkNs l)).length = max 2 (min l.length 4) := by simp [ptsN, hml]
  have h1l := mc.len
  intro d
  induction d with
  | zero =>
    intro i s4 lg cs4 H hi nb
    refine WP.rnd (fun i' j => milestonelaw4_Raw_Make_l6_eq tab i' j (.ptr h.length 0 3 0) (.ptr (h.length + 1) 0 5 0) (.ptr h1.length 0 5 0) (I i) H) ?_
    have hx0 := nb.ext.get mc.r0
    have hx1 := nb.ext.get mc.r1
    have sl' : Sl H 3 s (css.map fun x => x) := by rw [List.map_id']; exact mc.sl.ext nb.ext
    have hlen := mc.rv.len
    have hrow : H[h1.length]? = some (.cells ⟨[I 5, I 0, I 0, I 0, s4], 0, 0, false⟩) := nb.row
    have hso := nb.gr.sl.one
    have hno := nb.no
    rw [List.take_of_length_le (by omega)] at nb
    have nv := nb.done (n := .uni (ptsN n (mkNs l))) rfl rfl
    have fin := mc.fin nb.ext (nv.frs (FrS.refl (fun _ => False) H) (fun _ _ _ z => z) (D' := fun o => h1.length ≤ o ∧ o < H.length) fun o _ z => ⟨by omega, z.2⟩)
    by_cases h4 : i < l.length
    · simp -implicitDefEqProofs (disch := first | assumption | omega | (simp -implicitDefEqProofs only [gL] <;> omega) | ((repeat (first | exact Ext.refl _ | assumption | apply Ext.app | apply Ext.mk | (refine Ext.setr ?_ (by (first | omega | (simp -implicitDefEqProofs only [gL] <;> omega))) _))); done) | (simp -implicitDefEqProofs only [gL, gA, hx0, sl'.lenG, hrow, hx1, hso] <;> omega) | fail) only [gB, setAll, partL, fldV, reduceIte, Nat.reduceAdd, Nat.reduceMul, hx0, sl'.lenG, hrow, hx1, hso]
      exact WP.lv (WP.ret fin) fun i j => rfl
    · simp -implicitDefEqProofs (disch := first | assumption | omega | (simp -implicitDefEqProofs only [gL] <;> omega) | ((repeat (first | exact Ext.refl _ | assumption | apply Ext.app | apply Ext.mk | (refine Ext.setr ?_ (by (first | omega | (simp -implicitDefEqProofs only [gL] <;> omega))) _))); done) | (simp -implicitDefEqProofs only [gL, gA, hx0, sl'.lenG, hrow, hx1, hso] <;> omega) | fail) only [gB, setAll, partL, fldV, reduceIte, Nat.reduceAdd, Nat.reduceMul, hx0, sl'.lenG, hrow, hx1, hso]
      exact WP.lv (WP.ret fin) fun i j => rfl
  | succ d ih =>
    intro i s4 lg cs4 H hi nb
    refine WP.rnd (fun i' j => milestonelaw4_Raw_Make_l6_eq tab i' j (.ptr h.length 0 3 0) (.ptr (h.length + 1) 0 5 0) (.ptr h1.length 0 5 0) (I i) H) ?_
    have hx0 := nb.ext.get mc.r0
    have sl' : Sl H 3 s (css.map fun x => x) := by rw [List.map_id']; exact mc.sl.ext nb.ext
    have hlen := mc.rv.len
    have hrow : H[h1.length]? = some (.cells ⟨[I 5, I 0, I 0, I 0, s4], 0, 0, false⟩) := nb.row
    have hcl : cs4.length ≤ 1000 := by rw [← nb.nvs.len, List.length_take]; omega
    have hil : i < 4 := by omega
    have htk : (ptsN n (mkNs l)).take (i + 1) = (ptsN n (mkNs l)).take i ++ [ptN n (mkNs l) i] := by
      rw [List.take_add_one]
      congr 1
      simp [ptsN, hml, show i < max 2 (min l.length 4) by omega]
    by_cases h2 : i < 2
    · simp -implicitDefEqProofs (disch := first | assumption | omega | (simp -implicitDefEqProofs only [gL] <;> omega) | ((repeat (first | exact Ext.refl _ | assumption | apply Ext.app | apply Ext.mk | (refine Ext.setr ?_ (by (first | omega | (simp -implicitDefEqProofs only [gL] <;> omega))) _))); done) | (simp -implicitDefEqProofs only [gL, gA, hx0, hrow] <;> omega) | fail) only [gB, setAll, partL, fldV, reduceIte, Nat.reduceAdd, Nat.reduceMul, hx0, hrow]
      refine WP.call (part_spec (k := k) hS [I k, I n, s] (.mk (mc.sl.ext nb.ext) (mc.rv.ext nb.ext)) (i := i) (by omega)) ?_
      rintro _ H1 ⟨e1, c5, rfl, nv⟩
      obtain ⟨s5, rfl, ho5⟩ := nv.inv
      have hrow1 := e1.get hrow
      obtain ⟨s', H3, m1, m2, m3, m4, lg', nb'⟩ := nb.add rfl e1 nv hcl
      have m4' : H3[h1.length]? = some (.cells ⟨[I 5, I 0, I 0, I 0, s4], 0, 0, false⟩) := m4
      rw [mkObj_eq] at m1
      simp -implicitDefEqProofs (disch := first | assumption | omega | (simp -implicitDefEqProofs only [gL] <;> omega) | ((repeat (first | exact Ext.refl _ | assumption | apply Ext.app | apply Ext.mk | (refine Ext.setr ?_ (by (first | omega | (simp -implicitDefEqProofs only [gL] <;> omega))) _))); done) | (simp -implicitDefEqProofs only [gL, gA, hrow1, ho5, m1, m4', m2, m3] <;> omega) | fail) only [gB, setAll, partL, fldV, reduceIte, Nat.reduceAdd, Nat.reduceMul, hrow1, ho5, m1, m4', m2, m3]
      rw [← htk] at nb'
      exact ih (i + 1) s' lg' _ _ (by omega) nb'
    · simp -implicitDefEqProofs (disch := first | assumption | omega | (simp -implicitDefEqProofs only [gL] <;> omega) | ((repeat (first | exact Ext.refl _ | assumption | apply Ext.app | apply Ext.mk | (refine Ext.setr ?_ (by (first | omega | (simp -implicitDefEqProofs only [gL] <;> omega))) _))); done) | (simp -implicitDefEqProofs only [gL, gA, hx0, sl'.lenG, hrow] <;> omega) | fail) only [gB, setAll, partL, fldV, reduceIte, Nat.reduceAdd, Nat.reduceMul, hx0, sl'.lenG, hrow]
      refine WP.call (part_spec (k := k) hS [I k, I n, s] (.mk (mc.sl.ext nb.ext) (mc.rv.ext nb.ext)) (i := i) (by omega)) ?_
      rintro _ H1 ⟨e1, c5, rfl, nv⟩
      obtain ⟨s5, rfl, ho5⟩ := nv.inv
      have hrow1 := e1.get hrow
      obtain ⟨s', H3, m1, m2, m3, m4, lg', nb'⟩ := nb.add rfl e1 nv hcl
      have m4' : H3[h1.length]? = some (.cells ⟨[I 5, I 0, I 0, I 0, s4], 0, 0, false⟩) := m4
      rw [mkObj_eq] at m1
      simp -implicitDefEqProofs (disch := first | assumption | omega | (simp -implicitDefEqProofs only [gL] <;> omega) | ((repeat (first | exact Ext.refl _ | assumption | apply Ext.app | apply Ext.mk | (refine Ext.setr ?_ (by (first | omega | (simp -implicitDefEqProofs only [gL] <;> omega))) _))); done) | (simp -implicitDefEqProofs only [gL, gA, hrow1, ho5, m1, m4', m2, m3] <;> omega) | fail) only [gB, setAll, partL, fldV, reduceIte, Nat.reduceAdd, Nat.reduceMul, hrow1, ho5, m1, m4', m2, m3]
      rw [← htk] at nb'
      exact ih (i + 1) s' lg' _ _ (by omega) nb'

theorem MC.leaf {h h1 : Heap} {k n : Int} {l : List Rw} {s : AV} {css : List (List AV)} (mc : MC h h1 k n l s css) {n' : Nd} (hn : n'.kids = []) {H : Heap} (e : Ext h1 H) : NewN h n' (.agg [I n'.kind, I n'.st, I n'.lo, I n'.hi, .nils]) (H.set (h.length + 1) (.cells ⟨[I n'.kind, I n'.st, I n'.lo, I n'.hi, .nils], 0, 0, false⟩)) := mc.fin e (nvd_leaf hn)
theorem MC.kid {h h1 : Heap} {k n : Int} {l : List Rw} {s : AV} {css : List (List AV)} (mc : MC h h1 k n l s css) {n' c : Nd} (hn : n'.kids = [c]) {H1 : Heap} (e : Ext h1 H1) {c5 : List AV} (nv : NVD H1 (fun o => h1.length ≤ o ∧ o < H1.length) c c5) :
    NewN h n' (.agg [I n'.kind, I n'.st, I n'.lo, I n'.hi, .sl H1.length 0 1 5 none 0]) ((H1 ++ [AObj.cells ⟨c5, 0, 0, false⟩]).set (h.length + 1) (.cells ⟨[I n'.kind, I n'.st, I n'.lo, I n'.hi, .sl H1.length 0 1 5 none 0], 0, 0, false⟩)) := by
  have e3 : Ext H1 (H1 ++ [AObj.cells ⟨c5, 0, 0, false⟩]) := Ext.push H1 _
  have hle := e.len
  refine mc.fin (e.trans e3) (.mk (css := [c5]) (Gr.lit (sz := 5) nv.len).sl (fun _ => ⟨hle, by simp [AV.obj]⟩) ?_)
  rw [hn]
  exact .cons (nv.ext e3 fun o h1 h2 => ⟨h2.1, by simp; omega⟩) .nil
section
variable {h h1 : Heap} {k n : Int} {l : List Rw} {s : AV} {css : List (List AV)}
theorem make_b7 (mc : MC h h1 k n l s css) (hS : ∀ c ∈ l, MakeS c) : WP (fun i : Nat => milestonelaw4_Raw_Make_b7 tab i (.ptr h.length 0 3 0) (.ptr (h.length + 1) 0 5 0) h1) (NewN h (.rep (n % 4).toNat ((n % 4).toNat + (wr (n.tdiv 4) % 3).toNat) (ptN n (mkNs l) 0))) := by
  refine WP.congr (fun i => milestonelaw4_Raw_Make_b7_eq tab i (.ptr h.length 0 3 0) (.ptr (h.length + 1) 0 5 0) h1) ?_
  have hx0 := mc.r0
  simp -implicitDefEqProofs (disch := first | assumption | omega | (simp -implicitDefEqProofs only [gL] <;> omega) | ((repeat (first | exact Ext.refl _ | assumption | apply Ext.app | apply Ext.mk | (refine Ext.setr ?_ (by (first | omega | (simp -implicitDefEqProofs only [gL] <;> omega))) _))); done) | (simp -implicitDefEqProofs only [gL, gA, hx0] <;> omega) | fail) only [gB, setAll, partL, fldV, reduceIte, Nat.reduceAdd, Nat.reduceMul, hx0]
  refine WP.call (within4_spec (n := 4) (by omega) (by unfold Fit; omega) h1) ?_
  rintro _ _ ⟨rfl, rfl⟩
  simp -implicitDefEqProofs (disch := first | assumption | omega | (simp -implicitDefEqProofs only [gL] <;> omega) | ((repeat (first | exact Ext.refl _ | assumption | apply Ext.app | apply Ext.mk | (refine Ext.setr ?_ (by (first | omega | (simp -implicitDefEqProofs only [gL] <;> omega))) _))); done) | (simp -implicitDefEqProofs only [gL, gA, hx0] <;> omega) | fail) only [gB, setAll, partL, fldV, reduceIte, Nat.reduceAdd, Nat.reduceMul, hx0]
  refine WP.call (within4_spec (n := 3) (by omega) (by unfold Fit; omega) h1) ?_
  rintro _ _ ⟨rfl, rfl⟩
  have a1 : 0 ≤ n % 4 ∧ n % 4 < 4 := ⟨Int.emod_nonneg _ (by omega), Int.emod_lt_of_pos _ (by omega)⟩
  have a2 : 0 ≤ wr (n.tdiv 4) % 3 ∧ wr (n.tdiv 4) % 3 < 3 := ⟨Int.emod_nonneg _ (by omega), Int.emod_lt_of_pos _ (by omega)⟩
  obtain ⟨a, ha⟩ : ∃ a : Nat, n % 4 = a := ⟨(n % 4).toNat, by omega⟩
  obtain ⟨b, hb⟩ : ∃ b : Nat, wr (n.tdiv 4) % 3 = b := ⟨(wr (n.tdiv 4) % 3).toNat, by omega⟩
  have hb' : IntKind.i64.wrap (n.tdiv 4) % 3 = b := hb
  simp -implicitDefEqProofs (disch := first | assumption | omega | (simp -implicitDefEqProofs only [gL] <;> omega) | ((repeat (first | exact Ext.refl _ | assumption | apply Ext.app | apply Ext.mk | (refine Ext.setr ?_ (by (first | omega | (simp -implicitDefEqProofs only [gL] <;> omega))) _))); done) | (simp -implicitDefEqProofs only [gL, gA, hx0, ha, hb, hb'] <;> omega) | fail) only [gB, setAll, partL, fldV, reduceIte, Nat.reduceAdd, Nat.reduceMul, hx0, ha, hb, hb']
  rw [show AV.int .i64 0 = I ((0 : Nat) : Int) from rfl]
  refine WP.call (part_spec (k := k) hS [I k, I n, s] (.mk mc.sl mc.rv) (i := 0) (by omega)) ?_
  rintro _ H1 ⟨e1, c5, rfl, nv⟩
  obtain ⟨s5, rfl, ho5⟩ := nv.inv
  have hx1 := e1.get mc.r1
  have hle := e1.len
  have hl1 := mc.len
  simp -implicitDefEqProofs (disch := first | assumption | omega | (simp -implicitDefEqProofs only [gL] <;> omega) | ((repeat (first | exact Ext.refl _ | assumption | apply Ext.app | apply Ext.mk | (refine Ext.setr ?_ (by (first | omega | (simp -implicitDefEqProofs only [gL] <;> omega))) _))); done) | (simp -implicitDefEqProofs only [gL, gA, hx1, ho5] <;> omega) | fail) only [gB, setAll, partL, fldV, reduceIte, Nat.reduceAdd, Nat.reduceMul, hx1, ho5]
  have := mc.kid (n' := .rep a (a + b) (ptN n (mkNs l) 0)) rfl e1 nv
  try rw [show (n % 4).toNat = a by omega, show (wr (n.tdiv 4) % 3).toNat = b by omega]
  simp only [Nd.kind, Nd.st, Nd.lo, Nd.hi, Int.natCast_add] at this
  exact WP.ret this
theorem make_b10 (mc : MC h h1 k n l s css) (hS : ∀ c ∈ l, MakeS c) : WP (fun i : Nat => milestonelaw4_Raw_Make_b5 tab i (.ptr h.length 0 3 0) (.ptr (h.length + 1) 0 5 0) (I 10) (.bool false) h1) (NewN h (.star (ptN n (mkNs l) 0))) := by
  refine WP.congr (fun i => milestonelaw4_Raw_Make_b5_eq tab i (.ptr h.length 0 3 0) (.ptr (h.length + 1) 0 5 0) (I 10) (.bool false) h1) ?_
  have hx0 := mc.r0
  simp -implicitDefEqProofs (disch := first | assumption | omega | (simp -implicitDefEqProofs only [gL] <;> omega) | ((repeat (first | exact Ext.refl _ | assumption | apply Ext.app | apply Ext.mk | (refine Ext.setr ?_ (by (first | omega | (simp -implicitDefEqProofs only [gL] <;> omega))) _))); done) | (simp -implicitDefEqProofs only [gL, gA, hx0] <;> omega) | fail) only [gB, setAll, partL, fldV, reduceIte, Nat.reduceAdd, Nat.reduceMul, hx0]
  rw [show AV.int .i64 0 = I ((0 : Nat) : Int) from rfl]
  refine WP.call (part_spec (k := k) hS [I k, I n, s] (.mk mc.sl mc.rv) (i := 0) (by omega)) ?_
  rintro _ H1 ⟨e1, c5, rfl, nv⟩
  obtain ⟨s5, rfl, ho5⟩ := nv.inv
  have hx1 := e1.get mc.r1
  have hle := e1.len
  have hl1 := mc.len
  simp -implicitDefEqProofs (disch := first | assumption | omega | (simp -implicitDefEqProofs only [gL] <;> omega) | ((repeat (first | exact Ext.refl _ | assumption | apply Ext.app | apply Ext.mk | (refine Ext.setr ?_ (by (first | omega | (simp -implicitDefEqProofs only [gL] <;> omega))) _))); done) | (simp -implicitDefEqProofs only [gL, gA, hx1, ho5] <;> omega) | fail) only [gB, setAll, partL, fldV, reduceIte, Nat.reduceAdd, Nat.reduceMul, hx1, ho5]
  have := mc.kid (n' := .star (ptN n (mkNs l) 0)) rfl e1 nv
  simp only [Nd.kind, Nd.st, Nd.lo, Nd.hi] at this
  exact WP.ret this
theorem make_b11 (mc : MC h h1 k n l s css) (hS : ∀ c ∈ l, MakeS c) : WP (fun i : Nat => milestonelaw4_Raw_Make_b5 tab i (.ptr h.length 0 3 0) (.ptr (h.length + 1) 0 5 0) (I 11) (.bool false) h1) (NewN h (.plus (ptN n (mkNs l) 0))) := by
  refine WP.congr (fun i => milestonelaw4_Raw_Make_b5_eq tab i (.ptr h.length 0 3 0) (.ptr (h.length + 1) 0 5 0) (I 11) (.bool false) h1) ?_
  have hx0 := mc.r0
  simp -implicitDefEqProofs (disch := first | assumption | omega | (simp -implicitDefEqProofs only [gL] <;> omega) | ((repeat (first | exact Ext.refl _ | assumption | apply Ext.app | apply Ext.mk | (refine Ext.setr ?_ (by (first | omega | (simp -implicitDefEqProofs only [gL] <;> omega))) _))); done) | (simp -implicitDefEqProofs only [gL, gA, hx0] <;> omega) | fail) only [gB, setAll, partL, fldV, reduceIte, Nat.reduceAdd, Nat.reduceMul, hx0]
  rw [show AV.int .i64 0 = I ((0 : Nat) : Int) from rfl]
  refine WP.call (part_spec (k := k) hS [I k, I n, s] (.mk mc.sl mc.rv) (i := 0) (by omega)) ?_
  rintro _ H1 ⟨e1, c5, rfl, nv⟩
  obtain ⟨s5, rfl, ho5⟩ := nv.inv
  have hx1 := e1.get mc.r1
  have hle := e1.len
  have hl1 := mc.len
  simp -implicitDefEqProofs (disch := first | assumption | omega | (simp -implicitDefEqProofs only [gL] <;> omega) | ((repeat (first | exact Ext.refl _ | assumption | apply Ext.app | apply Ext.mk | (refine Ext.setr ?_ (by (first | omega | (simp -implicitDefEqProofs only [gL] <;> omega))) _))); done) | (simp -implicitDefEqProofs only [gL, gA, hx1, ho5] <;> omega) | fail) only [gB, setAll, partL, fldV, reduceIte, Nat.reduceAdd, Nat.reduceMul, hx1, ho5]
  have := mc.kid (n' := .plus (ptN n (mkNs l) 0)) rfl e1 nv
  simp only [Nd.kind, Nd.st, Nd.lo, Nd.hi] at this
  exact WP.ret this
theorem make_b12 (mc : MC h h1 k n l s css) (hS : ∀ c ∈ l, MakeS c) : WP (fun i : Nat => milestonelaw4_Raw_Make_b5 tab i (.ptr h.length 0 3 0) (.ptr (h.length + 1) 0 5 0) (I 12) (.bool false) h1) (NewN h (.opt (ptN n (mkNs l) 0))) := by
  refine WP.congr (fun i => milestonelaw4_Raw_Make_b5_eq tab i (.ptr h.length 0 3 0) (.ptr (h.length + 1) 0 5 0) (I 12) (.bool false) h1) ?_
  have hx0 := mc.r0
  simp -implicitDefEqProofs (disch := first | assumption | omega | (simp -implicitDefEqProofs only [gL] <;> omega) | ((repeat (first | exact Ext.refl _ | assumption | apply Ext.app | apply Ext.mk | (refine Ext.setr ?_ (by (first | omega | (simp -implicitDefEqProofs only [gL] <;> omega))) _))); done) | (simp -implicitDefEqProofs only [gL, gA, hx0] <;> omega) | fail) only [gB, setAll, partL, fldV, reduceIte, Nat.reduceAdd, Nat.reduceMul, hx0]
  rw [show AV.int .i64 0 = I ((0 : Nat) : Int) from rfl]
  refine WP.call (part_spec (k := k) hS [I k, I n, s] (.mk mc.sl mc.rv) (i := 0) (by omega)) ?_
  rintro _ H1 ⟨e1, c5, rfl, nv⟩
  obtain ⟨s5, rfl, ho5⟩ := nv.inv
  have hx1 := e1.get mc.r1
  have hle := e1.len
  have hl1 := mc.len
  simp -implicitDefEqProofs (disch := first | assumption | omega | (simp -implicitDefEqProofs only [gL] <;> omega) | ((repeat (first | exact Ext.refl _ | assumption | apply Ext.app | apply Ext.mk | (refine Ext.setr ?_ (by (first | omega | (simp -implicitDefEqProofs only [gL] <;> omega))) _))); done) | (simp -implicitDefEqProofs only [gL, gA, hx1, ho5] <;> omega) | fail) only [gB, setAll, partL, fldV, reduceIte, Nat.reduceAdd, Nat.reduceMul, hx1, ho5]
  have := mc.kid (n' := .opt (ptN n (mkNs l) 0)) rfl e1 nv
  simp only [Nd.kind, Nd.st, Nd.lo, Nd.hi] at this
  exact WP.ret this
theorem make_b13 (mc : MC h h1 k n l s css) (hS : ∀ c ∈ l, MakeS c) : WP (fun i : Nat => milestonelaw4_Raw_Make_b5 tab i (.ptr h.length 0 3 0) (.ptr (h.length + 1) 0 5 0) (I 13) (.bool false) h1) (NewN h (.rep (n % 4).toNat ((n % 4).toNat + (wr (n.tdiv 4) % 3).toNat) (ptN n (mkNs l) 0))) := by
  refine WP.congr (fun i => milestonelaw4_Raw_Make_b5_eq tab i (.ptr h.length 0 3 0) (.ptr (h.length + 1) 0 5 0) (I 13) (.bool false) h1) ?_
  simp -implicitDefEqProofs (disch := first | assumption | omega | (simp -implicitDefEqProofs only [gL] <;> omega) | ((repeat (first | exact Ext.refl _ | assumption | apply Ext.app | apply Ext.mk | (refine Ext.setr ?_ (by (first | omega | (simp -implicitDefEqProofs only [gL] <;> omega))) _))); done) | (simp -implicitDefEqProofs only [gL, gA] <;> omega) | fail) only [gB, setAll, partL, fldV, reduceIte, Nat.reduceAdd, Nat.reduceMul]
  exact make_b7 mc hS
theorem make_uni (mc : MC h h1 k n l s css) (hS : ∀ c ∈ l, MakeS c) (c : AV) : WP (fun i : Nat => milestonelaw4_Raw_Make_b5 tab i (.ptr h.length 0 3 0) (.ptr (h.length + 1) 0 5 0) c (.bool true) h1) (NewN h (.uni (ptsN n (mkNs l)))) := by
  refine WP.congr (fun i => milestonelaw4_Raw_Make_b5_eq tab i (.ptr h.length 0 3 0) (.ptr (h.length + 1) 0 5 0) c (.bool true) h1) ?_
  simp -implicitDefEqProofs (disch := first | assumption | omega | (simp -implicitDefEqProofs only [gL] <;> omega) | ((repeat (first | exact Ext.refl _ | assumption | apply Ext.app | apply Ext.mk | (refine Ext.setr ?_ (by (first | omega | (simp -implicitDefEqProofs only [gL] <;> omega))) _))); done) | (simp -implicitDefEqProofs only [gL, gA] <;> omega) | fail) only [gB, setAll, partL, fldV, reduceIte, Nat.reduceAdd, Nat.reduceMul]
  rw [set_last]
  exact WP.ent (make_l6 mc hS (max 2 (min l.length 4)) 0 .nils 0 [] _ (by omega) (NB.new h1 _)) fun i => rfl
theorem make_join (mc : MC h h1 k n l s css) (hS : ∀ c ∈ l, MakeS c) (c : AV) : WP (fun i : Nat => milestonelaw4_Raw_Make_b3 tab i (.ptr h.length 0 3 0) (.ptr (h.length + 1) 0 5 0) c (.bool true) h1) (NewN h (.join (ptsN n (mkNs l)))) := by
  refine WP.congr (fun i => milestonelaw4_Raw_Make_b3_eq tab i (.ptr h.length 0 3 0) (.ptr (h.length + 1) 0 5 0) c (.bool true) h1) ?_
  simp -implicitDefEqProofs (disch := first | assumption | omega | (simp -implicitDefEqProofs only [gL] <;> omega) | ((repeat (first | exact Ext.refl _ | assumption | apply Ext.app | apply Ext.mk | (refine Ext.setr ?_ (by (first | omega | (simp -implicitDefEqProofs only [gL] <;> omega))) _))); done) | (simp -implicitDefEqProofs only [gL, gA] <;> omega) | fail) only [gB, setAll, partL, fldV, reduceIte, Nat.reduceAdd, Nat.reduceMul]
  rw [set_last]
  exact WP.ent (make_l4 mc hS (max 2 (min l.length 4)) 0 .nils 0 [] _ (by omega) (NB.new h1 _)) fun i => rfl
theorem make_set (mc : MC h h1 k n l s css) (c : AV) : WP (fun i : Nat => milestonelaw4_Raw_Make_b1 tab i (.ptr h.length 0 3 0) (.ptr (h.length + 1) 0 5 0) c (.bool true) h1) (NewN h (.set (1 + (n % 31).toNat))) := by
  refine WP.congr (fun i => milestonelaw4_Raw_Make_b1_eq tab i (.ptr h.length 0 3 0) (.ptr (h.length + 1) 0 5 0) c (.bool true) h1) ?_
  have hx0 := mc.r0
  have hx1 := mc.r1
  have hl1 := mc.len
  simp -implicitDefEqProofs (disch := first | assumption | omega | (simp -implicitDefEqProofs only [gL] <;> omega) | ((repeat (first | exact Ext.refl _ | assumption | apply Ext.app | apply Ext.mk | (refine Ext.setr ?_ (by (first | omega | (simp -implicitDefEqProofs only [gL] <;> omega))) _))); done) | (simp -implicitDefEqProofs only [gL, gA, hx0] <;> omega) | fail) only [gB, setAll, partL, fldV, reduceIte, Nat.reduceAdd, Nat.reduceMul, hx0]
  refine WP.call (within4_spec (n := 31) (by omega) (by unfold Fit; omega) h1) ?_
  rintro _ _ ⟨rfl, rfl⟩
  have a1 : 0 ≤ n % 31 ∧ n % 31 < 31 := ⟨Int.emod_nonneg _ (by omega), Int.emod_lt_of_pos _ (by omega)⟩
  obtain ⟨a, ha⟩ : ∃ a : Nat, n % 31 = a := ⟨(n % 31).toNat, by omega⟩
  simp -implicitDefEqProofs (disch := first | assumption | omega | (simp -implicitDefEqProofs only [gL] <;> omega) | ((repeat (first | exact Ext.refl _ | assumption | apply Ext.app | apply Ext.mk | (refine Ext.setr ?_ (by (first | omega | (simp -implicitDefEqProofs only [gL] <;> omega))) _))); done) | (simp -implicitDefEqProofs only [gL, gA, hx1, ha] <;> omega) | fail) only [gB, setAll, partL, fldV, reduceIte, Nat.reduceAdd, Nat.reduceMul, hx1, ha]
  have := mc.leaf (n' := .set (1 + a)) rfl (Ext.refl _)
  try rw [show (n % 31).toNat = a by omega]
  simp only [Nd.kind, Nd.st, Nd.lo, Nd.hi, Int.natCast_add] at this
  exact WP.ret this
theorem make_sgn (mc : MC h h1 k n l s css) (c : AV) : WP (fun i : Nat => milestonelaw4_Raw_Make_b2 tab i (.ptr h.length 0 3 0) (.ptr (h.length + 1) 0 5 0) c (.bool true) h1) (NewN h (sgn n)) := by
  refine WP.congr (fun i => milestonelaw4_Raw_Make_b2_eq tab i (.ptr h.length 0 3 0) (.ptr (h.length + 1) 0 5 0) c (.bool true) h1) ?_
  have hx0 := mc.r0
  have hx1 := mc.r1
  have hl1 := mc.len
  simp -implicitDefEqProofs (disch := first | assumption | omega | (simp -implicitDefEqProofs only [gL] <;> omega) | ((repeat (first | exact Ext.refl _ | assumption | apply Ext.app | apply Ext.mk | (refine Ext.setr ?_ (by (first | omega | (simp -implicitDefEqProofs only [gL] <;> omega))) _))); done) | (simp -implicitDefEqProofs only [gL, gA, hx0] <;> omega) | fail) only [gB, setAll, partL, fldV, reduceIte, Nat.reduceAdd, Nat.reduceMul, hx0]
  refine WP.call (within4_spec (n := 5) (by omega) (by unfold Fit; omega) h1) ?_
  rintro _ _ ⟨rfl, rfl⟩
  have a1 : 0 ≤ n % 5 ∧ n % 5 < 5 := ⟨Int.emod_nonneg _ (by omega), Int.emod_lt_of_pos _ (by omega)⟩
  obtain ⟨m, hm⟩ : ∃ m : Int, n % 5 = m := ⟨_, rfl⟩
  rw [hm] at a1
  simp -implicitDefEqProofs (disch := first | assumption | omega | (simp -implicitDefEqProofs only [gL] <;> omega) | ((repeat (first | exact Ext.refl _ | assumption | apply Ext.app | apply Ext.mk | (refine Ext.setr ?_ (by (first | omega | (simp -implicitDefEqProofs only [gL] <;> omega))) _))); done) | (simp -implicitDefEqProofs only [gL, gA, hx1, hm] <;> omega) | fail) only [gB, setAll, partL, fldV, reduceIte, Nat.reduceAdd, Nat.reduceMul, hx1, hm]
  have := mc.leaf (n' := .set (2 ^ m.toNat)) rfl (Ext.refl _)
  rw [show sgn n = .set (2 ^ m.toNat) by rw [sgn, hm]]
  simp only [Nd.kind, Nd.st, Nd.lo, Nd.hi] at this
  exact WP.ret this
theorem make_no (mc : MC h h1 k n l s css) : WP (fun i : Nat => milestonelaw4_Raw_Make_b2 tab i (.ptr h.length 0 3 0) (.ptr (h.length + 1) 0 5 0) (I 4) (.bool false) h1) (NewN h (if n % 3 = 0 then .emp else .eps)) := by
  refine WP.congr (fun i => milestonelaw4_Raw_Make_b2_eq tab i (.ptr h.length 0 3 0) (.ptr (h.length + 1) 0 5 0) (I 4) (.bool false) h1) ?_
  obtain ⟨h2, hh2⟩ : ∃ h2, h2 = h1 ++ [AObj.cells ⟨[I 2, I 3, I 3], 0, 0, false⟩] := ⟨_, rfl⟩
  have e2 : Ext h1 h2 := by rw [hh2]; ((repeat (first | exact Ext.refl _ | assumption | apply Ext.app | apply Ext.mk | (refine Ext.setr ?_ (by (first | omega | (simp -implicitDefEqProofs only [gL] <;> omega))) _))))
  have hx0 := e2.get mc.r0
  have hx1 := e2.get mc.r1
  have hl1 := mc.len
  have hl2 : h2.length = h1.length + 1 := by rw [hh2]; simp
  have hx2 : h2[h1.length]? = some (.cells ⟨[I 2, I 3, I 3], 0, 0, false⟩) := by rw [hh2]; simp
  simp -implicitDefEqProofs (disch := first | assumption | omega | (simp -implicitDefEqProofs only [gL] <;> omega) | ((repeat (first | exact Ext.refl _ | assumption | apply Ext.app | apply Ext.mk | (refine Ext.setr ?_ (by (first | omega | (simp -implicitDefEqProofs only [gL] <;> omega))) _))); done) | (simp -implicitDefEqProofs only [gL, gA] <;> omega) | fail) only [gB, setAll, partL, fldV, reduceIte, Nat.reduceAdd, Nat.reduceMul]
  rw [← hh2]
  simp -implicitDefEqProofs (disch := first | assumption | omega | (simp -implicitDefEqProofs only [gL] <;> omega) | ((repeat (first | exact Ext.refl _ | assumption | apply Ext.app | apply Ext.mk | (refine Ext.setr ?_ (by (first | omega | (simp -implicitDefEqProofs only [gL] <;> omega))) _))); done) | (simp -implicitDefEqProofs only [gL, gA, mc.r0] <;> omega) | fail) only [gB, setAll, partL, fldV, reduceIte, Nat.reduceAdd, Nat.reduceMul, mc.r0]
  refine WP.call (within4_spec (n := 3) (by omega) (by unfold Fit; omega) h2) ?_
  rintro _ _ ⟨rfl, rfl⟩
  have a1 : 0 ≤ n % 3 ∧ n % 3 < 3 := ⟨Int.emod_nonneg _ (by omega), Int.emod_lt_of_pos _ (by omega)⟩
  have a2 : n % 3 = 0 ∨ n % 3 = 1 ∨ n % 3 = 2 := by omega
  rcases a2 with a2 | a2 | a2
  · rw [if_pos a2]
    simp -implicitDefEqProofs (disch := first | assumption | omega | (simp -implicitDefEqProofs only [gL] <;> omega) | ((repeat (first | exact Ext.refl _ | assumption | apply Ext.app | apply Ext.mk | (refine Ext.setr ?_ (by (first | omega | (simp -implicitDefEqProofs only [gL] <;> omega))) _))); done) | (simp -implicitDefEqProofs only [gL, gA, hx1, hx2, a2, show Int.toNat 0 = 0 from rfl] <;> omega) | fail) only [gB, setAll, partL, fldV, reduceIte, Nat.reduceAdd, Nat.reduceMul, hx1, hx2, a2, show Int.toNat 0 = 0 from rfl]
    exact WP.ret (mc.leaf (n' := .emp) rfl e2)
  · rw [if_neg (by omega)]
    simp -implicitDefEqProofs (disch := first | assumption | omega | (simp -implicitDefEqProofs only [gL] <;> omega) | ((repeat (first | exact Ext.refl _ | assumption | apply Ext.app | apply Ext.mk | (refine Ext.setr ?_ (by (first | omega | (simp -implicitDefEqProofs only [gL] <;> omega))) _))); done) | (simp -implicitDefEqProofs only [gL, gA, hx1, hx2, a2, show Int.toNat 1 = 1 from rfl] <;> omega) | fail) only [gB, setAll, partL, fldV, reduceIte, Nat.reduceAdd, Nat.reduceMul, hx1, hx2, a2, show Int.toNat 1 = 1 from rfl]
    exact WP.ret (mc.leaf (n' := .eps) rfl e2)
  · rw [if_neg (by omega)]
    simp -implicitDefEqProofs (disch := first | assumption | omega | (simp -implicitDefEqProofs only [gL] <;> omega) | ((repeat (first | exact Ext.refl _ | assumption | apply Ext.app | apply Ext.mk | (refine Ext.setr ?_ (by (first | omega | (simp -implicitDefEqProofs only [gL] <;> omega))) _))); done) | (simp -implicitDefEqProofs only [gL, gA, hx1, hx2, a2, show Int.toNat 2 = 2 from rfl] <;> omega) | fail) only [gB, setAll, partL, fldV, reduceIte, Nat.reduceAdd, Nat.reduceMul, hx1, hx2, a2, show Int.toNat 2 = 2 from rfl]
    exact WP.ret (mc.leaf (n' := .eps) rfl e2)
end
theorem make_spec (r : Rw) : MakeS r := by
  refine Rw.ind (p := MakeS) ?_ r
  rintro ⟨k, n, l⟩ hS c3 h rv
  cases rv with
  | @mk _ _ _ s css sl rv =>
  refine WP.tot (fun k' => (call_milestonelaw4_Raw_Make k' _ h).trans (milestonelaw4_Raw_Make_eq tab k' _ h)) ?_
  have hso := sl.one
  obtain ⟨h1, hh1⟩ : ∃ h1, h1 = (h ++ [AObj.cells ⟨[I k, I n, s], 0, 0, false⟩]) ++ [AObj.cells ⟨[I 0, I 0, I 0, I 0, .nils], 0, 0, false⟩] := ⟨_, rfl⟩
  have e1 : Ext h h1 := by rw [hh1]; ((repeat (first | exact Ext.refl _ | assumption | apply Ext.app | apply Ext.mk | (refine Ext.setr ?_ (by (first | omega | (simp -implicitDefEqProofs only [gL] <;> omega))) _))))
  have mc : MC h h1 k n l s css := ⟨e1, by rw [hh1]; simp, by rw [hh1]; simp, by rw [hh1]; simp, sl.ext e1, rv.ext e1⟩
  have hx0 := mc.r0
  simp -implicitDefEqProofs (disch := first | assumption | omega | (simp -implicitDefEqProofs only [gL] <;> omega) | ((repeat (first | exact Ext.refl _ | assumption | apply Ext.app | apply Ext.mk | (refine Ext.setr ?_ (by (first | omega | (simp -implicitDefEqProofs only [gL] <;> omega))) _))); done) | (simp -implicitDefEqProofs only [gL, gA, hso] <;> omega) | fail) only [gB, setAll, partL, fldV, reduceIte, Nat.reduceAdd, Nat.reduceMul, hso]
  rw [← hh1]
  refine WP.call (within4_spec (n := 14) (by omega) (by unfold Fit; omega) h1) ?_
  rintro _ _ ⟨rfl, rfl⟩
  have a1 : 0 ≤ k % 14 ∧ k % 14 < 14 := ⟨Int.emod_nonneg _ (by omega), Int.emod_lt_of_pos _ (by omega)⟩
  obtain ⟨c, hc⟩ : ∃ c : Nat, k % 14 = c := ⟨(k % 14).toNat, by omega⟩
  have hmk : mkN (.mk k n l) = mkOf k n (mkNs l) := by rw [mkN]
  have hct : (k % 14).toNat = c := by omega
  rw [hmk]
  unfold mkOf
  rw [hct, hc]
  have hcc : c = 0 ∨ c = 1 ∨ c = 2 ∨ c = 3 ∨ c = 4 ∨ c = 5 ∨ c = 6 ∨ c = 7 ∨ c = 8 ∨ c = 9 ∨ c = 10 ∨ c = 11 ∨ c = 12 ∨ c = 13 := by omega
  rcases hcc with rfl | rfl | rfl | rfl | rfl | rfl | rfl | rfl | rfl | rfl | rfl | rfl | rfl | rfl
  · simp -implicitDefEqProofs (disch := first | assumption | omega | (simp -implicitDefEqProofs only [gL] <;> omega) | ((repeat (first | exact Ext.refl _ | assumption | apply Ext.app | apply Ext.mk | (refine Ext.setr ?_ (by (first | omega | (simp -implicitDefEqProofs only [gL] <;> omega))) _))); done) | (simp -implicitDefEqProofs only [gL, gA] <;> omega) | fail) only [gB, setAll, partL, fldV, reduceIte, Nat.reduceAdd, Nat.reduceMul]
    exact make_set mc _
  · simp -implicitDefEqProofs (disch := first | assumption | omega | (simp -implicitDefEqProofs only [gL] <;> omega) | ((repeat (first | exact Ext.refl _ | assumption | apply Ext.app | apply Ext.mk | (refine Ext.setr ?_ (by (first | omega | (simp -implicitDefEqProofs only [gL] <;> omega))) _))); done) | (simp -implicitDefEqProofs only [gL, gA] <;> omega) | fail) only [gB, setAll, partL, fldV, reduceIte, Nat.reduceAdd, Nat.reduceMul]
    exact make_set mc _
  · simp -implicitDefEqProofs (disch := first | assumption | omega | (simp -implicitDefEqProofs only [gL] <;> omega) | ((repeat (first | exact Ext.refl _ | assumption | apply Ext.app | apply Ext.mk | (refine Ext.setr ?_ (by (first | omega | (simp -implicitDefEqProofs only [gL] <;> omega))) _))); done) | (simp -implicitDefEqProofs only [gL, gA] <;> omega) | fail) only [gB, setAll, partL, fldV, reduceIte, Nat.reduceAdd, Nat.reduceMul]
    refine WP.congr (fun i => milestonelaw4_Raw_Make_b1_eq tab i (.ptr h.length 0 3 0) (.ptr (h.length + 1) 0 5 0) (I 2) (.bool false) h1) ?_
    simp -implicitDefEqProofs (disch := first | assumption | omega | (simp -implicitDefEqProofs only [gL] <;> omega) | ((repeat (first | exact Ext.refl _ | assumption | apply Ext.app | apply Ext.mk | (refine Ext.setr ?_ (by (first | omega | (simp -implicitDefEqProofs only [gL] <;> omega))) _))); done) | (simp -implicitDefEqProofs only [gL, gA] <;> omega) | fail) only [gB, setAll, partL, fldV, reduceIte, Nat.reduceAdd, Nat.reduceMul]
    exact make_sgn mc _
  · simp -implicitDefEqProofs (disch := first | assumption | omega | (simp -implicitDefEqProofs only [gL] <;> omega) | ((repeat (first | exact Ext.refl _ | assumption | apply Ext.app | apply Ext.mk | (refine Ext.setr ?_ (by (first | omega | (simp -implicitDefEqProofs only [gL] <;> omega))) _))); done) | (simp -implicitDefEqProofs only [gL, gA] <;> omega) | fail) only [gB, setAll, partL, fldV, reduceIte, Nat.reduceAdd, Nat.reduceMul]
    refine WP.congr (fun i => milestonelaw4_Raw_Make_b1_eq tab i (.ptr h.length 0 3 0) (.ptr (h.length + 1) 0 5 0) (I 3) (.bool false) h1) ?_
    simp -implicitDefEqProofs (disch := first | assumption | omega | (simp -implicitDefEqProofs only [gL] <;> omega) | ((repeat (first | exact Ext.refl _ | assumption | apply Ext.app | apply Ext.mk | (refine Ext.setr ?_ (by (first | omega | (simp -implicitDefEqProofs only [gL] <;> omega))) _))); done) | (simp -implicitDefEqProofs only [gL, gA] <;> omega) | fail) only [gB, setAll, partL, fldV, reduceIte, Nat.reduceAdd, Nat.reduceMul]
    exact make_sgn mc _
  · simp -implicitDefEqProofs (disch := first | assumption | omega | (simp -implicitDefEqProofs only [gL] <;> omega) | ((repeat (first | exact Ext.refl _ | assumption | apply Ext.app | apply Ext.mk | (refine Ext.setr ?_ (by (first | omega | (simp -implicitDefEqProofs only [gL] <;> omega))) _))); done) | (simp -implicitDefEqProofs only [gL, gA] <;> omega) | fail) only [gB, setAll, partL, fldV, reduceIte, Nat.reduceAdd, Nat.reduceMul]
    refine WP.congr (fun i => milestonelaw4_Raw_Make_b1_eq tab i (.ptr h.length 0 3 0) (.ptr (h.length + 1) 0 5 0) (I 4) (.bool false) h1) ?_
    simp -implicitDefEqProofs (disch := first | assumption | omega | (simp -implicitDefEqProofs only [gL] <;> omega) | ((repeat (first | exact Ext.refl _ | assumption | apply Ext.app | apply Ext.mk | (refine Ext.setr ?_ (by (first | omega | (simp -implicitDefEqProofs only [gL] <;> omega))) _))); done) | (simp -implicitDefEqProofs only [gL, gA] <;> omega) | fail) only [gB, setAll, partL, fldV, reduceIte, Nat.reduceAdd, Nat.reduceMul]
    exact make_no mc
  · simp -implicitDefEqProofs (disch := first | assumption | omega | (simp -implicitDefEqProofs only [gL] <;> omega) | ((repeat (first | exact Ext.refl _ | assumption | apply Ext.app | apply Ext.mk | (refine Ext.setr ?_ (by (first | omega | (simp -implicitDefEqProofs only [gL] <;> omega))) _))); done) | (simp -implicitDefEqProofs only [gL, gA] <;> omega) | fail) only [gB, setAll, partL, fldV, reduceIte, Nat.reduceAdd, Nat.reduceMul]
    refine WP.congr (fun i => milestonelaw4_Raw_Make_b1_eq tab i (.ptr h.length 0 3 0) (.ptr (h.length + 1) 0 5 0) (I 5) (.bool false) h1) ?_
    simp -implicitDefEqProofs (disch := first | assumption | omega | (simp -implicitDefEqProofs only [gL] <;> omega) | ((repeat (first | exact Ext.refl _ | assumption | apply Ext.app | apply Ext.mk | (refine Ext.setr ?_ (by (first | omega | (simp -implicitDefEqProofs only [gL] <;> omega))) _))); done) | (simp -implicitDefEqProofs only [gL, gA] <;> omega) | fail) only [gB, setAll, partL, fldV, reduceIte, Nat.reduceAdd, Nat.reduceMul]
    refine WP.congr (fun i => milestonelaw4_Raw_Make_b2_eq tab i (.ptr h.length 0 3 0) (.ptr (h.length + 1) 0 5 0) (I 5) (.bool false) h1) ?_
    simp -implicitDefEqProofs (disch := first | assumption | omega | (simp -implicitDefEqProofs only [gL] <;> omega) | ((repeat (first | exact Ext.refl _ | assumption | apply Ext.app | apply Ext.mk | (refine Ext.setr ?_ (by (first | omega | (simp -implicitDefEqProofs only [gL] <;> omega))) _))); done) | (simp -implicitDefEqProofs only [gL, gA] <;> omega) | fail) only [gB, setAll, partL, fldV, reduceIte, Nat.reduceAdd, Nat.reduceMul]
    exact make_join mc hS _
  · simp -implicitDefEqProofs (disch := first | assumption | omega | (simp -implicitDefEqProofs only [gL] <;> omega) | ((repeat (first | exact Ext.refl _ | assumption | apply Ext.app | apply Ext.mk | (refine Ext.setr ?_ (by (first | omega | (simp -implicitDefEqProofs only [gL] <;> omega))) _))); done) | (simp -implicitDefEqProofs only [gL, gA] <;> omega) | fail) only [gB, setAll, partL, fldV, reduceIte, Nat.reduceAdd, Nat.reduceMul]
    refine WP.congr (fun i => milestonelaw4_Raw_Make_b1_eq tab i (.ptr h.length 0 3 0) (.ptr (h.length + 1) 0 5 0) (I 6) (.bool false) h1) ?_
    simp -implicitDefEqProofs (disch := first | assumption | omega | (simp -implicitDefEqProofs only [gL] <;> omega) | ((repeat (first | exact Ext.refl _ | assumption | apply Ext.app | apply Ext.mk | (refine Ext.setr ?_ (by (first | omega | (simp -implicitDefEqProofs only [gL] <;> omega))) _))); done) | (simp -implicitDefEqProofs only [gL, gA] <;> omega) | fail) only [gB, setAll, partL, fldV, reduceIte, Nat.reduceAdd, Nat.reduceMul]
    refine WP.congr (fun i => milestonelaw4_Raw_Make_b2_eq tab i (.ptr h.length 0 3 0) (.ptr (h.length + 1) 0 5 0) (I 6) (.bool false) h1) ?_
    simp -implicitDefEqProofs (disch := first | assumption | omega | (simp -implicitDefEqProofs only [gL] <;> omega) | ((repeat (first | exact Ext.refl _ | assumption | apply Ext.app | apply Ext.mk | (refine Ext.setr ?_ (by (first | omega | (simp -implicitDefEqProofs only [gL] <;> omega))) _))); done) | (simp -implicitDefEqProofs only [gL, gA] <;> omega) | fail) only [gB, setAll, partL, fldV, reduceIte, Nat.reduceAdd, Nat.reduceMul]
    exact make_join mc hS _
  · simp -implicitDefEqProofs (disch := first | assumption | omega | (simp -implicitDefEqProofs only [gL] <;> omega) | ((repeat (first | exact Ext.refl _ | assumption | apply Ext.app | apply Ext.mk | (refine Ext.setr ?_ (by (first | omega | (simp -implicitDefEqProofs only [gL] <;> omega))) _))); done) | (simp -implicitDefEqProofs only [gL, gA] <;> omega) | fail) only [gB, setAll, partL, fldV, reduceIte, Nat.reduceAdd, Nat.reduceMul]
    refine WP.congr (fun i => milestonelaw4_Raw_Make_b1_eq tab i (.ptr h.length 0 3 0) (.ptr (h.length + 1) 0 5 0) (I 7) (.bool false) h1) ?_
    simp -implicitDefEqProofs (disch := first | assumption | omega | (simp -implicitDefEqProofs only [gL] <;> omega) | ((repeat (first | exact Ext.refl _ | assumption | apply Ext.app | apply Ext.mk | (refine Ext.setr ?_ (by (first | omega | (simp -implicitDefEqProofs only [gL] <;> omega))) _))); done) | (simp -implicitDefEqProofs only [gL, gA] <;> omega) | fail) only [gB, setAll, partL, fldV, reduceIte, Nat.reduceAdd, Nat.reduceMul]
    refine WP.congr (fun i => milestonelaw4_Raw_Make_b2_eq tab i (.ptr h.length 0 3 0) (.ptr (h.length + 1) 0 5 0) (I 7) (.bool false) h1) ?_
    simp -implicitDefEqProofs (disch := first | assumption | omega | (simp -implicitDefEqProofs only [gL] <;> omega) | ((repeat (first | exact Ext.refl _ | assumption | apply Ext.app | apply Ext.mk | (refine Ext.setr ?_ (by (first | omega | (simp -implicitDefEqProofs only [gL] <;> omega))) _))); done) | (simp -implicitDefEqProofs only [gL, gA] <;> omega) | fail) only [gB, setAll, partL, fldV, reduceIte, Nat.reduceAdd, Nat.reduceMul]
    exact make_join mc hS _
  · simp -implicitDefEqProofs (disch := first | assumption | omega | (simp -implicitDefEqProofs only [gL] <;> omega) | ((repeat (first | exact Ext.refl _ | assumption | apply Ext.app | apply Ext.mk | (refine Ext.setr ?_ (by (first | omega | (simp -implicitDefEqProofs only [gL] <;> omega))) _))); done) | (simp -implicitDefEqProofs only [gL, gA] <;> omega) | fail) only [gB, setAll, partL, fldV, reduceIte, Nat.reduceAdd, Nat.reduceMul]
    refine WP.congr (fun i => milestonelaw4_Raw_Make_b1_eq tab i (.ptr h.length 0 3 0) (.ptr (h.length + 1) 0 5 0) (I 8) (.bool false) h1) ?_
    simp -implicitDefEqProofs (disch := first | assumption | omega | (simp -implicitDefEqProofs only [gL] <;> omega) | ((repeat (first | exact Ext.refl _ | assumption | apply Ext.app | apply Ext.mk | (refine Ext.setr ?_ (by (first | omega | (simp -implicitDefEqProofs only [gL] <;> omega))) _))); done) | (simp -implicitDefEqProofs only [gL, gA] <;> omega) | fail) only [gB, setAll, partL, fldV, reduceIte, Nat.reduceAdd, Nat.reduceMul]
    refine WP.congr (fun i => milestonelaw4_Raw_Make_b2_eq tab i (.ptr h.length 0 3 0) (.ptr (h.length + 1) 0 5 0) (I 8) (.bool false) h1) ?_
    simp -implicitDefEqProofs (disch := first | assumption | omega | (simp -implicitDefEqProofs only [gL] <;> omega) | ((repeat (first | exact Ext.refl _ | assumption | apply Ext.app | apply Ext.mk | (refine Ext.setr ?_ (by (first | omega | (simp -implicitDefEqProofs only [gL] <;> omega))) _))); done) | (simp -implicitDefEqProofs only [gL, gA] <;> omega) | fail) only [gB, setAll, partL, fldV, reduceIte, Nat.reduceAdd, Nat.reduceMul]
    refine WP.congr (fun i => milestonelaw4_Raw_Make_b3_eq tab i (.ptr h.length 0 3 0) (.ptr (h.length + 1) 0 5 0) (I 8) (.bool false) h1) ?_
    simp -implicitDefEqProofs (disch := first | assumption | omega | (simp -implicitDefEqProofs only [gL] <;> omega) | ((repeat (first | exact Ext.refl _ | assumption | apply Ext.app | apply Ext.mk | (refine Ext.setr ?_ (by (first | omega | (simp -implicitDefEqProofs only [gL] <;> omega))) _))); done) | (simp -implicitDefEqProofs only [gL, gA] <;> omega) | fail) only [gB, setAll, partL, fldV, reduceIte, Nat.reduceAdd, Nat.reduceMul]
    exact make_uni mc hS _
  · simp -implicitDefEqProofs (disch := first | assumption | omega | (simp -implicitDefEqProofs only [gL] <;> omega) | ((repeat (first | exact Ext.refl _ | assumption | apply Ext.app | apply Ext.mk | (refine Ext.setr ?_ (by (first | omega | (simp -implicitDefEqProofs only [gL] <;> omega))) _))); done) | (simp -implicitDefEqProofs only [gL, gA] <;> omega) | fail) only [gB, setAll, partL, fldV, reduceIte, Nat.reduceAdd, Nat.reduceMul]
    refine WP.congr (fun i => milestonelaw4_Raw_Make_b1_eq tab i (.ptr h.length 0 3 0) (.ptr (h.length + 1) 0 5 0) (I 9) (.bool false) h1) ?_
    simp -implicitDefEqProofs (disch := first | assumption | omega | (simp -implicitDefEqProofs only [gL] <;> omega) | ((repeat (first | exact Ext.refl _ | assumption | apply Ext.app | apply Ext.mk | (refine Ext.setr ?_ (by (first | omega | (simp -implicitDefEqProofs only [gL] <;> omega))) _))); done) | (simp -implicitDefEqProofs only [gL, gA] <;> omega) | fail) only [gB, setAll, partL, fldV, reduceIte, Nat.reduceAdd, Nat.reduceMul]
    refine WP.congr (fun i => milestonelaw4_Raw_Make_b2_eq tab i (.ptr h.length 0 3 0) (.ptr (h.length + 1) 0 5 0) (I 9) (.bool false) h1) ?_
    simp -implicitDefEqProofs (disch := first | assumption | omega | (simp -implicitDefEqProofs only [gL] <;> omega) | ((repeat (first | exact Ext.refl _ | assumption | apply Ext.app | apply Ext.mk | (refine Ext.setr ?_ (by (first | omega | (simp -implicitDefEqProofs only [gL] <;> omega))) _))); done) | (simp -implicitDefEqProofs only [gL, gA] <;> omega) | fail) only [gB, setAll, partL, fldV, reduceIte, Nat.reduceAdd, Nat.reduceMul]
    refine WP.congr (fun i => milestonelaw4_Raw_Make_b3_eq tab i (.ptr h.length 0 3 0) (.ptr (h.length + 1) 0 5 0) (I 9) (.bool false) h1) ?_
    simp -implicitDefEqProofs (disch := first | assumption | omega | (simp -implicitDefEqProofs only [gL] <;> omega) | ((repeat (first | exact Ext.refl _ | assumption | apply Ext.app | apply Ext.mk | (refine Ext.setr ?_ (by (first | omega | (simp -implicitDefEqProofs only [gL] <;> omega))) _))); done) | (simp -implicitDefEqProofs only [gL, gA] <;> omega) | fail) only [gB, setAll, partL, fldV, reduceIte, Nat.reduceAdd, Nat.reduceMul]
    exact make_uni mc hS _
  · simp -implicitDefEqProofs (disch := first | assumption | omega | (simp -implicitDefEqProofs only [gL] <;> omega) | ((repeat (first | exact Ext.refl _ | assumption | apply Ext.app | apply Ext.mk | (refine Ext.setr ?_ (by (first | omega | (simp -implicitDefEqProofs only [gL] <;> omega))) _))); done) | (simp -implicitDefEqProofs only [gL, gA] <;> omega) | fail) only [gB, setAll, partL, fldV, reduceIte, Nat.reduceAdd, Nat.reduceMul]
    refine WP.congr (fun i => milestonelaw4_Raw_Make_b1_eq tab i (.ptr h.length 0 3 0) (.ptr (h.length + 1) 0 5 0) (I 10) (.bool false) h1) ?_
    simp -implicitDefEqProofs (disch := first | assumption | omega | (simp -implicitDefEqProofs only [gL] <;> omega) | ((repeat (first | exact Ext.refl _ | assumption | apply Ext.app | apply Ext.mk | (refine Ext.setr ?_ (by (first | omega | (simp -implicitDefEqProofs only [gL] <;> omega))) _))); done) | (simp -implicitDefEqProofs only [gL, gA] <;> omega) | fail) only [gB, setAll, partL, fldV, reduceIte, Nat.reduceAdd, Nat.reduceMul]
    refine WP.congr (fun i => milestonelaw4_Raw_Make_b2_eq tab i (.ptr h.length 0 3 0) (.ptr (h.length + 1) 0 5 0) (I 10) (.bool false) h1) ?_
    simp -implicitDefEqProofs (disch := first | assumption | omega | (simp -implicitDefEqProofs only [gL] <;> omega) | ((repeat (first | exact Ext.refl _ | assumption | apply Ext.app | apply Ext.mk | (refine Ext.setr ?_ (by (first | omega | (simp -implicitDefEqProofs only [gL] <;> omega))) _))); done) | (simp -implicitDefEqProofs only [gL, gA] <;> omega) | fail) only [gB, setAll, partL, fldV, reduceIte, Nat.reduceAdd, Nat.reduceMul]
    refine WP.congr (fun i => milestonelaw4_Raw_Make_b3_eq tab i (.ptr h.length 0 3 0) (.ptr (h.length + 1) 0 5 0) (I 10) (.bool false) h1) ?_
    simp -implicitDefEqProofs (disch := first | assumption | omega | (simp -implicitDefEqProofs only [gL] <;> omega) | ((repeat (first | exact Ext.refl _ | assumption | apply Ext.app | apply Ext.mk | (refine Ext.setr ?_ (by (first | omega | (simp -implicitDefEqProofs only [gL] <;> omega))) _))); done) | (simp -implicitDefEqProofs only [gL, gA] <;> omega) | fail) only [gB, setAll, partL, fldV, reduceIte, Nat.reduceAdd, Nat.reduceMul]
    exact make_b10 mc hS
  · simp -implicitDefEqProofs (disch := first | assumption | omega | (simp -implicitDefEqProofs only [gL] <;> omega) | ((repeat (first | exact Ext.refl _ | assumption | apply Ext.app | apply Ext.mk | (refine Ext.setr ?_ (by (first | omega | (simp -implicitDefEqProofs only [gL] <;> omega))) _))); done) | (simp -implicitDefEqProofs only [gL, gA] <;> omega) | fail) only [gB, setAll, partL, fldV, reduceIte, Nat.reduceAdd, Nat.reduceMul]
    refine WP.congr (fun i => milestonelaw4_Raw_Make_b1_eq tab i (.ptr h.length 0 3 0) (.ptr (h.length + 1) 0 5 0) (I 11) (.bool false) h1) ?_
    simp -implicitDefEqProofs (disch := first | assumption | omega | (simp -implicitDefEqProofs only [gL] <;> omega) | ((repeat (first | exact Ext.refl _ | assumption | apply Ext.app | apply Ext.mk | (refine Ext.setr ?_ (by (first | omega | (simp -implicitDefEqProofs only [gL] <;> omega))) _))); done) | (simp -implicitDefEqProofs only [gL, gA] <;> omega) | fail) only [gB, setAll, partL, fldV, reduceIte, Nat.reduceAdd, Nat.reduceMul]
    refine WP.congr (fun i => milestonelaw4_Raw_Make_b2_eq tab i (.ptr h.length 0 3 0) (.ptr (h.length + 1) 0 5 0) (I 11) (.bool false) h1) ?_
    simp -implicitDefEqProofs (disch := first | assumption | omega | (simp -implicitDefEqProofs only [gL] <;> omega) | ((repeat (first | exact Ext.refl _ | assumption | apply Ext.app | apply Ext.mk | (refine Ext.setr ?_ (by (first | omega | (simp -implicitDefEqProofs only [gL] <;> omega))) _))); done) | (simp -implicitDefEqProofs only [gL, gA] <;> omega) | fail) only [gB, setAll, partL, fldV, reduceIte, Nat.reduceAdd, Nat.reduceMul]
    refine WP.congr (fun i => milestonelaw4_Raw_Make_b3_eq tab i (.ptr h.length 0 3 0) (.ptr (h.length + 1) 0 5 0) (I 11) (.bool false) h1) ?_
    simp -implicitDefEqProofs (disch := first | assumption | omega | (simp -implicitDefEqProofs only [gL] <;> omega) | ((repeat (first | exact Ext.refl _ | assumption | apply Ext.app | apply Ext.mk | (refine Ext.setr ?_ (by (first | omega | (simp -implicitDefEqProofs only [gL] <;> omega))) _))); done) | (simp -implicitDefEqProofs only [gL, gA] <;> omega) | fail) only [gB, setAll, partL, fldV, reduceIte, Nat.reduceAdd, Nat.reduceMul]
    exact make_b11 mc hS
  · simp -implicitDefEqProofs (disch := first | assumption | omega | (simp -implicitDefEqProofs only [gL] <;> omega) | ((repeat (first | exact Ext.refl _ | assumption | apply Ext.app | apply Ext.mk | (refine Ext.setr ?_ (by (first | omega | (simp -implicitDefEqProofs only [gL] <;> omega))) _))); done) | (simp -implicitDefEqProofs only [gL, gA] <;> omega) | fail) only [gB, setAll, partL, fldV, reduceIte, Nat.reduceAdd, Nat.reduceMul]
    refine WP.congr (fun i => milestonelaw4_Raw_Make_b1_eq tab i (.ptr h.length 0 3 0) (.ptr (h.length + 1) 0 5 0) (I 12) (.bool false) h1) ?_
    simp -implicitDefEqProofs (disch := first | assumption | omega | (simp -implicitDefEqProofs only [gL] <;> omega) | ((repeat (first | exact Ext.refl _ | assumption | apply Ext.app | apply Ext.mk | (refine Ext.setr ?_ (by (first | omega | (simp -implicitDefEqProofs only [gL] <;> omega))) _))); done) | (simp -implicitDefEqProofs only [gL, gA] <;> omega) | fail) only [gB, setAll, partL, fldV, reduceIte, Nat.reduceAdd, Nat.reduceMul]
    refine WP.congr (fun i => milestonelaw4_Raw_Make_b2_eq tab i (.ptr h.length 0 3 0) (.ptr (h.length + 1) 0 5 0) (I 12) (.bool false) h1) ?_
    simp -implicitDefEqProofs (disch := first | assumption | omega | (simp -implicitDefEqProofs only [gL] <;> omega) | ((repeat (first | exact Ext.refl _ | assumption | apply Ext.app | apply Ext.mk | (refine Ext.setr ?_ (by (first | omega | (simp -implicitDefEqProofs only [gL] <;> omega))) _))); done) | (simp -implicitDefEqProofs only [gL, gA] <;> omega) | fail) only [gB, setAll, partL, fldV, reduceIte, Nat.reduceAdd, Nat.reduceMul]
    refine WP.congr (fun i => milestonelaw4_Raw_Make_b3_eq tab i (.ptr h.length 0 3 0) (.ptr (h.length + 1) 0 5 0) (I 12) (.bool false) h1) ?_
    simp -implicitDefEqProofs (disch := first | assumption | omega | (simp -implicitDefEqProofs only [gL] <;> omega) | ((repeat (first | exact Ext.refl _ | assumption | apply Ext.app | apply Ext.mk | (refine Ext.setr ?_ (by (first | omega | (simp -implicitDefEqProofs only [gL] <;> omega))) _))); done) | (simp -implicitDefEqProofs only [gL, gA] <;> omega) | fail) only [gB, setAll, partL, fldV, reduceIte, Nat.reduceAdd, Nat.reduceMul]
    exact make_b12 mc hS
  · simp -implicitDefEqProofs (disch := first | assumption | omega | (simp -implicitDefEqProofs only [gL] <;> omega) | ((repeat (first | exact Ext.refl _ | assumption | apply Ext.app | apply Ext.mk | (refine Ext.setr ?_ (by (first | omega | (simp -implicitDefEqProofs only [gL] <;> omega))) _))); done) | (simp -implicitDefEqProofs only [gL, gA] <;> omega) | fail) only [gB, setAll, partL, fldV, reduceIte, Nat.reduceAdd, Nat.reduceMul]
    refine WP.congr (fun i => milestonelaw4_Raw_Make_b1_eq tab i (.ptr h.length 0 3 0) (.ptr (h.length + 1) 0 5 0) (I 13) (.bool false) h1) ?_
    simp -implicitDefEqProofs (disch := first | assumption | omega | (simp -implicitDefEqProofs only [gL] <;> omega) | ((repeat (first | exact Ext.refl _ | assumption | apply Ext.app | apply Ext.mk | (refine Ext.setr ?_ (by (first | omega | (simp -implicitDefEqProofs only [gL] <;> omega))) _))); done) | (simp -implicitDefEqProofs only [gL, gA] <;> omega) | fail) only [gB, setAll, partL, fldV, reduceIte, Nat.reduceAdd, Nat.reduceMul]
    refine WP.congr (fun i => milestonelaw4_Raw_Make_b2_eq tab i (.ptr h.length 0 3 0) (.ptr (h.length + 1) 0 5 0) (I 13) (.bool false) h1) ?_
    simp -implicitDefEqProofs (disch := first | assumption | omega | (simp -implicitDefEqProofs only [gL] <;> omega) | ((repeat (first | exact Ext.refl _ | assumption | apply Ext.app | apply Ext.mk | (refine Ext.setr ?_ (by (first | omega | (simp -implicitDefEqProofs only [gL] <;> omega))) _))); done) | (simp -implicitDefEqProofs only [gL, gA] <;> omega) | fail) only [gB, setAll, partL, fldV, reduceIte, Nat.reduceAdd, Nat.reduceMul]
    refine WP.congr (fun i => milestonelaw4_Raw_Make_b3_eq tab i (.ptr h.length 0 3 0) (.ptr (h.length + 1) 0 5 0) (I 13) (.bool false) h1) ?_
    simp -implicitDefEqProofs (disch := first | assumption | omega | (simp -implicitDefEqProofs only [gL] <;> omega) | ((repeat (first | exact Ext.refl _ | assumption | apply Ext.app | apply Ext.mk | (refine Ext.setr ?_ (by (first | omega | (simp -implicitDefEqProofs only [gL] <;> omega))) _))); done) | (simp -implicitDefEqProofs only [gL, gA] <;> omega) | fail) only [gB, setAll, partL, fldV, reduceIte, Nat.reduceAdd, Nat.reduceMul]
    exact make_b13 mc hS
end Go.Gm.A5
