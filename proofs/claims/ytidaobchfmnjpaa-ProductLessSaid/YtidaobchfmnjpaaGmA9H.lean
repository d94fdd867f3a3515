/- A part of the proof (GmA9H): an abstract machine, what it does, and what the functions of the program come to on it. -/
import Derived.Test.YtidaobchfmnjpaaGmA9E
import Derived.Test.YtidaobchfmnjpaaGmA9G
set_option linter.unusedVariables false
set_option linter.unusedSimpArgs false
set_option linter.unusedSectionVars false
namespace Go.Gm.A9
open Go Go.Gm
/-! ### A search -/
theorem gset {α : Type} [Inhabited α] {xs : List α} {y : Nat} (hy : y < xs.length) (v : α) : (fun x : Nat => gi (xs.set y v) (x : Int)) = fun x : Nat => if x = y then v else gi xs (x : Int) := by
  funext x
  have := gi_set' (xs := xs) (i := (y : Int)) (j := (x : Int)) (by omega) (by omega) (by omega) v
  rw [show (y : Int).toNat = y by omega] at this
  rw [this]
  by_cases q : x = y
  · rw [if_pos q, if_pos (by omega)]
  · rw [if_neg q, if_neg (by omega)]
abbrev gf {α : Type} [Inhabited α] (xs : List α) : Nat → α := fun x : Nat => gi xs (x : Int)
structure SW (W : Nat → Prop) (h : Heap) (os : Nat) (g fh q sc se sf : AV) (oc oe ov : Nat) (n : Nat) (cs ds fs : List Int) (M : List (Option Int)) (ls : Int) : Prop where
  row : h[os]? = some (.cells ⟨[g, fh, q, sc, se, sf, I ls], 0, 0, false⟩)
  gc : Gr oc (oc + 1) h 1 sc (cs.map encI)
  ge : Gr oe (oe + 1) h 1 se (ds.map encI)
  gf : Gr ov (ov + 1) h 1 sf (fs.map encI)
  lc : cs.length = n
  le : ds.length = n
  lf : fs.length = n
  o1 : oc < oe
  o2 : oe < ov
  o3 : ov < os
  wc : W oc
  we : W oe
  wv : W ov
  ws : W os
  qv : SQ (fun o => W o ∧ o ≠ oc ∧ o ≠ oe ∧ o ≠ ov ∧ o ≠ os) h q n M
section
variable {W : Nat → Prop} {h h' : Heap} {os oc oe ov n : Nat} {g fh q sc se sf : AV} {cs ds fs : List Int} {M : List (Option Int)} {ls : Int}
theorem SW.os_lt (w : SW W h os g fh q sc se sf oc oe ov n cs ds fs M ls) : os < h.length := (List.getElem?_eq_some_iff.1 w.row).1
theorem SW.frs (w : SW W h os g fh q sc se sf oc oe ov n cs ds fs M ls) {D : Nat → Prop} (f : FrS D h h') (hd : ∀ o, o < h.length → W o → ¬ D o) : SW W h' os g fh q sc se sf oc oe ov n cs ds fs M ls := by
  have h1 := w.os_lt
  have := w.o1
  have := w.o2
  have := w.o3
  refine ⟨by rw [f.get (hd _ h1 w.ws) h1]; exact w.row, w.gc.frs f fun o q1 q2 => ?_, w.ge.frs f fun o q1 q2 => ?_, w.gf.frs f fun o q1 q2 => ?_, w.lc, w.le, w.lf, w.o1, w.o2, w.o3, w.wc, w.we, w.wv, w.ws, w.qv.frs f fun o q1 q2 => hd o q1 q2.1⟩
  · rw [show o = oc by omega]; exact hd _ (by omega) w.wc
  · rw [show o = oe by omega]; exact hd _ (by omega) w.we
  · rw [show o = ov by omega]; exact hd _ (by omega) w.wv
theorem SW.ext (w : SW W h os g fh q sc se sf oc oe ov n cs ds fs M ls) (e : Ext h h') : SW W h' os g fh q sc se sf oc oe ov n cs ds fs M ls := w.frs (D := fun _ => False) (FrS.ofExt e) fun _ _ _ z => z
theorem SW.mono (w : SW W h os g fh q sc se sf oc oe ov n cs ds fs M ls) {W' : Nat → Prop} (hw : ∀ o, o < h.length → W o → W' o) : SW W' h os g fh q sc se sf oc oe ov n cs ds fs M ls := by
  have h1 := w.os_lt
  have := w.o1
  have := w.o2
  have := w.o3
  refine ⟨w.row, w.gc, w.ge, w.gf, w.lc, w.le, w.lf, w.o1, w.o2, w.o3, hw _ (by omega) w.wc, hw _ (by omega) w.we, hw _ (by omega) w.wv, hw _ h1 w.ws, ?_⟩
  obtain ⟨Wq, q1, q2⟩ := w.qv
  exact ⟨Wq, fun o z => ⟨⟨hw o (q1 o z).2 (q1 o z).1.1, (q1 o z).1.2⟩, (q1 o z).2⟩, q2⟩
theorem sq_set {P : Nat → Prop} {h : Heap} {q : AV} {N : Nat} {M : List (Option Int)} (v : SQ P h q N M) {o : Nat} (ho : ¬ P o) (x : AObj) : SQ P (h.set o x) q N M :=
  v.frs (D := fun p => p = o) ⟨by simp, fun p p1 p2 => get_set_ne fun z => p1 z.symm⟩ fun p p1 p2 p3 => ho (p3 ▸ p2)
/-- One number of a search's rows is set. -/
theorem SW.setC (w : SW W h os g fh q sc se sf oc oe ov n cs ds fs M ls) {y : Nat} (hy : y < n) (v : Int) :
    ∃ h', stN 1 h (elP 1 sc y) (I v) = some h' ∧ SW W h' os g fh q sc se sf oc oe ov n (cs.set y v) ds fs M ls ∧ FrS (fun o => o = oc) h h' := by
  have := w.o1
  have := w.o2
  have := w.o3
  obtain ⟨h', k1, k2, k3, k4⟩ := w.gc.write0 (i := (y : Int)) (v := I v) (by omega) (by rw [List.length_map, w.lc]; omega) rfl rfl
  have f : FrS (fun o => o = oc) h h' := k3.s.mono fun o z1 z2 => by omega
  refine ⟨h', k1, ⟨by rw [f.get (by omega) w.os_lt]; exact w.row, k2.cong ?_, w.ge.frs f fun o z1 z2 => by omega, w.gf.frs f fun o z1 z2 => by omega, by rw [List.length_set]; exact w.lc, w.le, w.lf, w.o1, w.o2, w.o3, w.wc, w.we, w.wv, w.ws, w.qv.frs f fun o z1 z2 => z2.2.1⟩, f⟩
  rw [List.map_set]; simp [encI]; rfl
theorem SW.setE (w : SW W h os g fh q sc se sf oc oe ov n cs ds fs M ls) {y : Nat} (hy : y < n) (v : Int) :
    ∃ h', stN 1 h (elP 1 se y) (I v) = some h' ∧ SW W h' os g fh q sc se sf oc oe ov n cs (ds.set y v) fs M ls ∧ FrS (fun o => o = oe) h h' := by
  have := w.o1
  have := w.o2
  have := w.o3
  obtain ⟨h', k1, k2, k3, k4⟩ := w.ge.write0 (i := (y : Int)) (v := I v) (by omega) (by rw [List.length_map, w.le]; omega) rfl rfl
  have f : FrS (fun o => o = oe) h h' := k3.s.mono fun o z1 z2 => by omega
  refine ⟨h', k1, ⟨by rw [f.get (by omega) w.os_lt]; exact w.row, w.gc.frs f fun o z1 z2 => by omega, k2.cong ?_, w.gf.frs f fun o z1 z2 => by omega, w.lc, by rw [List.length_set]; exact w.le, w.lf, w.o1, w.o2, w.o3, w.wc, w.we, w.wv, w.ws, w.qv.frs f fun o z1 z2 => z2.2.2.1⟩, f⟩
  rw [List.map_set]; simp [encI]; rfl
theorem SW.setF (w : SW W h os g fh q sc se sf oc oe ov n cs ds fs M ls) {y : Nat} (hy : y < n) (v : Int) :
    ∃ h', stN 1 h (elP 1 sf y) (I v) = some h' ∧ SW W h' os g fh q sc se sf oc oe ov n cs ds (fs.set y v) M ls ∧ FrS (fun o => o = ov) h h' := by
  have := w.o1
  have := w.o2
  have := w.o3
  obtain ⟨h', k1, k2, k3, k4⟩ := w.gf.write0 (i := (y : Int)) (v := I v) (by omega) (by rw [List.length_map, w.lf]; omega) rfl rfl
  have f : FrS (fun o => o = ov) h h' := k3.s.mono fun o z1 z2 => by omega
  refine ⟨h', k1, ⟨by rw [f.get (by omega) w.os_lt]; exact w.row, w.gc.frs f fun o z1 z2 => by omega, w.ge.frs f fun o z1 z2 => by omega, k2.cong ?_, w.lc, w.le, by rw [List.length_set]; exact w.lf, w.o1, w.o2, w.o3, w.wc, w.we, w.wv, w.ws, w.qv.frs f fun o z1 z2 => z2.2.2.2.1⟩, f⟩
  rw [List.map_set]; simp [encI]; rfl
theorem SW.setL (w : SW W h os g fh q sc se sf oc oe ov n cs ds fs M ls) (v : Int) :
    SW W (h.set os (.cells ⟨[g, fh, q, sc, se, sf, I v], 0, 0, false⟩)) os g fh q sc se sf oc oe ov n cs ds fs M v ∧ FrS (fun o => o = os) h (h.set os (.cells ⟨[g, fh, q, sc, se, sf, I v], 0, 0, false⟩)) := by
  have := w.o1
  have := w.o2
  have := w.o3
  have f : FrS (fun o => o = os) h (h.set os (.cells ⟨[g, fh, q, sc, se, sf, I v], 0, 0, false⟩)) := ⟨by simp, fun p p1 p2 => get_set_ne fun z => p1 z.symm⟩
  exact ⟨⟨get_set_eq w.os_lt, w.gc.frs f fun o z1 z2 => by omega, w.ge.frs f fun o z1 z2 => by omega, w.gf.frs f fun o z1 z2 => by omega, w.lc, w.le, w.lf, w.o1, w.o2, w.o3, w.wc, w.we, w.wv, w.ws, w.qv.frs f fun o z1 z2 => z2.2.2.2.2⟩, f⟩
theorem SQ.wide {P P' : Nat → Prop} {h : Heap} {q : AV} {N : Nat} {M : List (Option Int)} (v : SQ P h q N M) (hp : ∀ o, o < h.length → P o → P' o) : SQ P' h q N M := by
  obtain ⟨W, h1, h2⟩ := v
  exact ⟨W, fun o z => ⟨hp o (h1 o z).2 (h1 o z).1, (h1 o z).2⟩, h2⟩
/-- The queue alone is another one. -/
theorem SW.q' (w : SW W h os g fh q sc se sf oc oe ov n cs ds fs M ls) {D : Nat → Prop} (f : FrS D h h') (hd : ∀ o, D o → o ≠ oc ∧ o ≠ oe ∧ o ≠ ov ∧ o ≠ os) {M' : List (Option Int)} (v : SQ (fun o => W o ∧ o ≠ oc ∧ o ≠ oe ∧ o ≠ ov ∧ o ≠ os) h' q n M') : SW W h' os g fh q sc se sf oc oe ov n cs ds fs M' ls := by
  refine ⟨by rw [f.get (fun z => (hd _ z).2.2.2 rfl) w.os_lt]; exact w.row, w.gc.frs f fun o q1 q2 z => (hd o z).1 (by omega), w.ge.frs f fun o q1 q2 z => (hd o z).2.1 (by omega), w.gf.frs f fun o q1 q2 z => (hd o z).2.2.1 (by omega), w.lc, w.le, w.lf, w.o1, w.o2, w.o3, w.wc, w.we, w.wv, w.ws, v⟩
end
end Go.Gm.A9
