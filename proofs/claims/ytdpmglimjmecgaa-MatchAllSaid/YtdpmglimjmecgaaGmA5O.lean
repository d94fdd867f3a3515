/- A part of the proof: GmA5O: an abstract machine, what it does, and what the functions of the program come to on it. -/
import Derived.Test.YtdpmglimjmecgaaGmA5K
import Derived.Test.YtdpmglimjmecgaaGmLh
set_option linter.unusedVariables false
set_option linter.unusedSimpArgs false
namespace Go.Gm.A5
open Go Go.Gm

theorem nv_leaf {h : Heap} {n : Nd} (hn : n.kids = []) : NV h n [I n.kind, I n.st, I n.lo, I n.hi, .nils] := .mk (css := []) (.inl ⟨rfl, rfl⟩) (by rw [hn]; exact .nil)
theorem nv_eps {h : Heap} : NV h .eps [I 3, I 0, I 0, I 0, .nils] := nv_leaf rfl
theorem nv_emp {h : Heap} : NV h .emp [I 2, I 0, I 0, I 0, .nils] := nv_leaf rfl
theorem nv_set {h : Heap} (s : Nat) : NV h (.set s) [I 1, I s, I 0, I 0, .nils] := nv_leaf rfl
theorem ok_eps : Ok .eps := (fine_leaf rfl (by simp [Nd.st]) (Nat.le_refl _) (Nat.zero_le _)).1
theorem ok_emp : Ok .emp := (fine_leaf rfl (by simp [Nd.st]) (Nat.le_refl _) (Nat.zero_le _)).1
theorem fine_set {s : Nat} (h : s < 2 ^ 62) : Fine (.set s) := fine_leaf rfl h (Nat.le_refl _) (Nat.zero_le _)
/-- A row of a word's numbers, just written out. -/
theorem sl_lit (h : Heap) (w : List Int) : Sl (h ++ [AObj.cells ⟨w.map I, 0, 0, false⟩]) 1 (.sl h.length 0 w.length 1 none 0) (w.map encI) := by
  refine .inr ⟨h.length, 0, none, 0, ⟨w.map I, 0, 0, false⟩, by simp, by simp, Nat.le_refl _, ?_, fun x hx => ?_⟩
  · simp only [List.drop_zero, List.length_map, Nat.mul_one]
    rw [List.take_of_length_le (by simp)]
    induction w with
    | nil => rfl
    | cons a w ih => simp [encI, ih]
  · simp only [List.mem_map] at hx
    obtain ⟨a, _, rfl⟩ := hx; rfl
theorem sl_nil {h : Heap} : Sl h 1 .nils (([] : List Int).map encI) := .inl ⟨rfl, rfl⟩
theorem bool_t {b : Bool} {p : Prop} (h : b = true ↔ p) (hp : p) : b = true := h.2 hp
theorem bool_f {b : Bool} {p : Prop} (h : b = true ↔ p) (hp : ¬ p) : b = false := by cases b; rfl; exact absurd (h.1 rfl) hp
theorem words_set1 : wordsN (.set 1) 1 = [[0]] := by
  rw [words_cong (p := p1 (selS 1)) fun t _ w hw => In_p1 (wl_mem.1 hw).2]
  decide +kernel
theorem set_lastO {h : Heap} {x y : AObj} {o : Nat} (ho : o = h.length) : (h ++ [x]).set o y = h ++ [y] := by subst ho; simp
/-- A row of expressions, just written out. -/
theorem sl_nodes {h : Heap} {o : Nat} {css : List (List AV)} {n : Nat} (hr : h[o]? = some (.cells ⟨css.flatten, 0, 0, false⟩)) (hn : n = css.length) (hl : ∀ c ∈ css, c.length = 5) : Sl h 5 (.sl o 0 n 5 none 0) css := by
  subst hn
  exact .inr ⟨o, 0, none, 0, _, rfl, hr, Nat.le_refl _, by rw [List.drop_zero]; exact List.take_of_length_le (by rw [flatten_len hl]; exact Nat.le_refl _), hl⟩
theorem nv_one {h : Heap} {n c : Nd} {o : Nat} {c5 : List AV} (hk : n.kids = [c]) (hr : h[o]? = some (.cells ⟨c5, 0, 0, false⟩)) (nv : NV h c c5) : NV h n [I n.kind, I n.st, I n.lo, I n.hi, .sl o 0 1 5 none 0] :=
  .mk (css := [c5]) (sl_nodes (by simpa using hr) rfl (by simp [nv.len])) (by rw [hk]; exact .cons nv .nil)
theorem nv_two {h : Heap} {n a b : Nd} {o : Nat} {ca cb : List AV} (hk : n.kids = [a, b]) (hr : h[o]? = some (.cells ⟨ca ++ cb, 0, 0, false⟩)) (na : NV h a ca) (nb : NV h b cb) : NV h n [I n.kind, I n.st, I n.lo, I n.hi, .sl o 0 2 5 none 0] :=
  .mk (css := [ca, cb]) (sl_nodes (by simpa using hr) rfl (by simp [na.len, nb.len])) (by rw [hk]; exact .cons na (.cons nb .nil))
/-- The chapter's example. -/
theorem known_spec (h : Heap) : Tot tab f_milestonelaw5_known [] h fun r h' => r = .bool true ∧ Ext h h' := by
  refine WP.tot (fun k => (call_milestonelaw5_known k h).trans (milestonelaw5_known_eq tab k h)) ?_
  obtain ⟨h1, hh1⟩ : ∃ h1, h1 = (h ++ [AObj.cells ⟨[I 1, I 1, I 0, I 0, .nils], 0, 0, false⟩]) := ⟨_, rfl⟩
  have e1 : Ext h h1 := by rw [hh1]; ((repeat (first | exact Ext.refl _ | assumption | apply Ext.app | apply Ext.mk | (refine Ext.setr ?_ (by (first | omega | (simp -implicitDefEqProofs only [gL] <;> omega))) _))))
  have hx1 : h1[h.length]? = some (.cells ⟨[I 1, I 1, I 0, I 0, .nils], 0, 0, false⟩) := by rw [hh1]; simp
  simp -implicitDefEqProofs (disch := first | assumption | omega | (simp -implicitDefEqProofs only [gL] <;> omega) | ((repeat (first | exact Ext.refl _ | assumption | apply Ext.app | apply Ext.mk | (refine Ext.setr ?_ (by (first | omega | (simp -implicitDefEqProofs only [gL] <;> omega))) _))); done) | (simp -implicitDefEqProofs only [gL, gA, set_last] <;> omega) | fail) only [gB, setAll, partL, fldV, reduceIte, Nat.reduceAdd, Nat.reduceMul, set_last]
  rw [← hh1]
  refine WP.call (match_spec nv_eps ok_eps (by simp [cntN]) sl_nil (by simp)) ?_
  rintro _ h2 ⟨e2, b, rfl, hb⟩
  obtain rfl := bool_t hb (In_eps.2 rfl)
  have hx2 := e2.get hx1
  simp -implicitDefEqProofs (disch := first | assumption | omega | (simp -implicitDefEqProofs only [gL] <;> omega) | ((repeat (first | exact Ext.refl _ | assumption | apply Ext.app | apply Ext.mk | (refine Ext.setr ?_ (by (first | omega | (simp -implicitDefEqProofs only [gL] <;> omega))) _))); done) | (simp -implicitDefEqProofs only [gL, gA, hx2] <;> omega) | fail) only [gB, setAll, partL, fldV, reduceIte, Nat.reduceAdd, Nat.reduceMul, hx2]
  have e3 : Ext h2 (h2 ++ [AObj.cells ⟨[I 0], 0, 0, false⟩]) := Ext.push h2 _
  refine WP.call (match_spec (w := [0]) (nv_set 1) (fine_set (by omega)).1 (by simp [cntN]) (sl_lit h2 [0]) (by simp)) ?_
  rintro _ h4 ⟨e4, b, rfl, hb⟩
  obtain rfl := bool_t hb (In_set.2 ⟨0, rfl, by omega, by omega, rfl⟩)
  have hx4 := e4.get (e3.get hx2)
  simp -implicitDefEqProofs (disch := first | assumption | omega | (simp -implicitDefEqProofs only [gL] <;> omega) | ((repeat (first | exact Ext.refl _ | assumption | apply Ext.app | apply Ext.mk | (refine Ext.setr ?_ (by (first | omega | (simp -implicitDefEqProofs only [gL] <;> omega))) _))); done) | (simp -implicitDefEqProofs only [gL, gA, hx4] <;> omega) | fail) only [gB, setAll, partL, fldV, reduceIte, Nat.reduceAdd, Nat.reduceMul, hx4]
  have e5 : Ext h4 (h4 ++ [AObj.cells ⟨[I 1], 0, 0, false⟩]) := Ext.push h4 _
  refine WP.call (match_spec (w := [1]) (nv_set 1) (fine_set (by omega)).1 (by simp [cntN]) (sl_lit h4 [1]) (by simp)) ?_
  rintro _ h6 ⟨e6, b, rfl, hb⟩
  obtain rfl := bool_f hb (fun q => by
    obtain ⟨c, h1, _, _, h2⟩ := In_set.1 q
    simp only [List.cons.injEq, and_true] at h1
    subst h1; exact absurd h2 (by decide))
  have hx6 := e6.get (e5.get hx4)
  simp -implicitDefEqProofs (disch := first | assumption | omega | (simp -implicitDefEqProofs only [gL] <;> omega) | ((repeat (first | exact Ext.refl _ | assumption | apply Ext.app | apply Ext.mk | (refine Ext.setr ?_ (by (first | omega | (simp -implicitDefEqProofs only [gL] <;> omega))) _))); done) | (simp -implicitDefEqProofs only [gL, gA, Bool.not_false] <;> omega) | fail) only [gB, setAll, partL, fldV, reduceIte, Nat.reduceAdd, Nat.reduceMul, Bool.not_false]
  refine WP.call (null_spec nv_eps ok_eps (by simp [cntN])) ?_
  rintro _ h7 ⟨e7, b, rfl, hb⟩
  obtain rfl := bool_t hb (In_eps.2 rfl)
  have hx7 := e7.get hx6
  simp -implicitDefEqProofs (disch := first | assumption | omega | (simp -implicitDefEqProofs only [gL] <;> omega) | ((repeat (first | exact Ext.refl _ | assumption | apply Ext.app | apply Ext.mk | (refine Ext.setr ?_ (by (first | omega | (simp -implicitDefEqProofs only [gL] <;> omega))) _))); done) | (simp -implicitDefEqProofs only [gL, gA, hx7] <;> omega) | fail) only [gB, setAll, partL, fldV, reduceIte, Nat.reduceAdd, Nat.reduceMul, hx7]
  rw [show AV.int .i64 1 = I ((1 : Nat) : Int) from rfl]
  refine WP.call (words_spec (nv_set 1) (fine_set (by omega)).1 (by simp [cntN]) (most := 1) (by omega)) ?_
  rintro r h8 ⟨e8, rows, hr, wv⟩
  have hl := hr.lenG
  rw [wv.1, words_set1] at hl
  simp -implicitDefEqProofs (disch := first | assumption | omega | (simp -implicitDefEqProofs only [gL] <;> omega) | ((repeat (first | exact Ext.refl _ | assumption | apply Ext.app | apply Ext.mk | (refine Ext.setr ?_ (by (first | omega | (simp -implicitDefEqProofs only [gL] <;> omega))) _))); done) | (simp -implicitDefEqProofs only [gL, gA, hl] <;> omega) | fail) only [gB, setAll, partL, fldV, reduceIte, Nat.reduceAdd, Nat.reduceMul, hl]
  exact WP.ret ⟨rfl, e1.trans (e2.trans (e3.trans (e4.trans (e5.trans (e6.trans (e7.trans e8))))))⟩
end Go.Gm.A5
