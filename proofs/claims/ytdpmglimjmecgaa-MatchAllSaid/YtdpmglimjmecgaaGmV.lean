/- A part of the proof: GmV: an abstract machine, what it does, and what the functions of the program come to on it. -/
import Derived.Test.YtdpmglimjmecgaaGmW
set_option linter.unusedVariables false
set_option linter.unusedSimpArgs false
namespace Go.Gm
/- Views: what a heap holds, as plain lists. -/

abbrev I (n : Int) : AV := .int .i64 n
theorem wrap_id {n : Int} (h0 : -9223372036854775808 ≤ n) (h1 : n ≤ 9223372036854775807) : IntKind.i64.wrap n = n := by
  simp [IntKind.wrap, IntKind.bits, IntKind.signed]
  omega

/-- Fits 64 bits. -/
def Fit (n : Int) : Prop := -9223372036854775808 ≤ n ∧ n ≤ 9223372036854775807
section
variable (a b : Int)
theorem bin_lss : binV .lss .scalar (I a) (I b) = some (.bool (decide (a < b))) := rfl
theorem bin_leq : binV .leq .scalar (I a) (I b) = some (.bool (decide (a ≤ b))) := rfl
theorem bin_gtr : binV .gtr .scalar (I a) (I b) = some (.bool (decide (a > b))) := rfl
theorem bin_geq : binV .geq .scalar (I a) (I b) = some (.bool (decide (a ≥ b))) := rfl
theorem bin_eql : binV .eql .scalar (I a) (I b) = some (.bool (a == b)) := rfl
theorem bin_neq : binV .neq .scalar (I a) (I b) = some (.bool (a != b)) := rfl
theorem bin_add (h : Fit (a + b)) : binV .add .scalar (I a) (I b) = some (I (a + b)) := by
  show some (AV.int .i64 (IntKind.i64.wrap (a + b))) = _
  rw [wrap_id h.1 h.2]
theorem bin_sub (h : Fit (a - b)) : binV .sub .scalar (I a) (I b) = some (I (a - b)) := by
  show some (AV.int .i64 (IntKind.i64.wrap (a - b))) = _
  rw [wrap_id h.1 h.2]
theorem bin_rem (h : b ≠ 0) : binV .rem .scalar (I a) (I b) = some (I (a.tmod b)) := by
  show (if b = 0 then none else some (AV.int .i64 (a.tmod b))) = _
  rw [if_neg h]
theorem un_not (b : Bool) : unV .not (.bool b) = some (.bool (!b)) := rfl
end

/-! ### More heap -/
def Ext (h h' : Heap) : Prop := h <+: h'
theorem Ext.refl (h : Heap) : Ext h h := List.prefix_refl h
theorem Ext.trans {h h' h'' : Heap} (a : Ext h h') (b : Ext h' h'') : Ext h h'' := List.IsPrefix.trans a b
theorem Ext.push (h : Heap) (x : List AObj) : Ext h (h ++ x) := List.prefix_append h x
theorem Ext.len {h h' : Heap} (a : Ext h h') : h.length ≤ h'.length := List.IsPrefix.length_le a
theorem Ext.get {h h' : Heap} (a : Ext h h') {o : Nat} {x : AObj} (hx : h[o]? = some x) : h'[o]? = some x := by
  obtain ⟨t, rfl⟩ := a
  rw [List.getElem?_append_left (List.getElem?_eq_some_iff.1 hx).1]
  exact hx
theorem Ext.set {h h' : Heap} (a : Ext h h') {o : Nat} (ho : h.length ≤ o) (x : AObj) : Ext h (h'.set o x) := by
  obtain ⟨t, rfl⟩ := a
  rw [List.set_append_right _ _ ho]
  exact List.prefix_append _ _
theorem get_set_other {h : Heap} {o p : Nat} {x : AObj} (hne : o ≠ p) : (h.set o x)[p]? = h[p]? := List.getElem?_set_ne hne
theorem get_set_same {h : Heap} {o : Nat} {x y : AObj} (hy : h[o]? = some y) : (h.set o x)[o]? = some x := by
  simp [(List.getElem?_eq_some_iff.1 hy).1]

/-- What lies behind a pointer. -/
def At (h : Heap) (p : AV) (cs : List AV) : Prop :=
  ∃ o off hi g c, p = .ptr o off hi g ∧ off + cs.length ≤ hi ∧ h[o]? = some (.cells c) ∧ c.wg ≤ g ∧ (c.cells.drop off).take cs.length = cs
theorem At.ext {h h' : Heap} {p : AV} {cs : List AV} (a : At h p cs) (e : Ext h h') : At h' p cs := by
  obtain ⟨o, off, hi, g, c, h1, h2, h3, h4⟩ := a
  exact ⟨o, off, hi, g, c, h1, h2, e.get h3, h4⟩
theorem At.cell {h : Heap} {p : AV} {cs : List AV} (a : At h p cs) {d : Nat} {x : AV} (hx : cs[d]? = some x) : ∃ p', fldA d p = some p' ∧ ld1 h p' = some x := by
  obtain ⟨o, off, hi, g, c, rfl, h2, h3, h4, h5⟩ := a
  have hd := (List.getElem?_eq_some_iff.1 hx).1
  refine ⟨_, rfl, ?_⟩
  simp only [ld1, h3]
  rw [if_pos ⟨h4, by omega⟩]
  rw [← h5, List.getElem?_take, if_pos hd, List.getElem?_drop] at hx
  exact hx
theorem At.ld1 {h : Heap} {p : AV} {x : AV} {cs : List AV} (a : At h p (x :: cs)) : ld1 h p = some x := by
  obtain ⟨p', h1, h2⟩ := a.cell (d := 0) rfl
  obtain ⟨o, off, hi, g, c, rfl, _⟩ := a
  injection h1 with h1
  rw [← h1] at h2
  exact h2
theorem At.fld {h : Heap} {p : AV} {cs : List AV} (a : At h p cs) {d : Nat} (hd : d ≤ cs.length) : ∃ p', fldA d p = some p' ∧ At h p' (cs.drop d) := by
  obtain ⟨o, off, hi, g, c, rfl, h2, h3, h4, h5⟩ := a
  refine ⟨_, rfl, o, off + d, hi, g, c, rfl, by simp; omega, h3, h4, ?_⟩
  rw [← List.drop_drop]
  have : cs.drop d = ((c.cells.drop off).take cs.length).drop d := by rw [h5]
  rw [List.drop_take] at this
  rw [List.length_drop]
  exact this.symm
theorem At.nil {h : Heap} {p : AV} {cs : List AV} (a : At h p cs) : nilCk p = some p := by
  obtain ⟨o, off, hi, g, c, rfl, _⟩ := a
  rfl
theorem At.ldN {h : Heap} {p : AV} {cs : List AV} (a : At h p cs) {n : Nat} (hn : n ≤ cs.length) : ldN n h p = some (.agg (cs.take n)) := by
  obtain ⟨o, off, hi, g, c, rfl, h2, h3, h4, h5⟩ := a
  simp only [Gm.ldN, rdc, h3, if_pos h4]
  rw [if_pos (by omega)]
  simp only [Option.map_some]
  congr 2
  conv => rhs; rw [← h5]
  rw [List.take_take, Nat.min_eq_left hn]

/-- A slice: its elements, of sz cells each. -/
def Sl (h : Heap) (sz : Nat) (s : AV) (xs : List (List AV)) : Prop :=
  (s = .nils ∧ xs = []) ∨ ∃ o off lim g c, s = .sl o off xs.length sz lim g ∧ h[o]? = some (.cells c) ∧ c.wg ≤ g ∧ (c.cells.drop off).take (xs.length * sz) = xs.flatten ∧ ∀ x ∈ xs, x.length = sz
theorem Sl.ext {h h' : Heap} {sz : Nat} {s : AV} {xs : List (List AV)} (a : Sl h sz s xs) (e : Ext h h') : Sl h' sz s xs := by
  rcases a with a | ⟨o, off, lim, g, c, h1, h2, h3⟩
  · exact .inl a
  · exact .inr ⟨o, off, lim, g, c, h1, e.get h2, h3⟩
theorem Sl.len {h : Heap} {sz : Nat} {s : AV} {xs : List (List AV)} (a : Sl h sz s xs) : lenS s = some (I xs.length) := by
  rcases a with ⟨rfl, rfl⟩ | ⟨o, off, lim, g, c, rfl, _⟩ <;> rfl
theorem flatten_at {sz : Nat} : ∀ {xs : List (List AV)}, (∀ x ∈ xs, x.length = sz) → ∀ {i : Nat} {x : List AV}, xs[i]? = some x → (xs.flatten.drop (i * sz)).take sz = x
  | [], _, i, x, hx => by simp at hx
  | y :: ys, hl, 0, x, hx => by
    simp only [List.getElem?_cons_zero, Option.some.injEq] at hx
    subst hx
    simp only [Nat.zero_mul, List.drop_zero, List.flatten_cons]
    have h1 := hl y (by simp)
    rw [List.take_append_of_le_length (by omega), List.take_of_length_le (by omega)]
  | y :: ys, hl, i + 1, x, hx => by
    have h1 := hl y (by simp)
    rw [List.flatten_cons, Nat.add_mul, Nat.one_mul, Nat.add_comm, ← List.drop_drop, List.drop_append_of_le_length (by omega), ← h1, List.drop_length, List.nil_append, h1]
    exact flatten_at (fun z hz => hl z (List.mem_cons_of_mem _ hz)) (by simpa using hx)
theorem Sl.idx {h : Heap} {sz : Nat} {s : AV} {xs : List (List AV)} (a : Sl h sz s xs) {i : Nat} {x : List AV} (hx : xs[i]? = some x) : ∃ p, idxS sz s (I i) = some p ∧ At h p x := by
  have hi := (List.getElem?_eq_some_iff.1 hx).1
  rcases a with ⟨rfl, rfl⟩ | ⟨o, off, lim, g, c, rfl, h2, h3, h4, h5⟩
  · simp at hx
  · have hxl : x.length = sz := h5 x (List.mem_of_getElem? hx)
    refine ⟨.ptr o (off + i * sz) (off + i * sz + sz) g, by simp [idxS, hi], o, _, _, g, c, rfl, by omega, h2, h3, ?_⟩
    rw [hxl, ← List.drop_drop]
    have := flatten_at h5 hx
    rw [← h4] at this
    rw [List.drop_take, List.take_take] at this
    have hle : sz ≤ xs.length * sz - i * sz := by
      have : (i + 1) * sz ≤ xs.length * sz := Nat.mul_le_mul_right _ hi
      rw [Nat.add_mul, Nat.one_mul] at this
      omega
    rw [Nat.min_eq_left hle] at this
    exact this

/-! ### Rows of one's own -/
/-- Row o of the heap: its cells, its growth, last written in place. -/
def Row (h : Heap) (o : Nat) (c : CObj) : Prop := h[o]? = some (.cells c)
theorem Row.ext {h h' : Heap} {o : Nat} {c : CObj} (a : Row h o c) (e : Ext h h') : Row h' o c := e.get a
theorem Row.lt {h : Heap} {o : Nat} {c : CObj} (a : Row h o c) : o < h.length := (List.getElem?_eq_some_iff.1 a).1
theorem Row.push {h : Heap} {o : Nat} {c : CObj} (a : Row h o c) (x : AObj) : Row (h ++ [x]) o c := a.ext (Ext.push h [x])
theorem Row.setOther {h : Heap} {o p : Nat} {c : CObj} (a : Row h o c) (hne : p ≠ o) (x : AObj) : Row (h.set p x) o c := by
  unfold Row at *
  rw [List.getElem?_set_ne hne]
  exact a
theorem Row.setSame {h : Heap} {o : Nat} {c : CObj} (a : Row h o c) (c' : CObj) : Row (h.set o (.cells c')) o c' := by
  unfold Row at *
  simp [(List.getElem?_eq_some_iff.1 a).1]
/-- A new variable. -/
abbrev vobj (cs : List AV) : CObj := ⟨cs, 0, 0, false⟩
theorem newVar_eq {cs : List AV} (h : Heap) (h1 : cs.all AV.one = true) : newVar h cs = some (.ptr h.length 0 cs.length 0, mkObj h cs) := by
  unfold newVar; rw [if_pos h1]
theorem Row.new (h : Heap) (cs : List AV) : Row (mkObj h cs) h.length (vobj cs) := by
  simp [Row, mkObj]
theorem Ext.new (h : Heap) (cs : List AV) : Ext h (mkObj h cs) := Ext.push h _
theorem Row.at {h : Heap} {o : Nat} {c : CObj} (a : Row h o c) {g : Nat} (hg : c.wg ≤ g) {off n hi : Nat} (hn : off + n ≤ c.cells.length) (hhi : off + n ≤ hi) : At h (.ptr o off hi g) ((c.cells.drop off).take n) := by
  have hl : ((c.cells.drop off).take n).length = n := by simp; omega
  exact ⟨o, off, hi, g, c, rfl, by rw [hl]; exact hhi, a, hg, by rw [hl]⟩
theorem ldRow {h : Heap} {o : Nat} {c : CObj} (a : Row h o c) {off hi g : Nat} {x : AV} (hg : c.wg ≤ g) (hh : off < hi) (hx : c.cells[off]? = some x) : ld1 h (.ptr o off hi g) = some x := by
  simp only [ld1, show h[o]? = some (.cells c) from a]
  rw [if_pos ⟨hg, hh⟩]
  exact hx
theorem stRow {h : Heap} {o : Nat} {c : CObj} (a : Row h o c) {off hi n : Nat} {v : AV} (hr : c.ro = false) (hv : v.cells.length = n) (hh : off + n ≤ hi) (h1 : v.cells.all AV.one = true) :
    stN n h (.ptr o off hi c.gen) v = some (h.set o (.cells { c with cells := setAll c.cells off v.cells, wg := c.gen })) := by
  simp only [stN, if_pos hv, wrc, show h[o]? = some (.cells c) from a]
  rw [if_pos ⟨hr, by first | rfl | trivial, by rw [hv]; exact hh, h1⟩]
end Go.Gm
