/- A part of the proof: GmY: an abstract machine, what it does, and what the functions of the program come to on it. -/
import Derived.Test.YtdpmglimjmecgaaGmX
set_option linter.unusedVariables false
set_option linter.unusedSimpArgs false
set_option linter.unusedSectionVars false
namespace Go.Gm
/- Rows that grow: lists of one's own. -/

/-- Nothing outside lo .. hi is other than it was. -/
def Fr (lo hi : Nat) (h h' : Heap) : Prop := h.length ≤ h'.length ∧ ∀ o, (o < lo ∨ hi ≤ o) → o < h.length → h'[o]? = h[o]?
theorem Fr.get {lo hi : Nat} {h h' : Heap} (a : Fr lo hi h h') {o : Nat} (h1 : o < lo ∨ hi ≤ o) (h2 : o < h.length) : h'[o]? = h[o]? := a.2 o h1 h2
theorem Fr.len {lo hi : Nat} {h h' : Heap} (a : Fr lo hi h h') : h.length ≤ h'.length := a.1
theorem Fr.refl (lo hi : Nat) (h : Heap) : Fr lo hi h h := ⟨Nat.le_refl _, fun _ _ _ => rfl⟩
theorem Fr.trans {lo hi : Nat} {h h' h'' : Heap} (a : Fr lo hi h h') (b : Fr lo hi h' h'') : Fr lo hi h h'' :=
  ⟨Nat.le_trans a.1 b.1, fun o h1 h2 => (b.2 o h1 (Nat.lt_of_lt_of_le h2 a.1)).trans (a.2 o h1 h2)⟩
theorem Fr.mono {lo hi lo' hi' : Nat} {h h' : Heap} (a : Fr lo hi h h') (h1 : lo' ≤ lo) (h2 : hi ≤ hi') : Fr lo' hi' h h' :=
  ⟨a.1, fun o k1 k2 => a.2 o (by omega) k2⟩
theorem ext_iff {h h' : Heap} : Ext h h' ↔ h.length ≤ h'.length ∧ ∀ o, o < h.length → h'[o]? = h[o]? := by
  constructor
  · rintro ⟨t, rfl⟩
    exact ⟨by simp, fun o ho => List.getElem?_append_left ho⟩
  · rintro ⟨h1, h2⟩
    refine ⟨h'.drop h.length, ?_⟩
    apply List.ext_getElem?
    intro i
    by_cases hi : i < h.length
    · rw [List.getElem?_append_left hi, h2 i hi]
    · rw [List.getElem?_append_right (by omega), List.getElem?_drop]
      congr 1
      omega
theorem Fr.ext {lo hi : Nat} {h0 h h' : Heap} (a : Fr lo hi h h') (e : Ext h0 h) (hl : h0.length ≤ lo) : Ext h0 h' := by
  rw [ext_iff] at *
  exact ⟨Nat.le_trans e.1 a.1, fun o ho => (a.2 o (by omega) (by omega)).trans (e.2 o ho)⟩
theorem Fr.ofExt {lo hi : Nat} {h h' : Heap} (e : Ext h h') : Fr lo hi h h' := by
  rw [ext_iff] at e
  exact ⟨e.1, fun o _ ho => e.2 o ho⟩
theorem Fr.set {lo hi : Nat} (h : Heap) {o : Nat} (h1 : lo ≤ o) (h2 : o < hi) (x : AObj) : Fr lo hi h (h.set o x) :=
  ⟨by simp, fun p k1 k2 => List.getElem?_set_ne (by omega)⟩

/-- A slice of one's own that may grow: its row lies in lo .. hi. -/
def Gr (lo hi : Nat) (h : Heap) (sz : Nat) (s : AV) (xs : List (List AV)) : Prop :=
  (s = .nils ∧ xs = []) ∨ ∃ o g wg cs, lo ≤ o ∧ o < hi ∧ s = .sl o 0 xs.length sz none g ∧ h[o]? = some (.cells ⟨cs, g, wg, false⟩) ∧ wg ≤ g ∧ cs.take (xs.length * sz) = xs.flatten ∧ ∀ x ∈ xs, x.length = sz
theorem Gr.nil (lo hi : Nat) (h : Heap) (sz : Nat) : Gr lo hi h sz .nils [] := .inl ⟨rfl, rfl⟩
theorem flatten_len {sz : Nat} : ∀ {xs : List (List AV)}, (∀ x ∈ xs, x.length = sz) → xs.flatten.length = xs.length * sz
  | [], _ => by simp
  | x :: xs, h => by
    rw [List.flatten_cons, List.length_append, h x (by simp), flatten_len (fun y hy => h y (List.mem_cons_of_mem _ hy)), List.length_cons, Nat.add_mul]
    omega
theorem Gr.sl {lo hi : Nat} {h : Heap} {sz : Nat} {s : AV} {xs : List (List AV)} (a : Gr lo hi h sz s xs) : Sl h sz s xs := by
  rcases a with a | ⟨o, g, wg, cs, h1, h2, h3, h4, h5, h6, h7⟩
  · exact .inl a
  · exact .inr ⟨o, 0, none, g, _, h3, h4, h5, by rw [List.drop_zero]; exact h6, h7⟩
theorem Gr.fr {lo hi lo' hi' : Nat} {h h' : Heap} {sz : Nat} {s : AV} {xs : List (List AV)} (a : Gr lo hi h sz s xs) (f : Fr lo' hi' h h') (hd : hi ≤ lo' ∨ hi' ≤ lo) : Gr lo hi h' sz s xs := by
  rcases a with a | ⟨o, g, wg, cs, h1, h2, h3, h4, h5⟩
  · exact .inl a
  · exact .inr ⟨o, g, wg, cs, h1, h2, h3, by rw [f.get (by omega) (List.getElem?_eq_some_iff.1 h4).1]; exact h4, h5⟩
theorem Gr.ext {lo hi : Nat} {h h' : Heap} {sz : Nat} {s : AV} {xs : List (List AV)} (a : Gr lo hi h sz s xs) (e : Ext h h') : Gr lo hi h' sz s xs := by
  rcases a with a | ⟨o, g, wg, cs, h1, h2, h3, h4, h5⟩
  · exact .inl a
  · exact .inr ⟨o, g, wg, cs, h1, h2, h3, e.get h4, h5⟩
theorem Gr.mono {lo hi lo' hi' : Nat} {h : Heap} {sz : Nat} {s : AV} {xs : List (List AV)} (a : Gr lo hi h sz s xs) (h1 : lo' ≤ lo) (h2 : hi ≤ hi') : Gr lo' hi' h sz s xs := by
  rcases a with a | ⟨o, g, wg, cs, k1, k2, h3, h4, h5⟩
  · exact .inl a
  · exact .inr ⟨o, g, wg, cs, by omega, by omega, h3, h4, h5⟩
theorem Gr.set {lo hi : Nat} {h : Heap} {sz : Nat} {s : AV} {xs : List (List AV)} (a : Gr lo hi h sz s xs) {o : Nat} (ho : o < lo ∨ hi ≤ o) (x : AObj) : Gr lo hi (h.set o x) sz s xs := by
  rcases a with a | ⟨p, g, wg, cs, h1, h2, h3, h4, h5⟩
  · exact .inl a
  · exact .inr ⟨p, g, wg, cs, h1, h2, h3, by rw [List.getElem?_set_ne (by omega)]; exact h4, h5⟩
theorem Gr.app {lo hi : Nat} {h : Heap} {sz : Nat} {s : AV} {xs : List (List AV)} (a : Gr lo hi h sz s xs) (t : Heap) : Gr lo hi (h ++ t) sz s xs := a.ext (Ext.push h t)
/-- It lies below the heap's end. -/
theorem Gr.low {lo hi : Nat} {h : Heap} {sz : Nat} {s : AV} {xs : List (List AV)} (a : Gr lo hi h sz s xs) (n : Nat) (hn : h.length ≤ n) : Gr lo n h sz s xs := by
  rcases a with a | ⟨p, g, wg, cs, h1, h2, h3, h4, h5⟩
  · exact .inl a
  · exact .inr ⟨p, g, wg, cs, h1, by have := (List.getElem?_eq_some_iff.1 h4).1; omega, h3, h4, h5⟩
theorem Sl.one {h : Heap} {sz : Nat} {s : AV} {xs : List (List AV)} (a : Sl h sz s xs) : s.one = true := by
  rcases a with ⟨rfl, _⟩ | ⟨o, off, lim, g, c, rfl, _⟩ <;> rfl
theorem Sl.cells {h : Heap} {sz : Nat} {s : AV} {xs : List (List AV)} (a : Sl h sz s xs) : s.cells = [s] := by
  rcases a with ⟨rfl, _⟩ | ⟨o, off, lim, g, c, rfl, _⟩ <;> rfl
theorem Sl.sub {h : Heap} {sz : Nat} {s : AV} {xs : List (List AV)} (a : Sl h sz s xs) : True := trivial

/-- What an append reads. -/
theorem Sl.news {h : Heap} {sz : Nat} {s : AV} {xs : List (List AV)} (a : Sl h sz s xs) : news sz s h = some (xs.length, xs.flatten) := by
  rcases a with ⟨rfl, rfl⟩ | ⟨o, off, lim, g, c, rfl, h2, h3, h4, h5⟩
  · rfl
  · simp only [Gm.news, if_true, rdc, h2, if_pos h3, h4, Option.map_some]

/-- Appending to a slice of one's own. -/
theorem Gr.appendS {lo hi : Nat} {h : Heap} {sz bytes : Nat} {s x : AV} {xs ys : List (List AV)} (a : Gr lo hi h sz s xs) (b : Sl h sz x ys) (hsz : 0 < sz) (hb : 0 < bytes) (hl : (xs.length + ys.length) * bytes ≤ 140737488355328) (hlo : lo ≤ h.length) (hhi : hi ≤ h.length) :
    ∃ s' h', apnd sz bytes s x h = some (s', h') ∧ Gr lo h'.length h' sz s' (xs ++ ys) ∧ Fr lo hi h h' ∧ (s ≠ .nils → Gr lo hi h' sz s' (xs ++ ys) ∧ s' ≠ .nils) := by
  have hys : ∀ y ∈ ys, y.length = sz := by
    rcases b with ⟨_, rfl⟩ | ⟨_, _, _, _, _, _, _, _, _, h5⟩
    · simp
    · exact h5
  have hfl := flatten_len hys
  simp only [apnd, b.news]
  rcases a with ⟨rfl, rfl⟩ | ⟨o, g, wg, cs, h1, h2, rfl, h4, h5, h6, h7⟩
  · simp only [List.length_nil, Nat.zero_add] at hl
    by_cases h0 : ys.length = 0
    · have := List.eq_nil_of_length_eq_zero h0
      subst this
      exact ⟨.nils, h, rfl, .inl ⟨rfl, rfl⟩, Fr.refl _ _ _, fun q => absurd rfl q⟩
    · refine ⟨.sl h.length 0 ys.length sz none 0, mkObj h ys.flatten, ?_, .inr ⟨h.length, 0, 0, ys.flatten, hlo, by simp [mkObj], rfl, by simp [mkObj], Nat.le_refl _, List.take_of_length_le (by rw [hfl]; exact Nat.le_refl _), hys⟩, Fr.ofExt (Ext.push h _), fun q => absurd rfl q⟩
      simp only [if_neg h0]
      rw [if_pos ⟨hl, hfl, hsz, hb⟩]
  · by_cases h0 : ys.length = 0
    · have := List.eq_nil_of_length_eq_zero h0
      subst this
      simp only [List.append_nil]
      exact ⟨_, h, rfl, .inr ⟨o, g, wg, cs, h1, by omega, rfl, h4, h5, h6, h7⟩, Fr.refl _ _ _, fun _ => ⟨.inr ⟨o, g, wg, cs, h1, h2, rfl, h4, h5, h6, h7⟩, by simp⟩⟩
    · have hox := (List.getElem?_eq_some_iff.1 h4).1
      have hgr : ∀ hi', o < hi' → Gr lo hi' (h.set o (.cells ⟨(xs ++ ys).flatten, g + 1, (if xs.length * sz = cs.length then wg else g + 1), false⟩)) sz (.sl o 0 (xs.length + ys.length) sz none (g + 1)) (xs ++ ys) := by
        intro hi' hhi'
        refine .inr ⟨o, g + 1, (if xs.length * sz = cs.length then wg else g + 1), (xs ++ ys).flatten, h1, hhi', by simp, by simp [hox], by split <;> omega, ?_, ?_⟩
        · refine List.take_of_length_le ?_
          rw [flatten_len (sz := sz)]
          · exact Nat.le_refl _
          · intro x hx
            rcases List.mem_append.1 hx with hx | hx
            · exact h7 x hx
            · exact hys x hx
        · intro x hx
          rcases List.mem_append.1 hx with hx | hx
          · exact h7 x hx
          · exact hys x hx
      refine ⟨.sl o 0 (xs.length + ys.length) sz none (g + 1), h.set o (.cells ⟨(xs ++ ys).flatten, g + 1, (if xs.length * sz = cs.length then wg else g + 1), false⟩), ?_, hgr _ (by simp; omega), ⟨by simp, fun p k1 k2 => List.getElem?_set_ne (by omega)⟩, fun _ => ⟨hgr _ h2, by simp⟩⟩
      simp only [if_neg h0, true_and]
      rw [if_neg (by simp only [Classical.not_not]; exact ⟨hl, hfl, hsz, hb⟩)]
      simp only [h4, and_self, if_true, h6]
      simp
theorem Gr.append {lo hi : Nat} {h : Heap} {sz bytes : Nat} {s x : AV} {xs ys : List (List AV)} (a : Gr lo hi h sz s xs) (b : Sl h sz x ys) (hsz : 0 < sz) (hb : 0 < bytes) (hl : (xs.length + ys.length) * bytes ≤ 140737488355328) (hlo : lo ≤ h.length) (hhi : hi ≤ h.length) :
    ∃ s' h', apnd sz bytes s x h = some (s', h') ∧ Gr lo h'.length h' sz s' (xs ++ ys) ∧ Fr lo hi h h' :=
  let ⟨s', h', h1, h2, h3, _⟩ := a.appendS b hsz hb hl hlo hhi
  ⟨s', h', h1, h2, h3⟩
/-- One more. -/
theorem Gr.append1 {lo hi : Nat} {h : Heap} {sz bytes : Nat} {s : AV} {xs : List (List AV)} (a : Gr lo hi h sz s xs) {v : List AV} (hv : v.length = sz) (hsz : 0 < sz) (hb : 0 < bytes) (hl : (xs.length + 1) * bytes ≤ 140737488355328) (hlo : lo ≤ h.length) (hhi : hi ≤ h.length) :
    ∃ s' h', apnd sz bytes s (.sl h.length 0 1 sz none 0) (mkObj h v) = some (s', h') ∧ Gr lo h'.length h' sz s' (xs ++ [v]) ∧ Fr lo hi h h' := by
  have b : Sl (mkObj h v) sz (.sl h.length 0 1 sz none 0) [v] := .inr ⟨h.length, 0, none, 0, _, rfl, by simp [mkObj]; rfl, Nat.le_refl _, by simp [List.take_of_length_le (Nat.le_of_eq hv)], by simp [hv]⟩
  obtain ⟨s', h', h1, h2, h3⟩ := (a.ext (Ext.push h _)).append b hsz hb (by simpa using hl) (by simp [mkObj]; omega) (by simp [mkObj]; omega)
  refine ⟨s', h', h1, h2, ?_⟩
  exact (Fr.ofExt (lo := lo) (hi := hi) (Ext.push h _)).trans h3
/-- All of one, anew. -/
theorem clone_i {h : Heap} {sz bytes : Nat} {x : AV} {ys : List (List AV)} (b : Sl h sz x ys) (hsz : 0 < sz) (hb : 0 < bytes) (hl : ys.length * bytes ≤ 140737488355328) :
    ∃ s' h', apnd sz bytes (.sl h.length 0 0 sz none 0) x (mkObj h []) = some (s', h') ∧ Gr h.length h'.length h' sz s' ys ∧ Ext h h' := by
  have a : Gr h.length (h.length + 1) (mkObj h []) sz (.sl h.length 0 0 sz none 0) [] := .inr ⟨h.length, 0, 0, [], Nat.le_refl _, by omega, rfl, by simp [mkObj], Nat.le_refl _, by simp, by simp⟩
  obtain ⟨s', h', h1, h2, h3⟩ := a.append (b.ext (Ext.push h _)) hsz hb (by simpa using hl) (by simp [mkObj]) (by simp [mkObj])
  exact ⟨s', h', h1, h2, h3.ext (Ext.push h _) (Nat.le_refl _)⟩
/-- A new row of like elements. -/
theorem Gr.make {h : Heap} {sz : Nat} {z : List AV} (hz : z.length = sz) (n : Nat) : Gr h.length (h.length + 1) (mkObj h (List.replicate n z).flatten) sz (.sl h.length 0 n sz none 0) (List.replicate n z) := by
  refine .inr ⟨h.length, 0, 0, (List.replicate n z).flatten, Nat.le_refl _, by omega, by simp, by simp [mkObj], Nat.le_refl _, ?_, ?_⟩
  · refine List.take_of_length_le ?_
    rw [flatten_len (sz := sz)]
    · exact Nat.le_refl _
    · intro x hx; rw [(List.mem_replicate.1 hx).2]; exact hz
  · intro x hx; rw [(List.mem_replicate.1 hx).2]; exact hz
theorem mkSl_gr {zero : List AV} {sz bytes : Nat} {n : Int} (h : Heap) (h1 : 0 ≤ n) (h3 : n * bytes ≤ 140737488355328) (h4 : n ≤ 140737488355328) (h5 : zero.length = sz) (h6 : zero.all AV.one = true) :
    ∃ s h', mkSl zero sz bytes (I n) (I n) h = some (s, h') ∧ Gr h.length (h.length + 1) h' sz s (List.replicate n.toNat zero) ∧ Ext h h' ∧ s ≠ .nils ∧ h'.length = h.length + 1 :=
  ⟨_, _, mkSl_i h1 (Int.le_refl _) h3 h4 h5 h6, Gr.make h5 _, Ext.push h _, by simp, by simp [mkObj]⟩
theorem Gr.empty (h : Heap) (sz : Nat) : Gr h.length (h.length + 1) (mkObj h []) sz (.sl h.length 0 0 sz none 0) [] :=
  .inr ⟨h.length, 0, 0, [], Nat.le_refl _, by omega, rfl, by simp [mkObj], Nat.le_refl _, by simp, by simp⟩
/-- One written out. -/
theorem Gr.lit {h : Heap} {sz : Nat} {v : List AV} (hv : v.length = sz) : Gr h.length (h.length + 1) (mkObj h v) sz (.sl h.length 0 1 sz none 0) [v] := by
  refine .inr ⟨h.length, 0, 0, v, Nat.le_refl _, by omega, rfl, by simp [mkObj], Nat.le_refl _, ?_, by simp [hv]⟩
  simp [List.take_of_length_le (Nat.le_of_eq hv)]
/-- Cut shorter. -/
theorem Gr.take {lo hi : Nat} {h : Heap} {sz : Nat} {s : AV} {xs : List (List AV)} (a : Gr lo hi h sz s xs) {n : Int} (h0 : 0 ≤ n) (h1 : n ≤ xs.length) (hs : s ≠ .nils) : ∃ s', slSl sz s none (some (I n)) none = some s' ∧ Gr lo hi h sz s' (xs.take n.toNat) ∧ s' ≠ .nils := by
  rcases a with ⟨rfl, rfl⟩ | ⟨o, g, wg, cs, k1, k2, rfl, k4, k5, k6, k7⟩
  · exact absurd rfl hs
  · refine ⟨.sl o 0 n.toNat sz none g, ?_, .inr ⟨o, g, wg, cs, k1, k2, ?_, k4, k5, ?_, fun x hx => k7 x (List.mem_of_mem_take hx)⟩, by simp⟩
    · have : n.toNat ≤ xs.length := by omega
      simp [slSl, bnd, h0, this]
    · rw [List.length_take]; congr 1; omega
    · rw [List.length_take, Nat.min_eq_left (by omega : n.toNat ≤ xs.length)]
      have h2 : (cs.take (xs.length * sz)).take (n.toNat * sz) = xs.flatten.take (n.toNat * sz) := by rw [k6]
      rw [List.take_take, Nat.min_eq_left (Nat.mul_le_mul_right _ (by omega))] at h2
      rw [h2]
      have h3 : xs = xs.take n.toNat ++ xs.drop n.toNat := (List.take_append_drop _ _).symm
      conv => lhs; rw [h3, List.flatten_append]
      have h4 : (xs.take n.toNat).flatten.length = n.toNat * sz := by
        rw [flatten_len (sz := sz) (fun x hx => k7 x (List.mem_of_mem_take hx)), List.length_take, Nat.min_eq_left (by omega : n.toNat ≤ xs.length)]
      rw [List.take_append_of_le_length (by omega), List.take_of_length_le (by omega)]
theorem setAll_ln : ∀ (vs cs : List AV) (off : Nat), (setAll cs off vs).length = cs.length
  | [], _, _ => rfl
  | v :: vs, cs, off => by simp [setAll, setAll_ln vs]
theorem setAll_gt : ∀ (vs cs : List AV) (off i : Nat), off + vs.length ≤ cs.length → (setAll cs off vs)[i]? = if off ≤ i ∧ i < off + vs.length then vs[i - off]? else cs[i]?
  | [], cs, off, i, _ => by
    rw [if_neg (by simp only [List.length_nil]; omega)]; rfl
  | v :: vs, cs, off, i, h => by
    simp only [List.length_cons] at h
    rw [setAll, setAll_gt vs _ _ _ (by simp; omega)]
    by_cases h1 : off + 1 ≤ i ∧ i < off + 1 + vs.length
    · rw [if_pos h1, if_pos (by simp; omega)]
      rw [show i - off = (i - (off + 1)) + 1 by omega, List.getElem?_cons_succ]
    · rw [if_neg h1]
      by_cases h2 : i = off
      · subst h2
        rw [if_pos (by simp)]
        simp only [Nat.sub_self, List.getElem?_cons_zero]
        rw [List.getElem?_set_self (by omega)]
      · rw [if_neg (by simp; omega), List.getElem?_set_ne (by omega)]
theorem flatten_get {sz : Nat} : ∀ {xs : List (List AV)}, (∀ x ∈ xs, x.length = sz) → ∀ (i j : Nat), j < sz → xs.flatten[i * sz + j]? = (xs[i]?).bind fun x => x[j]?
  | [], _, i, j, _ => by simp
  | x :: xs, hx, 0, j, hj => by
    have h1 := hx x (by simp)
    rw [List.flatten_cons, Nat.zero_mul, Nat.zero_add, List.getElem?_append_left (by omega)]
    rfl
  | x :: xs, hx, i + 1, j, hj => by
    have h1 := hx x (by simp)
    rw [List.flatten_cons, List.getElem?_append_right (by rw [h1, Nat.add_mul]; omega), h1, show (i + 1) * sz + j - sz = i * sz + j by rw [Nat.add_mul]; omega, flatten_get (fun y hy => hx y (List.mem_cons_of_mem _ hy)) i j hj]
    rfl
/-- One's own row: cells of one element are written. -/
theorem Gr.write {lo hi : Nat} {h : Heap} {sz : Nat} {s : AV} {xs : List (List AV)} (a : Gr lo hi h sz s xs) {i : Int} (h0 : 0 ≤ i) {x : List AV} (hx : xs[i.toNat]? = some x) (d n : Nat) {v : AV} (hv : v.cells.length = n) (hd : d + n ≤ sz) (h1 : v.cells.all AV.one = true) :
    ∃ h', stN n h (fldP d (elP sz s i)) v = some h' ∧ Gr lo hi h' sz s (xs.set i.toNat (setAll x d v.cells)) ∧ Fr lo hi h h' ∧ h'.length = h.length := by
  have hi' := (List.getElem?_eq_some_iff.1 hx).1
  rcases a with ⟨rfl, rfl⟩ | ⟨o, g, wg, cs, k1, k2, rfl, k4, k5, k6, k7⟩
  · simp at hx
  have hlen : xs.length * sz ≤ cs.length := by
    have := congrArg List.length k6
    rw [List.length_take, flatten_len k7] at this
    omega
  have hle : i.toNat * sz + sz ≤ xs.length * sz := by
    have : (i.toNat + 1) * sz ≤ xs.length * sz := Nat.mul_le_mul_right _ hi'
    rw [Nat.add_mul, Nat.one_mul] at this; exact this
  have hxl : x.length = sz := k7 x (List.mem_of_getElem? hx)
  have hox := (List.getElem?_eq_some_iff.1 k4).1
  refine ⟨h.set o (.cells ⟨setAll cs (i.toNat * sz + d) v.cells, g, g, false⟩), ?_, .inr ⟨o, g, g, setAll cs (i.toNat * sz + d) v.cells, k1, k2, by simp, by simp [hox], Nat.le_refl _, ?_, ?_⟩, Fr.set _ k1 k2 _, by simp⟩
  · simp only [elP, fldP, Nat.zero_add, stN_ptr, k4]
    exact wrAt_row hv rfl (by omega) h1
  · have hall : ∀ y ∈ xs.set i.toNat (setAll x d v.cells), y.length = sz := by
      intro y hy
      rcases List.mem_or_eq_of_mem_set hy with hy | rfl
      · exact k7 y hy
      · rw [setAll_ln, hxl]
    apply List.ext_getElem?
    intro p
    rw [List.getElem?_take]
    simp only [List.length_set]
    by_cases hsz : sz = 0
    · subst hsz
      rw [if_neg (by omega)]
      rw [List.getElem?_eq_none]
      rw [flatten_len hall]; omega
    by_cases hp : p < xs.length * sz
    · rw [if_pos hp]
      have hpe : p = p / sz * sz + p % sz := by rw [Nat.mul_comm]; exact (Nat.div_add_mod p sz).symm
      have hpm : p % sz < sz := Nat.mod_lt _ (by omega)
      have hpd : p / sz < xs.length := (Nat.div_lt_iff_lt_mul (by omega)).2 hp
      rw [setAll_gt _ _ _ _ (by omega)]
      conv => rhs; rw [hpe]
      rw [flatten_get hall _ _ hpm]
      have hcs : cs[p]? = (xs[p / sz]?).bind fun y => y[p % sz]? := by
        rw [← flatten_get k7 _ _ hpm, ← hpe, ← k6, List.getElem?_take, if_pos hp]
      by_cases hpi : p / sz = i.toNat
      · rw [hpi, List.getElem?_set_self hi']
        simp only [Option.bind_some]
        rw [setAll_gt _ _ _ _ (by omega)]
        rw [hpi] at hpe
        by_cases hin : d ≤ p % sz ∧ p % sz < d + v.cells.length
        · rw [if_pos hin, if_pos (by omega)]
          congr 1; omega
        · rw [if_neg hin, if_neg (by omega), hcs, hpi, hx]; rfl
      · rw [List.getElem?_set_ne (by omega), ← hcs, if_neg]
        intro hc
        apply hpi
        have h2 : i.toNat * sz ≤ p := by omega
        have h3 : p < (i.toNat + 1) * sz := by rw [Nat.add_mul]; omega
        exact Nat.le_antisymm (Nat.le_of_lt_succ ((Nat.div_lt_iff_lt_mul (by omega)).2 h3)) ((Nat.le_div_iff_mul_le (by omega)).2 h2)
    · rw [if_neg hp, List.getElem?_eq_none]
      rw [flatten_len hall, List.length_set]; omega
  · intro y hy
    rcases List.mem_or_eq_of_mem_set hy with hy | rfl
    · exact k7 y hy
    · rw [setAll_ln, hxl]
theorem fldP_zero (sz : Nat) (s : AV) (i : Int) : fldP 0 (elP sz s i) = elP sz s i := by cases s <;> rfl
theorem Gr.write0 {lo hi : Nat} {h : Heap} {sz : Nat} {s : AV} {xs : List (List AV)} (a : Gr lo hi h sz s xs) {i : Int} (h0 : 0 ≤ i) (hx : i < xs.length) {v : AV} (hv : v.cells.length = sz) (h1 : v.cells.all AV.one = true) :
    ∃ h', stN sz h (elP sz s i) v = some h' ∧ Gr lo hi h' sz s (xs.set i.toNat v.cells) ∧ Fr lo hi h h' ∧ h'.length = h.length := by
  have hi' : i.toNat < xs.length := by omega
  obtain ⟨h', k1, k2, k3⟩ := a.write h0 (List.getElem?_eq_getElem hi') 0 sz hv (by omega) h1
  have hxl : (xs[i.toNat]).length = sz := by
    rcases a with ⟨_, rfl⟩ | ⟨_, _, _, _, _, _, _, _, _, _, k7⟩
    · simp at hi'
    · exact k7 _ (List.getElem_mem hi')
  rw [fldP_zero] at k1
  refine ⟨h', k1, ?_, k3⟩
  have : setAll (xs[i.toNat]) 0 v.cells = v.cells := by
    apply List.ext_getElem?
    intro j
    rw [setAll_gt _ _ _ _ (by omega)]
    by_cases hj : j < v.cells.length
    · rw [if_pos (by omega)]; rfl
    · rw [if_neg (by omega), List.getElem?_eq_none (by omega), List.getElem?_eq_none (by omega)]
  rw [this] at k2
  exact k2
/-- A slice cut at its own length. -/
theorem Sl.cut {h : Heap} {sz : Nat} {s : AV} {xs : List (List AV)} (a : Sl h sz s xs) : ∃ s', slSl sz s none (some (I xs.length)) (some (I xs.length)) = some s' ∧ Sl h sz s' xs := by
  rcases a with ⟨rfl, rfl⟩ | ⟨o, off, lim, g, c, rfl, h2, h3, h4, h5⟩
  · exact ⟨.nils, rfl, .inl ⟨rfl, rfl⟩⟩
  · refine ⟨.sl o off xs.length sz (some xs.length) g, ?_, .inr ⟨o, off, some xs.length, g, c, rfl, h2, h3, h4, h5⟩⟩
    simp [slSl, bnd]
theorem Sl.map {h : Heap} {sz : Nat} {s : AV} {xs ys : List (List AV)} (a : Sl h sz s xs) (e : xs = ys) : Sl h sz s ys := e ▸ a
theorem Gr.cong {lo hi : Nat} {h : Heap} {sz : Nat} {s : AV} {xs ys : List (List AV)} (a : Gr lo hi h sz s xs) (e : xs = ys) : Gr lo hi h sz s ys := e ▸ a

/-! ### Any places -/
/-- Nothing but D is other than it was. -/
def FrS (D : Nat → Prop) (h h' : Heap) : Prop := h.length ≤ h'.length ∧ ∀ o, ¬ D o → o < h.length → h'[o]? = h[o]?
theorem FrS.len {D : Nat → Prop} {h h' : Heap} (a : FrS D h h') : h.length ≤ h'.length := a.1
theorem FrS.get {D : Nat → Prop} {h h' : Heap} (a : FrS D h h') {o : Nat} (h1 : ¬ D o) (h2 : o < h.length) : h'[o]? = h[o]? := a.2 o h1 h2
theorem FrS.refl (D : Nat → Prop) (h : Heap) : FrS D h h := ⟨Nat.le_refl _, fun _ _ _ => rfl⟩
theorem FrS.trans {D : Nat → Prop} {h h' h'' : Heap} (a : FrS D h h') (b : FrS D h' h'') : FrS D h h'' :=
  ⟨Nat.le_trans a.1 b.1, fun o h1 h2 => (b.2 o h1 (Nat.lt_of_lt_of_le h2 a.1)).trans (a.2 o h1 h2)⟩
theorem FrS.mono {D D' : Nat → Prop} {h h' : Heap} (a : FrS D h h') (hd : ∀ o, o < h.length → D o → D' o) : FrS D' h h' := ⟨a.1, fun o h1 h2 => a.2 o (fun q => h1 (hd o h2 q)) h2⟩
theorem Fr.s {lo hi : Nat} {h h' : Heap} (a : Fr lo hi h h') : FrS (fun o => lo ≤ o ∧ o < hi) h h' := ⟨a.1, fun o h1 h2 => a.2 o (by omega) h2⟩
theorem FrS.ofExt {D : Nat → Prop} {h h' : Heap} (e : Ext h h') : FrS D h h' := by
  rw [ext_iff] at e
  exact ⟨e.1, fun o _ ho => e.2 o ho⟩
theorem FrS.ext {D : Nat → Prop} {h0 h h' : Heap} (a : FrS D h h') (e : Ext h0 h) (hd : ∀ o, o < h0.length → ¬ D o) : Ext h0 h' := by
  rw [ext_iff] at *
  exact ⟨Nat.le_trans e.1 a.1, fun o ho => (a.2 o (hd o ho) (by omega)).trans (e.2 o ho)⟩
theorem Gr.frs {D : Nat → Prop} {lo hi : Nat} {h h' : Heap} {sz : Nat} {s : AV} {xs : List (List AV)} (a : Gr lo hi h sz s xs) (f : FrS D h h') (hd : ∀ o, lo ≤ o → o < hi → ¬ D o) : Gr lo hi h' sz s xs := by
  rcases a with a | ⟨o, g, wg, cs, h1, h2, h3, h4, h5⟩
  · exact .inl a
  · exact .inr ⟨o, g, wg, cs, h1, h2, h3, by rw [f.get (hd o h1 h2) (List.getElem?_eq_some_iff.1 h4).1]; exact h4, h5⟩

theorem At.row {h : Heap} {o : Nat} {cs : List AV} {g wg : Nat} {ro : Bool} (hr : h[o]? = some (.cells ⟨cs, g, wg, ro⟩)) {g' : Nat} (hg : wg ≤ g') {n : Nat} (hn : n = cs.length) : At h (.ptr o 0 n g') cs :=
  ⟨o, 0, n, g', _, rfl, by omega, hr, hg, by simp⟩
/-- Many that grow, none in another's row. -/
def Fam {κ : Type} (W : Nat → Prop) (h : Heap) (sz : Nat) (A : κ → Prop) (S : κ → AV) (X : κ → List (List AV)) : Prop :=
  ∃ ob : κ → Nat, (∀ t, A t → Gr (ob t) (ob t + 1) h sz (S t) (X t) ∧ (S t ≠ .nils → W (ob t) ∧ ob t < h.length)) ∧ ∀ t t', A t → A t' → t ≠ t' → S t ≠ .nils → S t' ≠ .nils → ob t ≠ ob t'
theorem Fam.nil {κ : Type} (W : Nat → Prop) (h : Heap) (sz : Nat) {A : κ → Prop} {S : κ → AV} {X : κ → List (List AV)} (hs : ∀ t, A t → S t = .nils ∧ X t = []) : Fam W h sz A S X :=
  ⟨fun _ => 0, fun t ht => ⟨.inl (hs t ht), fun q => absurd (hs t ht).1 q⟩, fun t t' ht _ _ q => absurd (hs t ht).1 q⟩
theorem Fam.mono {κ : Type} {W W' : Nat → Prop} {h : Heap} {sz : Nat} {A : κ → Prop} {S : κ → AV} {X : κ → List (List AV)} (f : Fam W h sz A S X) (hh : ∀ o, o < h.length → W o → W' o) : Fam W' h sz A S X := by
  obtain ⟨ob, h1, h2⟩ := f
  exact ⟨ob, fun t ht => ⟨(h1 t ht).1, fun q => ⟨hh _ ((h1 t ht).2 q).2 ((h1 t ht).2 q).1, ((h1 t ht).2 q).2⟩⟩, h2⟩
theorem Fam.sl {κ : Type} {W : Nat → Prop} {h : Heap} {sz : Nat} {A : κ → Prop} {S : κ → AV} {X : κ → List (List AV)} (f : Fam W h sz A S X) {t : κ} (ht : A t) : Sl h sz (S t) (X t) := by
  obtain ⟨ob, h1, _⟩ := f
  exact (h1 t ht).1.sl
theorem Fam.congr {κ : Type} {W : Nat → Prop} {h : Heap} {sz : Nat} {A : κ → Prop} {S S' : κ → AV} {X X' : κ → List (List AV)} (f : Fam W h sz A S X) (he : ∀ t, A t → S' t = S t ∧ X' t = X t) : Fam W h sz A S' X' := by
  obtain ⟨ob, h1, h2⟩ := f
  refine ⟨ob, fun t ht => ?_, fun t t' ht ht' => ?_⟩
  · rw [(he t ht).1, (he t ht).2]; exact h1 t ht
  · rw [(he t ht).1, (he t' ht').1]; exact h2 t t' ht ht'
theorem Fam.frs {κ : Type} {W : Nat → Prop} {h h' : Heap} {sz : Nat} {A : κ → Prop} {S : κ → AV} {X : κ → List (List AV)} (f : Fam W h sz A S X) {D : Nat → Prop} (fr : FrS D h h') (hd : ∀ o, o < h.length → W o → ¬ D o) : Fam W h' sz A S X := by
  obtain ⟨ob, h1, h2⟩ := f
  refine ⟨ob, fun t ht => ?_, h2⟩
  obtain ⟨h3, h4⟩ := h1 t ht
  by_cases hn : S t = .nils
  · refine ⟨?_, fun q => absurd hn q⟩
    rcases h3 with h3 | ⟨o, g, wg, cs, _, _, q, _⟩
    · exact .inl h3
    · rw [hn] at q; cases q
  · obtain ⟨h5, h6⟩ := h4 hn
    exact ⟨h3.frs fr fun o k1 k2 => by
      obtain rfl : o = ob t := by omega
      exact hd _ h6 h5, fun _ => ⟨h5, Nat.lt_of_lt_of_le h6 fr.len⟩⟩
theorem Gr.agree {lo hi : Nat} {h h' : Heap} {sz : Nat} {s : AV} {xs : List (List AV)} (a : Gr lo hi h sz s xs) (hag : ∀ o, lo ≤ o → o < hi → o < h.length → h'[o]? = h[o]?) : Gr lo hi h' sz s xs := by
  rcases a with a | ⟨o, g, wg, cs, h1, h2, h3, h4, h5⟩
  · exact .inl a
  · exact .inr ⟨o, g, wg, cs, h1, h2, h3, by rw [hag o h1 h2 (List.getElem?_eq_some_iff.1 h4).1]; exact h4, h5⟩
theorem Fam.slA {κ : Type} {W : Nat → Prop} {h h' : Heap} {sz : Nat} {A : κ → Prop} {S : κ → AV} {X : κ → List (List AV)} (f : Fam W h sz A S X) {t : κ} (ht : A t) (hag : ∀ o, W o → o < h.length → h'[o]? = h[o]?) : Sl h' sz (S t) (X t) := by
  obtain ⟨ob, h1, _⟩ := f
  obtain ⟨h2, h3⟩ := h1 t ht
  by_cases hn : S t = .nils
  · rcases h2 with h2 | ⟨o, g, wg, cs, _, _, q, _⟩
    · exact .inl h2
    · rw [hn] at q; cases q
  · obtain ⟨h4, h5⟩ := h3 hn
    exact (h2.agree fun o k1 k2 k3 => by
      obtain rfl : o = ob t := by omega
      exact hag _ h4 k3).sl
theorem Gr.nnil {lo hi : Nat} {h : Heap} {sz : Nat} {s : AV} {xs : List (List AV)} (a : Gr lo hi h sz s xs) (hx : xs ≠ []) : s ≠ .nils := by
  rcases a with ⟨_, q⟩ | ⟨o, g, wg, cs, _, _, q, _⟩
  · exact absurd q hx
  · rw [q]; simp
theorem Fam.append {κ : Type} [DecidableEq κ] {W : Nat → Prop} {h : Heap} {sz bytes : Nat} {A : κ → Prop} {S : κ → AV} {X : κ → List (List AV)} (f : Fam W h sz A S X) {t : κ} (ht : A t) {x : AV} {ys : List (List AV)} (b : Sl h sz x ys) (hys : ys ≠ []) (hsz : 0 < sz) (hb : 0 < bytes) (hl : ((X t).length + ys.length) * bytes ≤ 140737488355328) :
    ∃ s' h', apnd sz bytes (S t) x h = some (s', h') ∧ s'.one = true ∧ Fam (fun o => W o ∨ h.length ≤ o) h' sz A (fun t' => if t' = t then s' else S t') (fun t' => if t' = t then X t ++ ys else X t') ∧ FrS W h h' := by
  obtain ⟨ob, h1, h2⟩ := f
  obtain ⟨h3, h4⟩ := h1 t ht
  have hne : X t ++ ys ≠ [] := by simp [hys]
  by_cases hn : S t = .nils
  · have hx : X t = [] := by
      rcases h3 with h3 | ⟨o, g, wg, cs, _, _, q, _⟩
      · exact h3.2
      · rw [hn] at q; cases q
    obtain ⟨s', h', k1, k2, k3⟩ := (Gr.nil h.length h.length h sz).append b hsz hb (by rw [hx] at hl; exact hl) (Nat.le_refl _) (Nat.le_refl _)
    rw [List.nil_append] at k2
    have hs' := k2.nnil hys
    have hfr : FrS (fun o => h.length ≤ o) h h' := k3.s.mono fun o q1 q2 => q2.1
    refine ⟨s', h', by rw [hn]; exact k1, k2.sl.one, ?_, hfr.mono fun o q1 q2 => by omega⟩
    rcases k2 with ⟨q, _⟩ | ⟨o, g, wg, cs, m1, m2, m3⟩
    · exact absurd q hs'
    · refine ⟨fun t' => if t' = t then o else ob t', fun t' ht' => ?_, fun t1 t2 a1 a2 hne12 n1 n2 => ?_⟩
      · by_cases htt : t' = t
        · subst htt
          simp only [if_true, hx, List.nil_append]
          exact ⟨.inr ⟨o, g, wg, cs, Nat.le_refl _, by omega, m3⟩, fun _ => ⟨.inr m1, m2⟩⟩
        · simp only [if_neg htt]
          obtain ⟨j1, j2⟩ := h1 t' ht'
          by_cases hn' : S t' = .nils
          · refine ⟨?_, fun q => absurd hn' q⟩
            rcases j1 with j1 | ⟨o, g, wg, cs, _, _, q, _⟩
            · exact .inl j1
            · rw [hn'] at q; cases q
          · obtain ⟨j3, j4⟩ := j2 hn'
            exact ⟨j1.frs hfr fun o k1 k2 => by omega, fun _ => ⟨.inl j3, Nat.lt_of_lt_of_le j4 hfr.len⟩⟩
      · by_cases e1 : t1 = t
        · subst e1
          have e2 : t2 ≠ t1 := fun q => hne12 q.symm
          simp only [if_true, if_neg e2] at n1 n2 ⊢
          have := ((h1 t2 a2).2 n2).2
          omega
        · by_cases e2 : t2 = t
          · subst e2
            simp only [if_true, if_neg e1] at n1 n2 ⊢
            have := ((h1 t1 a1).2 n1).2
            omega
          · simp only [if_neg e1, if_neg e2] at n1 n2 ⊢
            exact h2 t1 t2 a1 a2 hne12 n1 n2
  · obtain ⟨h5, h6⟩ := h4 hn
    obtain ⟨s', h', k1, k2, k3, k4⟩ := h3.appendS b hsz hb hl (by omega) (by omega)
    have hs' := k2.nnil hne
    have hfr : FrS (fun o => o = ob t) h h' := k3.s.mono fun o q1 q2 => by omega
    refine ⟨s', h', k1, k2.sl.one, ?_, hfr.mono fun o q1 q2 => q2 ▸ h5⟩
    refine ⟨ob, fun t' ht' => ?_, fun t1 t2 a1 a2 hne12 n1 n2 => ?_⟩
    · by_cases htt : t' = t
      · subst htt
        simp only [if_true]
        exact ⟨(k4 hn).1, fun _ => ⟨.inl h5, Nat.lt_of_lt_of_le h6 hfr.len⟩⟩
      · simp only [if_neg htt]
        obtain ⟨j1, j2⟩ := h1 t' ht'
        by_cases hn' : S t' = .nils
        · refine ⟨?_, fun q => absurd hn' q⟩
          rcases j1 with j1 | ⟨o, g, wg, cs, _, _, q, _⟩
          · exact .inl j1
          · rw [hn'] at q; cases q
        · obtain ⟨j3, j4⟩ := j2 hn'
          have := h2 t' t ht' ht htt hn' hn
          exact ⟨j1.frs hfr fun o k1 k2 => by omega, fun _ => ⟨.inl j3, Nat.lt_of_lt_of_le j4 hfr.len⟩⟩
    · refine h2 t1 t2 a1 a2 hne12 ?_ ?_
      · by_cases e1 : t1 = t
        · rw [e1]; exact hn
        · simpa [e1] using n1
      · by_cases e1 : t2 = t
        · rw [e1]; exact hn
        · simpa [e1] using n2
/-- Where it lies, if anywhere. -/
theorem Gr.point {lo hi : Nat} {h : Heap} {sz : Nat} {s : AV} {xs : List (List AV)} (a : Gr lo hi h sz s xs) : ∃ o, (s ≠ .nils → lo ≤ o ∧ o < hi ∧ o < h.length) ∧ Gr o (o + 1) h sz s xs := by
  rcases a with a | ⟨o, g, wg, cs, h1, h2, h3, h4, h5⟩
  · exact ⟨0, fun q => absurd a.1 q, .inl a⟩
  · exact ⟨o, fun _ => ⟨h1, h2, (List.getElem?_eq_some_iff.1 h4).1⟩, .inr ⟨o, g, wg, cs, Nat.le_refl _, by omega, h3, h4, h5⟩⟩
theorem Gr.isNil {lo hi : Nat} {h : Heap} {sz : Nat} {xs : List (List AV)} (a : Gr lo hi h sz .nils xs) : xs = [] := by
  rcases a with a | ⟨o, g, wg, cs, _, _, q, _⟩
  · exact a.2
  · cases q
/-- Appending, by the row alone. -/
theorem Gr.appP {o : Nat} {h : Heap} {sz bytes : Nat} {s x : AV} {xs ys : List (List AV)} (a : Gr o (o + 1) h sz s xs) (ho : s ≠ .nils → o < h.length) (b : Sl h sz x ys) (hsz : 0 < sz) (hb : 0 < bytes) (hl : (xs.length + ys.length) * bytes ≤ 140737488355328) :
    ∃ s' h' o', apnd sz bytes s x h = some (s', h') ∧ Gr o' (o' + 1) h' sz s' (xs ++ ys) ∧ (s' ≠ .nils → ((o' = o ∧ s ≠ .nils) ∨ h.length ≤ o') ∧ o' < h'.length) ∧ FrS (fun p => s ≠ .nils ∧ p = o) h h' := by
  by_cases hn : s = .nils
  · subst hn
    have := a.isNil
    subst this
    obtain ⟨s', h', k1, k2, k3⟩ := (Gr.nil h.length h.length h sz).append b hsz hb hl (Nat.le_refl _) (Nat.le_refl _)
    obtain ⟨o', p1, p2⟩ := k2.point
    exact ⟨s', h', o', k1, p2, fun q => ⟨.inr (p1 q).1, (p1 q).2.2⟩, k3.s.mono fun p _ q => by omega⟩
  · have ho' := ho hn
    obtain ⟨s', h', k1, k2, k3, k4⟩ := a.appendS b hsz hb hl (by omega) (by omega)
    have := k3.len
    exact ⟨s', h', o, k1, (k4 hn).1, fun q => ⟨.inl ⟨rfl, hn⟩, by omega⟩, k3.s.mono fun p _ q => ⟨hn, by omega⟩⟩
end Go.Gm
