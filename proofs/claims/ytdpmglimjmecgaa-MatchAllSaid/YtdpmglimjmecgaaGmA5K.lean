/- A part of the proof: GmA5K: an abstract machine, what it does, and what the functions of the program come to on it. -/
import Derived.Test.YtdpmglimjmecgaaGmA5J
set_option linter.unusedVariables false
set_option linter.unusedSimpArgs false
namespace Go.Gm.A5
open Go Go.Gm

/-! ### What is made is right, and small -/
mutual
def cntR : Rw → Nat
  | .mk _ _ l => 1 + cntRs l
def cntRs : List Rw → Nat
  | [] => 0
  | r :: l => cntR r + cntRs l
end
theorem cntR_kids (r : Rw) : cntR r = 1 + cntRs r.kids := by cases r; rw [cntR]; rfl
theorem sz_cnt : ∀ (d : Nat) (rs : List Rw), szF d rs ≤ 14 → (cntRs rs : Int) ≤ szF d rs
  | 0, rs, h => by simp [szF] at h
  | d + 1, rs, h => by
    have : ∀ (rs : List Rw) (n : Int), 0 ≤ n → szAdd d n rs ≤ 14 → n + cntRs rs ≤ szAdd d n rs := by
      intro rs
      induction rs with
      | nil => intro n h0 h; simp [szAdd, cntRs]
      | cons r rs ih =>
        intro n hp h
        have hs : szAdd d n (r :: rs) = szAdd d (if n ≤ 14 then n + 1 + szF d r.kids else n) rs := rfl
        rw [hs] at h ⊢
        by_cases hn : n ≤ 14
        · rw [if_pos hn] at h ⊢
          have hr := sz_rng d r.kids
          have h1 := ih _ (by omega) h
          have h2 : n + 1 + szF d r.kids ≤ 14 := by
            by_cases q : n + 1 + szF d r.kids ≤ 14
            · exact q
            · rw [szAdd_gt d rs q] at h; omega
          have h0 := sz_cnt d r.kids (by omega)
          rw [cntRs, cntR_kids]
          omega
        · rw [if_neg hn, szAdd_gt d rs hn] at h
          omega
    have := this rs 0 (by omega) h
    simp only [szAdd] at this
    simp only [szF]; omega

theorem cntL_le {l : List Nd} {b : Nat} : ∀ {m : Nat}, l.length ≤ m → (∀ c ∈ l, cntN c ≤ b) → cntL l ≤ m * b := by
  induction l with
  | nil => intro m _ _; simp [cntL]
  | cons a l ih =>
    intro m hm h
    obtain ⟨m, rfl⟩ : ∃ m', m = m' + 1 := ⟨m - 1, by simp at hm; omega⟩
    have h1 := ih (m := m) (by simp at hm; omega) fun c hc => h c (by simp [hc])
    have h2 := h a (by simp)
    rw [cntL, Nat.add_mul]; omega
theorem cntL_map (l : List Rw) (h : ∀ r ∈ l, cntN (mkN r) ≤ 3 * cntR r) : cntL (mkNs l) ≤ 3 * cntRs l := by
  induction l with
  | nil => simp [mkNs, cntL]
  | cons r l ih =>
    have h1 := ih fun c hc => h c (by simp [hc])
    have h2 := h r (by simp)
    rw [mkNs, cntL, cntRs]; omega
theorem ptN_mem {n : Int} {ls : List Nd} {i : Nat} : ptN n ls i ∈ ls ∨ ptN n ls i = sgn (wr (n + i)) := by
  simp only [ptN, List.getD_eq_getElem?_getD]
  cases h : ls[i]? with
  | none => exact .inr rfl
  | some c => exact .inl (List.mem_of_getElem? h)
theorem cnt_getD (n : Int) (ls : List Nd) (i : Nat) : cntN (ptN n ls i) ≤ 1 + cntL ls := by
  simp only [ptN, List.getD_eq_getElem?_getD]
  cases h : ls[i]? with
  | none => simp [sgn, cntN]
  | some c =>
    have := cntL_take h
    have h2 : cntL (ls.take (i + 1)) ≤ cntL ls := by
      have : ∀ (l : List Nd) (m : Nat), cntL (l.take m) ≤ cntL l := by
        intro l
        induction l with
        | nil => intro m; simp
        | cons a l ih =>
          intro m
          cases m with
          | zero => simp [cntL]
          | succ m => simp only [List.take_succ_cons, cntL]; have := ih m; omega
      exact this _ _
    simp only [Option.getD_some]; omega
theorem ptsN_len (n : Int) (ls : List Nd) : (ptsN n ls).length = max 2 (min ls.length 4) := by simp [ptsN]
theorem ptsN_eq (n : Int) (ls : List Nd) : cntL (ptsN n ls) ≤ 2 + cntL ls := by
  have h : ∀ (m : Nat), cntL ((List.range m).map (ptN n ls)) ≤ (m - ls.length) + cntL (ls.take m) := by
    intro m
    induction m with
    | zero => simp [cntL]
    | succ m ih =>
      have ha : ∀ (a : List Nd) (c : Nd), cntL (a ++ [c]) = cntL a + cntN c := by
        intro a c
        induction a with
        | nil => simp [cntL]
        | cons x a ih => simp only [List.cons_append, cntL, ih]; omega
      rw [List.range_succ, List.map_append, List.map_singleton, ha]
      by_cases hm : m < ls.length
      · have h1 : ls[m]? = some ls[m] := List.getElem?_eq_getElem hm
        rw [cntL_take h1]
        have h2 : ptN n ls m = ls[m] := by simp [ptN, List.getD_eq_getElem?_getD, h1]
        rw [h2]; omega
      · have h2 : ptN n ls m = sgn (wr (n + m)) := by simp [ptN, List.getD_eq_getElem?_getD, List.getElem?_eq_none (by omega : ls.length ≤ m)]
        rw [h2, List.take_of_length_le (by omega)]
        rw [List.take_of_length_le (by omega)] at ih
        simp only [sgn, cntN]; omega
  have h1 := h (max 2 (min ls.length 4))
  have h2 : ∀ (l : List Nd) (m : Nat), cntL (l.take m) ≤ cntL l := by
    intro l
    induction l with
    | nil => intro m; simp
    | cons a l ih =>
      intro m
      cases m with
      | zero => simp [cntL]
      | succ m => simp only [List.take_succ_cons, cntL]; have := ih m; omega
  have h3 := h2 ls (max 2 (min ls.length 4))
  simp only [ptsN] ; omega
theorem cnt_of (k n : Int) (ls : List Nd) : cntN (mkOf k n ls) ≤ 3 + cntL ls := by
  have h1 := ptsN_eq n ls
  have h2 := cnt_getD n ls 0
  unfold mkOf
  split <;> (try split) <;> simp only [sgn, cntN] <;> omega
theorem cnt_mk (r : Rw) : cntN (mkN r) ≤ 3 * cntR r := by
  refine Rw.ind (p := fun r => cntN (mkN r) ≤ 3 * cntR r) ?_ r
  rintro ⟨k, n, l⟩ ih
  have h1 := cntL_map l ih
  have h2 := cnt_of k n (mkNs l)
  rw [mkN, cntR]; omega
/-- Bounds that a text's expression keeps. -/
def Fine (n : Nd) : Prop := Ok n ∧ Wf n
theorem fine_leaf {n : Nd} (h : n.kids = []) (h1 : n.st < 2 ^ 62) (h2 : n.lo ≤ n.hi) (h3 : n.hi ≤ 100) : Fine n :=
  ⟨.mk h1 (by omega) h3 (by simp [h]) (by simp [h]), .mk h2 (by simp [h])⟩
theorem fine_mk {n : Nd} (h1 : n.st < 2 ^ 62) (h2 : n.lo ≤ n.hi) (h3 : n.hi ≤ 100) (h4 : n.kids.length ≤ 1000) (h5 : ∀ c ∈ n.kids, Fine c) : Fine n :=
  ⟨.mk h1 (by omega) h3 h4 fun c hc => (h5 c hc).1, .mk h2 fun c hc => (h5 c hc).2⟩
theorem fine_sgn (n : Int) : Fine (sgn n) := by
  have a1 : 0 ≤ n % 5 ∧ n % 5 < 5 := ⟨Int.emod_nonneg _ (by omega), Int.emod_lt_of_pos _ (by omega)⟩
  refine fine_leaf rfl ?_ (Nat.le_refl _) (Nat.zero_le _)
  have : 2 ^ (n % 5).toNat < 2 ^ 62 := Nat.pow_lt_pow_right (by omega) (by omega)
  exact this
theorem fine_pt {n : Int} {ls : List Nd} (h : ∀ c ∈ ls, Fine c) (i : Nat) : Fine (ptN n ls i) := by
  rcases ptN_mem (n := n) (ls := ls) (i := i) with q | q
  · exact h _ q
  · rw [q]; exact fine_sgn _
theorem fine_of (k n : Int) (ls : List Nd) (h : ∀ c ∈ ls, Fine c) : Fine (mkOf k n ls) := by
  have hp := ptsN_len n ls
  have h1 : ∀ c ∈ [ptN n ls 0], Fine c := fun c hc => by rw [List.mem_singleton.1 hc]; exact fine_pt h 0
  have h2 : ∀ c ∈ ptsN n ls, Fine c := fun c hc => by
    simp only [ptsN, List.mem_map] at hc
    obtain ⟨i, _, rfl⟩ := hc
    exact fine_pt h i
  have a1 : 0 ≤ n % 4 ∧ n % 4 < 4 := ⟨Int.emod_nonneg _ (by omega), Int.emod_lt_of_pos _ (by omega)⟩
  have a2 : 0 ≤ wr (n.tdiv 4) % 3 ∧ wr (n.tdiv 4) % 3 < 3 := ⟨Int.emod_nonneg _ (by omega), Int.emod_lt_of_pos _ (by omega)⟩
  have a3 : 0 ≤ n % 31 ∧ n % 31 < 31 := ⟨Int.emod_nonneg _ (by omega), Int.emod_lt_of_pos _ (by omega)⟩
  unfold mkOf
  split
  · exact fine_leaf rfl (by simp only [Nd.st]; omega) (Nat.le_refl _) (Nat.zero_le _)
  · exact fine_leaf rfl (by simp only [Nd.st]; omega) (Nat.le_refl _) (Nat.zero_le _)
  · exact fine_sgn n
  · exact fine_sgn n
  · split <;> exact fine_leaf rfl (by simp [Nd.st]) (Nat.le_refl _) (Nat.zero_le _)
  · exact fine_mk (by simp [Nd.st]) (Nat.le_refl _) (Nat.zero_le _) (by simp only [Nd.kids]; omega) h2
  · exact fine_mk (by simp [Nd.st]) (Nat.le_refl _) (Nat.zero_le _) (by simp only [Nd.kids]; omega) h2
  · exact fine_mk (by simp [Nd.st]) (Nat.le_refl _) (Nat.zero_le _) (by simp only [Nd.kids]; omega) h2
  · exact fine_mk (by simp [Nd.st]) (Nat.le_refl _) (Nat.zero_le _) (by simp only [Nd.kids]; omega) h2
  · exact fine_mk (by simp [Nd.st]) (Nat.le_refl _) (Nat.zero_le _) (by simp only [Nd.kids]; omega) h2
  · exact fine_mk (by simp [Nd.st]) (Nat.le_refl _) (Nat.zero_le _) (by simp [Nd.kids]) h1
  · exact fine_mk (by simp [Nd.st]) (Nat.le_refl _) (Nat.zero_le _) (by simp [Nd.kids]) h1
  · exact fine_mk (by simp [Nd.st]) (Nat.le_refl _) (Nat.zero_le _) (by simp [Nd.kids]) h1
  · exact fine_mk (by simp [Nd.st]) (by simp only [Nd.lo, Nd.hi]; omega) (by simp only [Nd.hi]; omega) (by simp [Nd.kids]) h1
theorem fine_make (r : Rw) : Fine (mkN r) := by
  refine Rw.ind (p := fun r => Fine (mkN r)) ?_ r
  rintro ⟨k, n, l⟩ ih
  rw [mkN]
  refine fine_of k n _ fun c hc => ?_
  rw [mkNs_map, List.mem_map] at hc
  obtain ⟨r, hr, rfl⟩ := hc
  exact ih r hr
/-- The first's expression; of none a sign. -/
def oneN : List Rw → Nd
  | [] => .set 1
  | r :: _ => mkN r
theorem fine_one (l : List Rw) : Fine (oneN l) := by
  cases l with
  | nil => exact fine_leaf rfl (by simp [oneN, Nd.st]) (Nat.le_refl _) (Nat.zero_le _)
  | cons r l => exact fine_make r
theorem cnt_one (l : List Rw) (h : szF 7 l ≤ 14) : cntN (oneN l) ≤ 42 := by
  have h1 := sz_cnt 7 l h
  cases l with
  | nil => simp [oneN, cntN]
  | cons r l => have := cnt_mk r; rw [cntRs] at h1; simp only [oneN]; omega
theorem few_spec {l : List Rw} {s : AV} {css : List (List AV)} {h : Heap} (hs : Sl h 3 s css) (hr : RVs h l css) :
    Tot tab f_milestonelaw4_Few [s] h fun r h' => r = .bool (decide (szF 7 l ≤ 14)) ∧ h = h' := by
  refine WP.tot (fun k => (call_milestonelaw4_Few k _ h).trans (milestonelaw4_Few_eq tab k _ h)) ?_
  have := size_spec 7 (by omega) l s css h hs hr
  rw [show (7 : Int) - ((7 : Nat) : Int) = 0 by omega] at this
  refine WP.call this ?_
  rintro _ _ ⟨rfl, rfl⟩
  simp -implicitDefEqProofs (disch := first | assumption | omega | (simp -implicitDefEqProofs only [gL] <;> omega) | ((repeat (first | exact Ext.refl _ | assumption | apply Ext.app | apply Ext.mk | (refine Ext.setr ?_ (by (first | omega | (simp -implicitDefEqProofs only [gL] <;> omega))) _))); done) | (simp -implicitDefEqProofs only [gL, gA, bin_leq] <;> omega) | fail) only [gB, setAll, partL, fldV, reduceIte, Nat.reduceAdd, Nat.reduceMul, bin_leq]
  exact WP.ret ⟨rfl, rfl⟩
theorem one_spec4 {l : List Rw} {s : AV} {css : List (List AV)} {h : Heap} (hs : Sl h 3 s css) (hr : RVs h l css) :
    Tot tab f_milestonelaw4_One [s] h (NewN h (oneN l)) := by
  refine WP.tot (fun k => (call_milestonelaw4_One k _ h).trans (milestonelaw4_One_eq tab k _ h)) ?_
  obtain ⟨h1, hh1⟩ : ∃ h1, h1 = h ++ [AObj.cells ⟨[I 0, I 0, I 0, I 0, .nils], 0, 0, false⟩] := ⟨_, rfl⟩
  have e1 : Ext h h1 := by rw [hh1]; ((repeat (first | exact Ext.refl _ | assumption | apply Ext.app | apply Ext.mk | (refine Ext.setr ?_ (by (first | omega | (simp -implicitDefEqProofs only [gL] <;> omega))) _))))
  have hl1 : h1.length = h.length + 1 := by rw [hh1]; simp
  have hx1 : h1[h.length]? = some (.cells ⟨[I 0, I 0, I 0, I 0, .nils], 0, 0, false⟩) := by rw [hh1]; simp
  have sl' : Sl h1 3 s (css.map fun x => x) := by rw [List.map_id']; exact hs.ext e1
  have hlen := hr.len
  simp -implicitDefEqProofs (disch := first | assumption | omega | (simp -implicitDefEqProofs only [gL] <;> omega) | ((repeat (first | exact Ext.refl _ | assumption | apply Ext.app | apply Ext.mk | (refine Ext.setr ?_ (by (first | omega | (simp -implicitDefEqProofs only [gL] <;> omega))) _))); done) | (simp -implicitDefEqProofs only [gL, gA] <;> omega) | fail) only [gB, setAll, partL, fldV, reduceIte, Nat.reduceAdd, Nat.reduceMul]
  rw [← hh1]
  have fin : ∀ {n' : Nd} {c5 : List AV} {H : Heap} (e : Ext h1 H) (nv : NVD H (fun o => h1.length ≤ o ∧ o < H.length) n' c5), NewN h n' (.agg c5) (H.set h.length (.cells ⟨c5, 0, 0, false⟩)) := by
    intro n' c5 H e nv
    have := e.len
    refine ⟨(e1.trans e).set (by omega) _, c5, rfl, nv.frs (FrS.set1 H h.length _) (fun o h1 h2 h3 => by omega) fun o h1 h2 => ⟨by omega, by simp; exact h2.2⟩⟩
  cases l with
  | nil =>
    have h0 : css.length = 0 := by simpa using hlen.symm
    simp -implicitDefEqProofs (disch := first | assumption | omega | (simp -implicitDefEqProofs only [gL] <;> omega) | ((repeat (first | exact Ext.refl _ | assumption | apply Ext.app | apply Ext.mk | (refine Ext.setr ?_ (by (first | omega | (simp -implicitDefEqProofs only [gL] <;> omega))) _))); done) | (simp -implicitDefEqProofs only [gL, gA, sl'.lenG, hx1] <;> omega) | fail) only [gB, setAll, partL, fldV, reduceIte, Nat.reduceAdd, Nat.reduceMul, sl'.lenG, hx1]
    exact WP.ret (fin (Ext.refl _) (nvd_leaf (n := .set 1) rfl))
  | cons r l =>
    obtain ⟨cs, hcs, rv⟩ := hr.get (i := 0) (r := r) rfl
    have hg : gi css (0 : Int) = cs := gi_map hcs
    have h0 : 0 < css.length := by rw [← hlen]; simp
    have e0 := Ext.refl h1
    simp -implicitDefEqProofs (disch := first | assumption | omega | (simp -implicitDefEqProofs only [gL] <;> omega) | ((repeat (first | exact Ext.refl _ | assumption | apply Ext.app | apply Ext.mk | (refine Ext.setr ?_ (by (first | omega | (simp -implicitDefEqProofs only [gL] <;> omega))) _))); done) | (simp -implicitDefEqProofs only [gL, gA, sl'.lenG, sl'.idxG, sl'.ldN, hg] <;> omega) | fail) only [gB, setAll, partL, fldV, reduceIte, Nat.reduceAdd, Nat.reduceMul, sl'.lenG, sl'.idxG, sl'.ldN, hg]
    refine WP.call (make_spec r cs h1 (rv.ext e1)) ?_
    rintro _ H ⟨e2, c5, rfl, nv⟩
    have hx2 := e2.get hx1
    obtain ⟨s5, rfl, ho5⟩ := nv.inv
    have hHl := e2.len
    simp -implicitDefEqProofs (disch := first | assumption | omega | (simp -implicitDefEqProofs only [gL] <;> omega) | ((repeat (first | exact Ext.refl _ | assumption | apply Ext.app | apply Ext.mk | (refine Ext.setr ?_ (by (first | omega | (simp -implicitDefEqProofs only [gL] <;> omega))) _))); done) | (simp -implicitDefEqProofs only [gL, gA, hx2, ho5] <;> omega) | fail) only [gB, setAll, partL, fldV, reduceIte, Nat.reduceAdd, Nat.reduceMul, hx2, ho5]
    exact WP.ret (fin e2 nv)
end Go.Gm.A5
