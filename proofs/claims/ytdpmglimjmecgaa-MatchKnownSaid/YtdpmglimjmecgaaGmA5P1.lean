/- A part of the proof (GmA5Q, GmA5R, GmA5S, GmA5U, GmA5V, GmA5W, GmA5X): an abstract machine, what it does, and what the functions of the program come to on it. -/
import Derived.Test.YtdpmglimjmecgaaGmP4
import Derived.Test.YtdpmglimjmecgaaGmP5
import Derived.Test.YtdpmglimjmecgaaGmA5T
set_option linter.unusedVariables false
set_option linter.unusedSimpArgs false
namespace Go.Gm.A5
open Go Go.Gm

def encI (n : Int) : List AV := [I n]
def encB (b : Bool) : List AV := [.bool b]
def enc1 (s : AV) : List AV := [s]

theorem none_spec {h : Heap} {m sp sw mp : AV} {w : List Int} (hm : At h m [sp, sw, mp]) (hw : Sl h 1 sw (w.map encI)) (hl : w.length ≤ 1000000) :
    Tot tab f_match_matcher_none [m] h fun r h' => Ext h h' ∧ r ≠ .nils ∧ Gr h.length h'.length h' 1 r ((List.replicate (w.length + 1) false).map encB) := by
  refine WP.tot (fun k => (call_match_matcher_none k _ h).trans (match_matcher_none_eq tab k _ h)) ?_
  obtain ⟨s, h', h1, h2, h3, h4, h5⟩ := mkSl_gr (zero := [.bool false]) (sz := 1) (bytes := 1) (n := w.length + 1) h (by omega) (by omega) (by omega) rfl rfl
  simp -implicitDefEqProofs (disch := first | assumption | omega | (simp only [gL] <;> omega) | ((repeat (first | exact Ext.refl _ | assumption | apply Ext.app | apply Ext.mk | (refine Ext.setr ?_ (by (first | omega | (simp only [gL] <;> omega))) _))); done) | (simp only [gL, gA, hm.nil, hm.fldA0, hm.ldfE, hw.lenG, h1] <;> omega) | fail) only [gB, setAll, partL, fldV, reduceIte, Nat.reduceAdd, Nat.reduceMul, hm.nil, hm.fldA0, hm.ldfE, hw.lenG, h1]
  refine WP.ret ⟨h3, h4, ?_⟩
  have := h2.mono (Nat.le_refl _) (show h.length + 1 ≤ h'.length by omega)
  refine this.cong ?_
  rw [show (((w.length : Int) + 1).toNat) = w.length + 1 by omega, List.map_replicate]
  rfl

/-- Whether anything came new. -/
def Flg (a cur : List Bool) (fl : Bool) : Prop := (fl = true → cntT a < cntT cur) ∧ (fl = false → cur = a)
theorem Flg.le {a cur : List Bool} {fl : Bool} (f : Flg a cur fl) : cntT a ≤ cntT cur := by
  cases fl with
  | true => exact Nat.le_of_lt (f.1 rfl)
  | false => rw [f.2 rfl]; exact Nat.le_refl _

section
variable {lo hi L : Nat} {to more : AV} {m : Nat} {Q : AV → Heap → Prop} {h0 : Heap} {a0 : List Bool}
theorem tog2 (hL : L ≤ 1000000) {s : AV} {a b : List Bool} (hb : b.length = L) {x : Int} (hx : 0 ≤ x ∧ x ≤ 1000000) (hs : Sl h0 1 s (b.map encB)) (hso : s ≠ .nils → s.obj < lo ∨ hi ≤ s.obj)
    (hc : ∀ (cur : List Bool) (fl : Bool) (h : Heap), cur.length = L → (∀ j : Nat, cur.getD j false = true ↔ a.getD j false = true ∨ b.getD j false = true) → Flg a0 cur fl → Gr lo hi h 1 to (cur.map encB) → Fr lo hi h0 h →
      WP (fun p : Nat × Nat => match_together_l1 tab p.1 p.2 to (.bool fl) more (I m) (I (x + 1)) h) Q) :
    ∀ (d i : Nat) (cur : List Bool) (fl : Bool) (h : Heap), i + d = L → cur.length = L → (∀ j : Nat, cur.getD j false = true ↔ a.getD j false = true ∨ (j < i ∧ b.getD j false = true)) → Flg a0 cur fl → Gr lo hi h 1 to (cur.map encB) → Fr lo hi h0 h →
      WP (fun p : (Nat × Nat) × Nat => match_together_l2 tab p.1.1 p.1.2 p.2 to (.bool fl) more (I m) (I x) s (I L) (I i) h) Q := by
  intro d
  induction d with
  | zero =>
    intro i cur fl h h1 h2 h3 h4 h5 h6
    refine WP.rnd (fun i' j => match_together_l2_eq tab i'.1 i'.2 j to (.bool fl) more (I m) (I x) s (I L) (I i) h) ?_
    simp -implicitDefEqProofs (disch := first | assumption | omega | (simp only [gL] <;> omega) | ((repeat (first | exact Ext.refl _ | assumption | apply Ext.app | apply Ext.mk | (refine Ext.setr ?_ (by (first | omega | (simp only [gL] <;> omega))) _))); done) | (simp only [gL, gA] <;> omega) | fail) only [gB, setAll, partL, fldV, reduceIte, Nat.reduceAdd, Nat.reduceMul]
    refine WP.lv (hc cur fl h h2 (fun j => (h3 j).trans ⟨fun q => q.imp id fun q => q.2, fun q => ?_⟩) h4 h5 h6) fun i j => rfl
    rcases q with q | q
    · exact .inl q
    · refine .inr ⟨?_, q⟩
      by_cases hj : j < b.length
      · omega
      · rw [List.getD_eq_getElem?_getD, List.getElem?_eq_none (by omega)] at q; cases q
  | succ d ih =>
    intro i cur fl h h1 h2 h3 h4 h5 h6
    refine WP.rnd (fun i' j => match_together_l2_eq tab i'.1 i'.2 j to (.bool fl) more (I m) (I x) s (I L) (I i) h) ?_
    have hs' := hs.fr h6 hso
    have ht := h5.sl
    have e0 := Ext.refl h
    obtain ⟨v, hv⟩ : ∃ v, gi b i = v := ⟨_, rfl⟩
    have hvb : b.getD i false = v := hv
    have hcv : ∀ u, cur.getD i false = u → gi cur i = u := fun u q => q
    have next : ∀ cur' : List Bool, (∀ j : Nat, cur'.getD j false = true ↔ (if j = i then (cur.getD i false = true ∨ v = true) else cur.getD j false = true)) → ∀ j : Nat, cur'.getD j false = true ↔ a.getD j false = true ∨ (j < i + 1 ∧ b.getD j false = true) := by
      intro cur' hcur j
      rw [hcur j]
      by_cases hj : j = i
      · subst hj
        rw [if_pos rfl, h3 j, hvb]
        constructor
        · rintro ((q | q) | q)
          · exact .inl q
          · omega
          · exact .inr ⟨by omega, q⟩
        · rintro (q | q)
          · exact .inl (.inl q)
          · exact .inr q.2
      · rw [if_neg hj, h3 j]
        constructor
        · rintro (q | q)
          · exact .inl q
          · exact .inr ⟨by omega, q.2⟩
        · rintro (q | q)
          · exact .inl q
          · exact .inr ⟨by omega, q.2⟩
    cases v with
    | false =>
      simp -implicitDefEqProofs (disch := first | assumption | omega | (simp only [gL] <;> omega) | ((repeat (first | exact Ext.refl _ | assumption | apply Ext.app | apply Ext.mk | (refine Ext.setr ?_ (by (first | omega | (simp only [gL] <;> omega))) _))); done) | (simp only [gL, gA, hs'.idxG, hs'.ld0, encB, hv] <;> omega) | fail) only [gB, setAll, partL, fldV, reduceIte, Nat.reduceAdd, Nat.reduceMul, hs'.idxG, hs'.ld0, encB, hv]
      refine ih (i + 1) cur fl h (by omega) h2 (next cur fun j => ?_) h4 h5 h6
      by_cases hj : j = i
      · subst hj; simp
      · rw [if_neg hj]
    | true =>
      cases hcu : cur.getD i false with
      | true =>
        simp -implicitDefEqProofs (disch := first | assumption | omega | (simp only [gL] <;> omega) | ((repeat (first | exact Ext.refl _ | assumption | apply Ext.app | apply Ext.mk | (refine Ext.setr ?_ (by (first | omega | (simp only [gL] <;> omega))) _))); done) | (simp only [gL, gA, hs'.idxG, hs'.ld0, encB, hv, ht.idxG, ht.ld0, hcv _ hcu] <;> omega) | fail) only [gB, setAll, partL, fldV, reduceIte, Nat.reduceAdd, Nat.reduceMul, hs'.idxG, hs'.ld0, encB, hv, ht.idxG, ht.ld0, hcv _ hcu]
        refine ih (i + 1) cur fl h (by omega) h2 (next cur fun j => ?_) h4 h5 h6
        by_cases hj : j = i
        · subst hj; rw [if_pos rfl]; simp only [hcu, true_or]
        · rw [if_neg hj]
      | false =>
        obtain ⟨h', k1, k2, k3, k4⟩ := h5.write0 (i := (i : Int)) (by omega) (by rw [List.length_map]; omega) (v := .bool true) rfl rfl
        have hil : i < cur.length := by omega
        simp -implicitDefEqProofs (disch := first | assumption | omega | (simp only [gL] <;> omega) | ((repeat (first | exact Ext.refl _ | assumption | apply Ext.app | apply Ext.mk | (refine Ext.setr ?_ (by (first | omega | (simp only [gL] <;> omega))) _))); done) | (simp only [gL, gA, hs'.idxG, hs'.ld0, encB, hv, ht.idxG, ht.ld0, hcv _ hcu, k1] <;> omega) | fail) only [gB, setAll, partL, fldV, reduceIte, Nat.reduceAdd, Nat.reduceMul, hs'.idxG, hs'.ld0, encB, hv, ht.idxG, ht.ld0, hcv _ hcu, k1]
        refine ih (i + 1) (cur.set i true) true h' (by omega) (by simpa using h2) (next _ fun j => ?_) ⟨fun _ => ?_, fun q => by cases q⟩ (k2.cong ?_) (h6.trans k3)
        · rw [List.getD_eq_getElem?_getD]
          by_cases hj : j = i
          · subst hj; rw [List.getElem?_set_self hil]; simp
          · rw [List.getElem?_set_ne (Ne.symm hj), if_neg hj, List.getD_eq_getElem?_getD]
        · have := cntT_set (bs := cur) (i := i) (by rw [List.getD_eq_getElem?_getD, List.getElem?_eq_getElem hil] at hcu; rw [List.getElem?_eq_getElem hil]; simpa using hcu)
          have := h4.le
          omega
        · rw [List.map_set]; rfl
theorem tog1 (hL : L ≤ 1000000) {ss : List (AV × List Bool)} (hss : ss.length ≤ 1000000) (hm : Sl h0 1 more (ss.map fun p => enc1 p.1)) (hmo : more ≠ .nils → more.obj < lo ∨ hi ≤ more.obj)
    (hb : ∀ p ∈ ss, p.2.length = L ∧ Sl h0 1 p.1 (p.2.map encB) ∧ (p.1 ≠ .nils → p.1.obj < lo ∨ hi ≤ p.1.obj)) (ha0 : a0.length = L) :
    ∀ (d x : Nat) (cur : List Bool) (fl : Bool) (h : Heap), x + d = ss.length → cur.length = L → (∀ j : Nat, cur.getD j false = true ↔ a0.getD j false = true ∨ ∃ p ∈ ss.take x, p.2.getD j false = true) → Flg a0 cur fl → Gr lo hi h 1 to (cur.map encB) → Fr lo hi h0 h →
      WP (fun p : Nat × Nat => match_together_l1 tab p.1 p.2 to (.bool fl) more (I ss.length) (I x) h) fun r h' => ∃ cur fl, r = .bool fl ∧ cur.length = L ∧ (∀ j : Nat, cur.getD j false = true ↔ a0.getD j false = true ∨ ∃ p ∈ ss, p.2.getD j false = true) ∧ Flg a0 cur fl ∧ Gr lo hi h' 1 to (cur.map encB) ∧ Fr lo hi h0 h' := by
  intro d
  induction d with
  | zero =>
    intro x cur fl h h1 h2 h3 h4 h5 h6
    refine WP.rnd (fun i' j => match_together_l1_eq tab i' j to (.bool fl) more (I ss.length) (I x) h) ?_
    simp -implicitDefEqProofs (disch := first | assumption | omega | (simp only [gL] <;> omega) | ((repeat (first | exact Ext.refl _ | assumption | apply Ext.app | apply Ext.mk | (refine Ext.setr ?_ (by (first | omega | (simp only [gL] <;> omega))) _))); done) | (simp only [gL, gA] <;> omega) | fail) only [gB, setAll, partL, fldV, reduceIte, Nat.reduceAdd, Nat.reduceMul]
    refine WP.lv (WP.ret ⟨cur, fl, rfl, h2, fun j => ?_, h4, h5, h6⟩) fun i j => rfl
    rw [h3 j, List.take_of_length_le (by omega)]
  | succ d ih =>
    intro x cur fl h h1 h2 h3 h4 h5 h6
    refine WP.rnd (fun i' j => match_together_l1_eq tab i' j to (.bool fl) more (I ss.length) (I x) h) ?_
    have hm' := hm.fr h6 hmo
    have e0 := Ext.refl h
    obtain ⟨p, hp⟩ : ∃ p, gi ss x = p := ⟨_, rfl⟩
    have hp2 : ss[x]? = some p := by
      have := gi_some (xs := ss) (i := (x : Int)) (by omega) (by omega)
      rw [hp] at this; exact this
    obtain ⟨b1, b2, b3⟩ := hb p (List.mem_of_getElem? hp2)
    have b2' := b2.fr h6 b3
    simp -implicitDefEqProofs (disch := first | assumption | omega | (simp only [gL] <;> omega) | ((repeat (first | exact Ext.refl _ | assumption | apply Ext.app | apply Ext.mk | (refine Ext.setr ?_ (by (first | omega | (simp only [gL] <;> omega))) _))); done) | (simp only [gL, gA, hm'.idxG, hm'.ld0, enc1, hp, b2'.lenG, b1] <;> omega) | fail) only [gB, setAll, partL, fldV, reduceIte, Nat.reduceAdd, Nat.reduceMul, hm'.idxG, hm'.ld0, enc1, hp, b2'.lenG, b1]
    refine WP.ent (tog2 (a := cur) hL b1 (x := (x : Int)) (by omega) b2 b3 (fun cur' fl' h' q1 q2 q3 q4 q5 => ?_) L 0 cur fl h (by omega) h2 (fun j => ?_) h4 h5 h6) fun i => rfl
    · refine ih (x + 1) cur' fl' h' (by omega) q1 (fun j => ?_) q3 q4 q5
      rw [q2 j, h3 j, List.take_add_one, hp2]
      constructor
      · rintro ((q | ⟨p', hp', q⟩) | q)
        · exact .inl q
        · exact .inr ⟨p', List.mem_append_left _ hp', q⟩
        · exact .inr ⟨p, List.mem_append_right _ (by simp), q⟩
      · rintro (q | ⟨p', hp', q⟩)
        · exact .inl (.inl q)
        · rcases List.mem_append.1 hp' with hp' | hp'
          · exact .inl (.inr ⟨p', hp', q⟩)
          · simp at hp'; subst hp'; exact .inr q
    · constructor
      · exact .inl
      · rintro (q | q)
        · exact q
        · omega
/-- Places laid to others. -/
theorem together_spec {h : Heap} {ss : List (AV × List Bool)} (hL : L ≤ 1000000) (hss : ss.length ≤ 1000000) (ha0 : a0.length = L) (ht : Gr lo hi h 1 to (a0.map encB)) (hm : Sl h 1 more (ss.map fun p => enc1 p.1)) (hmo : more ≠ .nils → more.obj < lo ∨ hi ≤ more.obj)
    (hb : ∀ p ∈ ss, p.2.length = L ∧ Sl h 1 p.1 (p.2.map encB) ∧ (p.1 ≠ .nils → p.1.obj < lo ∨ hi ≤ p.1.obj)) :
    Tot tab f_match_together [to, more] h fun r h' => ∃ cur fl, r = .bool fl ∧ cur.length = L ∧ (∀ j : Nat, cur.getD j false = true ↔ a0.getD j false = true ∨ ∃ p ∈ ss, p.2.getD j false = true) ∧ Flg a0 cur fl ∧ Gr lo hi h' 1 to (cur.map encB) ∧ Fr lo hi h h' := by
  refine WP.tot (fun k => (call_match_together k _ _ h).trans (match_together_eq tab k _ _ h)) ?_
  simp -implicitDefEqProofs (disch := first | assumption | omega | (simp only [gL] <;> omega) | ((repeat (first | exact Ext.refl _ | assumption | apply Ext.app | apply Ext.mk | (refine Ext.setr ?_ (by (first | omega | (simp only [gL] <;> omega))) _))); done) | (simp only [gL, gA, hm.lenG] <;> omega) | fail) only [gB, setAll, partL, fldV, reduceIte, Nat.reduceAdd, Nat.reduceMul, hm.lenG]
  refine WP.ent (tog1 hL hss hm hmo hb ha0 ss.length 0 a0 false h (by omega) ha0 (fun j => by simp) ⟨fun q => (by cases q), fun _ => rfl⟩ ht (Fr.refl _ _ _)) fun i => rfl
end
theorem cloneB_spec {h : Heap} {s : AV} {xs : List (List AV)} (hs : Sl h 1 s xs) (hl : xs.length ≤ 10000000) (hn : xs ≠ []) :
    Tot tab f_slices_Clone_bool [s] h fun r h' => Ext h h' ∧ Gr h.length h'.length h' 1 r xs ∧ r ≠ .nils := by
  refine WP.tot (fun k => (call_slices_Clone_bool k _ h).trans (slices_Clone_bool_eq tab k _ h)) ?_
  have hs' := hs
  rcases hs with ⟨rfl, rfl⟩ | ⟨o, off, lim, g, c, rfl, _⟩
  · exact absurd rfl hn
  · obtain ⟨s', h', h1, h2, h3⟩ := clone_i (bytes := 1) hs' (by omega) (by omega) (by omega)
    rw [mkObj_eq] at h1
    simp -implicitDefEqProofs (disch := first | assumption | omega | (simp only [gL] <;> omega) | ((repeat (first | exact Ext.refl _ | assumption | apply Ext.app | apply Ext.mk | (refine Ext.setr ?_ (by (first | omega | (simp only [gL] <;> omega))) _))); done) | (simp only [gL, gA, h1] <;> omega) | fail) only [gB, setAll, partL, fldV, reduceIte, Nat.reduceAdd, Nat.reduceMul, h1]
    exact WP.ret ⟨h3, h2, h2.sl.nnil hn⟩

/-! ### Expressions in the heap -/
mutual
inductive NV (h : Heap) : Nd → List AV → Prop
  | mk {n : Nd} {s : AV} {css : List (List AV)} : Sl h 5 s css → NVs h n.kids css → NV h n [I n.kind, I n.st, I n.lo, I n.hi, s]
inductive NVs (h : Heap) : List Nd → List (List AV) → Prop
  | nil : NVs h [] []
  | cons {n : Nd} {cs : List AV} {l : List Nd} {css : List (List AV)} : NV h n cs → NVs h l css → NVs h (n :: l) (cs :: css)
end
/-- Views that stay. -/
structure Keeps (h h' : Heap) : Prop where
  cells : ∀ (o : Nat) (c : CObj), h[o]? = some (.cells c) → h'[o]? = some (.cells c)
theorem Keeps.ofExt {h h' : Heap} (e : Ext h h') : Keeps h h' := ⟨fun _ _ q => e.get q⟩
theorem Keeps.ofExM {k : Nat} {h h' : Heap} (e : ExM k h h') : Keeps h h' := ⟨fun _ _ q => e.cells q⟩
theorem Keeps.sl {h h' : Heap} (e : Keeps h h') {sz : Nat} {s : AV} {xs : List (List AV)} (a : Sl h sz s xs) : Sl h' sz s xs := by
  rcases a with a | ⟨o, off, lim, g, c, h1, h2, h3⟩
  · exact .inl a
  · exact .inr ⟨o, off, lim, g, c, h1, e.cells _ _ h2, h3⟩
mutual
theorem NV.keeps {h h' : Heap} (e : Keeps h h') : ∀ {n : Nd} {cs : List AV}, NV h n cs → NV h' n cs
  | _, _, .mk a b => .mk (e.sl a) (NVs.keeps e b)
theorem NVs.keeps {h h' : Heap} (e : Keeps h h') : ∀ {l : List Nd} {css : List (List AV)}, NVs h l css → NVs h' l css
  | _, _, .nil => .nil
  | _, _, .cons a b => .cons (NV.keeps e a) (NVs.keeps e b)
end
theorem NVs.length {h : Heap} : ∀ {l : List Nd} {css : List (List AV)}, NVs h l css → l.length = css.length
  | _, _, .nil => rfl
  | _, _, .cons _ b => by simp [NVs.length b]
theorem NVs.get {h : Heap} : ∀ {l : List Nd} {css : List (List AV)}, NVs h l css → ∀ {i : Nat} {n : Nd}, l[i]? = some n → ∃ cs, css[i]? = some cs ∧ NV h n cs
  | _, _, .nil, i, n, q => by simp at q
  | _, _, .cons a b, 0, n, q => by
    simp only [List.getElem?_cons_zero, Option.some.injEq] at q
    subst q; exact ⟨_, rfl, a⟩
  | _, _, .cons a b, i + 1, n, q => by
    obtain ⟨cs, h1, h2⟩ := NVs.get b (i := i) (by simpa using q)
    exact ⟨cs, by simpa using h1, h2⟩
theorem NVs.snoc {h : Heap} {n : Nd} {cs : List AV} (a : NV h n cs) : ∀ {l : List Nd} {css : List (List AV)}, NVs h l css → NVs h (l ++ [n]) (css ++ [cs])
  | _, _, .nil => .cons a .nil
  | _, _, .cons x y => .cons x (NVs.snoc a y)
theorem NV.len {h : Heap} {n : Nd} {cs : List AV} (a : NV h n cs) : cs.length = 5 := by cases a; rfl
theorem NV.one {h : Heap} {n : Nd} {cs : List AV} (a : NV h n cs) : cs.all AV.one = true := by
  cases a with
  | mk a b => simp only [List.all_cons, List.all_nil, one_int, a.one, Bool.and_self]
theorem NV.inv {h : Heap} {n : Nd} {cs : List AV} (a : NV h n cs) : ∃ s css, cs = [I n.kind, I n.st, I n.lo, I n.hi, s] ∧ Sl h 5 s css ∧ NVs h n.kids css := by
  cases a with
  | mk a b => exact ⟨_, _, rfl, a, b⟩
/-- Bounds of what a text may bear. -/
inductive Ok : Nd → Prop
  | mk {n : Nd} : n.st < 2 ^ 62 → n.lo ≤ 100 → n.hi ≤ 100 → n.kids.length ≤ 1000 → (∀ c ∈ n.kids, Ok c) → Ok n

/-! ### The parts, in a row -/
/-- A part's number; its parts are behind it. -/
inductive Fl (pt : List (Nd × List Int)) : Int → Nd → Prop
  | mk {k : Int} {n : Nd} {ks : List Int} : 0 ≤ k → pt[k.toNat]? = some (n, ks) → ks.length = n.kids.length → (∀ (j : Nat) (c : Nd), n.kids[j]? = some c → Fl pt (gi ks j) c) → Fl pt k n
theorem Fl.fn {pt : List (Nd × List Int)} {k : Int} {n n' : Nd} (a : Fl pt k n) (b : Fl pt k n') : n = n' := by
  cases a with
  | mk _ h1 _ _ =>
    cases b with
    | mk _ h2 _ _ =>
      rw [h1] at h2
      injection h2 with h2
      injection h2
/-- The parts in the heap. -/
def PV (h : Heap) (sp : AV) (pt : List (Nd × List Int)) : Prop :=
  ∃ cs : List (List AV), Sl h 6 sp cs ∧ cs.length = pt.length ∧ ∀ (i : Nat) n ks, pt[i]? = some (n, ks) → ∃ sl sk, cs[i]? = some [I n.kind, I n.st, I n.lo, I n.hi, sl, sk] ∧ Sl h 1 sk (ks.map encI) ∧ sl.one = true
theorem PV.keeps {h h' : Heap} (e : Keeps h h') {sp : AV} {pt : List (Nd × List Int)} (a : PV h sp pt) : PV h' sp pt := by
  obtain ⟨cs, h1, h2, h3⟩ := a
  refine ⟨cs, e.sl h1, h2, fun i n ks q => ?_⟩
  obtain ⟨sl, sk, k1, k2⟩ := h3 i n ks q
  exact ⟨sl, sk, k1, e.sl k2.1, k2.2⟩
abbrev KS2 : KS := .row [.i .i64, .i .i64]
/-- What is known: rows of places that nobody writes to (those of X are still written to). -/
def KV (h : Heap) (kk : Nat) (pt : List (Nd × List Int)) (w : List Int) (X : Nat → Prop) : Prop :=
  ∃ es, h[kk]? = some (.map KS2 es) ∧ ∀ (k i : Int) s, findV (.agg [I k, I i]) es = some s → s ≠ .nils ∧ ¬ X s.obj ∧ ∃ bs, Sl h 1 s (bs.map encB) ∧ ∀ n, Fl pt k n → 0 ≤ i → Is w bs (R w n i.toNat)
theorem KV.isM {h : Heap} {kk : Nat} {pt : List (Nd × List Int)} {w : List Int} {X : Nat → Prop} (a : KV h kk pt w X) : ∃ es, h[kk]? = some (.map KS2 es) := let ⟨es, e, _⟩ := a; ⟨es, e⟩
/-- More heap. -/
theorem KV.ext {h h' : Heap} {kk : Nat} {pt : List (Nd × List Int)} {w : List Int} {X : Nat → Prop} (a : KV h kk pt w X) (e : Ext h h') : KV h' kk pt w X := by
  obtain ⟨es, h1, h2⟩ := a
  refine ⟨es, e.get h1, fun k i s q => ?_⟩
  obtain ⟨g0, g1, bs, g2, g3⟩ := h2 k i s q
  exact ⟨g0, g1, bs, g2.ext e, g3⟩
/-- What lies behind the heap's end is still written to. -/
theorem KV.more {h : Heap} {kk : Nat} {pt : List (Nd × List Int)} {w : List Int} {X Y : Nat → Prop} (a : KV h kk pt w X) (hY : ∀ o, Y o → X o ∨ h.length ≤ o) : KV h kk pt w Y := by
  obtain ⟨es, h1, h2⟩ := a
  refine ⟨es, h1, fun k i s q => ?_⟩
  obtain ⟨g0, g1, bs, g2, g3⟩ := h2 k i s q
  refine ⟨g0, fun y => ?_, bs, g2, g3⟩
  rcases hY _ y with y | y
  · exact g1 y
  · have := g2.objLt g0; omega
/-- Writing to what is still written to. -/
theorem KV.fr {h h' : Heap} {kk : Nat} {pt : List (Nd × List Int)} {w : List Int} {X : Nat → Prop} (a : KV h kk pt w X) {lo hi : Nat} (f : Fr lo hi h h') (hX : ∀ o, lo ≤ o → o < hi → X o) (hk : kk < lo ∨ hi ≤ kk) : KV h' kk pt w X := by
  obtain ⟨es, h1, h2⟩ := a
  refine ⟨es, (f.get hk (List.getElem?_eq_some_iff.1 h1).1).trans h1, fun k i s q => ?_⟩
  obtain ⟨g0, g1, bs, g2, g3⟩ := h2 k i s q
  refine ⟨g0, g1, bs, g2.fr f fun _ => ?_, g3⟩
  by_cases h5 : lo ≤ s.obj ∧ s.obj < hi
  · exact absurd (hX _ h5.1 h5.2) g1
  · omega
/-- One more is known. -/
theorem KV.put {h : Heap} {kk : Nat} {pt : List (Nd × List Int)} {w : List Int} {X : Nat → Prop} (a : KV h kk pt w X) {k i : Int} {s : AV} {bs : List Bool} {n : Nd} (hs : Sl h 1 s (bs.map encB)) (hn : Fl pt k n) (hb : Is w bs (R w n i.toNat)) (hX : ¬ X s.obj) (hs0 : s ≠ .nils) {es : List (AV × AV)} (he : h[kk]? = some (.map KS2 es)) :
    KV (h.set kk (.map KS2 (putE (.agg [I k, I i]) s es))) kk pt w X := by
  obtain ⟨es', h1, h2⟩ := a
  rw [he] at h1
  injection h1 with h1
  injection h1 with _ h1
  subst h1
  have kp := Keeps.ofExM (ExM.put he (putE (.agg [I k, I i]) s es))
  refine ⟨_, List.getElem?_set_self (List.getElem?_eq_some_iff.1 he).1, fun k' i' s' q => ?_⟩
  rw [findV_put] at q
  split at q
  · rename_i hk
    simp only [AV.agg.injEq, List.cons.injEq, AV.int.injEq, true_and, and_true] at hk
    obtain ⟨rfl, rfl⟩ := hk
    injection q with q
    subst q
    refine ⟨hs0, hX, bs, kp.sl hs, fun n' hn' _ => ?_⟩
    rw [← hn.fn hn']; exact hb
  · obtain ⟨g0, g1, bs', g2, g3⟩ := h2 k' i' s' q
    exact ⟨g0, g1, bs', kp.sl g2, g3⟩
end Go.Gm.A5

set_option linter.unusedVariables false
set_option linter.unusedSimpArgs false
namespace Go.Gm.A5
open Go Go.Gm

theorem Gr.keeps {h h' : Heap} (e : Keeps h h') {lo hi sz : Nat} {s : AV} {xs : List (List AV)} (a : Gr lo hi h sz s xs) : Gr lo hi h' sz s xs := by
  rcases a with a | ⟨o, g, wg, cs, h1, h2, h3, h4, h5⟩
  · exact .inl a
  · exact .inr ⟨o, g, wg, cs, h1, h2, h3, e.cells _ _ h4, h5⟩
theorem Keeps.at {h h' : Heap} (e : Keeps h h') {p : AV} {cs : List AV} (a : At h p cs) : At h' p cs := by
  obtain ⟨o, off, hi, g, c, h1, h2, h3, h4⟩ := a
  exact ⟨o, off, hi, g, c, h1, h2, e.cells _ _ h3, h4⟩
/-- The matcher. -/
structure MV (h : Heap) (m sp sw : AV) (kk : Nat) (pt : List (Nd × List Int)) (w : List Int) : Prop where
  at_ : At h m [sp, sw, .map kk]
  pv : PV h sp pt
  wd : Sl h 1 sw (w.map encI)
  lw : w.length ≤ 900000
  lp : pt.length ≤ 900000
theorem MV.keeps {h h' : Heap} (e : Keeps h h') {m sp sw : AV} {kk : Nat} {pt : List (Nd × List Int)} {w : List Int} (a : MV h m sp sw kk pt w) : MV h' m sp sw kk pt w :=
  ⟨e.at a.at_, a.pv.keeps e, e.sl a.wd, a.lw, a.lp⟩
theorem MV.exm {k : Nat} {h h' : Heap} (e : ExM k h h') {m sp sw : AV} {kk : Nat} {pt : List (Nd × List Int)} {w : List Int} (a : MV h m sp sw kk pt w) : MV h' m sp sw kk pt w := a.keeps (.ofExM e)

section
variable {m sp sw : AV} {kk : Nat} {pt : List (Nd × List Int)} {w : List Int}
def EndsS (m sp sw : AV) (kk : Nat) (pt : List (Nd × List Int)) (w : List Int) (n : Nd) : Prop :=
  ∀ (k : Int) (i : Nat) (h : Heap) (X : Nat → Prop), MV h m sp sw kk pt w → KV h kk pt w X → (∀ o, X o → o < h.length) → Fl pt k n → i ≤ w.length →
    Tot tab f_match_matcher_ends [m, I k, I i] h fun r h' => ExM kk h h' ∧ KV h' kk pt w X ∧ r ≠ .nils ∧ ¬ X r.obj ∧ ∃ bs, Sl h' 1 r (bs.map encB) ∧ Is w bs (R w n i)
def StepS (m sp sw : AV) (kk : Nat) (pt : List (Nd × List Int)) (w : List Int) (n : Nd) : Prop :=
  ∀ (k : Int) (fr : AV) (fb : List Bool) (P : Nat → Prop) (h : Heap) (X : Nat → Prop), MV h m sp sw kk pt w → KV h kk pt w X → (∀ o, X o → o < h.length) → Fl pt k n → Sl h 1 fr (fb.map encB) → Is w fb P →
    Tot tab f_match_matcher_step [m, I k, fr] h fun r h' => ExM kk h h' ∧ KV h' kk pt w X ∧ r ≠ .nils ∧ ∃ bs, Gr h.length h'.length h' 1 r (bs.map encB) ∧ Is w bs fun j => ∃ i, P i ∧ R w n i j
def AgainS (m sp sw : AV) (kk : Nat) (pt : List (Nd × List Int)) (w : List Int) (n : Nd) : Prop :=
  ∀ (k : Int) (fr : AV) (fb : List Bool) (P : Nat → Prop) (h : Heap) (X : Nat → Prop), MV h m sp sw kk pt w → KV h kk pt w X → (∀ o, X o → o < h.length) → Fl pt k n → Sl h 1 fr (fb.map encB) → Is w fb P →
    Tot tab f_match_matcher_again [m, I k, fr] h fun r h' => ExM kk h h' ∧ KV h' kk pt w X ∧ r ≠ .nils ∧ ∃ bs, Gr h.length h'.length h' 1 r (bs.map encB) ∧ Is w bs fun j => ∃ i, P i ∧ Star (R w n) i j

/-- Places of one row laid to one's own. -/
theorem lay_spec {lo hi : Nat} {to r : AV} {a0 bs : List Bool} {H : Heap} {C D : Nat → Prop} (hw : w.length ≤ 900000) (ht : Gr lo hi H 1 to (a0.map encB)) (ha : Is w a0 C) (hr : Sl H 1 r (bs.map encB)) (hb : Is w bs D) (ho : r ≠ .nils → r.obj < lo ∨ hi ≤ r.obj) (hh : hi ≤ H.length) {Q : AV → Heap → Prop} {ι : Type} [Fuel ι] {K : ι → AV → Heap → Option (AV × Heap)}
    (hc : ∀ cur fl h', Is w cur (fun j => C j ∨ D j) → Flg a0 cur fl → Gr lo hi h' 1 to (cur.map encB) → Fr lo hi (mkObj H [r]) h' → WP (fun i => K i (.bool fl) h') Q) :
    WP (fun i => ob (evalFn tab (Fuel.k i) f_match_together [to, .sl H.length 0 1 1 none 0] (mkObj H [r])) (K i)) Q := by
  have e : Ext H (mkObj H [r]) := Ext.push H _
  refine WP.call (together_spec (L := w.length + 1) (ss := [(r, bs)]) (by omega) (by simp) ha.1 (ht.ext e) (Gr.lit (sz := 1) (v := [r]) rfl).sl (fun _ => .inr hh) (fun p hp => ?_)) ?_
  · have := List.mem_singleton.1 hp
    subst this
    exact ⟨hb.1, hr.ext e, ho⟩
  · rintro _ h' ⟨cur, fl, rfl, k1, k2, k3, k4, k5⟩
    refine hc cur fl h' ⟨k1, fun j => ?_⟩ k3 k4 k5
    rw [k2 j, ha.2 j]
    simp only [List.mem_singleton, exists_eq_left, hb.2 j]

theorem step_l1 {n : Nd} (he : EndsS m sp sw kk pt w n) {k : Int} {fr out : AV} {fb : List Bool} {P : Nat → Prop} {h : Heap} {X : Nat → Prop} {lo hi : Nat} (mv : MV h m sp sw kk pt w) (hX : ∀ o, X o → o < h.length) (hf : Fl pt k n) (hs : Sl h 1 fr (fb.map encB)) (hP : Is w fb P) (hlo : h.length ≤ lo) (hout : out ≠ .nils) :
    ∀ (d i : Nat) (cur : List Bool) (H : Heap), i + d = w.length + 1 → ExM kk h H → hi ≤ H.length → lo ≤ hi → KV H kk pt w (fun o => X o ∨ (lo ≤ o ∧ o < hi)) → Gr lo hi H 1 out (cur.map encB) → Is w cur (fun j => ∃ i', i' < i ∧ P i' ∧ R w n i' j) →
    WP (fun p : Nat × Nat => match_matcher_step_l1 tab p.1 p.2 m (I k) out fr (I (w.length + 1 : Nat)) (I i) H) fun r h' => ExM kk h h' ∧ KV h' kk pt w X ∧ r ≠ .nils ∧ ∃ bs, Gr lo h'.length h' 1 r (bs.map encB) ∧ Is w bs fun j => ∃ i, P i ∧ R w n i j := by
  have hlw := mv.lw
  intro d
  induction d with
  | zero =>
    intro i cur H h1 ex hh hlh kv gr is
    refine WP.rnd (fun i' j => match_matcher_step_l1_eq tab i' j m (I k) out fr (I (w.length + 1 : Nat)) (I i) H) ?_
    simp -implicitDefEqProofs (disch := first | assumption | omega | (simp only [gL] <;> omega) | ((repeat (first | exact Ext.refl _ | assumption | apply Ext.app | apply Ext.mk | (refine Ext.setr ?_ (by (first | omega | (simp only [gL] <;> omega))) _))); done) | (simp only [gL, gA] <;> omega) | fail) only [gB, setAll, partL, fldV, reduceIte, Nat.reduceAdd, Nat.reduceMul]
    refine WP.lv (WP.ret ⟨ex, kv.more fun o q => .inl (.inl q), hout, cur, gr.mono (Nat.le_refl _) hh, is.cong fun j => ⟨fun ⟨i', _, q⟩ => ⟨i', q⟩, fun ⟨i', q⟩ => ⟨i', ?_, q⟩⟩⟩) fun i j => rfl
    have := hP.le q.1
    omega
  | succ d ih =>
    intro i cur H h1 ex hh hlh kv gr is
    refine WP.rnd (fun i' j => match_matcher_step_l1_eq tab i' j m (I k) out fr (I (w.length + 1 : Nat)) (I i) H) ?_
    have hs' := hs.exm ex
    have e0 := Ext.refl H
    have hfl := hP.1
    obtain ⟨v, hv⟩ : ∃ v, gi fb i = v := ⟨_, rfl⟩
    have hvP : v = true ↔ P i := by rw [← hv]; exact hP.2 i
    cases v with
    | false =>
      simp -implicitDefEqProofs (disch := first | assumption | omega | (simp only [gL] <;> omega) | ((repeat (first | exact Ext.refl _ | assumption | apply Ext.app | apply Ext.mk | (refine Ext.setr ?_ (by (first | omega | (simp only [gL] <;> omega))) _))); done) | (simp only [gL, gA, hs'.idxG, hs'.ld0, encB, hv] <;> omega) | fail) only [gB, setAll, partL, fldV, reduceIte, Nat.reduceAdd, Nat.reduceMul, hs'.idxG, hs'.ld0, encB, hv]
      refine ih (i + 1) cur H (by omega) ex hh hlh kv gr (is.cong fun j => ⟨fun ⟨i', q, r⟩ => ⟨i', by omega, r⟩, fun ⟨i', q, r⟩ => ⟨i', ?_, r⟩⟩)
      by_cases hi : i' = i
      · subst hi; have := hvP.2 r.1; cases this
      · omega
    | true =>
      simp -implicitDefEqProofs (disch := first | assumption | omega | (simp only [gL] <;> omega) | ((repeat (first | exact Ext.refl _ | assumption | apply Ext.app | apply Ext.mk | (refine Ext.setr ?_ (by (first | omega | (simp only [gL] <;> omega))) _))); done) | (simp only [gL, gA, hs'.idxG, hs'.ld0, encB, hv] <;> omega) | fail) only [gB, setAll, partL, fldV, reduceIte, Nat.reduceAdd, Nat.reduceMul, hs'.idxG, hs'.ld0, encB, hv]
      have hlen := ex.len
      refine WP.call (he k i H (fun o => X o ∨ (lo ≤ o ∧ o < hi)) (mv.exm ex) kv (fun o q => by rcases q with q | q; have := hX o q; omega; omega) hf (by omega)) ?_
      rintro r H1 ⟨x1, kv1, r0, rX, bs, rs, ri⟩
      have hl1 := x1.len
      simp -implicitDefEqProofs (disch := first | assumption | omega | (simp only [gL] <;> omega) | ((repeat (first | exact Ext.refl _ | assumption | apply Ext.app | apply Ext.mk | (refine Ext.setr ?_ (by (first | omega | (simp only [gL] <;> omega))) _))); done) | (simp only [gL, gA, rs.one, rs.cells] <;> omega) | fail) only [gB, setAll, partL, fldV, reduceIte, Nat.reduceAdd, Nat.reduceMul, rs.one, rs.cells]
      rw [← mkObj_eq]
      refine lay_spec hlw (gr.exm x1) is rs ri (fun _ => by omega) (by omega) ?_
      intro cur' fl H2 c1 c2 c3 c4
      have hl2 := c4.len
      have e1 : Ext H1 (mkObj H1 [r]) := Ext.push H1 _
      have hl3 := e1.len
      have xx := ((ex.trans x1).ext e1).fr c4 hlo
      refine ih (i + 1) cur' H2 (by omega) xx (by omega) hlh ((kv1.ext e1).fr c4 (fun o q1 q2 => .inr ⟨q1, q2⟩) (.inl (by have := ex.lt; omega))) c3 (c1.cong fun j => ⟨?_, ?_⟩)
      · rintro (⟨i', q, r⟩ | q)
        · exact ⟨i', by omega, r⟩
        · exact ⟨i, by omega, hvP.1 rfl, q⟩
      · rintro ⟨i', q, r⟩
        by_cases hi : i' = i
        · subst hi; exact .inr r.2
        · exact .inl ⟨i', by omega, r⟩
theorem step_spec {n : Nd} (he : EndsS m sp sw kk pt w n) : StepS m sp sw kk pt w n := by
  intro k fr fb P h X mv kv hX hf hs hP
  refine WP.tot (fun k' => (call_match_matcher_step k' _ _ _ h).trans (match_matcher_step_eq tab k' _ _ _ h)) ?_
  have hlw := mv.lw
  refine WP.call (none_spec mv.at_ mv.wd (by omega)) ?_
  rintro out H ⟨e, o0, gr⟩
  have hfl := hP.1
  have hle := e.len
  obtain ⟨es, hes⟩ := kv.isM
  have hs' := hs.ext e
  simp -implicitDefEqProofs (disch := first | assumption | omega | (simp only [gL] <;> omega) | ((repeat (first | exact Ext.refl _ | assumption | apply Ext.app | apply Ext.mk | (refine Ext.setr ?_ (by (first | omega | (simp only [gL] <;> omega))) _))); done) | (simp only [gL, gA, hs'.lenG, hfl] <;> omega) | fail) only [gB, setAll, partL, fldV, reduceIte, Nat.reduceAdd, Nat.reduceMul, hs'.lenG, hfl]
  rw [show ((0 : Int)) = ((0 : Nat) : Int) from rfl]
  refine WP.ent (step_l1 (lo := h.length) (hi := H.length) he mv hX hf hs hP (Nat.le_refl _) o0 (w.length + 1) 0 _ H (by omega) (ExM.ofExt hes e) (Nat.le_refl _) hle ((kv.more (fun o q => ?_)).ext e) gr (Is.none.cong fun j => ⟨fun q => q.elim, fun ⟨i', q, _⟩ => by omega⟩)) fun i => rfl
  rcases q with q | q
  · exact .inl q
  · exact .inr q.1
end
end Go.Gm.A5

set_option linter.unusedVariables false
set_option linter.unusedSimpArgs false
namespace Go.Gm.A5
open Go Go.Gm

section
variable {m sp sw : AV} {kk : Nat} {pt : List (Nd × List Int)} {w : List Int}

theorem again_l1 {n : Nd} (hS : StepS m sp sw kk pt w n) {k : Int} {out : AV} {P : Nat → Prop} {h : Heap} {X : Nat → Prop} {lo hi : Nat} (mv : MV h m sp sw kk pt w) (hX : ∀ o, X o → o < h.length) (hf : Fl pt k n) (hlo : h.length ≤ lo) (hout : out ≠ .nils) :
    ∀ (d : Nat) (cur : List Bool) (C : Nat → Prop) (H : Heap), cntT cur + d = w.length + 1 → ExM kk h H → hi ≤ H.length → lo ≤ hi → KV H kk pt w (fun o => X o ∨ (lo ≤ o ∧ o < hi)) → Gr lo hi H 1 out (cur.map encB) → Is w cur C → (∀ j, P j → C j) → (∀ j, C j → ∃ i, P i ∧ Star (R w n) i j) →
    WP (fun p : Nat × Nat => match_matcher_again_l1 tab p.1 p.2 m (I k) out H) fun r h' => ExM kk h h' ∧ KV h' kk pt w X ∧ r ≠ .nils ∧ ∃ bs, Gr lo h'.length h' 1 r (bs.map encB) ∧ Is w bs fun j => ∃ i, P i ∧ Star (R w n) i j := by
  have hlw := mv.lw
  intro d
  induction d using Nat.strongRecOn with
  | _ d ih =>
    intro cur C H h1 ex hh hlh kv gr is hPC hCP
    refine WP.rnd (fun i' j => match_matcher_again_l1_eq tab i' j m (I k) out H) ?_
    have hlen := ex.len
    refine WP.call (hS k out cur C H (fun o => X o ∨ (lo ≤ o ∧ o < hi)) (mv.exm ex) kv (fun o q => by rcases q with q | q; have := hX o q; omega; omega) hf gr.sl is) ?_
    rintro r H1 ⟨x1, kv1, r0, bs, rs, ri⟩
    have hl1 := x1.len
    have hro := rs.objIn r0
    simp -implicitDefEqProofs (disch := first | assumption | omega | (simp only [gL] <;> omega) | ((repeat (first | exact Ext.refl _ | assumption | apply Ext.app | apply Ext.mk | (refine Ext.setr ?_ (by (first | omega | (simp only [gL] <;> omega))) _))); done) | (simp only [gL, gA, rs.sl.one, rs.sl.cells] <;> omega) | fail) only [gB, setAll, partL, fldV, reduceIte, Nat.reduceAdd, Nat.reduceMul, rs.sl.one, rs.sl.cells]
    rw [← mkObj_eq]
    refine lay_spec hlw (gr.exm x1) is rs.sl ri (fun _ => by omega) (by omega) ?_
    intro cur' fl H2 c1 c2 c3 c4
    have hl2 := c4.len
    have e1 : Ext H1 (mkObj H1 [r]) := Ext.push H1 _
    have hl3 := e1.len
    have xx := ((ex.trans x1).ext e1).fr c4 hlo
    have kv2 := (kv1.ext e1).fr c4 (fun o q1 q2 => .inr ⟨q1, q2⟩) (.inl (by have := ex.lt; omega))
    have hCP' : ∀ j, (C j ∨ ∃ i, C i ∧ R w n i j) → ∃ i, P i ∧ Star (R w n) i j := by
      rintro j (q | ⟨i, q, q2⟩)
      · exact hCP j q
      · obtain ⟨i0, q3, q4⟩ := hCP i q
        exact ⟨i0, q3, .tail q4 q2⟩
    cases fl with
    | true =>
      simp -implicitDefEqProofs (disch := first | assumption | omega | (simp only [gL] <;> omega) | ((repeat (first | exact Ext.refl _ | assumption | apply Ext.app | apply Ext.mk | (refine Ext.setr ?_ (by (first | omega | (simp only [gL] <;> omega))) _))); done) | (simp only [gL, gA] <;> omega) | fail) only [gB, setAll, partL, fldV, reduceIte, Nat.reduceAdd, Nat.reduceMul]
      have h3 := c2.1 rfl
      have h4 := cntT_le cur'
      have h5 := c1.1
      exact ih (w.length + 1 - cntT cur') (by omega) cur' _ H2 (by omega) xx (by omega) hlh kv2 c3 c1 (fun j q => .inl (hPC j q)) hCP'
    | false =>
      simp -implicitDefEqProofs (disch := first | assumption | omega | (simp only [gL] <;> omega) | ((repeat (first | exact Ext.refl _ | assumption | apply Ext.app | apply Ext.mk | (refine Ext.setr ?_ (by (first | omega | (simp only [gL] <;> omega))) _))); done) | (simp only [gL, gA] <;> omega) | fail) only [gB, setAll, partL, fldV, reduceIte, Nat.reduceAdd, Nat.reduceMul]
      have h3 := c2.2 rfl
      subst h3
      refine WP.lv (WP.ret ⟨xx, kv2.more fun o q => .inl (.inl q), hout, cur', c3.mono (Nat.le_refl _) (by omega), is.cong fun j => ⟨hCP j, fun ⟨i, q1, q2⟩ => ?_⟩⟩) fun i j => rfl
      refine q2.inv (P := C) (fun a b ha hb => ?_) (hPC i q1)
      exact (is.2 b).1 ((c1.2 b).2 (.inr ⟨a, ha, hb⟩))
theorem again_spec {n : Nd} (hS : StepS m sp sw kk pt w n) : AgainS m sp sw kk pt w n := by
  intro k fr fb P h X mv kv hX hf hs hP
  refine WP.tot (fun k' => (call_match_matcher_again k' _ _ _ h).trans (match_matcher_again_eq tab k' _ _ _ h)) ?_
  have hlw := mv.lw
  have hfl := hP.1
  refine WP.call (cloneB_spec hs (by rw [List.length_map]; omega) (fun q => by rw [List.map_eq_nil_iff] at q; rw [q] at hfl; simp at hfl)) ?_
  rintro out H ⟨e, gr, o0⟩
  have hle := e.len
  obtain ⟨es, hes⟩ := kv.isM
  have h4 := cntT_le fb
  refine WP.ent (again_l1 (lo := h.length) (hi := H.length) hS mv hX hf (Nat.le_refl _) o0 (w.length + 1 - cntT fb) fb P H (by omega) (ExM.ofExt hes e) (Nat.le_refl _) hle ((kv.more (fun o q => ?_)).ext e) gr hP (fun j q => q) (fun j q => ⟨j, q, .refl j⟩)) fun i => rfl
  rcases q with q | q
  · exact .inl q
  · exact .inr q.1

/-- What ends is known, and told. -/
theorem b1_spec {n : Nd} {k : Int} {i : Nat} {h H : Heap} {X : Nat → Prop} (mv : MV h m sp sw kk pt w) (ex : ExM kk h H) (kv : KV H kk pt w X) (hf : Fl pt k n) (hi : i ≤ w.length) {out : AV} {bs : List Bool} (hs : Sl H 1 out (bs.map encB)) (hb : Is w bs (R w n i)) (h0 : out ≠ .nils) (hX : ¬ X out.obj) {ι : Type} [Fuel ι] :
    WP (fun p : ι => match_matcher_ends_b1 tab (Fuel.k p) m (I k) (I i) out H) fun r h' => ExM kk h h' ∧ KV h' kk pt w X ∧ r ≠ .nils ∧ ¬ X r.obj ∧ ∃ bs, Sl h' 1 r (bs.map encB) ∧ Is w bs (R w n i) := by
  refine WP.congr (fun p => match_matcher_ends_b1_eq tab _ m (I k) (I i) out H) ?_
  have hm := (mv.exm ex).at_
  obtain ⟨es, hes⟩ := kv.isM
  have hlw := mv.lw
  have hk : 0 ≤ k ∧ k < 1000000 := by
    cases hf with
    | mk h1 h2 _ _ =>
      have := (List.getElem?_eq_some_iff.1 h2).1
      have := mv.lp
      omega
  have hfit : fitK KS2 (.agg [I k, I i]) = true := by
    simp only [fitK, fitL, fit_i (n := k) (by omega) (by omega), fit_i (n := (i : Int)) (by omega) (by omega), Bool.and_self]
  have e0 := Ext.refl H
  simp -implicitDefEqProofs (disch := first | assumption | omega | (simp only [gL] <;> omega) | ((repeat (first | exact Ext.refl _ | assumption | apply Ext.app | apply Ext.mk | (refine Ext.setr ?_ (by (first | omega | (simp only [gL] <;> omega))) _))); done) | (simp only [gL, gA, hm.nil, hm.fldA0, hm.ldfE, updM_i hes hfit] <;> omega) | fail) only [gB, setAll, partL, fldV, reduceIte, Nat.reduceAdd, Nat.reduceMul, hm.nil, hm.fldA0, hm.ldfE, updM_i hes hfit]
  refine WP.ret ⟨ex.trans (ExM.put hes _), kv.put hs hf (by rw [show ((i : Int)).toNat = i from rfl]; exact hb) hX h0 hes, h0, hX, bs, (Keeps.ofExM (ExM.put hes _)).sl hs, hb⟩
end
end Go.Gm.A5

set_option linter.unusedVariables false
set_option linter.unusedSimpArgs false
namespace Go.Gm.A5
open Go Go.Gm

section
variable {m sp sw : AV} {kk : Nat} {pt : List (Nd × List Int)} {w : List Int}
/-- What a part's call promises. -/
abbrev EQ (kk : Nat) (pt : List (Nd × List Int)) (w : List Int) (X : Nat → Prop) (n : Nd) (i : Nat) (h : Heap) (r : AV) (h' : Heap) : Prop :=
  ExM kk h h' ∧ KV h' kk pt w X ∧ r ≠ .nils ∧ ¬ X r.obj ∧ ∃ bs, Sl h' 1 r (bs.map encB) ∧ Is w bs (R w n i)
theorem join_l2 {l : List Nd} {k : Int} {i : Nat} {h : Heap} {X X' : Nat → Prop} (mv : MV h m sp sw kk pt w) (hX : ∀ o, X o → o < h.length) (hXX : ∀ o, X o → X' o) (hf : Fl pt k (.join l)) (hi : i ≤ w.length)
    {sk : AV} {ks : List Int} (hks : ks.length = l.length) (hl : l.length ≤ 1000) (hsk : Sl h 1 sk (ks.map encI)) (hk : ∀ (j : Nat) (c : Nd), l[j]? = some c → Fl pt (gi ks j) c) (hS : ∀ c ∈ l, StepS m sp sw kk pt w c) :
    ∀ (d t : Nat) (here : AV) (cur : List Bool) (H : Heap), t + d = l.length → ExM kk h H → KV H kk pt w X' → (∀ o, X' o → o < H.length) → Sl H 1 here (cur.map encB) → here ≠ .nils → ¬ X here.obj → Is w cur (RJ w (l.take t) i) →
    WP (fun p : Nat × Nat => match_matcher_ends_l2 tab p.1 p.2 m (I k) (I i) (.fn f_match_matcher_step [m] []) here sk (I l.length) (I t) H) (EQ kk pt w X (.join l) i h) := by
  have hlw := mv.lw
  intro d
  induction d with
  | zero =>
    intro t here cur H h1 ex kv hb hs h0 hx is
    refine WP.rnd (fun i' j => match_matcher_ends_l2_eq tab i' j m (I k) (I i) _ here sk (I l.length) (I t) H) ?_
    simp -implicitDefEqProofs (disch := first | assumption | omega | (simp only [gL] <;> omega) | ((repeat (first | exact Ext.refl _ | assumption | apply Ext.app | apply Ext.mk | (refine Ext.setr ?_ (by (first | omega | (simp only [gL] <;> omega))) _))); done) | (simp only [gL, gA] <;> omega) | fail) only [gB, setAll, partL, fldV, reduceIte, Nat.reduceAdd, Nat.reduceMul]
    refine WP.lv (b1_spec mv ex (kv.more fun o q => .inl (hXX o q)) hf hi hs (is.cong fun j => ?_) h0 hx) fun i j => rfl
    rw [List.take_of_length_le (by omega)]; simp only [R]
  | succ d ih =>
    intro t here cur H h1 ex kv hb hs h0 hx is
    refine WP.rnd (fun i' j => match_matcher_ends_l2_eq tab i' j m (I k) (I i) _ here sk (I l.length) (I t) H) ?_
    have hsk' := hsk.exm ex
    have e0 := Ext.refl H
    have htl : t < l.length := by omega
    have hlt : l[t]? = some l[t] := List.getElem?_eq_getElem htl
    simp -implicitDefEqProofs (disch := first | assumption | omega | (simp only [gL] <;> omega) | ((repeat (first | exact Ext.refl _ | assumption | apply Ext.app | apply Ext.mk | (refine Ext.setr ?_ (by (first | omega | (simp only [gL] <;> omega))) _))); done) | (simp only [gL, gA, hsk'.idxG, hsk'.ld0, encI, List.cons_append] <;> omega) | fail) only [gB, setAll, partL, fldV, reduceIte, Nat.reduceAdd, Nat.reduceMul, hsk'.idxG, hsk'.ld0, encI, List.cons_append]
    have hlen := ex.len
    refine WP.call (hS l[t] (List.getElem_mem htl) _ here cur _ H X' (mv.exm ex) kv hb (hk t _ hlt) hs is) ?_
    rintro r H1 ⟨x1, kv1, r0, bs, rs, ri⟩
    have hl1 := x1.len
    have hro := rs.objIn r0
    refine ih (t + 1) r bs H1 (by omega) (ex.trans x1) kv1 (fun o q => by have := hb o q; omega) rs.sl r0 (fun q => by have := hX _ q; omega) (ri.cong fun j => ?_)
    rw [List.take_add_one, hlt]
    exact RJ_snoc.symm
theorem uni_l3 {l : List Nd} {k : Int} {i : Nat} {h : Heap} {X X' : Nat → Prop} {lo hi : Nat} (mv : MV h m sp sw kk pt w) (hX : ∀ o, X o → o < h.length) (hXX : ∀ o, X o → X' o) (hlo : h.length ≤ lo) (hout : ∀ o, lo ≤ o → o < hi → X' o) (hf : Fl pt k (.uni l)) (hi' : i ≤ w.length)
    {sk : AV} {ks : List Int} (hks : ks.length = l.length) (hl : l.length ≤ 1000) (hsk : Sl h 1 sk (ks.map encI)) (hk : ∀ (j : Nat) (c : Nd), l[j]? = some c → Fl pt (gi ks j) c) (hS : ∀ c ∈ l, StepS m sp sw kk pt w c) {here out : AV} {hb : List Bool} (h0 : out ≠ .nils) (hbi : Is w hb fun j => j = i) (hho : here ≠ .nils → here.obj < lo ∨ hi ≤ here.obj) :
    ∀ (d t : Nat) (cur : List Bool) (H : Heap), t + d = l.length → ExM kk h H → hi ≤ H.length → KV H kk pt w X' → (∀ o, X' o → o < H.length) → Sl H 1 here (hb.map encB) → Gr lo hi H 1 out (cur.map encB) → Is w cur (RU w (l.take t) i) →
    WP (fun p : Nat × Nat => match_matcher_ends_l3 tab p.1 p.2 m (I k) (I i) (.fn f_match_matcher_step [m] []) out here sk (I l.length) (I t) H) (EQ kk pt w X (.uni l) i h) := by
  have hlw := mv.lw
  intro d
  induction d with
  | zero =>
    intro t cur H h1 ex hh kv hb' hs gr is
    refine WP.rnd (fun i' j => match_matcher_ends_l3_eq tab i' j m (I k) (I i) _ out here sk (I l.length) (I t) H) ?_
    simp -implicitDefEqProofs (disch := first | assumption | omega | (simp only [gL] <;> omega) | ((repeat (first | exact Ext.refl _ | assumption | apply Ext.app | apply Ext.mk | (refine Ext.setr ?_ (by (first | omega | (simp only [gL] <;> omega))) _))); done) | (simp only [gL, gA] <;> omega) | fail) only [gB, setAll, partL, fldV, reduceIte, Nat.reduceAdd, Nat.reduceMul]
    refine WP.lv (b1_spec mv ex (kv.more fun o q => .inl (hXX o q)) hf hi' gr.sl (is.cong fun j => ?_) h0 (fun q => by have := hX _ q; have := gr.objIn h0; omega)) fun i j => rfl
    rw [List.take_of_length_le (by omega)]; simp only [R]
  | succ d ih =>
    intro t cur H h1 ex hh kv hb' hs gr is
    refine WP.rnd (fun i' j => match_matcher_ends_l3_eq tab i' j m (I k) (I i) _ out here sk (I l.length) (I t) H) ?_
    have hsk' := hsk.exm ex
    have e0 := Ext.refl H
    have htl : t < l.length := by omega
    have hlt : l[t]? = some l[t] := List.getElem?_eq_getElem htl
    simp -implicitDefEqProofs (disch := first | assumption | omega | (simp only [gL] <;> omega) | ((repeat (first | exact Ext.refl _ | assumption | apply Ext.app | apply Ext.mk | (refine Ext.setr ?_ (by (first | omega | (simp only [gL] <;> omega))) _))); done) | (simp only [gL, gA, hsk'.idxG, hsk'.ld0, encI, List.cons_append] <;> omega) | fail) only [gB, setAll, partL, fldV, reduceIte, Nat.reduceAdd, Nat.reduceMul, hsk'.idxG, hsk'.ld0, encI, List.cons_append]
    have hlen := ex.len
    refine WP.call (hS l[t] (List.getElem_mem htl) _ here hb _ H X' (mv.exm ex) kv hb' (hk t _ hlt) hs hbi) ?_
    rintro r H1 ⟨x1, kv1, r0, bs, rs, ri⟩
    have hl1 := x1.len
    have hro := rs.objIn r0
    simp -implicitDefEqProofs (disch := first | assumption | omega | (simp only [gL] <;> omega) | ((repeat (first | exact Ext.refl _ | assumption | apply Ext.app | apply Ext.mk | (refine Ext.setr ?_ (by (first | omega | (simp only [gL] <;> omega))) _))); done) | (simp only [gL, gA, rs.sl.one, rs.sl.cells] <;> omega) | fail) only [gB, setAll, partL, fldV, reduceIte, Nat.reduceAdd, Nat.reduceMul, rs.sl.one, rs.sl.cells]
    rw [← mkObj_eq]
    refine lay_spec hlw (gr.exm x1) is rs.sl ri (fun _ => by omega) (by omega) ?_
    intro cur' fl H2 c1 c2 c3 c4
    have hl2 := c4.len
    have e1 : Ext H1 (mkObj H1 [r]) := Ext.push H1 _
    have hl3 := e1.len
    have xx := ((ex.trans x1).ext e1).fr c4 hlo
    have hs2 := ((hs.exm x1).ext e1).fr c4 hho
    have hll := ex.lt
    refine ih (t + 1) cur' H2 (by omega) xx (by omega) ((kv1.ext e1).fr c4 hout (.inl (by omega))) (fun o q => by have := hb' o q; omega) hs2 c3 (c1.cong fun j => ?_)
    rw [List.take_add_one, hlt]
    simp only [RU_iff, List.mem_append, Option.toList_some, List.mem_singleton, exists_eq_left]
    constructor
    · rintro (⟨c, q1, q2⟩ | q)
      · exact ⟨c, .inl q1, q2⟩
      · exact ⟨_, .inr rfl, q⟩
    · rintro ⟨c, q1 | q1, q2⟩
      · exact .inl ⟨c, q1, q2⟩
      · subst q1; exact .inr q2
theorem rep_l4 {a b : Nat} {c : Nd} {k : Int} {i : Nat} {h : Heap} {X X' : Nat → Prop} {lo hi : Nat} (mv : MV h m sp sw kk pt w) (hX : ∀ o, X o → o < h.length) (hXX : ∀ o, X o → X' o) (hlo : h.length ≤ lo) (hlh : lo ≤ hi) (hout : ∀ o, lo ≤ o → o < hi → X' o) (hf : Fl pt k (.rep a b c)) (hi' : i ≤ w.length) (ha : a ≤ 100) (hbb : b ≤ 100)
    {sk sl : AV} {ks : List Int} (hks : ks.length = 1) (hsk : Sl h 1 sk (ks.map encI)) (hk : Fl pt (gi ks 0) c) (hS : StepS m sp sw kk pt w c) {out : AV} (h0 : out ≠ .nils) {xo : Nat} (hxo : h.length ≤ xo) (hxl : xo < lo) :
    ∀ (d t : Nat) (here : AV) (cur hb : List Bool) (H : Heap), t + d = b + 1 → ExM kk h H → hi ≤ H.length → KV H kk pt w X' → (∀ o, X' o → o < H.length) → H[xo]? = some (.cells ⟨[I 9, I 0, I a, I b, sl, sk], 0, 0, false⟩) → Sl H 1 here (hb.map encB) → (here ≠ .nils → here.obj < lo ∨ hi ≤ here.obj) → Gr lo hi H 1 out (cur.map encB) → Is w cur (fun j => ∃ t', t' < t ∧ a ≤ t' ∧ t' ≤ b ∧ Pow (R w c) t' i j) → (t ≤ b → Is w hb (Pow (R w c) t i)) →
    WP (fun p : Nat × Nat => match_matcher_ends_l4 tab p.1 p.2 m (I k) (I i) (.ptr xo 0 6 0) (.fn f_match_matcher_step [m] []) out here (I (b + 1 : Nat)) (I t) H) (EQ kk pt w X (.rep a b c) i h) := by
  have hlw := mv.lw
  intro d
  induction d with
  | zero =>
    intro t here cur hb H h1 ex hh kv hbd hx hs hho gr is hp
    refine WP.rnd (fun i' j => match_matcher_ends_l4_eq tab i' j m (I k) (I i) _ _ out here (I (b + 1 : Nat)) (I t) H) ?_
    simp -implicitDefEqProofs (disch := first | assumption | omega | (simp only [gL] <;> omega) | ((repeat (first | exact Ext.refl _ | assumption | apply Ext.app | apply Ext.mk | (refine Ext.setr ?_ (by (first | omega | (simp only [gL] <;> omega))) _))); done) | (simp only [gL, gA] <;> omega) | fail) only [gB, setAll, partL, fldV, reduceIte, Nat.reduceAdd, Nat.reduceMul]
    refine WP.lv (b1_spec mv ex (kv.more fun o q => .inl (hXX o q)) hf hi' gr.sl (is.cong fun j => ?_) h0 (fun q => by have := hX _ q; have := gr.objIn h0; omega)) fun i j => rfl
    simp only [R]
    exact ⟨fun ⟨t', _, q⟩ => ⟨t', q⟩, fun ⟨t', q⟩ => ⟨t', by omega, q⟩⟩
  | succ d ih =>
    intro t here cur hb H h1 ex hh kv hbd hx hs hho gr is hp
    refine WP.rnd (fun i' j => match_matcher_ends_l4_eq tab i' j m (I k) (I i) _ _ out here (I (b + 1 : Nat)) (I t) H) ?_
    have hlen := ex.len
    -- what follows, once the places are laid
    have go : ∀ (cur : List Bool) (H : Heap), ExM kk h H → hi ≤ H.length → KV H kk pt w X' → (∀ o, X' o → o < H.length) → H[xo]? = some (.cells ⟨[I 9, I 0, I a, I b, sl, sk], 0, 0, false⟩) → Sl H 1 here (hb.map encB) → Gr lo hi H 1 out (cur.map encB) → Is w cur (fun j => ∃ t', t' < t + 1 ∧ a ≤ t' ∧ t' ≤ b ∧ Pow (R w c) t' i j) →
        WP (fun p : Nat × Nat => match_matcher_ends_b5 tab p.1 p.2 m (I k) (I i) (.ptr xo 0 6 0) (.fn f_match_matcher_step [m] []) out here (I t) (I (b + 1 : Nat)) (I t) H) (EQ kk pt w X (.rep a b c) i h) := by
      intro cur H ex hh kv hbd hx hs gr is
      refine WP.congr (fun p => match_matcher_ends_b5_eq tab _ _ m (I k) (I i) _ _ out here (I t) (I (b + 1 : Nat)) (I t) H) ?_
      have hsk' := hsk.exm ex
      have e0 := Ext.refl H
      have hlen := ex.len
      by_cases htb : t < b
      · simp -implicitDefEqProofs (disch := first | assumption | omega | (simp only [gL] <;> omega) | ((repeat (first | exact Ext.refl _ | assumption | apply Ext.app | apply Ext.mk | (refine Ext.setr ?_ (by (first | omega | (simp only [gL] <;> omega))) _))); done) | (simp only [gL, gA, hx, hsk'.idxG, hsk'.ld0, encI, List.cons_append] <;> omega) | fail) only [gB, setAll, partL, fldV, reduceIte, Nat.reduceAdd, Nat.reduceMul, hx, hsk'.idxG, hsk'.ld0, encI, List.cons_append]
        refine WP.call (hS _ here hb _ H X' (mv.exm ex) kv hbd hk hs (hp (by omega))) ?_
        rintro r H1 ⟨x1, kv1, r0, bs, rs, ri⟩
        have hl1 := x1.len
        have hro := rs.objIn r0
        refine ih (t + 1) r cur bs H1 (by omega) (ex.trans x1) (by omega) kv1 (fun o q => by have := hbd o q; omega) (x1.cells hx) rs.sl (fun _ => by omega) (gr.exm x1) is (fun _ => ri.cong fun j => ?_)
        simp only [Pow]
      · simp -implicitDefEqProofs (disch := first | assumption | omega | (simp only [gL] <;> omega) | ((repeat (first | exact Ext.refl _ | assumption | apply Ext.app | apply Ext.mk | (refine Ext.setr ?_ (by (first | omega | (simp only [gL] <;> omega))) _))); done) | (simp only [gL, gA, hx] <;> omega) | fail) only [gB, setAll, partL, fldV, reduceIte, Nat.reduceAdd, Nat.reduceMul, hx]
        exact ih (t + 1) here cur hb H (by omega) ex hh kv hbd hx hs hho gr is (fun q => by omega)
    by_cases hat : a ≤ t
    · simp -implicitDefEqProofs (disch := first | assumption | omega | (simp only [gL] <;> omega) | ((repeat (first | exact Ext.refl _ | assumption | apply Ext.app | apply Ext.mk | (refine Ext.setr ?_ (by (first | omega | (simp only [gL] <;> omega))) _))); done) | (simp only [gL, gA, hx, hs.one, hs.cells] <;> omega) | fail) only [gB, setAll, partL, fldV, reduceIte, Nat.reduceAdd, Nat.reduceMul, hx, hs.one, hs.cells]
      rw [← mkObj_eq]
      refine lay_spec hlw gr is hs (hp (by omega)) hho hh ?_
      intro cur' fl H2 c1 c2 c3 c4
      have hl2 := c4.len
      have e1 : Ext H (mkObj H [here]) := Ext.push H _
      have hl3 := e1.len
      have hll := ex.lt
      refine go cur' H2 ((ex.ext e1).fr c4 hlo) (by omega) ((kv.ext e1).fr c4 hout (.inl (by omega))) (fun o q => by have := hbd o q; omega) ((c4.get (.inl hxl) (by omega)).trans (e1.get hx)) ((hs.ext e1).fr c4 hho) c3 (c1.cong fun j => ?_)
      constructor
      · rintro (⟨t', q1, q2⟩ | q)
        · exact ⟨t', by omega, q2⟩
        · exact ⟨t, by omega, hat, by omega, q⟩
      · rintro ⟨t', q1, q2⟩
        by_cases htt : t' = t
        · subst htt; exact .inr q2.2.2
        · exact .inl ⟨t', by omega, q2⟩
    · simp -implicitDefEqProofs (disch := first | assumption | omega | (simp only [gL] <;> omega) | ((repeat (first | exact Ext.refl _ | assumption | apply Ext.app | apply Ext.mk | (refine Ext.setr ?_ (by (first | omega | (simp only [gL] <;> omega))) _))); done) | (simp only [gL, gA, hx] <;> omega) | fail) only [gB, setAll, partL, fldV, reduceIte, Nat.reduceAdd, Nat.reduceMul, hx]
      refine go cur H ex hh kv hbd hx hs gr (is.cong fun j => ?_)
      exact ⟨fun ⟨t', q1, q2⟩ => ⟨t', by omega, q2⟩, fun ⟨t', q1, q2⟩ => ⟨t', by omega, q2⟩⟩
end
end Go.Gm.A5

set_option linter.unusedVariables false
set_option linter.unusedSimpArgs false
namespace Go.Gm.A5
open Go Go.Gm

section
variable {m sp sw : AV} {kk : Nat} {pt : List (Nd × List Int)} {w : List Int}
theorem told_s (v z : AV) : told true z (some v) = .tup [v, .bool true] := rfl
theorem told_n (z : AV) : told true z none = .tup [z, .bool false] := rfl
theorem gi_map {α : Type} [Inhabited α] {xs : List α} {i : Nat} {x : α} (h : xs[i]? = some x) : gi xs (i : Int) = x := by
  simp [gi, List.getD_eq_getElem?_getD, h]

theorem ends_spec (hw : w.length ≤ 900000) (n : Nd) : Ok n → EndsS m sp sw kk pt w n := by
  refine Nd.ind (p := fun n => Ok n → EndsS m sp sw kk pt w n) ?_ n
  intro n ih ok k i h X mv kv hX hf hi
  have hf' := hf
  have hlw := mv.lw
  have hlp := mv.lp
  refine WP.tot (fun k' => (call_match_matcher_ends k' _ _ _ h).trans (match_matcher_ends_eq tab k' _ _ _ h)) ?_
  obtain ⟨kids, hkids⟩ : ∃ l, n.kids = l := ⟨_, rfl⟩
  cases hf with
  | mk p1 p2 p3 p4 =>
  rename_i ks
  have hkl := (List.getElem?_eq_some_iff.1 p2).1
  cases ok with
  | mk o1 o2 o3 o4 o5 =>
  have hS : ∀ c ∈ n.kids, StepS m sp sw kk pt w c := fun c hc => step_spec (ih c hc (o5 c hc))
  have hA : ∀ c ∈ n.kids, AgainS m sp sw kk pt w c := fun c hc => again_spec (hS c hc)
  obtain ⟨cs, c1, c2, c3⟩ := mv.pv
  obtain ⟨sl, sk, r1, r2, r3⟩ := c3 _ _ _ p2
  have hcs : Sl h 6 sp (cs.map fun x => x) := by rw [List.map_id']; exact c1
  have hg : gi cs k = [I n.kind, I n.st, I n.lo, I n.hi, sl, sk] := by
    have := gi_map r1
    rw [show ((k.toNat : Nat) : Int) = k by omega] at this
    exact this
  have kv0 := kv
  obtain ⟨es, hes, hkv⟩ := kv
  have hfit : fitK KS2 (.agg [I k, I i]) = true := by
    simp only [fitK, fitL, fit_i (n := k) (by omega) (by omega), fit_i (n := (i : Int)) (by omega) (by omega), Bool.and_self]
  have e0 := Ext.refl h
  cases hfd : findV (.agg [I k, I i]) es with
  | some s =>
    simp -implicitDefEqProofs (disch := first | assumption | omega | (simp only [gL] <;> omega) | ((repeat (first | exact Ext.refl _ | assumption | apply Ext.app | apply Ext.mk | (refine Ext.setr ?_ (by (first | omega | (simp only [gL] <;> omega))) _))); done) | (simp only [gL, gA, mv.at_.nil, mv.at_.fldA0, mv.at_.ldfE, lookM_i hes hfit, hfd, told_s, extr_tup] <;> omega) | fail) only [gB, setAll, partL, fldV, reduceIte, Nat.reduceAdd, Nat.reduceMul, mv.at_.nil, mv.at_.fldA0, mv.at_.ldfE, lookM_i hes hfit, hfd, told_s, extr_tup]
    obtain ⟨g0, g1, bs, g2, g3⟩ := hkv _ _ _ hfd
    exact WP.ret ⟨ExM.refl hes, kv0, g0, g1, bs, g2, g3 n hf' (by omega)⟩
  | none =>
    simp -implicitDefEqProofs (disch := first | assumption | omega | (simp only [gL] <;> omega) | ((repeat (first | exact Ext.refl _ | assumption | apply Ext.app | apply Ext.mk | (refine Ext.setr ?_ (by (first | omega | (simp only [gL] <;> omega))) _))); done) | (simp only [gL, gA, mv.at_.nil, mv.at_.fldA0, mv.at_.ldfE, lookM_i hes hfit, hfd, told_n, extr_tup, hcs.idxG, hcs.ldN, hg, r3, r2.one] <;> omega) | fail) only [gB, setAll, partL, fldV, reduceIte, Nat.reduceAdd, Nat.reduceMul, mv.at_.nil, mv.at_.fldA0, mv.at_.ldfE, lookM_i hes hfit, hfd, told_n, extr_tup, hcs.idxG, hcs.ldN, hg, r3, r2.one]
    obtain ⟨h3, hh3⟩ : ∃ h3, h3 = (h ++ [AObj.cells ⟨[I 0, I 0, I 0, I 0, .nils, .nils], 0, 0, false⟩]).set h.length (.cells ⟨[I n.kind, I n.st, I n.lo, I n.hi, sl, sk], 0, 0, false⟩) := ⟨_, rfl⟩
    have e3 : Ext h h3 := by rw [hh3]; ((repeat (first | exact Ext.refl _ | assumption | apply Ext.app | apply Ext.mk | (refine Ext.setr ?_ (by (first | omega | (simp only [gL] <;> omega))) _))))
    have hx3 : h3[h.length]? = some (.cells ⟨[I n.kind, I n.st, I n.lo, I n.hi, sl, sk], 0, 0, false⟩) := by rw [hh3]; exact get_set_eq (by simp)
    have hl3 : h3.length = h.length + 1 := by rw [hh3]; simp
    rw [show AV.int .i64 0 = I 0 from rfl, ← hh3]
    refine WP.call (none_spec (mv.at_.ext e3) (mv.wd.ext e3) (by omega)) ?_
    rintro out H1 ⟨e1, o0, g1⟩
    refine WP.call (none_spec ((mv.at_.ext e3).ext e1) ((mv.wd.ext e3).ext e1) (by omega)) ?_
    rintro here H2 ⟨e2, q0, g2⟩
    have le1 := e1.len
    have le2 := e2.len
    obtain ⟨H, k1, k2, k3, k4⟩ := g2.write0 (i := (i : Int)) (by omega) (by simp; omega) (v := .bool true) rfl rfl
    obtain ⟨X', hX'⟩ : ∃ X' : Nat → Prop, ∀ o, X' o ↔ X o ∨ (h.length ≤ o ∧ o < H2.length) := ⟨_, fun _ => Iff.rfl⟩
    have eH2 : Ext h H2 := (e3.trans e1).trans e2
    have ex : ExM kk h H := (ExM.ofExt hes eH2).fr k3 (by omega)
    have kv : KV H kk pt w X' := ((kv0.more (Y := X') (fun o q => by
      rcases (hX' o).1 q with q | q
      · exact .inl q
      · exact .inr q.1)).ext eH2).fr k3 (fun o q1 q2 => (hX' o).2 (.inr ⟨by omega, q2⟩)) (.inl (by have := ex.lt; omega))
    have hXX : ∀ o, X o → X' o := fun o q => (hX' o).2 (.inl q)
    have hb' : ∀ o, X' o → o < H.length := fun o q => by
      rcases (hX' o).1 q with q | q
      · have := hX o q; omega
      · omega
    have hx : H[h.length]? = some (.cells ⟨[I n.kind, I n.st, I n.lo, I n.hi, sl, sk], 0, 0, false⟩) := (k3.get (.inl (by omega)) (by omega)).trans ((e1.trans e2).get hx3)
    have g1' : Gr h3.length H1.length H 1 out ((List.replicate (w.length + 1) false).map encB) := (g1.ext e2).fr k3 (.inl (Nat.le_refl _))
    have isH : Is w ((List.replicate (w.length + 1) false).set i true) (fun j => j = i) := (Is.none.set hi).cong fun j => by simp
    have k2' : Gr H1.length H2.length H 1 here (((List.replicate (w.length + 1) false).set i true).map encB) := k2.cong (by rw [List.map_set]; rfl)
    have hoo := g1'.objIn o0
    have hho := k2'.objIn q0
    have mvH := mv.exm ex
    have hm := mvH.at_
    have hwd := mvH.wd
    have hskH := r2.exm ex
    have eH := Ext.refl H
    have hnX : ∀ o, h.length ≤ o → ¬ X o := fun o q1 q2 => by have := hX o q2; omega
    have hg2 := g2.sl
    cases n with
    | emp =>
      simp only [Nd.kind, Nd.st, Nd.lo, Nd.hi] at hx
      simp -implicitDefEqProofs (disch := first | assumption | omega | (simp only [gL] <;> omega) | ((repeat (first | exact Ext.refl _ | assumption | apply Ext.app | apply Ext.mk | (refine Ext.setr ?_ (by (first | omega | (simp only [gL] <;> omega))) _))); done) | (simp only [gL, gA, hg2.idxG, k1, hx] <;> omega) | fail) only [gB, setAll, partL, fldV, reduceIte, Nat.reduceAdd, Nat.reduceMul, hg2.idxG, k1, hx]
      exact b1_spec mv ex (kv.more fun o q => .inl (hXX o q)) hf' hi g1'.sl (Is.none.cong fun j => by simp [R]) o0 (hnX _ (by omega))
    | eps =>
      simp only [Nd.kind, Nd.st, Nd.lo, Nd.hi] at hx
      simp -implicitDefEqProofs (disch := first | assumption | omega | (simp only [gL] <;> omega) | ((repeat (first | exact Ext.refl _ | assumption | apply Ext.app | apply Ext.mk | (refine Ext.setr ?_ (by (first | omega | (simp only [gL] <;> omega))) _))); done) | (simp only [gL, gA, hg2.idxG, k1, hx] <;> omega) | fail) only [gB, setAll, partL, fldV, reduceIte, Nat.reduceAdd, Nat.reduceMul, hg2.idxG, k1, hx]
      exact b1_spec mv ex (kv.more fun o q => .inl (hXX o q)) hf' hi k2'.sl (isH.cong fun j => by simp only [R]; exact eq_comm) q0 (hnX _ (by omega))
    | join l =>
      simp only [Nd.kind, Nd.st, Nd.lo, Nd.hi] at hx
      simp only [Nd.kids] at p3 p4 o4 hS
      simp -implicitDefEqProofs (disch := first | assumption | omega | (simp only [gL] <;> omega) | ((repeat (first | exact Ext.refl _ | assumption | apply Ext.app | apply Ext.mk | (refine Ext.setr ?_ (by (first | omega | (simp only [gL] <;> omega))) _))); done) | (simp only [gL, gA, hg2.idxG, k1, hx, hskH.lenG, p3] <;> omega) | fail) only [gB, setAll, partL, fldV, reduceIte, Nat.reduceAdd, Nat.reduceMul, hg2.idxG, k1, hx, hskH.lenG, p3]
      rw [show I 0 = I ((0 : Nat) : Int) from rfl]
      refine WP.ent (join_l2 mv hX hXX hf' hi p3 o4 r2 p4 hS l.length 0 here _ H (by omega) ex kv hb' k2'.sl q0 (hnX _ (by omega)) (isH.cong fun j => by simp only [List.take_zero, RJ]; exact eq_comm)) fun i => rfl
    | uni l =>
      simp only [Nd.kind, Nd.st, Nd.lo, Nd.hi] at hx
      simp only [Nd.kids] at p3 p4 o4 hS
      simp -implicitDefEqProofs (disch := first | assumption | omega | (simp only [gL] <;> omega) | ((repeat (first | exact Ext.refl _ | assumption | apply Ext.app | apply Ext.mk | (refine Ext.setr ?_ (by (first | omega | (simp only [gL] <;> omega))) _))); done) | (simp only [gL, gA, hg2.idxG, k1, hx, hskH.lenG, p3] <;> omega) | fail) only [gB, setAll, partL, fldV, reduceIte, Nat.reduceAdd, Nat.reduceMul, hg2.idxG, k1, hx, hskH.lenG, p3]
      rw [show I 0 = I ((0 : Nat) : Int) from rfl]
      refine WP.ent (uni_l3 (lo := h3.length) (hi := H1.length) mv hX hXX (by omega) (fun o q1 q2 => (hX' o).2 (.inr ⟨by omega, by omega⟩)) hf' hi p3 o4 r2 p4 hS o0 isH (fun _ => by omega) l.length 0 _ H (by omega) ex (by omega) kv hb' k2'.sl g1' (Is.none.cong fun j => by simp only [List.take_zero, RU])) fun i => rfl
    | star c =>
      simp only [Nd.kind, Nd.st, Nd.lo, Nd.hi] at hx
      simp only [Nd.kids, List.length_singleton] at p3 p4
      have pc := p4 0 c rfl
      simp -implicitDefEqProofs (disch := first | assumption | omega | (simp only [gL] <;> omega) | ((repeat (first | exact Ext.refl _ | assumption | apply Ext.app | apply Ext.mk | (refine Ext.setr ?_ (by (first | omega | (simp only [gL] <;> omega))) _))); done) | (simp only [gL, gA, hg2.idxG, k1, hx, hskH.idxG, hskH.ld0, encI] <;> omega) | fail) only [gB, setAll, partL, fldV, reduceIte, Nat.reduceAdd, Nat.reduceMul, hg2.idxG, k1, hx, hskH.idxG, hskH.ld0, encI]
      refine WP.call (hA c (by simp [Nd.kids]) _ here _ _ H X' mvH kv hb' pc k2'.sl isH) ?_
      rintro r H3 ⟨x1, kv1, r0, bs, rs, ri⟩
      have hro := rs.objIn r0
      have := ex.len
      exact b1_spec mv (ex.trans x1) (kv1.more fun o q => .inl (hXX o q)) hf' hi rs.sl (ri.cong fun j => by simp [R]) r0 (hnX _ (by omega))
    | plus c =>
      simp only [Nd.kind, Nd.st, Nd.lo, Nd.hi] at hx
      simp only [Nd.kids, List.length_singleton] at p3 p4
      have pc := p4 0 c rfl
      simp -implicitDefEqProofs (disch := first | assumption | omega | (simp only [gL] <;> omega) | ((repeat (first | exact Ext.refl _ | assumption | apply Ext.app | apply Ext.mk | (refine Ext.setr ?_ (by (first | omega | (simp only [gL] <;> omega))) _))); done) | (simp only [gL, gA, hg2.idxG, k1, hx, hskH.idxG, hskH.ld0, encI, List.cons_append] <;> omega) | fail) only [gB, setAll, partL, fldV, reduceIte, Nat.reduceAdd, Nat.reduceMul, hg2.idxG, k1, hx, hskH.idxG, hskH.ld0, encI, List.cons_append]
      refine WP.call (hS c (by simp [Nd.kids]) _ here _ _ H X' mvH kv hb' pc k2'.sl isH) ?_
      rintro r H3 ⟨x1, kv1, r0, bs, rs, ri⟩
      have hx' := x1.cells hx
      have hsk3 := hskH.exm x1
      have eH3 := Ext.refl H3
      have hl3 := x1.len
      have hro := rs.objIn r0
      simp -implicitDefEqProofs (disch := first | assumption | omega | (simp only [gL] <;> omega) | ((repeat (first | exact Ext.refl _ | assumption | apply Ext.app | apply Ext.mk | (refine Ext.setr ?_ (by (first | omega | (simp only [gL] <;> omega))) _))); done) | (simp only [gL, gA, hx', hsk3.ld0, encI] <;> omega) | fail) only [gB, setAll, partL, fldV, reduceIte, Nat.reduceAdd, Nat.reduceMul, hx', hsk3.ld0, encI]
      refine WP.call (hA c (by simp [Nd.kids]) _ r _ _ H3 X' (mvH.exm x1) kv1 (fun o q => by have := hb' o q; omega) pc rs.sl ri) ?_
      rintro r' H4 ⟨x2, kv2, r0', bs', rs', ri'⟩
      have hro' := rs'.objIn r0'
      have := ex.len
      exact b1_spec mv ((ex.trans x1).trans x2) (kv2.more fun o q => .inl (hXX o q)) hf' hi rs'.sl (ri'.cong fun j => by simp [R]) r0' (hnX _ (by omega))
    | opt c =>
      simp only [Nd.kind, Nd.st, Nd.lo, Nd.hi] at hx
      simp only [Nd.kids, List.length_singleton] at p3 p4
      have pc := p4 0 c rfl
      simp -implicitDefEqProofs (disch := first | assumption | omega | (simp only [gL] <;> omega) | ((repeat (first | exact Ext.refl _ | assumption | apply Ext.app | apply Ext.mk | (refine Ext.setr ?_ (by (first | omega | (simp only [gL] <;> omega))) _))); done) | (simp only [gL, gA, hg2.idxG, k1, hx, hskH.idxG, hskH.ld0, encI, List.cons_append] <;> omega) | fail) only [gB, setAll, partL, fldV, reduceIte, Nat.reduceAdd, Nat.reduceMul, hg2.idxG, k1, hx, hskH.idxG, hskH.ld0, encI, List.cons_append]
      refine WP.call (hS c (by simp [Nd.kids]) _ here _ _ H X' mvH kv hb' pc k2'.sl isH) ?_
      rintro r H3 ⟨x1, kv1, r0, bs, rs, ri⟩
      have hl4 := x1.len
      have hro := rs.objIn r0
      have hsl := (k2'.exm x1).sl
      simp -implicitDefEqProofs (disch := first | assumption | omega | (simp only [gL] <;> omega) | ((repeat (first | exact Ext.refl _ | assumption | apply Ext.app | apply Ext.mk | (refine Ext.setr ?_ (by (first | omega | (simp only [gL] <;> omega))) _))); done) | (simp only [gL, gA, rs.sl.one, rs.sl.cells, hsl.one, hsl.cells] <;> omega) | fail) only [gB, setAll, partL, fldV, reduceIte, Nat.reduceAdd, Nat.reduceMul, rs.sl.one, rs.sl.cells, hsl.one, hsl.cells]
      rw [← mkObj_eq]
      have e4 : Ext H3 (mkObj H3 [here, r]) := Ext.push H3 _
      have hsm : Sl (mkObj H3 [here, r]) 1 (.sl H3.length 0 2 1 none 0) ([(here, (List.replicate (w.length + 1) false).set i true), (r, bs)].map fun p => enc1 p.1) := .inr ⟨H3.length, 0, none, 0, ⟨[here, r], 0, 0, false⟩, rfl, by simp [mkObj], Nat.le_refl _, rfl, by simp [enc1]⟩
      refine WP.call (together_spec (L := w.length + 1) (lo := h3.length) (hi := H1.length) (a0 := List.replicate (w.length + 1) false) (by omega) (by simp) (by simp) ((g1'.exm x1).ext e4) hsm (fun _ => .inr (show H1.length ≤ H3.length by omega)) (fun p hp => ?_)) ?_
      · rcases List.mem_cons.1 hp with rfl | hp
        · exact ⟨isH.1, hsl.ext e4, fun _ => .inr (show H1.length ≤ here.obj by omega)⟩
        · have := List.mem_singleton.1 hp
          subst this
          exact ⟨ri.1, rs.sl.ext e4, fun _ => .inr (show H1.length ≤ r.obj by omega)⟩
      · rintro _ H4 ⟨cur, fl, rfl, q1, q2, q3, q4, q5⟩
        have hkl2 := ex.lt
        refine b1_spec mv (((ex.trans x1).ext e4).fr q5 (by omega)) (((kv1.ext e4).fr q5 (fun o a1 a2 => (hX' o).2 (.inr ⟨by omega, by omega⟩)) (.inl (by omega))).more fun o q => .inl (hXX o q)) hf' hi q4.sl ⟨q1, fun j => ?_⟩ o0 (hnX _ (by omega))
        rw [q2 j]
        simp only [List.mem_cons, List.not_mem_nil, or_false, exists_eq_or_imp, exists_eq_left, isH.2 j, ri.2 j, R, (Is.none (w := w)).2 j]
        constructor
        · rintro (q | q | q)
          · exact q.elim
          · exact .inl q.symm
          · exact .inr q
        · rintro (q | q)
          · exact .inr (.inl q.symm)
          · exact .inr (.inr q)
    | rep a b c =>
      simp only [Nd.kind, Nd.st, Nd.lo, Nd.hi] at hx o2 o3
      simp only [Nd.kids, List.length_singleton] at p3 p4
      have pc := p4 0 c rfl
      simp -implicitDefEqProofs (disch := first | assumption | omega | (simp only [gL] <;> omega) | ((repeat (first | exact Ext.refl _ | assumption | apply Ext.app | apply Ext.mk | (refine Ext.setr ?_ (by (first | omega | (simp only [gL] <;> omega))) _))); done) | (simp only [gL, gA, hg2.idxG, k1, hx] <;> omega) | fail) only [gB, setAll, partL, fldV, reduceIte, Nat.reduceAdd, Nat.reduceMul, hg2.idxG, k1, hx]
      rw [show ((b : Int) + 1) = ((b + 1 : Nat) : Int) by omega, show I 0 = I ((0 : Nat) : Int) from rfl]
      refine WP.ent (rep_l4 (lo := h3.length) (hi := H1.length) mv hX hXX (by omega) (by omega) (fun o q1 q2 => (hX' o).2 (.inr ⟨by omega, by omega⟩)) hf' hi o2 o3 p3 r2 pc (hS c (by simp [Nd.kids])) o0 (xo := h.length) (Nat.le_refl _) (by omega) (b + 1) 0 here _ _ H (by omega) ex (by omega) kv hb' hx k2'.sl (fun _ => by omega) g1' (Is.none.cong fun j => ⟨fun q => q.elim, fun ⟨t', q, _⟩ => by omega⟩) (fun _ => isH.cong fun j => by simp only [Pow]; exact eq_comm)) fun i => rfl
    | set s =>
      simp only [Nd.kind, Nd.st, Nd.lo, Nd.hi] at hx o1
      have kvX := kv.more (Y := X) fun o q => .inl (hXX o q)
      have no : ¬ hit w s i → WP (fun p : Nat => match_matcher_ends_b1 tab p m (I k) (I i) out H) (EQ kk pt w X (.set s) i h) := fun q =>
        b1_spec mv ex kvX hf' hi g1'.sl (Is.none.cong fun j => by simp [R, q]) o0 (hnX _ (by omega))
      by_cases hil : i < w.length
      · obtain ⟨c, hc⟩ : ∃ c, gi w i = c := ⟨_, rfl⟩
        have hwc : w[i]? = some c := by
          have := gi_some (xs := w) (i := (i : Int)) (by omega) (by omega)
          rw [hc] at this; exact this
        by_cases c0 : 0 ≤ c
        · by_cases c5 : c < 5
          · have hand : binV .and .scalar (I (s >>> c.toNat : Nat)) (I 1) = _ := and_i (a := s >>> c.toNat) (b := 1) (Nat.lt_of_le_of_lt (Nat.shiftRight_le ..) o1) (by omega)
            cases hb : s.testBit c.toNat with
            | true =>
              obtain ⟨H5, j1, j2, j3, j4⟩ := g1'.write0 (i := (i : Int) + 1) (by omega) (by simp; omega) (v := .bool true) rfl rfl
              have hg1 := g1'.sl
              simp -implicitDefEqProofs (disch := first | assumption | omega | (simp only [gL] <;> omega) | ((repeat (first | exact Ext.refl _ | assumption | apply Ext.app | apply Ext.mk | (refine Ext.setr ?_ (by (first | omega | (simp only [gL] <;> omega))) _))); done) | (simp only [gL, gA, hg2.idxG, k1, hx, hm.nil, hm.fldA0, hm.ldfE, hwd.lenG, hwd.idxG, hwd.ld0, encI, hc, hand, hb, hg1.idxG, j1] <;> omega) | fail) only [gB, setAll, partL, fldV, reduceIte, Nat.reduceAdd, Nat.reduceMul, hg2.idxG, k1, hx, hm.nil, hm.fldA0, hm.ldfE, hwd.lenG, hwd.idxG, hwd.ld0, encI, hc, hand, hb, hg1.idxG, j1]
              have hkl2 := ex.lt
              refine b1_spec mv (ex.fr j3 (by omega)) ((kv.fr j3 (fun o a1 a2 => (hX' o).2 (.inr ⟨by omega, by omega⟩)) (.inl (by omega))).more fun o q => .inl (hXX o q)) hf' hi (bs := (List.replicate (w.length + 1) false).set (i + 1) true) (j2.cong (by rw [List.map_set]; rfl)).sl ((Is.none.set (by omega)).cong fun j => ?_) o0 (hnX _ (by omega))
              simp only [R, or_false]
              exact ⟨fun q => ⟨⟨c, hwc, c0, c5, hb⟩, q⟩, fun q => q.2⟩
            | false =>
              simp -implicitDefEqProofs (disch := first | assumption | omega | (simp only [gL] <;> omega) | ((repeat (first | exact Ext.refl _ | assumption | apply Ext.app | apply Ext.mk | (refine Ext.setr ?_ (by (first | omega | (simp only [gL] <;> omega))) _))); done) | (simp only [gL, gA, hg2.idxG, k1, hx, hm.nil, hm.fldA0, hm.ldfE, hwd.lenG, hwd.idxG, hwd.ld0, encI, hc, hand, hb] <;> omega) | fail) only [gB, setAll, partL, fldV, reduceIte, Nat.reduceAdd, Nat.reduceMul, hg2.idxG, k1, hx, hm.nil, hm.fldA0, hm.ldfE, hwd.lenG, hwd.idxG, hwd.ld0, encI, hc, hand, hb]
              exact no fun ⟨c', q1, q2, q3, q4⟩ => by rw [hwc] at q1; injection q1 with q1; subst q1; rw [hb] at q4; cases q4
          · simp -implicitDefEqProofs (disch := first | assumption | omega | (simp only [gL] <;> omega) | ((repeat (first | exact Ext.refl _ | assumption | apply Ext.app | apply Ext.mk | (refine Ext.setr ?_ (by (first | omega | (simp only [gL] <;> omega))) _))); done) | (simp only [gL, gA, hg2.idxG, k1, hx, hm.nil, hm.fldA0, hm.ldfE, hwd.lenG, hwd.idxG, hwd.ld0, encI, hc] <;> omega) | fail) only [gB, setAll, partL, fldV, reduceIte, Nat.reduceAdd, Nat.reduceMul, hg2.idxG, k1, hx, hm.nil, hm.fldA0, hm.ldfE, hwd.lenG, hwd.idxG, hwd.ld0, encI, hc]
            exact no fun ⟨c', q1, q2, q3, q4⟩ => by rw [hwc] at q1; injection q1 with q1; subst q1; omega
        · simp -implicitDefEqProofs (disch := first | assumption | omega | (simp only [gL] <;> omega) | ((repeat (first | exact Ext.refl _ | assumption | apply Ext.app | apply Ext.mk | (refine Ext.setr ?_ (by (first | omega | (simp only [gL] <;> omega))) _))); done) | (simp only [gL, gA, hg2.idxG, k1, hx, hm.nil, hm.fldA0, hm.ldfE, hwd.lenG, hwd.idxG, hwd.ld0, encI, hc] <;> omega) | fail) only [gB, setAll, partL, fldV, reduceIte, Nat.reduceAdd, Nat.reduceMul, hg2.idxG, k1, hx, hm.nil, hm.fldA0, hm.ldfE, hwd.lenG, hwd.idxG, hwd.ld0, encI, hc]
          exact no fun ⟨c', q1, q2, q3, q4⟩ => by rw [hwc] at q1; injection q1 with q1; subst q1; omega
      · simp -implicitDefEqProofs (disch := first | assumption | omega | (simp only [gL] <;> omega) | ((repeat (first | exact Ext.refl _ | assumption | apply Ext.app | apply Ext.mk | (refine Ext.setr ?_ (by (first | omega | (simp only [gL] <;> omega))) _))); done) | (simp only [gL, gA, hg2.idxG, k1, hx, hm.nil, hm.fldA0, hm.ldfE, hwd.lenG] <;> omega) | fail) only [gB, setAll, partL, fldV, reduceIte, Nat.reduceAdd, Nat.reduceMul, hg2.idxG, k1, hx, hm.nil, hm.fldA0, hm.ldfE, hwd.lenG]
        exact no fun ⟨c', q1, _⟩ => by rw [List.getElem?_eq_none (by omega)] at q1; cases q1
end
end Go.Gm.A5

set_option linter.unusedVariables false
set_option linter.unusedSimpArgs false
namespace Go.Gm.A5
open Go Go.Gm

theorem Gr.appQ {o : Nat} {h : Heap} {sz bytes : Nat} {s x : AV} {xs ys : List (List AV)} (a : Gr o (o + 1) h sz s xs) (ho : s ≠ .nils → o < h.length) (b : Sl h sz x ys) (hsz : 0 < sz) (hb : 0 < bytes) (hl : (xs.length + ys.length) * bytes ≤ 140737488355328) :
    ∃ s' h' o', apnd sz bytes s x h = some (s', h') ∧ Gr o' (o' + 1) h' sz s' (xs ++ ys) ∧ (s' ≠ .nils → ((o' = o ∧ s ≠ .nils) ∨ h.length ≤ o') ∧ o' < h'.length) ∧ FrS (fun p => s ≠ .nils ∧ p = o) h h' ∧ (s ≠ .nils → o' = o) := by
  by_cases hn : s = .nils
  · obtain ⟨s', h', o', k1, k2, k3, k4⟩ := a.appP ho b hsz hb hl
    exact ⟨s', h', o', k1, k2, k3, k4, fun q => absurd hn q⟩
  · have ho' := ho hn
    obtain ⟨s', h', k1, k2, k3, k4⟩ := a.appendS b hsz hb hl (by omega) (by omega)
    have := k3.len
    exact ⟨s', h', o, k1, (k4 hn).1, fun q => ⟨.inl ⟨rfl, hn⟩, by omega⟩, k3.s.mono fun p _ q => ⟨hn, by omega⟩, fun _ => rfl⟩

mutual
/-- How many parts. -/
def cntN : Nd → Nat
  | .join l => 1 + cntL l
  | .uni l => 1 + cntL l
  | .star n => 1 + cntN n
  | .plus n => 1 + cntN n
  | .opt n => 1 + cntN n
  | .rep _ _ n => 1 + cntN n
  | .set _ => 1
  | .emp => 1
  | .eps => 1
def cntL : List Nd → Nat
  | [] => 0
  | n :: l => cntN n + cntL l
end
theorem cntN_kids (n : Nd) : cntN n = 1 + cntL n.kids := by cases n <;> simp [cntN, Nd.kids, cntL]
theorem cntL_take {l : List Nd} {t : Nat} {c : Nd} (h : l[t]? = some c) : cntL (l.take (t + 1)) = cntL (l.take t) + cntN c := by
  induction l generalizing t with
  | nil => simp at h
  | cons a l ih =>
    cases t with
    | zero => simp only [List.getElem?_cons_zero, Option.some.injEq] at h; subst h; simp [cntL]
    | succ t => simp only [List.take_succ_cons, cntL, ih (by simpa using h)]; omega
/-- As Fl, above some number. -/
inductive FlL (lo : Nat) (pt : List (Nd × List Int)) : Int → Nd → Prop
  | mk {k : Int} {n : Nd} {ks : List Int} : (lo : Int) ≤ k → pt[k.toNat]? = some (n, ks) → ks.length = n.kids.length → (∀ (j : Nat) (c : Nd), n.kids[j]? = some c → FlL lo pt (gi ks j) c) → FlL lo pt k n
theorem FlL.fl {lo : Nat} {pt : List (Nd × List Int)} {k : Int} {n : Nd} (a : FlL lo pt k n) : Fl pt k n := by
  induction a with
  | mk h1 h2 h3 _ ih => exact .mk (by omega) h2 h3 ih
theorem FlL.mono {lo lo' : Nat} {pt pt' : List (Nd × List Int)} {k : Int} {n : Nd} (a : FlL lo pt k n) (hl : lo' ≤ lo) (hp : ∀ (i : Nat) x, lo ≤ i → pt[i]? = some x → pt'[i]? = some x) : FlL lo' pt' k n := by
  induction a with
  | mk h1 h2 h3 _ ih => exact .mk (by omega) (hp _ _ (by omega) h2) h3 ih

/-- The matcher while its parts are laid. X: rows that others still write to. -/
structure FS (h0 h : Heap) (mo po : Nat) (sp sw : AV) (kk : Nat) (cs : List (List AV)) (pt : List (Nd × List Int)) (X : Nat → Prop) : Prop where
  ext : Ext h0 h
  mo0 : h0.length ≤ mo
  row : h[mo]? = some (.cells ⟨[sp, sw, .map kk], 0, 0, false⟩)
  gr : Gr po (po + 1) h 6 sp cs
  po0 : sp ≠ .nils → h0.length ≤ po ∧ po < h.length ∧ po ≠ mo
  len : cs.length = pt.length
  ent : ∀ (i : Nat) n ks, pt[i]? = some (n, ks) → ∃ sl sk, cs[i]? = some [I n.kind, I n.st, I n.lo, I n.hi, sl, sk] ∧ Sl h 1 sk (ks.map encI) ∧ sl.one = true ∧ (sk ≠ .nils → sk.obj ≠ mo ∧ sk.obj ≠ po ∧ ¬ X sk.obj)
theorem Sl.frs {D : Nat → Prop} {h h' : Heap} {sz : Nat} {s : AV} {xs : List (List AV)} (a : Sl h sz s xs) (f : FrS D h h') (hd : s ≠ .nils → ¬ D s.obj) : Sl h' sz s xs := by
  rcases a with a | ⟨o, off, lim, g, c, rfl, h2, h3⟩
  · exact .inl a
  · exact .inr ⟨o, off, lim, g, c, rfl, (f.get (hd (by simp)) (List.getElem?_eq_some_iff.1 h2).1).trans h2, h3⟩

theorem FS.frs {h0 H H' : Heap} {mo po : Nat} {sp sw : AV} {kk : Nat} {cs : List (List AV)} {pt : List (Nd × List Int)} {X X2 : Nat → Prop} (fs : FS h0 H mo po sp sw kk cs pt X) {D : Nat → Prop} (f : FrS D H H') (e : Ext h0 H') (hm : ¬ D mo) (hp : sp ≠ .nils → ¬ D po) (hD : ∀ o, D o → X o) (hX : ∀ o, o < H.length → X2 o → X o) : FS h0 H' mo po sp sw kk cs pt X2 := by
  refine ⟨e, fs.mo0, (f.get hm (List.getElem?_eq_some_iff.1 fs.row).1).trans fs.row, ?_, fun q => ?_, fs.len, fun i n ks q => ?_⟩
  · by_cases hs : sp = .nils
    · subst hs
      have := fs.gr.isNil
      subst this
      exact Gr.nil ..
    · exact fs.gr.frs f fun o q1 q2 => by
        have : o = po := by omega
        subst this; exact hp hs
  · have := fs.po0 q
    have := f.len
    omega
  · obtain ⟨sl, sk, k1, k2, k3, k4⟩ := fs.ent i n ks q
    refine ⟨sl, sk, k1, Sl.frs k2 f fun hs hd => (k4 hs).2.2 (hD _ hd), k3, fun hs => ⟨(k4 hs).1, (k4 hs).2.1, fun hx => (k4 hs).2.2 (hX _ (k2.objLt hs) hx)⟩⟩

theorem Gr.frs' {o : Nat} {h h' : Heap} {sz : Nat} {s : AV} {xs : List (List AV)} (a : Gr o (o + 1) h sz s xs) {D : Nat → Prop} (f : FrS D h h') (hd : s ≠ .nils → ¬ D o) : Gr o (o + 1) h' sz s xs := by
  by_cases hs : s = .nils
  · subst hs
    have := a.isNil
    subst this
    exact Gr.nil ..
  · exact a.frs f fun p q1 q2 => by
      have : p = o := by omega
      subst this; exact hd hs

/-- What laying out promises. -/
abbrev FQ (h0 : Heap) (mo : Nat) (sw : AV) (kk : Nat) (n : Nd) (h : Heap) (po : Nat) (sp : AV) (pt : List (Nd × List Int)) (X : Nat → Prop) (r : AV) (h' : Heap) : Prop :=
  r = I pt.length ∧ ∃ po' sp' cs' pt', FS h0 h' mo po' sp' sw kk cs' pt' X ∧ sp' ≠ .nils ∧ (sp ≠ .nils → po' = po) ∧ (sp = .nils → h.length ≤ po') ∧ FrS (fun o => o = mo ∨ (sp ≠ .nils ∧ o = po)) h h' ∧
    (∀ i : Nat, i < pt.length → pt'[i]? = pt[i]?) ∧ pt'.length ≤ pt.length + cntN n ∧ FlL pt.length pt' pt.length n

section
variable {h0 : Heap} {mo : Nat} {sw : AV} {kk : Nat}
def FlatS (h0 : Heap) (mo : Nat) (sw : AV) (kk : Nat) (n : Nd) : Prop :=
  ∀ (c5 : List AV) (h : Heap) (po : Nat) (sp : AV) (cs : List (List AV)) (pt : List (Nd × List Int)) (X : Nat → Prop), NV h0 n c5 → FS h0 h mo po sp sw kk cs pt X → (∀ o, X o → o < h.length) → pt.length + cntN n ≤ 800000 →
    Tot tab f_match_matcher_flat [.ptr mo 0 3 0, .agg c5] h (FQ h0 mo sw kk n h po sp pt X)

theorem flat_l1 {n : Nd} {css : List (List AV)} {ss : AV} (hcs : Sl h0 5 ss css) (hn : NVs h0 n.kids css) (hkl : n.kids.length ≤ 1000) (hS : ∀ c ∈ n.kids, FlatS h0 mo sw kk c) {h : Heap} {po0 : Nat} {sp0 : AV} {pt : List (Nd × List Int)} {X : Nat → Prop} (hX : ∀ o, X o → o < h.length) (hb : pt.length + cntN n ≤ 800000)
    {po : Nat} (hpo : sp0 ≠ .nils → po = po0) (hpo' : sp0 = .nils → h.length ≤ po) (hl0 : h0.length ≤ h.length) (hmoh : mo < h.length) (hmo : po ≠ mo) :
    ∀ (d t : Nat) (l sp : AV) (ll : Nat) (ks : List Int) (cs : List (List AV)) (pt' : List (Nd × List Int)) (H : Heap), t + d = n.kids.length → ks.length = t →
      FS h0 H mo po sp sw kk cs pt' (fun o => X o ∨ (l ≠ .nils ∧ o = ll)) → sp ≠ .nils → FrS (fun o => o = mo ∨ (sp0 ≠ .nils ∧ o = po0)) h H → Gr ll (ll + 1) H 1 l (ks.map encI) → (l ≠ .nils → h.length ≤ ll ∧ ll < H.length ∧ ll ≠ po) →
      (∀ i : Nat, i < pt.length → pt'[i]? = pt[i]?) → pt'[pt.length]? = some (n, []) → pt'.length ≤ pt.length + 1 + cntL (n.kids.take t) → (∀ (j : Nat) (c : Nd), j < t → n.kids[j]? = some c → FlL (pt.length + 1) pt' (gi ks j) c) →
      WP (fun p : Nat × Nat => match_matcher_flat_l1 tab p.1 p.2 (.ptr mo 0 3 0) (I pt.length) l ss (I n.kids.length) (I t) H) (FQ h0 mo sw kk n h po0 sp0 pt X) := by
  have hlen5 : css.length = n.kids.length := hn.length.symm
  have hcs' : Sl h0 5 ss (css.map fun x => x) := by rw [List.map_id']; exact hcs
  intro d
  induction d with
  | zero =>
    intro t l sp ll ks cs pt' H h1 hks fs hsp fr gl hll hpre hat hle hfl
    refine WP.rnd (fun i' j => match_matcher_flat_l1_eq tab i' j _ _ l ss _ _ H) ?_
    simp -implicitDefEqProofs (disch := first | assumption | omega | (simp only [gL] <;> omega) | ((repeat (first | exact Ext.refl _ | assumption | apply Ext.app | apply Ext.mk | (refine Ext.setr ?_ (by (first | omega | (simp only [gL] <;> omega))) _))); done) | (simp only [gL, gA] <;> omega) | fail) only [gB, setAll, partL, fldV, reduceIte, Nat.reduceAdd, Nat.reduceMul]
    refine WP.lv (WP.congr (fun p => match_matcher_flat_b2_eq tab _ _ _ l H) ?_) fun i j => rfl
    have hrow := fs.row
    have hpl := (List.getElem?_eq_some_iff.1 hat).1
    have hgs := fs.gr.sl
    have hcl := fs.len
    obtain ⟨sl, sk, a1, a2, a3, a4⟩ := fs.ent _ _ _ hat
    obtain ⟨H', k1, k2, k3, k4⟩ := fs.gr.write (i := (pt.length : Int)) (by omega) (by simpa using a1) 5 1 (v := l) (by rw [gl.sl.cells]; rfl) (by omega) (by rw [gl.sl.cells]; simp [gl.sl.one])
    have hgs' : Sl H 6 sp (cs.map fun x => x) := by rw [List.map_id']; exact hgs
    simp -implicitDefEqProofs (disch := first | assumption | omega | (simp only [gL] <;> omega) | ((repeat (first | exact Ext.refl _ | assumption | apply Ext.app | apply Ext.mk | (refine Ext.setr ?_ (by (first | omega | (simp only [gL] <;> omega))) _))); done) | (simp only [gL, gA, hrow, hgs'.idxG, k1] <;> omega) | fail) only [gB, setAll, partL, fldV, reduceIte, Nat.reduceAdd, Nat.reduceMul, hrow, hgs'.idxG, k1]
    have hpo2 := fs.po0 hsp
    have hmol := (List.getElem?_eq_some_iff.1 hrow).1
    have hsa : setAll [I n.kind, I n.st, I n.lo, I n.hi, sl, sk] 5 l.cells = [I n.kind, I n.st, I n.lo, I n.hi, sl, l] := by rw [gl.sl.cells]; rfl
    have k2' : Gr po (po + 1) H' 6 sp (cs.set pt.length [I n.kind, I n.st, I n.lo, I n.hi, sl, l]) := by rw [← hsa]; exact k2
    have hlo : l ≠ .nils → l.obj = ll := fun q => by have := gl.objIn q; omega
    refine WP.ret ⟨rfl, po, sp, _, pt'.set pt.length (n, ks), ⟨k3.ext fs.ext (by omega), fs.mo0, (k3.get (by omega) hmol).trans hrow, k2', fun _ => by omega, by simp [fs.len], fun i n' ks' q => ?_⟩, hsp, hpo, hpo', ⟨by have := fr.len; omega, fun o hD ho => (k3.get (by
      by_cases hsp0 : sp0 = .nils
      · have := hpo' hsp0; omega
      · have := hpo hsp0
        have : o ≠ po0 := fun q => hD (.inr ⟨hsp0, q⟩)
        omega) (by have := fr.len; omega)).trans (fr.get hD ho)⟩, fun i hi => ?_, by rw [List.length_set, cntN_kids]; rw [List.take_of_length_le (by omega)] at hle; omega, ?_⟩
    · by_cases hi : i = pt.length
      · subst hi
        rw [List.getElem?_set_self hpl] at q
        injection q with q
        injection q with q1 q2
        subst q1 q2
        refine ⟨sl, l, List.getElem?_set_self (by omega), gl.sl.fr k3 fun hs => ?_, a3, fun hs => ⟨?_, ?_, fun hx => ?_⟩⟩
        · have := hlo hs; have := hll hs; omega
        · have := hlo hs; have := hll hs; omega
        · have := hlo hs; have := hll hs; omega
        · have := hX _ hx; have := hlo hs; have := hll hs; omega
      · rw [List.getElem?_set_ne (Ne.symm hi)] at q
        obtain ⟨sl', sk', b1, b2, b3, b4⟩ := fs.ent _ _ _ q
        refine ⟨sl', sk', by rw [List.getElem?_set_ne (Ne.symm hi)]; exact b1, b2.fr k3 fun hs => ?_, b3, fun hs => ⟨(b4 hs).1, (b4 hs).2.1, fun hx => (b4 hs).2.2 (.inl hx)⟩⟩
        have := (b4 hs).2.1; omega
    · rw [List.getElem?_set_ne (by omega)]; exact hpre i hi
    · refine .mk (ks := ks) (Int.le_refl _) (by rw [show ((pt.length : Int)).toNat = pt.length from rfl, List.getElem?_set_self hpl]) (by omega) fun j c hj => ?_
      have hjl := (List.getElem?_eq_some_iff.1 hj).1
      exact (hfl j c (by omega) hj).mono (by omega) fun i x q1 q2 => by rw [List.getElem?_set_ne (by omega)]; exact q2
  | succ d ih =>
    intro t l sp ll ks cs pt' H h1 hks fs hsp fr gl hll hpre hat hle hfl
    refine WP.rnd (fun i' j => match_matcher_flat_l1_eq tab i' j _ _ l ss _ _ H) ?_
    have htl : t < n.kids.length := by omega
    have hlt : n.kids[t]? = some n.kids[t] := List.getElem?_eq_getElem htl
    obtain ⟨c5, q1, q2⟩ := hn.get hlt
    have hgc : gi css (t : Int) = c5 := gi_map q1
    obtain ⟨s5, css5, rfl, _, _⟩ := q2.inv
    have hcs'' := hcs'.ext fs.ext
    have e0 := Ext.refl H
    have ho5 := q2.one
    simp only [List.all_cons, List.all_nil, one_int, Bool.true_and, Bool.and_true] at ho5
    simp -implicitDefEqProofs (disch := first | assumption | omega | (simp only [gL] <;> omega) | ((repeat (first | exact Ext.refl _ | assumption | apply Ext.app | apply Ext.mk | (refine Ext.setr ?_ (by (first | omega | (simp only [gL] <;> omega))) _))); done) | (simp only [gL, gA, hcs''.idxG, hcs''.ldN, hgc, ho5] <;> omega) | fail) only [gB, setAll, partL, fldV, reduceIte, Nat.reduceAdd, Nat.reduceMul, hcs''.idxG, hcs''.ldN, hgc, ho5]
    obtain ⟨H3, hh3⟩ : ∃ H3, H3 = (H ++ [AObj.cells ⟨[I 0, I 0, I 0, I 0, .nils], 0, 0, false⟩]).set H.length (.cells ⟨[I n.kids[t].kind, I n.kids[t].st, I n.kids[t].lo, I n.kids[t].hi, s5], 0, 0, false⟩) := ⟨_, rfl⟩
    have e3 : Ext H H3 := by rw [hh3]; ((repeat (first | exact Ext.refl _ | assumption | apply Ext.app | apply Ext.mk | (refine Ext.setr ?_ (by (first | omega | (simp only [gL] <;> omega))) _))))
    rw [show AV.int .i64 0 = I 0 from rfl, ← hh3]
    have hl3 := e3.len
    have hfr := fr.len
    have hcn : cntL (n.kids.take (t + 1)) = cntL (n.kids.take t) + cntN n.kids[t] := cntL_take hlt
    have hcm : cntL (n.kids.take (t + 1)) ≤ cntL n.kids := by
      have : ∀ (l : List Nd) (t : Nat), cntL (l.take t) ≤ cntL l := by
        intro l
        induction l with
        | nil => intro t; simp
        | cons a l ih => intro t; cases t with
          | zero => simp [cntL]
          | succ t => simp only [List.take_succ_cons, cntL]; have := ih t; omega
      exact this _ _
    have hck := cntN_kids n
    have fs3 := fs.frs (X2 := fun o => X o ∨ (l ≠ .nils ∧ o = ll)) (D := fun _ => False) (FrS.ofExt e3) (fs.ext.trans e3) id (fun _ => id) (fun _ q => q.elim) (fun _ _ q => q)
    refine WP.call (hS n.kids[t] (List.getElem_mem htl) _ H3 po sp cs pt' _ q2 fs3 (fun o q => ?_) (by omega)) ?_
    · rcases q with q | q
      · have := hX o q; omega
      · have := hll q.1; omega
    rintro _ H4 ⟨rfl, po', sp', cs', pt2, fs4, hsp', hpo4, _, fr4, hpre4, hle4, hfl4⟩
    have hp4 := (hpo4 hsp).symm
    subst hp4
    have hl4 := fr4.len
    have gl4 := Gr.frs' (gl.ext e3) fr4 (fun hl q => by
      have := hll hl
      rcases q with q | q
      · omega
      · omega)
    simp -implicitDefEqProofs (disch := first | assumption | omega | (simp only [gL] <;> omega) | ((repeat (first | exact Ext.refl _ | assumption | apply Ext.app | apply Ext.mk | (refine Ext.setr ?_ (by (first | omega | (simp only [gL] <;> omega))) _))); done) | (simp only [gL, gA] <;> omega) | fail) only [gB, setAll, partL, fldV, reduceIte, Nat.reduceAdd, Nat.reduceMul]
    rw [← mkObj_eq]
    have e5 : Ext H4 (mkObj H4 [I pt'.length]) := Ext.push H4 _
    have hl5 : (mkObj H4 [I pt'.length]).length = H4.length + 1 := by simp [mkObj]
    obtain ⟨s', H6, o', u1, u2, u3, u4⟩ := (gl4.ext e5).appP (bytes := 8) (fun hl => by have := hll hl; omega) (Gr.lit (sz := 1) (v := [I pt'.length]) rfl).sl (by omega) (by omega) (by simp; omega)
    have hl6 := u4.len
    have hmo6 := (List.getElem?_eq_some_iff.1 fs4.row).1
    have hp6 := fs4.po0 hsp'
    have fs5 := fs4.frs (X2 := fun o => X o ∨ (l ≠ .nils ∧ o = ll)) (D := fun _ => False) (FrS.ofExt e5) (fs4.ext.trans e5) id (fun _ => id) (fun _ q => q.elim) (fun _ _ q => q)
    have fs6 : FS h0 H6 mo po sp' sw kk cs' pt2 (fun o => X o ∨ (s' ≠ .nils ∧ o = o')) := by
      refine fs5.frs u4 (u4.ext fs5.ext fun o ho hD => ?_) (fun q => ?_) (fun _ q => ?_) (fun o q => .inr q) (fun o ho q => ?_)
      · have := hll hD.1; omega
      · have := hll q.1; omega
      · have := hll q.1; omega
      · rcases q with q | ⟨q1, q2⟩
        · exact .inl q
        · rcases (u3 q1).1 with ⟨q3, q4⟩ | q3
          · exact .inr ⟨q4, q2.trans q3⟩
          · omega
    simp only [u1, ob_some]
    have hnl : pt2[pt.length]? = some (n, []) := (hpre4 _ (List.getElem?_eq_some_iff.1 hat).1).trans hat
    refine ih (t + 1) s' sp' o' (ks ++ [(pt'.length : Int)]) cs' pt2 H6 (by omega) (by simp [hks]) fs6 hsp' ⟨by omega, fun o hD ho => ?_⟩ (u2.cong (by simp [encI])) (fun q => ?_) (fun i hi => ?_) hnl (by omega) (fun j c hj hc => ?_)
    · have d1 : o ≠ mo := fun q => hD (.inl q)
      have d2 : o ≠ po := fun q => by
        by_cases hs0 : sp0 = .nils
        · have := hpo' hs0; omega
        · exact hD (.inr ⟨hs0, q.trans (hpo hs0)⟩)
      rw [u4.get (fun q => by have := hll q.1; omega) (by omega), (ext_iff.1 e5).2 o (by omega), fr4.get (by rintro (q | q); exact d1 q; exact d2 q.2) (by omega), (ext_iff.1 e3).2 o (by omega), fr.get hD ho]
    · obtain ⟨q3, q4⟩ := u3 q
      rcases q3 with ⟨rfl, q5⟩ | q3
      · have := hll q5; omega
      · omega
    · rw [hpre4 i (by have := (List.getElem?_eq_some_iff.1 hat).1; omega)]; exact hpre i hi
    · have hpl := (List.getElem?_eq_some_iff.1 hat).1
      by_cases hjt : j = t
      · subst hjt
        rw [hlt] at hc
        injection hc with hc
        subst hc
        rw [gi_map (x := (pt'.length : Int)) (by rw [List.getElem?_append_right (by omega)]; simp [hks])]
        exact hfl4.mono (by omega) fun i x _ q => q
      · have hg1 : gi (ks ++ [(pt'.length : Int)]) (j : Int) = gi ks j := by
          simp only [gi, List.getD_eq_getElem?_getD, Int.toNat_natCast]
          rw [List.getElem?_append_left (by omega)]
        rw [hg1]
        exact (hfl j c (by omega) hc).mono (Nat.le_refl _) fun i x q1 q2 => by rw [hpre4 i (List.getElem?_eq_some_iff.1 q2).1]; exact q2
theorem flat_spec (n : Nd) : Ok n → FlatS h0 mo sw kk n := by
  refine Nd.ind (p := fun n => Ok n → FlatS h0 mo sw kk n) ?_ n
  intro n ih ok c5 h po sp cs pt X nv fs hX hb
  refine WP.tot (fun k' => (call_match_matcher_flat k' _ _ h).trans (match_matcher_flat_eq tab k' _ _ h)) ?_
  cases ok with
  | mk o1 o2 o3 o4 o5 =>
  have hS : ∀ c ∈ n.kids, FlatS h0 mo sw kk c := fun c hc => ih c hc (o5 c hc)
  obtain ⟨s5, css, rfl, sl5, nvs⟩ := nv.inv
  have hrow := fs.row
  have hmol := (List.getElem?_eq_some_iff.1 hrow).1
  have hgs' : Sl h 6 sp (cs.map fun x => x) := by rw [List.map_id']; exact fs.gr.sl
  have e0 := Ext.refl h
  have ho5 : s5.one = true := sl5.one
  obtain ⟨h1, hh1⟩ : ∃ h1, h1 = h ++ [AObj.cells ⟨[I n.kind, I n.st, I n.lo, I n.hi, s5], 0, 0, false⟩] := ⟨_, rfl⟩
  have e1 : Ext h h1 := by rw [hh1]; ((repeat (first | exact Ext.refl _ | assumption | apply Ext.app | apply Ext.mk | (refine Ext.setr ?_ (by (first | omega | (simp only [gL] <;> omega))) _))))
  have hx1 : h1[h.length]? = some (.cells ⟨[I n.kind, I n.st, I n.lo, I n.hi, s5], 0, 0, false⟩) := by rw [hh1]; simp
  have hrow1 := e1.get hrow
  have hl1 : h1.length = h.length + 1 := by rw [hh1]; simp
  have e2 : Ext h1 (mkObj h1 [I n.kind, I n.st, I n.lo, I n.hi, s5, .nils]) := Ext.push h1 _
  have hcl := fs.len
  have hck := cntN_kids n
  obtain ⟨s', H6, o', u1, u2, u3, u4, u5⟩ := Gr.appQ (bytes := 80) ((fs.gr.ext e1).ext e2) (fun hl => by have := fs.po0 hl; simp [mkObj]; omega) (Gr.lit (sz := 6) (v := [I n.kind, I n.st, I n.lo, I n.hi, s5, .nils]) rfl).sl (by omega) (by omega) (by simp; omega)
  simp -implicitDefEqProofs (disch := first | assumption | omega | (simp only [gL] <;> omega) | ((repeat (first | exact Ext.refl _ | assumption | apply Ext.app | apply Ext.mk | (refine Ext.setr ?_ (by (first | omega | (simp only [gL] <;> omega))) _))); done) | (simp only [gL, gA, ho5] <;> omega) | fail) only [gB, setAll, partL, fldV, reduceIte, Nat.reduceAdd, Nat.reduceMul, ho5]
  rw [show AV.int .i64 0 = I 0 from rfl, ← hh1]
  have hl2 : (mkObj h1 [I n.kind, I n.st, I n.lo, I n.hi, s5, .nils]).length = h.length + 2 := by simp [mkObj, hl1]
  have hl6 := u4.len
  have u1' := u1
  rw [hl1, mkObj_eq] at u1'
  have hpos := fs.po0
  have hnm : ¬ (sp ≠ .nils ∧ mo = po) := fun q => by have := hpos q.1; omega
  have hrow6 : H6[mo]? = some (.cells ⟨[sp, sw, .map kk], 0, 0, false⟩) := (u4.get hnm (by omega)).trans (e2.get hrow1)
  have hx6 : H6[h.length]? = some (.cells ⟨[I n.kind, I n.st, I n.lo, I n.hi, s5], 0, 0, false⟩) := (u4.get (fun q => by have := hpos q.1; omega) (by omega)).trans (e2.get hx1)
  have hmo6 : mo < H6.length := by omega
  have hmh : ¬ mo = h.length := by omega
  have hs' : s' ≠ .nils := u2.sl.nnil (by simp)
  have hu3 := u3 hs'
  have sl5' := sl5.ext fs.ext
  have hsl : lenS s5 = some (I n.kids.length) := by rw [sl5.len, nvs.length]
  simp -implicitDefEqProofs (disch := first | assumption | omega | (simp only [gL] <;> omega) | ((repeat (first | exact Ext.refl _ | assumption | apply Ext.app | apply Ext.mk | (refine Ext.setr ?_ (by (first | omega | (simp only [gL] <;> omega))) _))); done) | (simp only [gL, gA, hrow, hgs'.lenG, u1', hrow6, u2.sl.one, u2.sl.cells, hx6, hsl] <;> omega) | fail) only [gB, setAll, partL, fldV, reduceIte, Nat.reduceAdd, Nat.reduceMul, hrow, hgs'.lenG, u1', hrow6, u2.sl.one, u2.sl.cells, hx6, hsl]
  obtain ⟨H7, hH7⟩ : ∃ H7, H7 = H6.set mo (.cells ⟨[s', sw, .map kk], 0, 0, false⟩) := ⟨_, rfl⟩
  have hl7 : H7.length = H6.length := by rw [hH7]; simp
  have hrow7 : H7[mo]? = some (.cells ⟨[s', sw, .map kk], 0, 0, false⟩) := by rw [hH7]; exact get_set_eq hmo6
  have hoth : ∀ o, o ≠ mo → H7[o]? = H6[o]? := fun o q => by rw [hH7]; exact get_set_ne (fun q2 => q q2.symm)
  rw [← hH7, hcl]
  have eA : Ext h (mkObj h1 [I n.kind, I n.st, I n.lo, I n.hi, s5, .nils]) := e1.trans e2
  have hoo : o' = po ∧ sp ≠ .nils ∨ h.length + 2 ≤ o' := by rcases hu3.1 with q | q; exact .inl q; exact .inr (by omega)
  have hom : o' ≠ mo := by rcases hoo with q | q; have := hpos q.2; omega; omega
  have frH : FrS (fun o => o = mo ∨ (sp ≠ .nils ∧ o = po)) h H7 := ⟨by omega, fun o hD ho => by
    rw [hoth o (fun q => hD (.inl q)), u4.get (fun q => hD (.inr q)) (by omega), (ext_iff.1 eA).2 o ho]⟩
  have extH : Ext h0 H7 := by
    refine frH.ext fs.ext fun o ho q => ?_
    rcases q with q | q
    · have := fs.mo0; omega
    · have := hpos q.1; omega
  have fs7 : FS h0 H7 mo o' s' sw kk (cs ++ [[I n.kind, I n.st, I n.lo, I n.hi, s5, .nils]]) (pt ++ [(n, [])]) (fun o => X o ∨ (AV.nils ≠ .nils ∧ o = 0)) := by
    refine ⟨extH, fs.mo0, hrow7, ?_, fun _ => ⟨?_, by omega, hom⟩, by simp [hcl], fun i n' ks q => ?_⟩
    · exact Gr.frs' u2 (D := fun o => o = mo) ⟨by omega, fun o q _ => hoth o q⟩ (fun _ => hom)
    · rcases hoo with q | q
      · have := hpos q.2; omega
      · have := fs.ext.len; omega
    · by_cases hi : i < pt.length
      · rw [List.getElem?_append_left hi] at q
        obtain ⟨sl, sk, a1, a2, a3, a4⟩ := fs.ent _ _ _ q
        refine ⟨sl, sk, by rw [List.getElem?_append_left (by omega)]; exact a1, Sl.frs a2 frH fun hs q => ?_, a3, fun hs => ⟨(a4 hs).1, ?_, fun q => ?_⟩⟩
        · rcases q with q | q
          · exact (a4 hs).1 q
          · exact (a4 hs).2.1 q.2
        · rcases hoo with q | q
          · rw [q.1]; exact (a4 hs).2.1
          · have := a2.objLt hs; omega
        · rcases q with q | q
          · exact (a4 hs).2.2 q
          · exact q.1 rfl
      · have hi2 : i = pt.length := by
          have := (List.getElem?_eq_some_iff.1 q).1
          simp at this; omega
        subst hi2
        rw [List.getElem?_append_right (Nat.le_refl _)] at q
        simp only [Nat.sub_self, List.getElem?_cons_zero, Option.some.injEq, Prod.mk.injEq] at q
        obtain ⟨rfl, rfl⟩ := q
        refine ⟨s5, .nils, by rw [← hcl, List.getElem?_append_right (Nat.le_refl _)]; simp, .inl ⟨rfl, rfl⟩, ho5, fun q => absurd rfl q⟩
  rw [show I 0 = I ((0 : Nat) : Int) from rfl]
  refine WP.ent (flat_l1 (po0 := po) (sp0 := sp) sl5 nvs o4 hS hX (by omega) (po := o') (fun q => ?_) (fun q => ?_) fs.ext.len (by omega) hom n.kids.length 0 .nils s' 0 [] _ _ H7 (by omega) rfl fs7 hs' frH (Gr.nil ..) (fun q => absurd rfl q) (fun i hi => List.getElem?_append_left hi) (by rw [List.getElem?_append_right (Nat.le_refl _)]; simp) (by simp [cntL]) (fun j c q => by omega)) fun i => rfl
  · rcases hoo with q2 | q2
    · exact q2.1
    · exact u5 q
  · rcases hoo with q2 | q2
    · exact absurd q q2.2
    · omega
end
end Go.Gm.A5

set_option linter.unusedVariables false
set_option linter.unusedSimpArgs false
namespace Go.Gm.A5
open Go Go.Gm

theorem ExM.base {k : Nat} {h0 h h' : Heap} (a : ExM k h h') (e : Ext h0 h) (hk : h0.length ≤ k) : Ext h0 h' := by
  rw [ext_iff] at *
  exact ⟨Nat.le_trans e.1 a.len, fun o ho => (a.get o (by omega) (by omega)).trans (e.2 o ho)⟩
/-- Whether a word is in a language. -/
theorem match_spec {n : Nd} {c5 : List AV} {h : Heap} {word : AV} {w : List Int} (nv : NV h n c5) (ok : Ok n) (hcn : cntN n ≤ 800000) (hw : Sl h 1 word (w.map encI)) (hlw : w.length ≤ 900000) :
    Tot tab f_match_Match [.agg c5, word] h fun r h' => Ext h h' ∧ ∃ b, r = .bool b ∧ (b = true ↔ In n w) := by
  refine WP.tot (fun k' => (call_match_Match k' _ _ h).trans (match_Match_eq tab k' _ _ h)) ?_
  have nv' := nv
  obtain ⟨s5, css, rfl, sl5, nvs⟩ := nv.inv
  have ho5 : s5.one = true := sl5.one
  simp -implicitDefEqProofs (disch := first | assumption | omega | (simp only [gL] <;> omega) | ((repeat (first | exact Ext.refl _ | assumption | apply Ext.app | apply Ext.mk | (refine Ext.setr ?_ (by (first | omega | (simp only [gL] <;> omega))) _))); done) | (simp only [gL, gA, ho5, hw.one, hw.cells] <;> omega) | fail) only [gB, setAll, partL, fldV, reduceIte, Nat.reduceAdd, Nat.reduceMul, ho5, hw.one, hw.cells]
  obtain ⟨h3, hh3⟩ : ∃ h3, h3 = ((h ++ [AObj.cells ⟨[I n.kind, I n.st, I n.lo, I n.hi, s5], 0, 0, false⟩]) ++ [AObj.map KS2 []]) ++ [AObj.cells ⟨[.nils, word, .map (h.length + 1)], 0, 0, false⟩] := ⟨_, rfl⟩
  have e3 : Ext h h3 := by rw [hh3]; ((repeat (first | exact Ext.refl _ | assumption | apply Ext.app | apply Ext.mk | (refine Ext.setr ?_ (by (first | omega | (simp only [gL] <;> omega))) _))))
  have hl3 : h3.length = h.length + 3 := by rw [hh3]; simp
  have hk3 : h3[h.length + 1]? = some (.map KS2 []) := by rw [hh3]; simp
  have hm3 : h3[h.length + 2]? = some (.cells ⟨[.nils, word, .map (h.length + 1)], 0, 0, false⟩) := by rw [hh3]; simp
  rw [← hh3]
  have fs : FS h h3 (h.length + 2) 0 .nils word (h.length + 1) [] [] (fun _ => False) := ⟨e3, by omega, hm3, Gr.nil .., fun q => absurd rfl q, rfl, fun i n ks q => by simp at q⟩
  refine WP.call (flat_spec n ok _ h3 0 .nils [] [] (fun _ => False) nv' fs (fun _ q => q.elim) (by simpa using hcn)) ?_
  rintro _ h4 ⟨rfl, po, sp, cs, pt, fs4, hsp, _, _, fr4, _, hle, hfl⟩
  have hl4 := fr4.len
  have hk4 : h4[h.length + 1]? = some (.map KS2 []) := (fr4.get (by
    rintro (q | q)
    · omega
    · exact q.1 rfl) (by omega)).trans hk3
  have hw4 := hw.ext fs4.ext
  have mv : MV h4 (.ptr (h.length + 2) 0 3 0) sp word (h.length + 1) pt w := ⟨At.row (wg := 0) (g := 0) (ro := false) fs4.row (Nat.le_refl _) rfl, ⟨cs, fs4.gr.sl, fs4.len, fun i n ks q => by
    obtain ⟨sl, sk, a1, a2, a3, _⟩ := fs4.ent i n ks q
    exact ⟨sl, sk, a1, a2, a3⟩⟩, hw4, hlw, by simp at hle; omega⟩
  have kv : KV h4 (h.length + 1) pt w (fun _ => False) := ⟨[], hk4, fun k i s q => by simp [findV] at q⟩
  rw [show AV.int .i64 0 = I ((0 : Nat) : Int) from rfl]
  refine WP.call (ends_spec hlw n ok _ 0 h4 (fun _ => False) mv kv (fun _ q => q.elim) hfl.fl (Nat.zero_le _)) ?_
  rintro r h5 ⟨x5, _, r0, _, bs, rs, ri⟩
  have hw5 := hw4.exm x5
  have hbl := ri.1
  have e0 := Ext.refl h5
  obtain ⟨b, hb⟩ : ∃ b, gi bs (w.length : Int) = b := ⟨_, rfl⟩
  simp -implicitDefEqProofs (disch := first | assumption | omega | (simp only [gL] <;> omega) | ((repeat (first | exact Ext.refl _ | assumption | apply Ext.app | apply Ext.mk | (refine Ext.setr ?_ (by (first | omega | (simp only [gL] <;> omega))) _))); done) | (simp only [gL, gA, hw5.lenG, rs.idxG, rs.ld0, encB, hb] <;> omega) | fail) only [gB, setAll, partL, fldV, reduceIte, Nat.reduceAdd, Nat.reduceMul, hw5.lenG, rs.idxG, rs.ld0, encB, hb]
  exact WP.ret ⟨ExM.base x5 fs4.ext (by omega), b, rfl, by rw [← hb]; exact ri.2 w.length⟩
theorem null_spec {n : Nd} {c5 : List AV} {h : Heap} (nv : NV h n c5) (ok : Ok n) (hcn : cntN n ≤ 800000) :
    Tot tab f_match_Null [.agg c5] h fun r h' => Ext h h' ∧ ∃ b, r = .bool b ∧ (b = true ↔ In n []) := by
  refine WP.tot (fun k' => (call_match_Null k' _ h).trans (match_Null_eq tab k' _ h)) ?_
  have nv' := nv
  obtain ⟨s5, css, rfl, sl5, nvs⟩ := nv.inv
  have ho5 : s5.one = true := sl5.one
  simp -implicitDefEqProofs (disch := first | assumption | omega | (simp only [gL] <;> omega) | ((repeat (first | exact Ext.refl _ | assumption | apply Ext.app | apply Ext.mk | (refine Ext.setr ?_ (by (first | omega | (simp only [gL] <;> omega))) _))); done) | (simp only [gL, gA, ho5] <;> omega) | fail) only [gB, setAll, partL, fldV, reduceIte, Nat.reduceAdd, Nat.reduceMul, ho5]
  refine WP.call (match_spec (nv'.keeps (.ofExt (Ext.push h _))) ok hcn (w := []) (.inl ⟨rfl, rfl⟩) (by simp)) ?_
  rintro _ h5 ⟨e5, b, rfl, hb⟩
  exact WP.ret ⟨(Ext.push h _).trans e5, b, rfl, hb⟩
end Go.Gm.A5
