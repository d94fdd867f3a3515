/- A part of the proof: GmA5Q: an abstract machine, what it does, and what the functions of the program come to on it. -/
import Derived.Test.YtdpmglimjmecgaaGmE
import Derived.Test.YtdpmglimjmecgaaGmG
import Derived.Test.YtdpmglimjmecgaaGmN
import Derived.Test.YtdpmglimjmecgaaGmA5T
set_option linter.unusedVariables false
set_option linter.unusedSimpArgs false
namespace Go.Gm.A5
open Go Go.Gm

def encI (n : Int) : List AV := [I n]
def encB (b : Bool) : List AV := [.bool b]
def enc1 (s : AV) : List AV := [s]

theorem none_spec {h : Heap} {m sp sw mp : AV} {w : List Int} (hm : At h m [sp, sw, mp]) (hw : Sl h 1 sw (w.map encI)) (hl : w.length ≤ 1000000) :
    Tot tab f_match_matcher_none [m] h fun r h' => Ext h h' ∧ r ≠ .nils ∧ Gr h.length h'.length h' 1 r ((List.replicate (w.length + 1) false).map encB) := by
  refine WP.tot (fun k => (call_match_matcher_none k _ h).trans (match_matcher_none_eq tab k _ h)) ?_
  obtain ⟨s, h', h1, h2, h3, h4, h5⟩ := mkSl_gr (zero := [.bool false]) (sz := 1) (bytes := 1) (n := w.length + 1) h (by omega) (by omega) (by omega) rfl rfl
  simp -implicitDefEqProofs (disch := first | assumption | omega | (simp -implicitDefEqProofs only [gL] <;> omega) | ((repeat (first | exact Ext.refl _ | assumption | apply Ext.app | apply Ext.mk | (refine Ext.setr ?_ (by (first | omega | (simp -implicitDefEqProofs only [gL] <;> omega))) _))); done) | (simp -implicitDefEqProofs only [gL, gA, hm.nil, hm.fldA0, hm.ldfE, hw.lenG, h1] <;> omega) | fail) only [gB, setAll, partL, fldV, reduceIte, Nat.reduceAdd, Nat.reduceMul, hm.nil, hm.fldA0, hm.ldfE, hw.lenG, h1]
  refine WP.ret ⟨h3, h4, ?_⟩
  have := h2.mono (Nat.le_refl _) (show h.length + 1 ≤ h'.length by omega)
  refine this.cong ?_
  rw [show (((w.length : Int) + 1).toNat) = w.length + 1 by omega, List.map_replicate]
  rfl

/-- Whether anything came new. -/
def Flg (a cur : List Bool) (fl : Bool) : Prop := (fl = true → cntT a < cntT cur) ∧ (fl = false → cur = a)
theorem Flg.le {a cur : List Bool} {fl : Bool} (f : Flg a cur fl) : cntT a ≤ cntT cur := by
  cases fl with
  | true => exact Nat.le_of_lt (f.1 rfl)
  | false => rw [f.2 rfl]; exact Nat.le_refl _

section
variable {lo hi L : Nat} {to more : AV} {m : Nat} {Q : AV → Heap → Prop} {h0 : Heap} {a0 : List Bool}
theorem tog2 (hL : L ≤ 1000000) {s : AV} {a b : List Bool} (hb : b.length = L) {x : Int} (hx : 0 ≤ x ∧ x ≤ 1000000) (hs : Sl h0 1 s (b.map encB)) (hso : s ≠ .nils → s.obj < lo ∨ hi ≤ s.obj)
    (hc : ∀ (cur : List Bool) (fl : Bool) (h : Heap), cur.length = L → (∀ j : Nat, cur.getD j false = true ↔ a.getD j false = true ∨ b.getD j false = true) → Flg a0 cur fl → Gr lo hi h 1 to (cur.map encB) → Fr lo hi h0 h →
      WP (fun p : Nat × Nat => match_together_l1 tab p.1 p.2 to (.bool fl) more (I m) (I (x + 1)) h) Q) :
    ∀ (d i : Nat) (cur : List Bool) (fl : Bool) (h : Heap), i + d = L → cur.length = L → (∀ j : Nat, cur.getD j false = true ↔ a.getD j false = true ∨ (j < i ∧ b.getD j false = true)) → Flg a0 cur fl → Gr lo hi h 1 to (cur.map encB) → Fr lo hi h0 h →
      WP (fun p : (Nat × Nat) × Nat => match_together_l2 tab p.1.1 p.1.2 p.2 to (.bool fl) more (I m) (I x) s (I L) (I i) h) Q := by
  intro d
  induction d with
  | zero =>
    intro i cur fl h h1 h2 h3 h4 h5 h6
    refine WP.rnd (fun i' j => match_together_l2_eq tab i'.1 i'.2 j to (.bool fl) more (I m) (I x) s (I L) (I i) h) ?_
    simp -implicitDefEqProofs (disch := first | assumption | omega | (simp -implicitDefEqProofs only [gL] <;> omega) | ((repeat (first | exact Ext.refl _ | assumption | apply Ext.app | apply Ext.mk | (refine Ext.setr ?_ (by (first | omega | (simp -implicitDefEqProofs only [gL] <;> omega))) _))); done) | (simp -implicitDefEqProofs only [gL, gA] <;> omega) | fail) only [gB, setAll, partL, fldV, reduceIte, Nat.reduceAdd, Nat.reduceMul]
    refine WP.lv (hc cur fl h h2 (fun j => (h3 j).trans ⟨fun q => q.imp id fun q => q.2, fun q => ?_⟩) h4 h5 h6) fun i j => rfl
    rcases q with q | q
    · exact .inl q
    · refine .inr ⟨?_, q⟩
      by_cases hj : j < b.length
      · omega
      · rw [List.getD_eq_getElem?_getD, List.getElem?_eq_none (by omega)] at q; cases q
  | succ d ih =>
    intro i cur fl h h1 h2 h3 h4 h5 h6
    refine WP.rnd (fun i' j => match_together_l2_eq tab i'.1 i'.2 j to (.bool fl) more (I m) (I x) s (I L) (I i) h) ?_
    have hs' := hs.fr h6 hso
    have ht := h5.sl
    have e0 := Ext.refl h
    obtain ⟨v, hv⟩ : ∃ v, gi b i = v := ⟨_, rfl⟩
    have hvb : b.getD i false = v := hv
    have hcv : ∀ u, cur.getD i false = u → gi cur i = u := fun u q => q
    have next : ∀ cur' : List Bool, (∀ j : Nat, cur'.getD j false = true ↔ (if j = i then (cur.getD i false = true ∨ v = true) else cur.getD j false = true)) → ∀ j : Nat, cur'.getD j false = true ↔ a.getD j false = true ∨ (j < i + 1 ∧ b.getD j false = true) := by
      intro cur' hcur j
      rw [hcur j]
      by_cases hj : j = i
      · subst hj
        rw [if_pos rfl, h3 j, hvb]
        constructor
        · rintro ((q | q) | q)
          · exact .inl q
          · omega
          · exact .inr ⟨by omega, q⟩
        · rintro (q | q)
          · exact .inl (.inl q)
          · exact .inr q.2
      · rw [if_neg hj, h3 j]
        constructor
        · rintro (q | q)
          · exact .inl q
          · exact .inr ⟨by omega, q.2⟩
        · rintro (q | q)
          · exact .inl q
          · exact .inr ⟨by omega, q.2⟩
    cases v with
    | false =>
      simp -implicitDefEqProofs (disch := first | assumption | omega | (simp -implicitDefEqProofs only [gL] <;> omega) | ((repeat (first | exact Ext.refl _ | assumption | apply Ext.app | apply Ext.mk | (refine Ext.setr ?_ (by (first | omega | (simp -implicitDefEqProofs only [gL] <;> omega))) _))); done) | (simp -implicitDefEqProofs only [gL, gA, hs'.idxG, hs'.ld0, encB, hv] <;> omega) | fail) only [gB, setAll, partL, fldV, reduceIte, Nat.reduceAdd, Nat.reduceMul, hs'.idxG, hs'.ld0, encB, hv]
      refine ih (i + 1) cur fl h (by omega) h2 (next cur fun j => ?_) h4 h5 h6
      by_cases hj : j = i
      · subst hj; simp
      · rw [if_neg hj]
    | true =>
      cases hcu : cur.getD i false with
      | true =>
        simp -implicitDefEqProofs (disch := first | assumption | omega | (simp -implicitDefEqProofs only [gL] <;> omega) | ((repeat (first | exact Ext.refl _ | assumption | apply Ext.app | apply Ext.mk | (refine Ext.setr ?_ (by (first | omega | (simp -implicitDefEqProofs only [gL] <;> omega))) _))); done) | (simp -implicitDefEqProofs only [gL, gA, hs'.idxG, hs'.ld0, encB, hv, ht.idxG, ht.ld0, hcv _ hcu] <;> omega) | fail) only [gB, setAll, partL, fldV, reduceIte, Nat.reduceAdd, Nat.reduceMul, hs'.idxG, hs'.ld0, encB, hv, ht.idxG, ht.ld0, hcv _ hcu]
        refine ih (i + 1) cur fl h (by omega) h2 (next cur fun j => ?_) h4 h5 h6
        by_cases hj : j = i
        · subst hj; rw [if_pos rfl]; simp only [hcu, true_or]
        · rw [if_neg hj]
      | false =>
        obtain ⟨h', k1, k2, k3, k4⟩ := h5.write0 (i := (i : Int)) (by omega) (by rw [List.length_map]; omega) (v := .bool true) rfl rfl
        have hil : i < cur.length := by omega
        simp -implicitDefEqProofs (disch := first | assumption | omega | (simp -implicitDefEqProofs only [gL] <;> omega) | ((repeat (first | exact Ext.refl _ | assumption | apply Ext.app | apply Ext.mk | (refine Ext.setr ?_ (by (first | omega | (simp -implicitDefEqProofs only [gL] <;> omega))) _))); done) | (simp -implicitDefEqProofs only [gL, gA, hs'.idxG, hs'.ld0, encB, hv, ht.idxG, ht.ld0, hcv _ hcu, k1] <;> omega) | fail) only [gB, setAll, partL, fldV, reduceIte, Nat.reduceAdd, Nat.reduceMul, hs'.idxG, hs'.ld0, encB, hv, ht.idxG, ht.ld0, hcv _ hcu, k1]
        refine ih (i + 1) (cur.set i true) true h' (by omega) (by simpa using h2) (next _ fun j => ?_) ⟨fun _ => ?_, fun q => by cases q⟩ (k2.cong ?_) (h6.trans k3)
        · rw [List.getD_eq_getElem?_getD]
          by_cases hj : j = i
          · subst hj; rw [List.getElem?_set_self hil]; simp
          · rw [List.getElem?_set_ne (Ne.symm hj), if_neg hj, List.getD_eq_getElem?_getD]
        · have := cntT_set (bs := cur) (i := i) (by rw [List.getD_eq_getElem?_getD, List.getElem?_eq_getElem hil] at hcu; rw [List.getElem?_eq_getElem hil]; simpa using hcu)
          have := h4.le
          omega
        · rw [List.map_set]; rfl
theorem tog1 (hL : L ≤ 1000000) {ss : List (AV × List Bool)} (hss : ss.length ≤ 1000000) (hm : Sl h0 1 more (ss.map fun p => enc1 p.1)) (hmo : more ≠ .nils → more.obj < lo ∨ hi ≤ more.obj)
    (hb : ∀ p ∈ ss, p.2.length = L ∧ Sl h0 1 p.1 (p.2.map encB) ∧ (p.1 ≠ .nils → p.1.obj < lo ∨ hi ≤ p.1.obj)) (ha0 : a0.length = L) :
    ∀ (d x : Nat) (cur : List Bool) (fl : Bool) (h : Heap), x + d = ss.length → cur.length = L → (∀ j : Nat, cur.getD j false = true ↔ a0.getD j false = true ∨ ∃ p ∈ ss.take x, p.2.getD j false = true) → Flg a0 cur fl → Gr lo hi h 1 to (cur.map encB) → Fr lo hi h0 h →
      WP (fun p : Nat × Nat => match_together_l1 tab p.1 p.2 to (.bool fl) more (I ss.length) (I x) h) fun r h' => ∃ cur fl, r = .bool fl ∧ cur.length = L ∧ (∀ j : Nat, cur.getD j false = true ↔ a0.getD j false = true ∨ ∃ p ∈ ss, p.2.getD j false = true) ∧ Flg a0 cur fl ∧ Gr lo hi h' 1 to (cur.map encB) ∧ Fr lo hi h0 h' := by
  intro d
  induction d with
  | zero =>
    intro x cur fl h h1 h2 h3 h4 h5 h6
    refine WP.rnd (fun i' j => match_together_l1_eq tab i' j to (.bool fl) more (I ss.length) (I x) h) ?_
    simp -implicitDefEqProofs (disch := first | assumption | omega | (simp -implicitDefEqProofs only [gL] <;> omega) | ((repeat (first | exact Ext.refl _ | assumption | apply Ext.app | apply Ext.mk | (refine Ext.setr ?_ (by (first | omega | (simp -implicitDefEqProofs only [gL] <;> omega))) _))); done) | (simp -implicitDefEqProofs only [gL, gA] <;> omega) | fail) only [gB, setAll, partL, fldV, reduceIte, Nat.reduceAdd, Nat.reduceMul]
    refine WP.lv (WP.ret ⟨cur, fl, rfl, h2, fun j => ?_, h4, h5, h6⟩) fun i j => rfl
    rw [h3 j, List.take_of_length_le (by omega)]
  | succ d ih =>
    intro x cur fl h h1 h2 h3 h4 h5 h6
    refine WP.rnd (fun i' j => match_together_l1_eq tab i' j to (.bool fl) more (I ss.length) (I x) h) ?_
    have hm' := hm.fr h6 hmo
    have e0 := Ext.refl h
    obtain ⟨p, hp⟩ : ∃ p, gi ss x = p := ⟨_, rfl⟩
    have hp2 : ss[x]? = some p := by
      have := gi_some (xs := ss) (i := (x : Int)) (by omega) (by omega)
      rw [hp] at this; exact this
    obtain ⟨b1, b2, b3⟩ := hb p (List.mem_of_getElem? hp2)
    have b2' := b2.fr h6 b3
    simp -implicitDefEqProofs (disch := first | assumption | omega | (simp -implicitDefEqProofs only [gL] <;> omega) | ((repeat (first | exact Ext.refl _ | assumption | apply Ext.app | apply Ext.mk | (refine Ext.setr ?_ (by (first | omega | (simp -implicitDefEqProofs only [gL] <;> omega))) _))); done) | (simp -implicitDefEqProofs only [gL, gA, hm'.idxG, hm'.ld0, enc1, hp, b2'.lenG, b1] <;> omega) | fail) only [gB, setAll, partL, fldV, reduceIte, Nat.reduceAdd, Nat.reduceMul, hm'.idxG, hm'.ld0, enc1, hp, b2'.lenG, b1]
    refine WP.ent (tog2 (a := cur) hL b1 (x := (x : Int)) (by omega) b2 b3 (fun cur' fl' h' q1 q2 q3 q4 q5 => ?_) L 0 cur fl h (by omega) h2 (fun j => ?_) h4 h5 h6) fun i => rfl
    · refine ih (x + 1) cur' fl' h' (by omega) q1 (fun j => ?_) q3 q4 q5
      rw [q2 j, h3 j, List.take_add_one, hp2]
      constructor
      · rintro ((q | ⟨p', hp', q⟩) | q)
        · exact .inl q
        · exact .inr ⟨p', List.mem_append_left _ hp', q⟩
        · exact .inr ⟨p, List.mem_append_right _ (by simp), q⟩
      · rintro (q | ⟨p', hp', q⟩)
        · exact .inl (.inl q)
        · rcases List.mem_append.1 hp' with hp' | hp'
          · exact .inl (.inr ⟨p', hp', q⟩)
          · simp at hp'; subst hp'; exact .inr q
    · constructor
      · exact .inl
      · rintro (q | q)
        · exact q
        · omega
/-- Places laid to others. -/
theorem together_spec {h : Heap} {ss : List (AV × List Bool)} (hL : L ≤ 1000000) (hss : ss.length ≤ 1000000) (ha0 : a0.length = L) (ht : Gr lo hi h 1 to (a0.map encB)) (hm : Sl h 1 more (ss.map fun p => enc1 p.1)) (hmo : more ≠ .nils → more.obj < lo ∨ hi ≤ more.obj)
    (hb : ∀ p ∈ ss, p.2.length = L ∧ Sl h 1 p.1 (p.2.map encB) ∧ (p.1 ≠ .nils → p.1.obj < lo ∨ hi ≤ p.1.obj)) :
    Tot tab f_match_together [to, more] h fun r h' => ∃ cur fl, r = .bool fl ∧ cur.length = L ∧ (∀ j : Nat, cur.getD j false = true ↔ a0.getD j false = true ∨ ∃ p ∈ ss, p.2.getD j false = true) ∧ Flg a0 cur fl ∧ Gr lo hi h' 1 to (cur.map encB) ∧ Fr lo hi h h' := by
  refine WP.tot (fun k => (call_match_together k _ _ h).trans (match_together_eq tab k _ _ h)) ?_
  simp -implicitDefEqProofs (disch := first | assumption | omega | (simp -implicitDefEqProofs only [gL] <;> omega) | ((repeat (first | exact Ext.refl _ | assumption | apply Ext.app | apply Ext.mk | (refine Ext.setr ?_ (by (first | omega | (simp -implicitDefEqProofs only [gL] <;> omega))) _))); done) | (simp -implicitDefEqProofs only [gL, gA, hm.lenG] <;> omega) | fail) only [gB, setAll, partL, fldV, reduceIte, Nat.reduceAdd, Nat.reduceMul, hm.lenG]
  refine WP.ent (tog1 hL hss hm hmo hb ha0 ss.length 0 a0 false h (by omega) ha0 (fun j => by simp) ⟨fun q => (by cases q), fun _ => rfl⟩ ht (Fr.refl _ _ _)) fun i => rfl
end
theorem cloneB_spec {h : Heap} {s : AV} {xs : List (List AV)} (hs : Sl h 1 s xs) (hl : xs.length ≤ 10000000) (hn : xs ≠ []) :
    Tot tab f_slices_Clone_bool [s] h fun r h' => Ext h h' ∧ Gr h.length h'.length h' 1 r xs ∧ r ≠ .nils := by
  refine WP.tot (fun k => (call_slices_Clone_bool k _ h).trans (slices_Clone_bool_eq tab k _ h)) ?_
  have hs' := hs
  rcases hs with ⟨rfl, rfl⟩ | ⟨o, off, lim, g, c, rfl, _⟩
  · exact absurd rfl hn
  · obtain ⟨s', h', h1, h2, h3⟩ := clone_i (bytes := 1) hs' (by omega) (by omega) (by omega)
    rw [mkObj_eq] at h1
    simp -implicitDefEqProofs (disch := first | assumption | omega | (simp -implicitDefEqProofs only [gL] <;> omega) | ((repeat (first | exact Ext.refl _ | assumption | apply Ext.app | apply Ext.mk | (refine Ext.setr ?_ (by (first | omega | (simp -implicitDefEqProofs only [gL] <;> omega))) _))); done) | (simp -implicitDefEqProofs only [gL, gA, h1] <;> omega) | fail) only [gB, setAll, partL, fldV, reduceIte, Nat.reduceAdd, Nat.reduceMul, h1]
    exact WP.ret ⟨h3, h2, h2.sl.nnil hn⟩

/-! ### Expressions in the heap -/
mutual
inductive NV (h : Heap) : Nd → List AV → Prop
  | mk {n : Nd} {s : AV} {css : List (List AV)} : Sl h 5 s css → NVs h n.kids css → NV h n [I n.kind, I n.st, I n.lo, I n.hi, s]
inductive NVs (h : Heap) : List Nd → List (List AV) → Prop
  | nil : NVs h [] []
  | cons {n : Nd} {cs : List AV} {l : List Nd} {css : List (List AV)} : NV h n cs → NVs h l css → NVs h (n :: l) (cs :: css)
end
/-- Views that stay. -/
structure Keeps (h h' : Heap) : Prop where
  cells : ∀ (o : Nat) (c : CObj), h[o]? = some (.cells c) → h'[o]? = some (.cells c)
theorem Keeps.ofExt {h h' : Heap} (e : Ext h h') : Keeps h h' := ⟨fun _ _ q => e.get q⟩
theorem Keeps.ofExM {k : Nat} {h h' : Heap} (e : ExM k h h') : Keeps h h' := ⟨fun _ _ q => e.cells q⟩
theorem Keeps.sl {h h' : Heap} (e : Keeps h h') {sz : Nat} {s : AV} {xs : List (List AV)} (a : Sl h sz s xs) : Sl h' sz s xs := by
  rcases a with a | ⟨o, off, lim, g, c, h1, h2, h3⟩
  · exact .inl a
  · exact .inr ⟨o, off, lim, g, c, h1, e.cells _ _ h2, h3⟩
mutual
theorem NV.keeps {h h' : Heap} (e : Keeps h h') : ∀ {n : Nd} {cs : List AV}, NV h n cs → NV h' n cs
  | _, _, .mk a b => .mk (e.sl a) (NVs.keeps e b)
theorem NVs.keeps {h h' : Heap} (e : Keeps h h') : ∀ {l : List Nd} {css : List (List AV)}, NVs h l css → NVs h' l css
  | _, _, .nil => .nil
  | _, _, .cons a b => .cons (NV.keeps e a) (NVs.keeps e b)
end
theorem NVs.length {h : Heap} : ∀ {l : List Nd} {css : List (List AV)}, NVs h l css → l.length = css.length
  | _, _, .nil => rfl
  | _, _, .cons _ b => by simp [NVs.length b]
theorem NVs.get {h : Heap} : ∀ {l : List Nd} {css : List (List AV)}, NVs h l css → ∀ {i : Nat} {n : Nd}, l[i]? = some n → ∃ cs, css[i]? = some cs ∧ NV h n cs
  | _, _, .nil, i, n, q => by simp at q
  | _, _, .cons a b, 0, n, q => by
    simp only [List.getElem?_cons_zero, Option.some.injEq] at q
    subst q; exact ⟨_, rfl, a⟩
  | _, _, .cons a b, i + 1, n, q => by
    obtain ⟨cs, h1, h2⟩ := NVs.get b (i := i) (by simpa using q)
    exact ⟨cs, by simpa using h1, h2⟩
theorem NVs.snoc {h : Heap} {n : Nd} {cs : List AV} (a : NV h n cs) : ∀ {l : List Nd} {css : List (List AV)}, NVs h l css → NVs h (l ++ [n]) (css ++ [cs])
  | _, _, .nil => .cons a .nil
  | _, _, .cons x y => .cons x (NVs.snoc a y)
theorem NV.len {h : Heap} {n : Nd} {cs : List AV} (a : NV h n cs) : cs.length = 5 := by cases a; rfl
theorem NV.one {h : Heap} {n : Nd} {cs : List AV} (a : NV h n cs) : cs.all AV.one = true := by
  cases a with
  | mk a b => simp only [List.all_cons, List.all_nil, one_int, a.one, Bool.and_self]
theorem NV.inv {h : Heap} {n : Nd} {cs : List AV} (a : NV h n cs) : ∃ s css, cs = [I n.kind, I n.st, I n.lo, I n.hi, s] ∧ Sl h 5 s css ∧ NVs h n.kids css := by
  cases a with
  | mk a b => exact ⟨_, _, rfl, a, b⟩
/-- Bounds of what a text may bear. -/
inductive Ok : Nd → Prop
  | mk {n : Nd} : n.st < 2 ^ 62 → n.lo ≤ 100 → n.hi ≤ 100 → n.kids.length ≤ 1000 → (∀ c ∈ n.kids, Ok c) → Ok n

/-! ### The parts, in a row -/
/-- A part's number; its parts are behind it. -/
inductive Fl (pt : List (Nd × List Int)) : Int → Nd → Prop
  | mk {k : Int} {n : Nd} {ks : List Int} : 0 ≤ k → pt[k.toNat]? = some (n, ks) → ks.length = n.kids.length → (∀ (j : Nat) (c : Nd), n.kids[j]? = some c → Fl pt (gi ks j) c) → Fl pt k n
theorem Fl.fn {pt : List (Nd × List Int)} {k : Int} {n n' : Nd} (a : Fl pt k n) (b : Fl pt k n') : n = n' := by
  cases a with
  | mk _ h1 _ _ =>
    cases b with
    | mk _ h2 _ _ =>
      rw [h1] at h2
      injection h2 with h2
      injection h2
/-- The parts in the heap. -/
def PV (h : Heap) (sp : AV) (pt : List (Nd × List Int)) : Prop :=
  ∃ cs : List (List AV), Sl h 6 sp cs ∧ cs.length = pt.length ∧ ∀ (i : Nat) n ks, pt[i]? = some (n, ks) → ∃ sl sk, cs[i]? = some [I n.kind, I n.st, I n.lo, I n.hi, sl, sk] ∧ Sl h 1 sk (ks.map encI) ∧ sl.one = true
theorem PV.keeps {h h' : Heap} (e : Keeps h h') {sp : AV} {pt : List (Nd × List Int)} (a : PV h sp pt) : PV h' sp pt := by
  obtain ⟨cs, h1, h2, h3⟩ := a
  refine ⟨cs, e.sl h1, h2, fun i n ks q => ?_⟩
  obtain ⟨sl, sk, k1, k2⟩ := h3 i n ks q
  exact ⟨sl, sk, k1, e.sl k2.1, k2.2⟩
abbrev KS2 : KS := .row [.i .i64, .i .i64]
/-- What is known: rows of places that nobody writes to (those of X are still written to). -/
def KV (h : Heap) (kk : Nat) (pt : List (Nd × List Int)) (w : List Int) (X : Nat → Prop) : Prop :=
  ∃ es, h[kk]? = some (.map KS2 es) ∧ ∀ (k i : Int) s, findV (.agg [I k, I i]) es = some s → s ≠ .nils ∧ ¬ X s.obj ∧ ∃ bs, Sl h 1 s (bs.map encB) ∧ ∀ n, Fl pt k n → 0 ≤ i → Is w bs (R w n i.toNat)
theorem KV.isM {h : Heap} {kk : Nat} {pt : List (Nd × List Int)} {w : List Int} {X : Nat → Prop} (a : KV h kk pt w X) : ∃ es, h[kk]? = some (.map KS2 es) := let ⟨es, e, _⟩ := a; ⟨es, e⟩
/-- More heap. -/
theorem KV.ext {h h' : Heap} {kk : Nat} {pt : List (Nd × List Int)} {w : List Int} {X : Nat → Prop} (a : KV h kk pt w X) (e : Ext h h') : KV h' kk pt w X := by
  obtain ⟨es, h1, h2⟩ := a
  refine ⟨es, e.get h1, fun k i s q => ?_⟩
  obtain ⟨g0, g1, bs, g2, g3⟩ := h2 k i s q
  exact ⟨g0, g1, bs, g2.ext e, g3⟩
/-- What lies behind the heap's end is still written to. -/
theorem KV.more {h : Heap} {kk : Nat} {pt : List (Nd × List Int)} {w : List Int} {X Y : Nat → Prop} (a : KV h kk pt w X) (hY : ∀ o, Y o → X o ∨ h.length ≤ o) : KV h kk pt w Y := by
  obtain ⟨es, h1, h2⟩ := a
  refine ⟨es, h1, fun k i s q => ?_⟩
  obtain ⟨g0, g1, bs, g2, g3⟩ := h2 k i s q
  refine ⟨g0, fun y => ?_, bs, g2, g3⟩
  rcases hY _ y with y | y
  · exact g1 y
  · have := g2.objLt g0; omega
/-- Writing to what is still written to. -/
theorem KV.fr {h h' : Heap} {kk : Nat} {pt : List (Nd × List Int)} {w : List Int} {X : Nat → Prop} (a : KV h kk pt w X) {lo hi : Nat} (f : Fr lo hi h h') (hX : ∀ o, lo ≤ o → o < hi → X o) (hk : kk < lo ∨ hi ≤ kk) : KV h' kk pt w X := by
  obtain ⟨es, h1, h2⟩ := a
  refine ⟨es, (f.get hk (List.getElem?_eq_some_iff.1 h1).1).trans h1, fun k i s q => ?_⟩
  obtain ⟨g0, g1, bs, g2, g3⟩ := h2 k i s q
  refine ⟨g0, g1, bs, g2.fr f fun _ => ?_, g3⟩
  by_cases h5 : lo ≤ s.obj ∧ s.obj < hi
  · exact absurd (hX _ h5.1 h5.2) g1
  · omega
/-- One more is known. -/
theorem KV.put {h : Heap} {kk : Nat} {pt : List (Nd × List Int)} {w : List Int} {X : Nat → Prop} (a : KV h kk pt w X) {k i : Int} {s : AV} {bs : List Bool} {n : Nd} (hs : Sl h 1 s (bs.map encB)) (hn : Fl pt k n) (hb : Is w bs (R w n i.toNat)) (hX : ¬ X s.obj) (hs0 : s ≠ .nils) {es : List (AV × AV)} (he : h[kk]? = some (.map KS2 es)) :
    KV (h.set kk (.map KS2 (putE (.agg [I k, I i]) s es))) kk pt w X := by
  obtain ⟨es', h1, h2⟩ := a
  rw [he] at h1
  injection h1 with h1
  injection h1 with _ h1
  subst h1
  have kp := Keeps.ofExM (ExM.put he (putE (.agg [I k, I i]) s es))
  refine ⟨_, List.getElem?_set_self (List.getElem?_eq_some_iff.1 he).1, fun k' i' s' q => ?_⟩
  rw [findV_put] at q
  split at q
  · rename_i hk
    simp only [AV.agg.injEq, List.cons.injEq, AV.int.injEq, true_and, and_true] at hk
    obtain ⟨rfl, rfl⟩ := hk
    injection q with q
    subst q
    refine ⟨hs0, hX, bs, kp.sl hs, fun n' hn' _ => ?_⟩
    rw [← hn.fn hn']; exact hb
  · obtain ⟨g0, g1, bs', g2, g3⟩ := h2 k' i' s' q
    exact ⟨g0, g1, bs', kp.sl g2, g3⟩
end Go.Gm.A5
