/- A part of the proof: GmA5E: an abstract machine, what it does, and what the functions of the program come to on it. -/
import Derived.Test.YtdpmglimjmecgaaGmA5D
set_option linter.unusedVariables false
set_option linter.unusedSimpArgs false
namespace Go.Gm.A5
open Go Go.Gm

/-! ### The word of none -/
theorem R0 {n : Nd} {j : Nat} (h : R [] n 0 j) : j = 0 := by
  have := (R_le n 0 j h).2 (Nat.le_refl _)
  simpa using this
theorem Star0 {n : Nd} {j : Nat} (h : Star (R [] n) 0 j) : j = 0 := by
  induction h with
  | refl => rfl
  | tail a b ih =>
    rw [ih] at b
    exact R0 b
theorem nul_plus {c : Nd} : R [] (.plus c) 0 0 ↔ R [] c 0 0 := by
  simp only [R]
  constructor
  · rintro ⟨m, h, _⟩
    rw [R0 h] at h; exact h
  · intro h; exact ⟨0, h, .refl _⟩
theorem Pow0 {c : Nd} : ∀ {t j : Nat}, Pow (R [] c) t 0 j → j = 0 ∧ (t = 0 ∨ R [] c 0 0)
  | 0, j, h => by cases h; exact ⟨rfl, .inl rfl⟩
  | t + 1, j, ⟨m, h, k⟩ => by
    obtain ⟨rfl, _⟩ := Pow0 h
    have := R0 k
    subst this
    exact ⟨rfl, .inr k⟩
theorem Pow00 {c : Nd} (h : R [] c 0 0) : ∀ t, Pow (R [] c) t 0 0
  | 0 => rfl
  | t + 1 => ⟨0, Pow00 h t, h⟩
theorem nul_rep {a b : Nat} {c : Nd} (hab : a ≤ b) : R [] (.rep a b c) 0 0 ↔ a = 0 ∨ R [] c 0 0 := by
  simp only [R]
  constructor
  · rintro ⟨t, h1, h2, h⟩
    rcases (Pow0 h).2 with q | q
    · exact .inl (by omega)
    · exact .inr q
  · rintro (rfl | h)
    · exact ⟨0, Nat.le_refl _, hab, rfl⟩
    · exact ⟨a, Nat.le_refl _, hab, Pow00 h a⟩
theorem nul_join : ∀ {l : List Nd}, RJ [] l 0 0 ↔ ∀ c ∈ l, R [] c 0 0
  | [] => by simp [RJ]
  | c :: l => by
    simp only [RJ, List.mem_cons, forall_eq_or_imp]
    constructor
    · rintro ⟨m, h, k⟩
      have := R0 h
      subst this
      exact ⟨h, nul_join.1 k⟩
    · rintro ⟨h, k⟩; exact ⟨0, h, nul_join.2 k⟩

def NulS (n : Nd) : Prop := ∀ (c5 : List AV) (h : Heap), NV h n c5 → Tot tab f_milestoneref5_Null [.agg c5] h fun r h' => Ext h h' ∧ ∃ b, r = .bool b ∧ (b = true ↔ R [] n 0 0)
theorem nul_l2 {l : List Nd} (hS : ∀ c ∈ l, NulS c) (hl : l.length ≤ 1000) {n1 s5 : AV} {css : List (List AV)} {h : Heap} (hcs : Sl h 5 s5 css) (nvs : NVs h l css) {q1 q2 q3 q4 : AV} (hn : At h n1 [q1, q2, q3, q4, s5]) :
    ∀ (d t : Nat) (H : Heap), t + d = l.length → Ext h H → (∀ c ∈ l.take t, R [] c 0 0) →
      WP (fun p : Nat × Nat => milestoneref5_Null_l2 tab p.1 p.2 n1 (I t) H) fun r h' => Ext h h' ∧ ∃ b, r = .bool b ∧ (b = true ↔ ∀ c ∈ l, R [] c 0 0) := by
  have hcl := nvs.length
  have hcs0 : Sl h 5 s5 (css.map fun x => x) := by rw [List.map_id']; exact hcs
  intro d
  induction d with
  | zero =>
    intro t H h1 ex hq
    refine WP.rnd (fun i' j => milestoneref5_Null_l2_eq tab i' j n1 (I t) H) ?_
    have hcs' := hcs0.ext ex
    simp -implicitDefEqProofs (disch := first | assumption | omega | (simp -implicitDefEqProofs only [gL] <;> omega) | ((repeat (first | exact Ext.refl _ | assumption | apply Ext.app | apply Ext.mk | (refine Ext.setr ?_ (by (first | omega | (simp -implicitDefEqProofs only [gL] <;> omega))) _))); done) | (simp -implicitDefEqProofs only [gL, gA, hn.fldA0, hn.ldfE, hcs'.lenG] <;> omega) | fail) only [gB, setAll, partL, fldV, reduceIte, Nat.reduceAdd, Nat.reduceMul, hn.fldA0, hn.ldfE, hcs'.lenG]
    rw [List.take_of_length_le (by omega)] at hq
    exact WP.lv (WP.ret ⟨ex, true, rfl, fun _ => hq, fun _ => rfl⟩) fun i j => rfl
  | succ d ih =>
    intro t H h1 ex hq
    refine WP.rnd (fun i' j => milestoneref5_Null_l2_eq tab i' j n1 (I t) H) ?_
    have hcs' := hcs0.ext ex
    have e0 := Ext.refl H
    have hlt : l[t]? = some (l[t]'(by omega)) := List.getElem?_eq_getElem (by omega)
    obtain ⟨cc, a1, a2⟩ := nvs.get hlt
    have hgc : gi css (t : Int) = cc := gi_map a1
    simp -implicitDefEqProofs (disch := first | assumption | omega | (simp -implicitDefEqProofs only [gL] <;> omega) | ((repeat (first | exact Ext.refl _ | assumption | apply Ext.app | apply Ext.mk | (refine Ext.setr ?_ (by (first | omega | (simp -implicitDefEqProofs only [gL] <;> omega))) _))); done) | (simp -implicitDefEqProofs only [gL, gA, hn.fldA0, hn.ldfE, hcs'.lenG, hcs'.idxG, hcs'.ldN, hgc] <;> omega) | fail) only [gB, setAll, partL, fldV, reduceIte, Nat.reduceAdd, Nat.reduceMul, hn.fldA0, hn.ldfE, hcs'.lenG, hcs'.idxG, hcs'.ldN, hgc]
    refine WP.call (hS _ (List.getElem_mem (by omega)) cc H (a2.keeps (.ofExt ex))) ?_
    rintro _ H1 ⟨x1, b, rfl, hb⟩
    cases b with
    | true =>
      simp -implicitDefEqProofs (disch := first | assumption | omega | (simp -implicitDefEqProofs only [gL] <;> omega) | ((repeat (first | exact Ext.refl _ | assumption | apply Ext.app | apply Ext.mk | (refine Ext.setr ?_ (by (first | omega | (simp -implicitDefEqProofs only [gL] <;> omega))) _))); done) | (simp -implicitDefEqProofs only [gL, gA] <;> omega) | fail) only [gB, setAll, partL, fldV, reduceIte, Nat.reduceAdd, Nat.reduceMul]
      refine ih (t + 1) H1 (by omega) (ex.trans x1) fun c hc => ?_
      rw [List.take_add_one, hlt] at hc
      rcases List.mem_append.1 hc with hc | hc
      · exact hq c hc
      · simp at hc; subst hc; exact hb.1 rfl
    | false =>
      simp -implicitDefEqProofs (disch := first | assumption | omega | (simp -implicitDefEqProofs only [gL] <;> omega) | ((repeat (first | exact Ext.refl _ | assumption | apply Ext.app | apply Ext.mk | (refine Ext.setr ?_ (by (first | omega | (simp -implicitDefEqProofs only [gL] <;> omega))) _))); done) | (simp -implicitDefEqProofs only [gL, gA] <;> omega) | fail) only [gB, setAll, partL, fldV, reduceIte, Nat.reduceAdd, Nat.reduceMul]
      refine WP.lv (WP.ret ⟨ex.trans x1, false, rfl, fun q => (by cases q), fun q => ?_⟩) fun i j => rfl
      have := hb.2 (q _ (List.getElem_mem (by omega)))
      cases this
theorem nul_l3 {l : List Nd} (hS : ∀ c ∈ l, NulS c) (hl : l.length ≤ 1000) {n1 s5 : AV} {css : List (List AV)} {h : Heap} (hcs : Sl h 5 s5 css) (nvs : NVs h l css) {q1 q2 q3 q4 : AV} (hn : At h n1 [q1, q2, q3, q4, s5]) :
    ∀ (d t : Nat) (H : Heap), t + d = l.length → Ext h H → (∀ c ∈ l.take t, ¬ R [] c 0 0) →
      WP (fun p : Nat × Nat => milestoneref5_Null_l3 tab p.1 p.2 n1 (I t) H) fun r h' => Ext h h' ∧ ∃ b, r = .bool b ∧ (b = true ↔ ∃ c ∈ l, R [] c 0 0) := by
  have hcl := nvs.length
  have hcs0 : Sl h 5 s5 (css.map fun x => x) := by rw [List.map_id']; exact hcs
  intro d
  induction d with
  | zero =>
    intro t H h1 ex hq
    refine WP.rnd (fun i' j => milestoneref5_Null_l3_eq tab i' j n1 (I t) H) ?_
    have hcs' := hcs0.ext ex
    simp -implicitDefEqProofs (disch := first | assumption | omega | (simp -implicitDefEqProofs only [gL] <;> omega) | ((repeat (first | exact Ext.refl _ | assumption | apply Ext.app | apply Ext.mk | (refine Ext.setr ?_ (by (first | omega | (simp -implicitDefEqProofs only [gL] <;> omega))) _))); done) | (simp -implicitDefEqProofs only [gL, gA, hn.fldA0, hn.ldfE, hcs'.lenG] <;> omega) | fail) only [gB, setAll, partL, fldV, reduceIte, Nat.reduceAdd, Nat.reduceMul, hn.fldA0, hn.ldfE, hcs'.lenG]
    rw [List.take_of_length_le (by omega)] at hq
    exact WP.lv (WP.ret ⟨ex, false, rfl, fun q => (by cases q), fun ⟨c, q, r⟩ => absurd r (hq c q)⟩) fun i j => rfl
  | succ d ih =>
    intro t H h1 ex hq
    refine WP.rnd (fun i' j => milestoneref5_Null_l3_eq tab i' j n1 (I t) H) ?_
    have hcs' := hcs0.ext ex
    have e0 := Ext.refl H
    have hlt : l[t]? = some (l[t]'(by omega)) := List.getElem?_eq_getElem (by omega)
    obtain ⟨cc, a1, a2⟩ := nvs.get hlt
    have hgc : gi css (t : Int) = cc := gi_map a1
    simp -implicitDefEqProofs (disch := first | assumption | omega | (simp -implicitDefEqProofs only [gL] <;> omega) | ((repeat (first | exact Ext.refl _ | assumption | apply Ext.app | apply Ext.mk | (refine Ext.setr ?_ (by (first | omega | (simp -implicitDefEqProofs only [gL] <;> omega))) _))); done) | (simp -implicitDefEqProofs only [gL, gA, hn.fldA0, hn.ldfE, hcs'.lenG, hcs'.idxG, hcs'.ldN, hgc] <;> omega) | fail) only [gB, setAll, partL, fldV, reduceIte, Nat.reduceAdd, Nat.reduceMul, hn.fldA0, hn.ldfE, hcs'.lenG, hcs'.idxG, hcs'.ldN, hgc]
    refine WP.call (hS _ (List.getElem_mem (by omega)) cc H (a2.keeps (.ofExt ex))) ?_
    rintro _ H1 ⟨x1, b, rfl, hb⟩
    cases b with
    | false =>
      simp -implicitDefEqProofs (disch := first | assumption | omega | (simp -implicitDefEqProofs only [gL] <;> omega) | ((repeat (first | exact Ext.refl _ | assumption | apply Ext.app | apply Ext.mk | (refine Ext.setr ?_ (by (first | omega | (simp -implicitDefEqProofs only [gL] <;> omega))) _))); done) | (simp -implicitDefEqProofs only [gL, gA] <;> omega) | fail) only [gB, setAll, partL, fldV, reduceIte, Nat.reduceAdd, Nat.reduceMul]
      refine ih (t + 1) H1 (by omega) (ex.trans x1) fun c hc q => ?_
      rw [List.take_add_one, hlt] at hc
      rcases List.mem_append.1 hc with hc | hc
      · exact hq c hc q
      · simp at hc; subst hc; have := hb.2 q; cases this
    | true =>
      simp -implicitDefEqProofs (disch := first | assumption | omega | (simp -implicitDefEqProofs only [gL] <;> omega) | ((repeat (first | exact Ext.refl _ | assumption | apply Ext.app | apply Ext.mk | (refine Ext.setr ?_ (by (first | omega | (simp -implicitDefEqProofs only [gL] <;> omega))) _))); done) | (simp -implicitDefEqProofs only [gL, gA] <;> omega) | fail) only [gB, setAll, partL, fldV, reduceIte, Nat.reduceAdd, Nat.reduceMul]
      exact WP.lv (WP.ret ⟨ex.trans x1, true, rfl, fun _ => ⟨_, List.getElem_mem (by omega), hb.1 rfl⟩, fun _ => rfl⟩) fun i j => rfl
theorem nul_spec (n : Nd) : Ok n → Wf n → NulS n := by
  refine Nd.ind (p := fun n => Ok n → Wf n → NulS n) ?_ n
  intro n ih ok wf c5 h nv
  refine WP.tot (fun k' => (call_milestoneref5_Null k' _ h).trans (milestoneref5_Null_eq tab k' _ h)) ?_
  have nv' := nv
  obtain ⟨s5, css, rfl, sl5, nvs⟩ := nv.inv
  have ho5 : s5.one = true := sl5.one
  cases ok with
  | mk o1 o2 o3 o4 o5 =>
  cases wf with
  | mk w1 w2 =>
  have hS : ∀ c ∈ n.kids, NulS c := fun c hc => ih c hc (o5 c hc) (w2 c hc)
  obtain ⟨h1, hh1⟩ : ∃ h1, h1 = h ++ [AObj.cells ⟨[I n.kind, I n.st, I n.lo, I n.hi, s5], 0, 0, false⟩] := ⟨_, rfl⟩
  have e1 : Ext h h1 := by rw [hh1]; ((repeat (first | exact Ext.refl _ | assumption | apply Ext.app | apply Ext.mk | (refine Ext.setr ?_ (by (first | omega | (simp -implicitDefEqProofs only [gL] <;> omega))) _))))
  have hx1 : h1[h.length]? = some (.cells ⟨[I n.kind, I n.st, I n.lo, I n.hi, s5], 0, 0, false⟩) := by rw [hh1]; simp
  obtain ⟨n4, hn4⟩ : ∃ n4, n4 = AV.ptr h.length 0 5 0 := ⟨_, rfl⟩
  have at1 : At h1 n4 [I n.kind, I n.st, I n.lo, I n.hi, s5] := by rw [hn4]; exact At.row hx1 (Nat.le_refl _) rfl
  have sl1 := sl5.ext e1
  have sl1' : Sl h1 5 s5 (css.map fun x => x) := by rw [List.map_id']; exact sl1
  have nvs1 := NVs.keeps (.ofExt e1) nvs
  have e0 := Ext.refl h1
  have run : ∀ (b : Bool), (b = true ↔ R [] n 0 0) → WP (fun _ : Nat => some (AV.bool b, h1)) fun r h' => Ext h h' ∧ ∃ b, r = .bool b ∧ (b = true ↔ R [] n 0 0) := fun b q => WP.ret ⟨e1, b, rfl, q⟩
  cases n with
  | set s =>
    simp only [Nd.kind, Nd.st, Nd.lo, Nd.hi] at *
    simp -implicitDefEqProofs (disch := first | assumption | omega | (simp -implicitDefEqProofs only [gL] <;> omega) | ((repeat (first | exact Ext.refl _ | assumption | apply Ext.app | apply Ext.mk | (refine Ext.setr ?_ (by (first | omega | (simp -implicitDefEqProofs only [gL] <;> omega))) _))); done) | (simp -implicitDefEqProofs only [gL, gA, ho5] <;> omega) | fail) only [gB, setAll, partL, fldV, reduceIte, Nat.reduceAdd, Nat.reduceMul, ho5]
    rw [← hh1, ← hn4]
    refine WP.congr (fun k => milestoneref5_Null_b1_eq tab k _ _ _ h1) ?_
    simp -implicitDefEqProofs (disch := first | assumption | omega | (simp -implicitDefEqProofs only [gL] <;> omega) | ((repeat (first | exact Ext.refl _ | assumption | apply Ext.app | apply Ext.mk | (refine Ext.setr ?_ (by (first | omega | (simp -implicitDefEqProofs only [gL] <;> omega))) _))); done) | (simp -implicitDefEqProofs only [gL, gA] <;> omega) | fail) only [gB, setAll, partL, fldV, reduceIte, Nat.reduceAdd, Nat.reduceMul]
    exact run false ⟨fun q => (by cases q), fun q => by simp [R, hit] at q⟩
  | emp =>
    simp only [Nd.kind, Nd.st, Nd.lo, Nd.hi] at *
    simp -implicitDefEqProofs (disch := first | assumption | omega | (simp -implicitDefEqProofs only [gL] <;> omega) | ((repeat (first | exact Ext.refl _ | assumption | apply Ext.app | apply Ext.mk | (refine Ext.setr ?_ (by (first | omega | (simp -implicitDefEqProofs only [gL] <;> omega))) _))); done) | (simp -implicitDefEqProofs only [gL, gA, ho5] <;> omega) | fail) only [gB, setAll, partL, fldV, reduceIte, Nat.reduceAdd, Nat.reduceMul, ho5]
    rw [← hh1, ← hn4]
    refine WP.congr (fun k => milestoneref5_Null_b1_eq tab k _ _ _ h1) ?_
    simp -implicitDefEqProofs (disch := first | assumption | omega | (simp -implicitDefEqProofs only [gL] <;> omega) | ((repeat (first | exact Ext.refl _ | assumption | apply Ext.app | apply Ext.mk | (refine Ext.setr ?_ (by (first | omega | (simp -implicitDefEqProofs only [gL] <;> omega))) _))); done) | (simp -implicitDefEqProofs only [gL, gA] <;> omega) | fail) only [gB, setAll, partL, fldV, reduceIte, Nat.reduceAdd, Nat.reduceMul]
    exact run false ⟨fun q => (by cases q), fun q => by simp [R] at q⟩
  | eps =>
    simp only [Nd.kind, Nd.st, Nd.lo, Nd.hi] at *
    simp -implicitDefEqProofs (disch := first | assumption | omega | (simp -implicitDefEqProofs only [gL] <;> omega) | ((repeat (first | exact Ext.refl _ | assumption | apply Ext.app | apply Ext.mk | (refine Ext.setr ?_ (by (first | omega | (simp -implicitDefEqProofs only [gL] <;> omega))) _))); done) | (simp -implicitDefEqProofs only [gL, gA, ho5] <;> omega) | fail) only [gB, setAll, partL, fldV, reduceIte, Nat.reduceAdd, Nat.reduceMul, ho5]
    rw [← hh1, ← hn4]
    refine WP.congr (fun k => milestoneref5_Null_b1_eq tab k _ _ _ h1) ?_
    simp -implicitDefEqProofs (disch := first | assumption | omega | (simp -implicitDefEqProofs only [gL] <;> omega) | ((repeat (first | exact Ext.refl _ | assumption | apply Ext.app | apply Ext.mk | (refine Ext.setr ?_ (by (first | omega | (simp -implicitDefEqProofs only [gL] <;> omega))) _))); done) | (simp -implicitDefEqProofs only [gL, gA] <;> omega) | fail) only [gB, setAll, partL, fldV, reduceIte, Nat.reduceAdd, Nat.reduceMul]
    exact run true ⟨fun _ => by simp [R], fun _ => rfl⟩
  | star c =>
    simp only [Nd.kind, Nd.st, Nd.lo, Nd.hi] at *
    simp -implicitDefEqProofs (disch := first | assumption | omega | (simp -implicitDefEqProofs only [gL] <;> omega) | ((repeat (first | exact Ext.refl _ | assumption | apply Ext.app | apply Ext.mk | (refine Ext.setr ?_ (by (first | omega | (simp -implicitDefEqProofs only [gL] <;> omega))) _))); done) | (simp -implicitDefEqProofs only [gL, gA, ho5] <;> omega) | fail) only [gB, setAll, partL, fldV, reduceIte, Nat.reduceAdd, Nat.reduceMul, ho5]
    rw [← hh1, ← hn4]
    refine WP.congr (fun k => milestoneref5_Null_b1_eq tab k _ _ _ h1) ?_
    simp -implicitDefEqProofs (disch := first | assumption | omega | (simp -implicitDefEqProofs only [gL] <;> omega) | ((repeat (first | exact Ext.refl _ | assumption | apply Ext.app | apply Ext.mk | (refine Ext.setr ?_ (by (first | omega | (simp -implicitDefEqProofs only [gL] <;> omega))) _))); done) | (simp -implicitDefEqProofs only [gL, gA] <;> omega) | fail) only [gB, setAll, partL, fldV, reduceIte, Nat.reduceAdd, Nat.reduceMul]
    exact run true ⟨fun _ => by simp only [R]; exact .refl _, fun _ => rfl⟩
  | opt c =>
    simp only [Nd.kind, Nd.st, Nd.lo, Nd.hi] at *
    simp -implicitDefEqProofs (disch := first | assumption | omega | (simp -implicitDefEqProofs only [gL] <;> omega) | ((repeat (first | exact Ext.refl _ | assumption | apply Ext.app | apply Ext.mk | (refine Ext.setr ?_ (by (first | omega | (simp -implicitDefEqProofs only [gL] <;> omega))) _))); done) | (simp -implicitDefEqProofs only [gL, gA, ho5] <;> omega) | fail) only [gB, setAll, partL, fldV, reduceIte, Nat.reduceAdd, Nat.reduceMul, ho5]
    rw [← hh1, ← hn4]
    refine WP.congr (fun k => milestoneref5_Null_b1_eq tab k _ _ _ h1) ?_
    simp -implicitDefEqProofs (disch := first | assumption | omega | (simp -implicitDefEqProofs only [gL] <;> omega) | ((repeat (first | exact Ext.refl _ | assumption | apply Ext.app | apply Ext.mk | (refine Ext.setr ?_ (by (first | omega | (simp -implicitDefEqProofs only [gL] <;> omega))) _))); done) | (simp -implicitDefEqProofs only [gL, gA] <;> omega) | fail) only [gB, setAll, partL, fldV, reduceIte, Nat.reduceAdd, Nat.reduceMul]
    exact run true ⟨fun _ => by simp [R], fun _ => rfl⟩
  | plus c =>
    simp only [Nd.kind, Nd.st, Nd.lo, Nd.hi] at *
    obtain ⟨cc, rfl, nc⟩ := nvs1.one
    have hgc : gi [cc] (0 : Int) = cc := rfl
    simp -implicitDefEqProofs (disch := first | assumption | omega | (simp -implicitDefEqProofs only [gL] <;> omega) | ((repeat (first | exact Ext.refl _ | assumption | apply Ext.app | apply Ext.mk | (refine Ext.setr ?_ (by (first | omega | (simp -implicitDefEqProofs only [gL] <;> omega))) _))); done) | (simp -implicitDefEqProofs only [gL, gA, ho5] <;> omega) | fail) only [gB, setAll, partL, fldV, reduceIte, Nat.reduceAdd, Nat.reduceMul, ho5]
    rw [← hh1, ← hn4]
    refine WP.congr (fun k => milestoneref5_Null_b1_eq tab k _ _ _ h1) ?_
    simp -implicitDefEqProofs (disch := first | assumption | omega | (simp -implicitDefEqProofs only [gL] <;> omega) | ((repeat (first | exact Ext.refl _ | assumption | apply Ext.app | apply Ext.mk | (refine Ext.setr ?_ (by (first | omega | (simp -implicitDefEqProofs only [gL] <;> omega))) _))); done) | (simp -implicitDefEqProofs only [gL, gA, at1.fldA0, at1.ldfE, sl1'.idxG, sl1'.ldN, hgc] <;> omega) | fail) only [gB, setAll, partL, fldV, reduceIte, Nat.reduceAdd, Nat.reduceMul, at1.fldA0, at1.ldfE, sl1'.idxG, sl1'.ldN, hgc]
    refine WP.call (hS c (by simp [Nd.kids]) cc h1 nc) ?_
    rintro _ H1 ⟨x1, b, rfl, hb⟩
    exact WP.ret ⟨e1.trans x1, b, rfl, hb.trans nul_plus.symm⟩
  | rep a b c =>
    simp only [Nd.kind, Nd.st, Nd.lo, Nd.hi] at *
    obtain ⟨cc, rfl, nc⟩ := nvs1.one
    have hgc : gi [cc] (0 : Int) = cc := rfl
    simp -implicitDefEqProofs (disch := first | assumption | omega | (simp -implicitDefEqProofs only [gL] <;> omega) | ((repeat (first | exact Ext.refl _ | assumption | apply Ext.app | apply Ext.mk | (refine Ext.setr ?_ (by (first | omega | (simp -implicitDefEqProofs only [gL] <;> omega))) _))); done) | (simp -implicitDefEqProofs only [gL, gA, ho5] <;> omega) | fail) only [gB, setAll, partL, fldV, reduceIte, Nat.reduceAdd, Nat.reduceMul, ho5]
    rw [← hh1, ← hn4]
    refine WP.congr (fun k => milestoneref5_Null_b1_eq tab k _ _ _ h1) ?_
    by_cases ha : a = 0
    · simp -implicitDefEqProofs (disch := first | assumption | omega | (simp -implicitDefEqProofs only [gL] <;> omega) | ((repeat (first | exact Ext.refl _ | assumption | apply Ext.app | apply Ext.mk | (refine Ext.setr ?_ (by (first | omega | (simp -implicitDefEqProofs only [gL] <;> omega))) _))); done) | (simp -implicitDefEqProofs only [gL, gA, at1.fldA0, at1.ldfE] <;> omega) | fail) only [gB, setAll, partL, fldV, reduceIte, Nat.reduceAdd, Nat.reduceMul, at1.fldA0, at1.ldfE]
      exact run true ⟨fun _ => (nul_rep w1).2 (.inl ha), fun _ => rfl⟩
    · simp -implicitDefEqProofs (disch := first | assumption | omega | (simp -implicitDefEqProofs only [gL] <;> omega) | ((repeat (first | exact Ext.refl _ | assumption | apply Ext.app | apply Ext.mk | (refine Ext.setr ?_ (by (first | omega | (simp -implicitDefEqProofs only [gL] <;> omega))) _))); done) | (simp -implicitDefEqProofs only [gL, gA, at1.fldA0, at1.ldfE, sl1'.idxG, sl1'.ldN, hgc] <;> omega) | fail) only [gB, setAll, partL, fldV, reduceIte, Nat.reduceAdd, Nat.reduceMul, at1.fldA0, at1.ldfE, sl1'.idxG, sl1'.ldN, hgc]
      refine WP.call (hS c (by simp [Nd.kids]) cc h1 nc) ?_
      rintro _ H1 ⟨x1, b, rfl, hb⟩
      exact WP.ret ⟨e1.trans x1, b, rfl, hb.trans ⟨fun q => (nul_rep w1).2 (.inr q), fun q => ((nul_rep w1).1 q).resolve_left ha⟩⟩
  | join l =>
    simp only [Nd.kind, Nd.st, Nd.lo, Nd.hi, Nd.kids] at *
    simp -implicitDefEqProofs (disch := first | assumption | omega | (simp -implicitDefEqProofs only [gL] <;> omega) | ((repeat (first | exact Ext.refl _ | assumption | apply Ext.app | apply Ext.mk | (refine Ext.setr ?_ (by (first | omega | (simp -implicitDefEqProofs only [gL] <;> omega))) _))); done) | (simp -implicitDefEqProofs only [gL, gA, ho5] <;> omega) | fail) only [gB, setAll, partL, fldV, reduceIte, Nat.reduceAdd, Nat.reduceMul, ho5]
    rw [← hh1, ← hn4]
    refine WP.congr (fun k => milestoneref5_Null_b1_eq tab k _ _ _ h1) ?_
    simp -implicitDefEqProofs (disch := first | assumption | omega | (simp -implicitDefEqProofs only [gL] <;> omega) | ((repeat (first | exact Ext.refl _ | assumption | apply Ext.app | apply Ext.mk | (refine Ext.setr ?_ (by (first | omega | (simp -implicitDefEqProofs only [gL] <;> omega))) _))); done) | (simp -implicitDefEqProofs only [gL, gA] <;> omega) | fail) only [gB, setAll, partL, fldV, reduceIte, Nat.reduceAdd, Nat.reduceMul]
    rw [show AV.int .i64 0 = I ((0 : Nat) : Int) from rfl]
    refine WP.ent (WP.mono (nul_l2 hS o4 sl1 nvs1 at1 l.length 0 h1 (by simp) e0 (by simp)) ?_) fun i => rfl
    rintro r h2 ⟨e2, b, rfl, hb⟩
    exact ⟨e1.trans e2, b, rfl, hb.trans (by simp only [R]; exact nul_join.symm)⟩
  | uni l =>
    simp only [Nd.kind, Nd.st, Nd.lo, Nd.hi, Nd.kids] at *
    simp -implicitDefEqProofs (disch := first | assumption | omega | (simp -implicitDefEqProofs only [gL] <;> omega) | ((repeat (first | exact Ext.refl _ | assumption | apply Ext.app | apply Ext.mk | (refine Ext.setr ?_ (by (first | omega | (simp -implicitDefEqProofs only [gL] <;> omega))) _))); done) | (simp -implicitDefEqProofs only [gL, gA, ho5] <;> omega) | fail) only [gB, setAll, partL, fldV, reduceIte, Nat.reduceAdd, Nat.reduceMul, ho5]
    rw [← hh1, ← hn4]
    refine WP.congr (fun k => milestoneref5_Null_b1_eq tab k _ _ _ h1) ?_
    simp -implicitDefEqProofs (disch := first | assumption | omega | (simp -implicitDefEqProofs only [gL] <;> omega) | ((repeat (first | exact Ext.refl _ | assumption | apply Ext.app | apply Ext.mk | (refine Ext.setr ?_ (by (first | omega | (simp -implicitDefEqProofs only [gL] <;> omega))) _))); done) | (simp -implicitDefEqProofs only [gL, gA] <;> omega) | fail) only [gB, setAll, partL, fldV, reduceIte, Nat.reduceAdd, Nat.reduceMul]
    rw [show AV.int .i64 0 = I ((0 : Nat) : Int) from rfl]
    refine WP.ent (WP.mono (nul_l3 hS o4 sl1 nvs1 at1 l.length 0 h1 (by simp) e0 (by simp)) ?_) fun i => rfl
    rintro r h2 ⟨e2, b, rfl, hb⟩
    exact ⟨e1.trans e2, b, rfl, hb.trans (by simp only [R]; exact RU_iff.symm)⟩
end Go.Gm.A5
