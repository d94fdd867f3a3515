/- A part of the proof (GmA5PB): an abstract machine, what it does, and what the functions of the program come to on it. -/
import Derived.Test.YtdpmglimjmecgaaGmA5P
set_option linter.unusedVariables false
set_option linter.unusedSimpArgs false
namespace Go.Gm.A5
open Go Go.Gm

abbrev RD (S : ByteArray) (p d : Nat) : AObj := .cells ⟨[.str S, I p, I d, I 0], 0, 0, false⟩
abbrev Z5 : AObj := .cells ⟨[I 0, I 0, I 0, I 0, .nils], 0, 0, false⟩
section
variable (S : ByteArray) (ro : Nat) (f : Nat)
def AtS : Prop := ∀ (d p : Nat) (n : Nd) (q : Nat) (h : Heap), prs S f d .at p = some (n, q) → d ≤ 30 → h[ro]? = some (RD S p d) → Tot tab f_milestoneref4_reader_atom [.ptr ro 0 4 0] h (PR S ro h d n q)
def PcS : Prop := ∀ (d p : Nat) (n : Nd) (q : Nat) (h : Heap), prs S f d .pc p = some (n, q) → d ≤ 30 → h[ro]? = some (RD S p d) → Tot tab f_milestoneref4_reader_piece [.ptr ro 0 4 0] h (PR S ro h d n q)
def JnS : Prop := ∀ (d p : Nat) (n : Nd) (q : Nat) (h : Heap), prs S f d .jn p = some (n, q) → d ≤ 30 → h[ro]? = some (RD S p d) → Tot tab f_milestoneref4_reader_join [.ptr ro 0 4 0] h (PR S ro h d n q)
def UnS : Prop := ∀ (d p : Nat) (n : Nd) (q : Nat) (h : Heap), prs S f d .un p = some (n, q) → d ≤ 30 → h[ro]? = some (RD S p d) → Tot tab f_milestoneref4_reader_union [.ptr ro 0 4 0] h (PR S ro h d n q)
def PclS : Prop := ∀ (d p : Nat) (n m : Nd) (q : Nat) (h H : Heap) (no : Nat) (c5 : List AV), prs S f d (.pcl n) p = some (m, q) → d ≤ 30 → ro < h.length → FrS (fun o => o = ro) h H → H[ro]? = some (RD S p d) → H[h.length]? = some Z5 → h.length < no → H[no]? = some (.cells ⟨c5, 0, 0, false⟩) →
  NVD H (fun o => h.length < o ∧ o < H.length ∧ o ≠ no) n c5 → WP (fun p' : Nat × Nat => milestoneref4_reader_piece_l1 tab p'.1 p'.2 (.ptr ro 0 4 0) (.ptr h.length 0 5 0) (.ptr no 0 5 0) H) (PR S ro h d m q)
/-- A list of expressions that grows. -/
structure NL (S : ByteArray) (ro : Nat) (h H : Heap) (d p : Nat) (s : AV) (lg : Nat) (l : List Nd) (css : List (List AV)) : Prop where
  hro : ro < h.length
  fr : FrS (fun o => o = ro) h H
  hr : H[ro]? = some (RD S p d)
  ht : H[h.length]? = some Z5
  gr : Gr lg (lg + 1) H 5 s css
  lgl : h.length < lg ∧ lg < H.length
  nn : s ≠ .nils
  nvs : NVDs H (fun o => h.length < o ∧ o < H.length ∧ o ≠ lg) l css
def JnlS : Prop := ∀ (d p : Nat) (l : List Nd) (m : Nd) (q : Nat) (h H : Heap) (s : AV) (lg : Nat) (css : List (List AV)), prs S f d (.jnl l) p = some (m, q) → d ≤ 30 → l ≠ [] → l.length + f ≤ 1000000 → NL S ro h H d p s lg l css →
  WP (fun p' : Nat × Nat => milestoneref4_reader_join_l1 tab p'.1 p'.2 (.ptr ro 0 4 0) (.ptr h.length 0 5 0) s H) (PR S ro h d m q)
def UnlS : Prop := ∀ (d p : Nat) (l : List Nd) (m : Nd) (q : Nat) (h H : Heap) (s : AV) (lg : Nat) (css : List (List AV)), prs S f d (.unl l) p = some (m, q) → d ≤ 30 → l ≠ [] → l.length + f ≤ 1000000 → NL S ro h H d p s lg l css →
  WP (fun p' : Nat × Nat => milestoneref4_reader_union_l1 tab p'.1 p'.2 (.ptr ro 0 4 0) (.ptr h.length 0 5 0) s H) (PR S ro h d m q)
end
section
variable {S : ByteArray} {ro : Nat} {f : Nat}
theorem group_spec (hU : UnS S ro f) (hS : S.size ≤ 200) {h : Heap} {p d q : Nat} {n : Nd} (hu : prs S f (d + 1) .un p = some (n, q)) (h41 : bt S q = some 41) (hd : d < 30) (hr : h[ro]? = some (RD S p d)) :
    Tot tab f_milestoneref4_reader_group [.ptr ro 0 4 0] h (PR S ro h d n (q + 1)) := by
  refine WP.tot (fun k => (call_milestoneref4_reader_group k _ h).trans (milestoneref4_reader_group_eq tab k _ h)) ?_
  have hro := (List.getElem?_eq_some_iff.1 hr).1
  have hq := bt_lt h41
  obtain ⟨H1, hH1⟩ : ∃ H1, H1 = (h ++ [Z5]).set ro (.cells ⟨[.str S, I p, I ((d : Int) + 1), I 0], 0, 0, false⟩) := ⟨_, rfl⟩
  have r1 : H1[ro]? = some (RD S p (d + 1)) := by rw [hH1, List.getElem?_set_self (by simp; omega)]; rfl
  have t1 : H1[h.length]? = some Z5 := by rw [hH1, List.getElem?_set_ne (by omega)]; simp
  have f1 : FrS (fun o => o = ro) h H1 := by rw [hH1]; exact fr_set (FrS.ofExt (Ext.push _ _)) _
  have l1 : H1.length = h.length + 1 := by rw [hH1]; simp
  simp -implicitDefEqProofs (disch := first | assumption | omega | (simp only [gL] <;> omega) | ((repeat (first | exact Ext.refl _ | assumption | apply Ext.app | apply Ext.mk | (refine Ext.setr ?_ (by (first | omega | (simp only [gL] <;> omega))) _))); done) | (simp only [gL, gA, hr] <;> omega) | fail) only [gB, setAll, partL, fldV, reduceIte, Nat.reduceAdd, Nat.reduceMul, hr]
  rw [← hH1]
  refine WP.call (hU (d + 1) p n q H1 hu (by omega) r1) ?_
  rintro _ H2 ⟨f2, r2, c5, rfl, nv⟩
  obtain ⟨s5, rfl, ho5⟩ := nv.inv
  have l2 := f2.len
  have t2 : H2[h.length]? = some Z5 := (f2.get (by omega) (by omega)).trans t1
  have e3 : Ext H2 (H2 ++ [AObj.cells ⟨[I n.kind, I n.st, I n.lo, I n.hi, s5], 0, 0, false⟩]) := Ext.push _ _
  have r3 := e3.get r2
  have t3 := e3.get t2
  have x3 : (H2 ++ [AObj.cells ⟨[I n.kind, I n.st, I n.lo, I n.hi, s5], 0, 0, false⟩])[H2.length]? = some (.cells ⟨[I n.kind, I n.st, I n.lo, I n.hi, s5], 0, 0, false⟩) := by simp
  simp -implicitDefEqProofs (disch := first | assumption | omega | (simp only [gL] <;> omega) | ((repeat (first | exact Ext.refl _ | assumption | apply Ext.app | apply Ext.mk | (refine Ext.setr ?_ (by (first | omega | (simp only [gL] <;> omega))) _))); done) | (simp only [gL, gA, ho5, set_lastO] <;> omega) | fail) only [gB, setAll, partL, fldV, reduceIte, Nat.reduceAdd, Nat.reduceMul, ho5, set_lastO]
  have f3 : FrS (fun o => o = ro) h (H2 ++ [AObj.cells ⟨[I n.kind, I n.st, I n.lo, I n.hi, s5], 0, 0, false⟩]) := (f1.trans f2).trans (FrS.ofExt e3)
  have nv3 := nv.ext e3 (D' := fun o => h.length < o ∧ o < H2.length) fun o h1 h2 => by omega
  have l3 : H2.length < (H2 ++ [AObj.cells ⟨[I n.kind, I n.st, I n.lo, I n.hi, s5], 0, 0, false⟩]).length := by simp
  generalize H2 ++ [AObj.cells ⟨[I n.kind, I n.st, I n.lo, I n.hi, s5], 0, 0, false⟩] = H3 at *
  refine WP.call (next_t r3 h41) ?_
  rintro _ _ ⟨rfl, rfl⟩
  have b1 := neu_f (a := 41) (b := 41) rfl
  have hne : ¬ ro = h.length := by omega
  have hne2 : ¬ ro = H2.length := by omega
  have hrl : ro < H3.length := by omega
  have hd1 : ((d + 1 : Nat) : Int) - 1 = d := by omega
  simp -implicitDefEqProofs (disch := first | assumption | omega | (simp only [gL] <;> omega) | ((repeat (first | exact Ext.refl _ | assumption | apply Ext.app | apply Ext.mk | (refine Ext.setr ?_ (by (first | omega | (simp only [gL] <;> omega))) _))); done) | (simp only [gL, gA, extr_tup, b1, r3, hd1, x3, ho5, t3] <;> omega) | fail) only [gB, setAll, partL, fldV, reduceIte, Nat.reduceAdd, Nat.reduceMul, extr_tup, b1, r3, hd1, x3, ho5, t3]
  refine WP.ret (PR.fin hro (fr_set (fr_set f3 _) _) ?_ ((nv3.frs (FrS.set1 H3 ro _) (D' := fun o => h.length < o ∧ o < H3.length) (fun o h1 h2 h3 => by omega) (fun o h1 h2 => by omega)).frs (FrS.set1 _ ro _) (fun o h1 h2 h3 => by omega) fun o h1 h2 => by simp; omega))
  rw [List.getElem?_set_self (by simp; exact hrl)]
  rfl
theorem at_step (hU : UnS S ro f) (hS : S.size ≤ 200) : AtS S ro (f + 1) := by
  intro d p n q h hp hd hr
  refine WP.tot (fun k => (call_milestoneref4_reader_atom k _ h).trans (milestoneref4_reader_atom_eq tab k _ h)) ?_
  have hro := (List.getElem?_eq_some_iff.1 hr).1
  have e1 : Ext h (h ++ [Z5]) := Ext.push _ _
  have r1 := e1.get hr
  have t1 : (h ++ [Z5])[h.length]? = some Z5 := by simp
  have f1 : FrS (fun o => o = ro) h (h ++ [Z5]) := FrS.ofExt e1
  have l1 : (h ++ [Z5]).length = h.length + 1 := by simp
  rw [prs] at hp
  cases hb : bt S p with
  | none => rw [hb] at hp; cases hp
  | some c =>
  rw [hb] at hp
  simp only at hp
  have hlt := bt_lt hb
  simp -implicitDefEqProofs (disch := first | assumption | omega | (simp only [gL] <;> omega) | ((repeat (first | exact Ext.refl _ | assumption | apply Ext.app | apply Ext.mk | (refine Ext.setr ?_ (by (first | omega | (simp only [gL] <;> omega))) _))); done) | (simp only [gL, gA] <;> omega) | fail) only [gB, setAll, partL, fldV, reduceIte, Nat.reduceAdd, Nat.reduceMul]
  generalize h ++ [Z5] = H1 at *
  refine WP.call (next_t r1 hb) ?_
  rintro _ _ ⟨rfl, rfl⟩
  have hne : ¬ ro = h.length := by omega
  have hrl : ro < H1.length := by omega
  obtain ⟨H2, hH2⟩ : ∃ H2, H2 = H1.set ro (.cells ⟨[.str S, I ((p : Int) + 1), I d, I 0], 0, 0, false⟩) := ⟨_, rfl⟩
  have r2 : H2[ro]? = some (RD S (p + 1) d) := by rw [hH2, List.getElem?_set_self hrl]; rfl
  have t2 : H2[h.length]? = some Z5 := by rw [hH2, List.getElem?_set_ne hne]; exact t1
  have f2 : FrS (fun o => o = ro) h H2 := by rw [hH2]; exact fr_set f1 _
  have l2 : H2.length = h.length + 1 := by rw [hH2]; simp; exact l1
  have leaf : ∀ {n : Nd}, n.kids = [] → PR S ro h d n (p + 1) (.agg [I n.kind, I n.st, I n.lo, I n.hi, .nils]) (H2.set h.length (.cells ⟨[I n.kind, I n.st, I n.lo, I n.hi, .nils], 0, 0, false⟩)) := fun hk => PR.fin hro f2 r2 (nvd_leaf hk)
  have callee : ∀ {n : Nd} {q : Nat} {v : AV} {H3 : Heap}, PR S ro H2 d n q v H3 → ∃ s5, v = .agg [I n.kind, I n.st, I n.lo, I n.hi, s5] ∧ s5.one = true ∧ H3[h.length]? = some Z5 ∧ h.length < H3.length ∧ PR S ro h d n q v (H3.set h.length (.cells ⟨[I n.kind, I n.st, I n.lo, I n.hi, s5], 0, 0, false⟩)) := by
    rintro n q v H3 ⟨f3, r3, c5, rfl, nv⟩
    obtain ⟨s5, rfl, ho5⟩ := nv.inv
    have := f3.len
    exact ⟨s5, rfl, ho5, (f3.get (by omega) (by omega)).trans t2, by omega, PR.fin hro (f2.trans f3) r3 (nv.frs (FrS.refl (fun _ => False) _) (fun _ _ _ z => z) fun o h1 h2 => by omega)⟩
  by_cases h40 : c = 40
  · subst h40
    rw [if_pos rfl] at hp
    by_cases h30 : 30 ≤ d
    · rw [if_pos h30] at hp; cases hp
    rw [if_neg h30] at hp
    cases hu : prs S f (d + 1) .un (p + 1) with
    | none => rw [hu] at hp; cases hp
    | some x =>
    obtain ⟨n', q'⟩ := x
    rw [hu] at hp
    simp only at hp
    by_cases h41 : bt S q' = some 41
    · rw [if_pos h41] at hp
      injection hp with hp
      injection hp with hp1 hp2
      subst hp1 hp2
      have a1 := equ_t (a := 40) (b := 40) rfl
      have a2 := equ_f (a := 40) (b := 46) (by omega)
      have a3 := equ_f (a := 40) (b := 48) (by omega)
      have a4 := equ_f (a := 40) (b := 95) (by omega)
      have a5 := equ_f (a := 40) (b := 91) (by omega)
      simp -implicitDefEqProofs (disch := first | assumption | omega | (simp only [gL] <;> omega) | ((repeat (first | exact Ext.refl _ | assumption | apply Ext.app | apply Ext.mk | (refine Ext.setr ?_ (by (first | omega | (simp only [gL] <;> omega))) _))); done) | (simp only [gL, gA, extr_tup, a1, r1] <;> omega) | fail) only [gB, setAll, partL, fldV, reduceIte, Nat.reduceAdd, Nat.reduceMul, extr_tup, a1, r1]
      rw [← hH2]
      refine WP.call (mode_spec H2) ?_
      rintro _ _ ⟨rfl, rfl⟩
      rw [show mdI 40 = -1 from rfl]
      simp -implicitDefEqProofs (disch := first | assumption | omega | (simp only [gL] <;> omega) | ((repeat (first | exact Ext.refl _ | assumption | apply Ext.app | apply Ext.mk | (refine Ext.setr ?_ (by (first | omega | (simp only [gL] <;> omega))) _))); done) | (simp only [gL, gA, a1, a2, a3, a4, a5] <;> omega) | fail) only [gB, setAll, partL, fldV, reduceIte, Nat.reduceAdd, Nat.reduceMul, a1, a2, a3, a4, a5]
      refine WP.call (group_spec hU hS hu h41 (by omega) r2) ?_
      rintro v H3 hv
      obtain ⟨s5, rfl, ho5, t3, hl3, res⟩ := callee hv
      simp -implicitDefEqProofs (disch := first | assumption | omega | (simp only [gL] <;> omega) | ((repeat (first | exact Ext.refl _ | assumption | apply Ext.app | apply Ext.mk | (refine Ext.setr ?_ (by (first | omega | (simp only [gL] <;> omega))) _))); done) | (simp only [gL, gA, t3, ho5] <;> omega) | fail) only [gB, setAll, partL, fldV, reduceIte, Nat.reduceAdd, Nat.reduceMul, t3, ho5]
      exact WP.ret res
    · rw [if_neg h41] at hp; cases hp
  · rw [if_neg h40] at hp
    have a1 := equ_f (a := c) (b := 40) (by omega)
    cases hm : md c with
    | some m =>
      rw [hm] at hp
      injection hp with hp
      injection hp with hp1 hp2
      subst hp1 hp2
      obtain ⟨hmi, hm5⟩ := mdI_t hm
      simp -implicitDefEqProofs (disch := first | assumption | omega | (simp only [gL] <;> omega) | ((repeat (first | exact Ext.refl _ | assumption | apply Ext.app | apply Ext.mk | (refine Ext.setr ?_ (by (first | omega | (simp only [gL] <;> omega))) _))); done) | (simp only [gL, gA, extr_tup, a1, r1] <;> omega) | fail) only [gB, setAll, partL, fldV, reduceIte, Nat.reduceAdd, Nat.reduceMul, extr_tup, a1, r1]
      rw [← hH2]
      refine WP.call (mode_spec H2) ?_
      rintro _ _ ⟨rfl, rfl⟩
      rw [hmi]
      simp -implicitDefEqProofs (disch := first | assumption | omega | (simp only [gL] <;> omega) | ((repeat (first | exact Ext.refl _ | assumption | apply Ext.app | apply Ext.mk | (refine Ext.setr ?_ (by (first | omega | (simp only [gL] <;> omega))) _))); done) | (simp only [gL, gA] <;> omega) | fail) only [gB, setAll, partL, fldV, reduceIte, Nat.reduceAdd, Nat.reduceMul]
      refine WP.call (mode_spec _) ?_
      rintro _ _ ⟨rfl, rfl⟩
      rw [hmi]
      have hcv : convV .u64 (I (m : Int)) = some (.int .u64 m) := conv_u64 (by omega) (by omega)
      have hsh : binV .shl .scalar (.int .i64 1) (.int .u64 (m : Int)) = some (I ((2 ^ m : Nat) : Int)) := by
        have := shl_i (k := .u64) (m := (m : Int)) (by omega) (by omega)
        simpa using this
      simp -implicitDefEqProofs (disch := first | assumption | omega | (simp only [gL] <;> omega) | ((repeat (first | exact Ext.refl _ | assumption | apply Ext.app | apply Ext.mk | (refine Ext.setr ?_ (by (first | omega | (simp only [gL] <;> omega))) _))); done) | (simp only [gL, gA, hcv, hsh, t2] <;> omega) | fail) only [gB, setAll, partL, fldV, reduceIte, Nat.reduceAdd, Nat.reduceMul, hcv, hsh, t2]
      exact WP.ret (leaf (n := .set (2 ^ m)) rfl)
    | none =>
      rw [hm] at hp
      simp only at hp
      have hmi := mdI_f hm
      simp -implicitDefEqProofs (disch := first | assumption | omega | (simp only [gL] <;> omega) | ((repeat (first | exact Ext.refl _ | assumption | apply Ext.app | apply Ext.mk | (refine Ext.setr ?_ (by (first | omega | (simp only [gL] <;> omega))) _))); done) | (simp only [gL, gA, extr_tup, a1, r1] <;> omega) | fail) only [gB, setAll, partL, fldV, reduceIte, Nat.reduceAdd, Nat.reduceMul, extr_tup, a1, r1]
      rw [← hH2]
      refine WP.call (mode_spec H2) ?_
      rintro _ _ ⟨rfl, rfl⟩
      rw [hmi]
      by_cases h46 : c = 46
      · subst h46
        rw [if_pos rfl] at hp
        injection hp with hp
        injection hp with hp1 hp2
        subst hp1 hp2
        have a2 := equ_t (a := 46) (b := 46) rfl
        simp -implicitDefEqProofs (disch := first | assumption | omega | (simp only [gL] <;> omega) | ((repeat (first | exact Ext.refl _ | assumption | apply Ext.app | apply Ext.mk | (refine Ext.setr ?_ (by (first | omega | (simp only [gL] <;> omega))) _))); done) | (simp only [gL, gA, a2, t2] <;> omega) | fail) only [gB, setAll, partL, fldV, reduceIte, Nat.reduceAdd, Nat.reduceMul, a2, t2]
        exact WP.ret (leaf (n := .set 31) rfl)
      rw [if_neg h46] at hp
      have a2 := equ_f (a := c) (b := 46) (by omega)
      by_cases h48 : c = 48
      · subst h48
        rw [if_pos rfl] at hp
        injection hp with hp
        injection hp with hp1 hp2
        subst hp1 hp2
        have a3 := equ_t (a := 48) (b := 48) rfl
        simp -implicitDefEqProofs (disch := first | assumption | omega | (simp only [gL] <;> omega) | ((repeat (first | exact Ext.refl _ | assumption | apply Ext.app | apply Ext.mk | (refine Ext.setr ?_ (by (first | omega | (simp only [gL] <;> omega))) _))); done) | (simp only [gL, gA, a2, a3, t2] <;> omega) | fail) only [gB, setAll, partL, fldV, reduceIte, Nat.reduceAdd, Nat.reduceMul, a2, a3, t2]
        exact WP.ret (leaf (n := .emp) rfl)
      rw [if_neg h48] at hp
      have a3 := equ_f (a := c) (b := 48) (by omega)
      by_cases h95 : c = 95
      · subst h95
        rw [if_pos rfl] at hp
        injection hp with hp
        injection hp with hp1 hp2
        subst hp1 hp2
        have a4 := equ_t (a := 95) (b := 95) rfl
        simp -implicitDefEqProofs (disch := first | assumption | omega | (simp only [gL] <;> omega) | ((repeat (first | exact Ext.refl _ | assumption | apply Ext.app | apply Ext.mk | (refine Ext.setr ?_ (by (first | omega | (simp only [gL] <;> omega))) _))); done) | (simp only [gL, gA, a2, a3, a4, t2] <;> omega) | fail) only [gB, setAll, partL, fldV, reduceIte, Nat.reduceAdd, Nat.reduceMul, a2, a3, a4, t2]
        exact WP.ret (leaf (n := .eps) rfl)
      rw [if_neg h95] at hp
      have a4 := equ_f (a := c) (b := 95) (by omega)
      by_cases h91 : c = 91
      · subst h91
        rw [if_pos rfl] at hp
        cases hcl : clsF S f (p + 1) 0 with
        | none => rw [hcl] at hp; cases hp
        | some x =>
        obtain ⟨s', q'⟩ := x
        rw [hcl] at hp
        injection hp with hp
        injection hp with hp1 hp2
        subst hp1 hp2
        have a5 := equ_t (a := 91) (b := 91) rfl
        simp -implicitDefEqProofs (disch := first | assumption | omega | (simp only [gL] <;> omega) | ((repeat (first | exact Ext.refl _ | assumption | apply Ext.app | apply Ext.mk | (refine Ext.setr ?_ (by (first | omega | (simp only [gL] <;> omega))) _))); done) | (simp only [gL, gA, a2, a3, a4, a5] <;> omega) | fail) only [gB, setAll, partL, fldV, reduceIte, Nat.reduceAdd, Nat.reduceMul, a2, a3, a4, a5]
        refine WP.call (cls_spec hS hcl r2) ?_
        rintro v H3 hv
        obtain ⟨s5, rfl, ho5, t3, hl3, res⟩ := callee hv
        simp -implicitDefEqProofs (disch := first | assumption | omega | (simp only [gL] <;> omega) | ((repeat (first | exact Ext.refl _ | assumption | apply Ext.app | apply Ext.mk | (refine Ext.setr ?_ (by (first | omega | (simp only [gL] <;> omega))) _))); done) | (simp only [gL, gA, t3, ho5] <;> omega) | fail) only [gB, setAll, partL, fldV, reduceIte, Nat.reduceAdd, Nat.reduceMul, t3, ho5]
        exact WP.ret res
      · rw [if_neg h91] at hp; cases hp
theorem piece_b2 {d p : Nat} {h H : Heap} {no : Nat} {Q : AV → Heap → Prop} (hp : p < 200) (hr : H[ro]? = some (RD S p d))
    (hK : WP (fun p' : Nat × Nat => milestoneref4_reader_piece_l1 tab p'.1 p'.2 (.ptr ro 0 4 0) (.ptr h.length 0 5 0) (.ptr no 0 5 0) (H.set ro (RD S (p + 1) d))) Q) :
    WP (fun p' : Nat × Nat => milestoneref4_reader_piece_b2 tab p'.1 p'.2 (.ptr ro 0 4 0) (.ptr h.length 0 5 0) (.ptr no 0 5 0) H) Q := by
  refine WP.congr (fun p' => milestoneref4_reader_piece_b2_eq tab p'.1 p'.2 (.ptr ro 0 4 0) (.ptr h.length 0 5 0) (.ptr no 0 5 0) H) ?_
  simp -implicitDefEqProofs (disch := first | assumption | omega | (simp only [gL] <;> omega) | ((repeat (first | exact Ext.refl _ | assumption | apply Ext.app | apply Ext.mk | (refine Ext.setr ?_ (by (first | omega | (simp only [gL] <;> omega))) _))); done) | (simp only [gL, gA, hr] <;> omega) | fail) only [gB, setAll, partL, fldV, reduceIte, Nat.reduceAdd, Nat.reduceMul, hr]
  exact hK
theorem pcl_step (ih : PclS S ro f) (hS : S.size ≤ 200) : PclS S ro (f + 1) := by
  intro d p n m q h H no c5 hp hd hro fr hr ht hno hn nv
  refine WP.rnd (fun i' j => milestoneref4_reader_piece_l1_eq tab i' j (.ptr ro 0 4 0) (.ptr h.length 0 5 0) (.ptr no 0 5 0) H) ?_
  rw [prs] at hp
  have htl := (List.getElem?_eq_some_iff.1 ht).1
  have hnl := (List.getElem?_eq_some_iff.1 hn).1
  have hrl : ro < H.length := by omega
  obtain ⟨s5, rfl, ho5⟩ := nv.inv
  have stop : ∀ {m : Nd}, m = n → PR S ro h d m p (.agg [I n.kind, I n.st, I n.lo, I n.hi, s5]) (H.set h.length (.cells ⟨[I n.kind, I n.st, I n.lo, I n.hi, s5], 0, 0, false⟩)) := by
    rintro m rfl
    exact PR.fin hro fr hr (nv.frs (FrS.refl (fun _ => False) _) (fun _ _ _ z => z) fun o h1 h2 => ⟨h2.1, h1⟩)
  -- one more behind it: its part is laid at the heap's end
  have more : ∀ {n' : Nd}, n'.kids = [n] → FrS (fun o => o = ro) h (((H ++ [AObj.cells ⟨[I n.kind, I n.st, I n.lo, I n.hi, s5], 0, 0, false⟩]).set no (.cells ⟨[I n'.kind, I n'.st, I n'.lo, I n'.hi, .sl H.length 0 1 5 none 0], 0, 0, false⟩))) ∧
      ((H ++ [AObj.cells ⟨[I n.kind, I n.st, I n.lo, I n.hi, s5], 0, 0, false⟩]).set no (.cells ⟨[I n'.kind, I n'.st, I n'.lo, I n'.hi, .sl H.length 0 1 5 none 0], 0, 0, false⟩))[h.length]? = some Z5 ∧
      NVD ((H ++ [AObj.cells ⟨[I n.kind, I n.st, I n.lo, I n.hi, s5], 0, 0, false⟩]).set no (.cells ⟨[I n'.kind, I n'.st, I n'.lo, I n'.hi, .sl H.length 0 1 5 none 0], 0, 0, false⟩)) (fun o => h.length < o ∧ o < H.length + 1 ∧ o ≠ no) n' [I n'.kind, I n'.st, I n'.lo, I n'.hi, .sl H.length 0 1 5 none 0] := by
    intro n' hk
    have e1 : Ext H (H ++ [AObj.cells ⟨[I n.kind, I n.st, I n.lo, I n.hi, s5], 0, 0, false⟩]) := Ext.push _ _
    refine ⟨⟨by simp; have := fr.len; omega, fun o h1 h2 => ?_⟩, ?_, .mk (css := [[I n.kind, I n.st, I n.lo, I n.hi, s5]]) (sl_nodes (by rw [List.getElem?_set_ne (by omega)]; simp) rfl (by simp)) (fun _ => ?_) ?_⟩
    · rw [List.getElem?_set_ne (by omega), (ext_iff.1 e1).2 o (by omega), fr.get h1 h2]
    · rw [List.getElem?_set_ne (by omega)]; exact e1.get ht
    · exact ⟨by simp [AV.obj]; omega, by simp [AV.obj], by simp [AV.obj]; omega⟩
    · rw [hk]
      exact .cons ((nv.ext e1 (D' := fun o => h.length < o ∧ o < H.length ∧ o ≠ no) fun _ _ z => z).frs (FrS.set1 _ no _) (fun o h1 h2 h3 => h2.2.2 h3) fun o h1 h2 => ⟨h2.1, by omega, h2.2.2⟩) .nil
  cases hb : bt S p with
  | none =>
    rw [hb] at hp
    injection hp with hp
    injection hp with hp1 hp2
    subst hp2
    refine WP.call (next_f hr hb) ?_
    rintro _ _ ⟨rfl, rfl⟩
    simp -implicitDefEqProofs (disch := first | assumption | omega | (simp only [gL] <;> omega) | ((repeat (first | exact Ext.refl _ | assumption | apply Ext.app | apply Ext.mk | (refine Ext.setr ?_ (by (first | omega | (simp only [gL] <;> omega))) _))); done) | (simp only [gL, gA, extr_tup, hn, ho5, ht] <;> omega) | fail) only [gB, setAll, partL, fldV, reduceIte, Nat.reduceAdd, Nat.reduceMul, extr_tup, hn, ho5, ht]
    exact WP.lv (WP.ret (stop hp1.symm)) fun i j => rfl
  | some c =>
    rw [hb] at hp
    simp only at hp
    have hlt := bt_lt hb
    refine WP.call (next_t hr hb) ?_
    rintro _ _ ⟨rfl, rfl⟩
    have cont : ∀ {n' : Nd} (hk : n'.kids = [n]) (hq : prs S f d (.pcl n') (p + 1) = some (m, q)),
        WP (fun p' : Nat × Nat => milestoneref4_reader_piece_b2 tab p'.1 p'.2 (.ptr ro 0 4 0) (.ptr h.length 0 5 0) (.ptr no 0 5 0) ((H ++ [AObj.cells ⟨[I n.kind, I n.st, I n.lo, I n.hi, s5], 0, 0, false⟩]).set no (.cells ⟨[I n'.kind, I n'.st, I n'.lo, I n'.hi, .sl H.length 0 1 5 none 0], 0, 0, false⟩))) (PR S ro h d m q) := by
      intro n' hk hq
      obtain ⟨k1, k2, k3⟩ := more hk
      have e1 : Ext H (H ++ [AObj.cells ⟨[I n.kind, I n.st, I n.lo, I n.hi, s5], 0, 0, false⟩]) := Ext.push _ _
      have hl1 : (H ++ [AObj.cells ⟨[I n.kind, I n.st, I n.lo, I n.hi, s5], 0, 0, false⟩]).length = H.length + 1 := by simp
      have r1 : ((H ++ [AObj.cells ⟨[I n.kind, I n.st, I n.lo, I n.hi, s5], 0, 0, false⟩]).set no (.cells ⟨[I n'.kind, I n'.st, I n'.lo, I n'.hi, .sl H.length 0 1 5 none 0], 0, 0, false⟩))[ro]? = some (RD S p d) := by
        rw [List.getElem?_set_ne (by omega)]; exact e1.get hr
      have x1 : ((H ++ [AObj.cells ⟨[I n.kind, I n.st, I n.lo, I n.hi, s5], 0, 0, false⟩]).set no (.cells ⟨[I n'.kind, I n'.st, I n'.lo, I n'.hi, .sl H.length 0 1 5 none 0], 0, 0, false⟩))[no]? = some (.cells ⟨[I n'.kind, I n'.st, I n'.lo, I n'.hi, .sl H.length 0 1 5 none 0], 0, 0, false⟩) := List.getElem?_set_self (by omega)
      have hl2 : ((H ++ [AObj.cells ⟨[I n.kind, I n.st, I n.lo, I n.hi, s5], 0, 0, false⟩]).set no (.cells ⟨[I n'.kind, I n'.st, I n'.lo, I n'.hi, .sl H.length 0 1 5 none 0], 0, 0, false⟩)).length = H.length + 1 := by simp
      generalize ((H ++ [AObj.cells ⟨[I n.kind, I n.st, I n.lo, I n.hi, s5], 0, 0, false⟩]).set no (.cells ⟨[I n'.kind, I n'.st, I n'.lo, I n'.hi, .sl H.length 0 1 5 none 0], 0, 0, false⟩)) = H2 at *
      refine piece_b2 (by omega) r1 ?_
      refine ih d (p + 1) n' m q h _ no _ hq hd hro (fr_set k1 _) (List.getElem?_set_self (by omega)) (by rw [List.getElem?_set_ne (by omega)]; exact k2) hno (by rw [List.getElem?_set_ne (by omega)]; exact x1) ?_
      exact k3.frs (FrS.set1 H2 ro _) (fun o h1 h2 h3 => by omega) fun o h1 h2 => ⟨h2.1, by simp; omega, h2.2.2⟩
    by_cases h42 : c = 42
    · subst h42
      rw [if_pos rfl] at hp
      have a1 := equ_t (a := 42) (b := 42) rfl
      simp -implicitDefEqProofs (disch := first | assumption | omega | (simp only [gL] <;> omega) | ((repeat (first | exact Ext.refl _ | assumption | apply Ext.app | apply Ext.mk | (refine Ext.setr ?_ (by (first | omega | (simp only [gL] <;> omega))) _))); done) | (simp only [gL, gA, extr_tup, a1, hn, ho5] <;> omega) | fail) only [gB, setAll, partL, fldV, reduceIte, Nat.reduceAdd, Nat.reduceMul, extr_tup, a1, hn, ho5]
      exact cont (n' := .star n) rfl hp
    rw [if_neg h42] at hp
    have a1 := equ_f (a := c) (b := 42) (by omega)
    by_cases h43 : c = 43
    · subst h43
      rw [if_pos rfl] at hp
      have a2 := equ_t (a := 43) (b := 43) rfl
      simp -implicitDefEqProofs (disch := first | assumption | omega | (simp only [gL] <;> omega) | ((repeat (first | exact Ext.refl _ | assumption | apply Ext.app | apply Ext.mk | (refine Ext.setr ?_ (by (first | omega | (simp only [gL] <;> omega))) _))); done) | (simp only [gL, gA, extr_tup, a1, a2, hn, ho5] <;> omega) | fail) only [gB, setAll, partL, fldV, reduceIte, Nat.reduceAdd, Nat.reduceMul, extr_tup, a1, a2, hn, ho5]
      exact cont (n' := .plus n) rfl hp
    rw [if_neg h43] at hp
    have a2 := equ_f (a := c) (b := 43) (by omega)
    by_cases h63 : c = 63
    · subst h63
      rw [if_pos rfl] at hp
      have a3 := equ_t (a := 63) (b := 63) rfl
      simp -implicitDefEqProofs (disch := first | assumption | omega | (simp only [gL] <;> omega) | ((repeat (first | exact Ext.refl _ | assumption | apply Ext.app | apply Ext.mk | (refine Ext.setr ?_ (by (first | omega | (simp only [gL] <;> omega))) _))); done) | (simp only [gL, gA, extr_tup, a1, a2, a3, hn, ho5] <;> omega) | fail) only [gB, setAll, partL, fldV, reduceIte, Nat.reduceAdd, Nat.reduceMul, extr_tup, a1, a2, a3, hn, ho5]
      exact cont (n' := .opt n) rfl hp
    rw [if_neg h63] at hp
    have a3 := equ_f (a := c) (b := 63) (by omega)
    by_cases h123 : c = 123
    · subst h123
      rw [if_pos rfl] at hp
      cases htm : tms S (p + 1) with
      | none => rw [htm] at hp; cases hp
      | some x =>
      obtain ⟨a, b, q'⟩ := x
      rw [htm] at hp
      simp only at hp
      have a4 := equ_t (a := 123) (b := 123) rfl
      obtain ⟨H1, hH1⟩ : ∃ H1, H1 = H.set ro (.cells ⟨[.str S, I ((p : Int) + 1), I d, I 0], 0, 0, false⟩) := ⟨_, rfl⟩
      have r1 : H1[ro]? = some (RD S (p + 1) d) := by rw [hH1, List.getElem?_set_self hrl]; rfl
      have t1 : H1[h.length]? = some Z5 := by rw [hH1, List.getElem?_set_ne (by omega)]; exact ht
      have x1 : H1[no]? = some (.cells ⟨[I n.kind, I n.st, I n.lo, I n.hi, s5], 0, 0, false⟩) := by rw [hH1, List.getElem?_set_ne (by omega)]; exact hn
      have f1 : FrS (fun o => o = ro) h H1 := by rw [hH1]; exact fr_set fr _
      have l1 : H1.length = H.length := by rw [hH1]; simp
      have nv1 : NVD H1 (fun o => h.length < o ∧ o < H.length ∧ o ≠ no) n [I n.kind, I n.st, I n.lo, I n.hi, s5] := by
        rw [hH1]
        exact nv.frs (FrS.set1 H ro _) (fun o h1 h2 h3 => by omega) fun _ _ z => z
      simp -implicitDefEqProofs (disch := first | assumption | omega | (simp only [gL] <;> omega) | ((repeat (first | exact Ext.refl _ | assumption | apply Ext.app | apply Ext.mk | (refine Ext.setr ?_ (by (first | omega | (simp only [gL] <;> omega))) _))); done) | (simp only [gL, gA, extr_tup, a1, a2, a3, a4, hr] <;> omega) | fail) only [gB, setAll, partL, fldV, reduceIte, Nat.reduceAdd, Nat.reduceMul, extr_tup, a1, a2, a3, a4, hr]
      rw [← hH1]
      simp -implicitDefEqProofs (disch := first | assumption | omega | (simp only [gL] <;> omega) | ((repeat (first | exact Ext.refl _ | assumption | apply Ext.app | apply Ext.mk | (refine Ext.setr ?_ (by (first | omega | (simp only [gL] <;> omega))) _))); done) | (simp only [gL, gA, hn] <;> omega) | fail) only [gB, setAll, partL, fldV, reduceIte, Nat.reduceAdd, Nat.reduceMul, hn]
      refine WP.call (tms_spec hS htm (by omega) r1 nv1 (fun o z => by omega)) ?_
      rintro _ H3 ⟨f3, r3, c, rfl, nv3⟩
      obtain ⟨s6, rfl, ho6⟩ := nv3.inv
      have l3 := f3.len
      have x3 := (f3.get (o := no) (by omega) (by omega)).trans x1
      have t3 := (f3.get (o := h.length) (by omega) (by omega)).trans t1
      simp -implicitDefEqProofs (disch := first | assumption | omega | (simp only [gL] <;> omega) | ((repeat (first | exact Ext.refl _ | assumption | apply Ext.app | apply Ext.mk | (refine Ext.setr ?_ (by (first | omega | (simp only [gL] <;> omega))) _))); done) | (simp only [gL, gA, x3, ho6] <;> omega) | fail) only [gB, setAll, partL, fldV, reduceIte, Nat.reduceAdd, Nat.reduceMul, x3, ho6]
      refine ih d q' (.rep a b n) m q h _ no _ hp hd hro (⟨by simp; have := f1.len; omega, fun o h1 h2 => ?_⟩) (by rw [List.getElem?_set_ne (by omega)]; exact r3) (by rw [List.getElem?_set_ne (by omega)]; exact t3) hno (List.getElem?_set_self (by omega)) ?_
      · rw [List.getElem?_set_ne (by omega), f3.get h1 (by have := f1.len; omega), f1.get h1 h2]
      · exact nv3.frs (FrS.set1 H3 no _) (fun o h1 h2 h3 => by omega) fun o h1 h2 => by simp; omega
    · rw [if_neg h123] at hp
      injection hp with hp
      injection hp with hp1 hp2
      subst hp2
      have a4 := equ_f (a := c) (b := 123) (by omega)
      simp -implicitDefEqProofs (disch := first | assumption | omega | (simp only [gL] <;> omega) | ((repeat (first | exact Ext.refl _ | assumption | apply Ext.app | apply Ext.mk | (refine Ext.setr ?_ (by (first | omega | (simp only [gL] <;> omega))) _))); done) | (simp only [gL, gA, extr_tup, a1, a2, a3, a4, hn, ho5, ht] <;> omega) | fail) only [gB, setAll, partL, fldV, reduceIte, Nat.reduceAdd, Nat.reduceMul, extr_tup, a1, a2, a3, a4, hn, ho5, ht]
      exact WP.lv (WP.ret (stop hp1.symm)) fun i j => rfl
theorem pc_step (ha : AtS S ro f) (hl : PclS S ro f) : PcS S ro (f + 1) := by
  intro d p n q h hp hd hr
  refine WP.tot (fun k => (call_milestoneref4_reader_piece k _ h).trans (milestoneref4_reader_piece_eq tab k _ h)) ?_
  have hro := (List.getElem?_eq_some_iff.1 hr).1
  rw [prs] at hp
  cases hx : prs S f d .at p with
  | none => rw [hx] at hp; cases hp
  | some x =>
  obtain ⟨n1, q1⟩ := x
  rw [hx] at hp
  simp only at hp
  have e1 : Ext h (h ++ [Z5]) := Ext.push _ _
  have t1 : (h ++ [Z5])[h.length]? = some Z5 := by simp
  have l1 : (h ++ [Z5]).length = h.length + 1 := by simp
  simp -implicitDefEqProofs (disch := first | assumption | omega | (simp only [gL] <;> omega) | ((repeat (first | exact Ext.refl _ | assumption | apply Ext.app | apply Ext.mk | (refine Ext.setr ?_ (by (first | omega | (simp only [gL] <;> omega))) _))); done) | (simp only [gL, gA] <;> omega) | fail) only [gB, setAll, partL, fldV, reduceIte, Nat.reduceAdd, Nat.reduceMul]
  refine WP.call (ha d p n1 q1 (h ++ [Z5]) hx hd (e1.get hr)) ?_
  rintro _ H2 ⟨f2, r2, c5, rfl, nv⟩
  obtain ⟨s5, rfl, ho5⟩ := nv.inv
  have l2 := f2.len
  have t2 := (f2.get (o := h.length) (by omega) (by omega)).trans t1
  have e3 : Ext H2 (H2 ++ [AObj.cells ⟨[I n1.kind, I n1.st, I n1.lo, I n1.hi, s5], 0, 0, false⟩]) := Ext.push _ _
  simp -implicitDefEqProofs (disch := first | assumption | omega | (simp only [gL] <;> omega) | ((repeat (first | exact Ext.refl _ | assumption | apply Ext.app | apply Ext.mk | (refine Ext.setr ?_ (by (first | omega | (simp only [gL] <;> omega))) _))); done) | (simp only [gL, gA, ho5, set_lastO] <;> omega) | fail) only [gB, setAll, partL, fldV, reduceIte, Nat.reduceAdd, Nat.reduceMul, ho5, set_lastO]
  exact WP.ent (hl d q1 n1 n q h _ H2.length _ hp hd hro (((FrS.ofExt e1).trans f2).trans (FrS.ofExt e3)) (e3.get r2) (e3.get t2) (by omega) (by simp) (nv.ext e3 fun o h1 h2 => ⟨by omega, by simp; omega, by omega⟩)) fun i => rfl
end
end Go.Gm.A5
