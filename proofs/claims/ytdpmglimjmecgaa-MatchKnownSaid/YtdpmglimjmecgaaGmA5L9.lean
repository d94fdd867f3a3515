/- A part of the proof (GmA5L9): an abstract machine, what it does, and what the functions of the program come to on it. -/
import Derived.KernelRfl
import Derived.Test.YtdpmglimjmecgaaGmA5PC
import Derived.Test.YtdpmglimjmecgaaGmEv
import Derived.Test.YtdpmglimjmecgaaGmA5L2
set_option linter.unusedVariables false
set_option linter.unusedSimpArgs false
namespace Go.Gm.A5
open Go Go.Gm

mutual
def fineB : Nd → Bool
  | .set s => decide (s < 2 ^ 62)
  | .emp => true
  | .eps => true
  | .join l => decide (l.length ≤ 1000) && fineBs l
  | .uni l => decide (l.length ≤ 1000) && fineBs l
  | .star n => fineB n
  | .plus n => fineB n
  | .opt n => fineB n
  | .rep a b n => decide (a ≤ b) && decide (b ≤ 100) && fineB n
def fineBs : List Nd → Bool
  | [] => true
  | n :: l => fineB n && fineBs l
end
theorem fineBs_all : ∀ {l : List Nd}, fineBs l = true → ∀ c ∈ l, fineB c = true
  | [], _, c, hc => by simp at hc
  | n :: l, h, c, hc => by
    simp only [fineBs, Bool.and_eq_true] at h
    rcases List.mem_cons.1 hc with rfl | hc
    · exact h.1
    · exact fineBs_all h.2 c hc
theorem fineB_ok (n : Nd) : fineB n = true → Fine n := by
  refine Nd.ind (p := fun n => fineB n = true → Fine n) ?_ n
  intro n ih h
  cases n with
  | set s => exact fine_set (by simpa [fineB] using h)
  | emp => exact fine_leaf rfl (by simp [Nd.st]) (Nat.le_refl _) (Nat.zero_le _)
  | eps => exact fine_leaf rfl (by simp [Nd.st]) (Nat.le_refl _) (Nat.zero_le _)
  | join l =>
    simp only [fineB, Bool.and_eq_true, decide_eq_true_eq] at h
    exact fine_mk (by simp [Nd.st]) (Nat.le_refl _) (Nat.zero_le _) h.1 fun c hc => ih c hc (fineBs_all h.2 c hc)
  | uni l =>
    simp only [fineB, Bool.and_eq_true, decide_eq_true_eq] at h
    exact fine_mk (by simp [Nd.st]) (Nat.le_refl _) (Nat.zero_le _) h.1 fun c hc => ih c hc (fineBs_all h.2 c hc)
  | star c => exact fine_mk (by simp [Nd.st]) (Nat.le_refl _) (Nat.zero_le _) (by simp [Nd.kids]) fun d hd => ih d hd (by simp only [Nd.kids, List.mem_singleton] at hd; subst hd; simpa [fineB] using h)
  | plus c => exact fine_mk (by simp [Nd.st]) (Nat.le_refl _) (Nat.zero_le _) (by simp [Nd.kids]) fun d hd => ih d hd (by simp only [Nd.kids, List.mem_singleton] at hd; subst hd; simpa [fineB] using h)
  | opt c => exact fine_mk (by simp [Nd.st]) (Nat.le_refl _) (Nat.zero_le _) (by simp [Nd.kids]) fun d hd => ih d hd (by simp only [Nd.kids, List.mem_singleton] at hd; subst hd; simpa [fineB] using h)
  | rep a b c =>
    simp only [fineB, Bool.and_eq_true, decide_eq_true_eq] at h
    exact fine_mk (by simp [Nd.st]) h.1.1 h.1.2 (by simp [Nd.kids]) fun d hd => ih d hd (by simp only [Nd.kids, List.mem_singleton] at hd; subst hd; exact h.2)
/-- An expression of a text. -/
theorem of_spec {S : ByteArray} {f : Nat} {n : Nd} (hS : S.size ≤ 200) (hf : f ≤ 900000) (hp : prs S f 0 .un 0 = some (n, S.size)) (h : Heap) :
    Tot tab f_milestonelaw5_Of [.str S] h fun v h' => Ext h h' ∧ ∃ c5, v = .agg c5 ∧ NV h' n c5 := by
  refine WP.tot (fun k => (call_milestonelaw5_Of k _ h).trans (milestonelaw5_Of_eq tab k _ h)) ?_
  have e1 : Ext h (h ++ [Z5]) := Ext.push _ _
  have hl1 : (h ++ [Z5]).length = h.length + 1 := by simp
  simp -implicitDefEqProofs (disch := first | assumption | omega | (simp only [gL] <;> omega) | ((repeat (first | exact Ext.refl _ | assumption | apply Ext.app | apply Ext.mk | (refine Ext.setr ?_ (by (first | omega | (simp only [gL] <;> omega))) _))); done) | (simp only [gL, gA] <;> omega) | fail) only [gB, setAll, partL, fldV, reduceIte, Nat.reduceAdd, Nat.reduceMul]
  refine WP.call (parse_ok hS hf hp (h ++ [Z5])) ?_
  rintro _ H2 ⟨e2, c5, rfl, nv⟩
  obtain ⟨s5, rfl, ho5⟩ := nv.inv
  have t2 := e2.get (show (h ++ [Z5])[h.length]? = some Z5 by simp)
  have l2 := e2.len
  have e3 : Ext H2 (H2 ++ [AObj.cells ⟨[I n.kind, I n.st, I n.lo, I n.hi, s5], 0, 0, false⟩]) := Ext.push _ _
  have t3 := e3.get t2
  have nv3 := nv.ext e3 (D' := fun o => h.length < o) fun o q1 q2 => by omega
  have l3 : (H2 ++ [AObj.cells ⟨[I n.kind, I n.st, I n.lo, I n.hi, s5], 0, 0, false⟩]).length = H2.length + 1 := by simp
  have x3 : (H2 ++ [AObj.cells ⟨[I n.kind, I n.st, I n.lo, I n.hi, s5], 0, 0, false⟩])[H2.length]? = some (.cells ⟨[I n.kind, I n.st, I n.lo, I n.hi, s5], 0, 0, false⟩) := by simp
  simp -implicitDefEqProofs (disch := first | assumption | omega | (simp only [gL] <;> omega) | ((repeat (first | exact Ext.refl _ | assumption | apply Ext.app | apply Ext.mk | (refine Ext.setr ?_ (by (first | omega | (simp only [gL] <;> omega))) _))); done) | (simp only [gL, gA, extr_tup, ho5, set_lastO, t2] <;> omega) | fail) only [gB, setAll, partL, fldV, reduceIte, Nat.reduceAdd, Nat.reduceMul, extr_tup, ho5, set_lastO, t2]
  refine WP.ret ⟨((e1.trans e2).trans e3).set (Nat.le_refl _) _, _, rfl, (nv3.frs (FrS.set1 _ h.length _) (D' := fun _ => True) (fun o q1 q2 q3 => by omega) fun _ _ _ => trivial).nv⟩
theorem kneg2 : ¬ In (.plus (.set 1)) [] := by
  rw [In, List.length_nil, nul_plus]
  rintro ⟨h, _⟩
  have := hit_lt h; simp at this
theorem kneg4 : ¬ In (.uni [.join [.set 1, .set 2], .set 4]) [0, 1, 2] := by
  rw [In_uni]
  rintro (h | h)
  · have := (In_p2 (by decide)).1 h; exact absurd this (by decide)
  · obtain ⟨c, h1, _⟩ := In_set.1 h; simp at h1
theorem kneg6 : ¬ In (.join [.star (.uni [.set 1, .set 2]), .set 4]) [0, 2, 1] := by
  rw [In_join]
  rintro ⟨i, hi, _, h⟩
  obtain ⟨c, h1, _, _, h2⟩ := In_set.1 h
  have hl := congrArg List.length h1
  simp only [List.length_drop, List.length_cons, List.length_nil] at hl
  obtain rfl : i = 2 := by omega
  simp at h1
  subst h1; exact absurd h2 (by decide)
theorem kneg8 : ¬ In (.rep 2 3 (.set 1)) [0] := by
  simp only [In, R]
  rintro ⟨t, h1, _, h2⟩
  have := pow_set h2
  simp at this; omega
theorem kcase {S : ByteArray} {f : Nat} {n : Nd} {w : List Int} {is : Bool} (hS : S.size ≤ 200) (hf : f ≤ 900000) (hp : prs S f 0 .un 0 = some (n, S.size)) (fi : Fine n) (hc : cntN n ≤ 800000) (hin : is = true ↔ In n w) (hw : w.length ≤ 100) {H : Heap} {p q s : AV} (hsl : Sl H 1 s (w.map encI)) (hp1 : ∀ H', Ext H H' → ld1 H' p = some s) (hq1 : ∀ H', Ext H H' → ld1 H' q = some (.bool is)) :
    WP (fun i : Nat => ob (evalFn tab i f_milestonelaw5_Of [.str S] H) fun t55 h_60 =>
      chk (sameB (pure1 h_60 (ld1 h_60 p)) s && sameB (pure1 h_60 (ld1 h_60 q)) (.bool is)) <|
      ob (evalFn tab i f_match_Match [t55, s] h_60) fun t60 h_62 =>
      chk (sameB (pure1 h_62 (ld1 h_62 q)) (.bool is)) <|
      oa (binV .eql .bool t60 (.bool is)) fun t65 =>
      some (t65, h_62)) fun r _ => r = .bool true := by
  refine WP.call (of_spec hS hf hp H) ?_
  rintro _ H1 ⟨e1, c5, rfl, nv⟩
  have a1 := hp1 H1 e1
  have a2 := hq1 H1 e1
  simp -implicitDefEqProofs (disch := first | assumption | omega | (simp only [gL] <;> omega) | ((repeat (first | exact Ext.refl _ | assumption | apply Ext.app | apply Ext.mk | (refine Ext.setr ?_ (by (first | omega | (simp only [gL] <;> omega))) _))); done) | (simp only [gL, gA, a1, a2] <;> omega) | fail) only [gB, setAll, partL, fldV, reduceIte, Nat.reduceAdd, Nat.reduceMul, a1, a2]
  refine WP.call (match_spec nv fi.1 hc (hsl.ext e1) (by omega)) ?_
  rintro _ H2 ⟨e2, b, rfl, hb⟩
  have a3 := hq1 H2 (e1.trans e2)
  obtain rfl := bool_eq hb hin
  simp -implicitDefEqProofs (disch := first | assumption | omega | (simp only [gL] <;> omega) | ((repeat (first | exact Ext.refl _ | assumption | apply Ext.app | apply Ext.mk | (refine Ext.setr ?_ (by (first | omega | (simp only [gL] <;> omega))) _))); done) | (simp only [gL, gA, a3] <;> omega) | fail) only [gB, setAll, partL, fldV, reduceIte, Nat.reduceAdd, Nat.reduceMul, a3]
  exact WP.ret rfl
set_option maxHeartbeats 4000000 in
theorem mknown_spec {which : Int} : Tot tab f_milestonelaw5_MatchKnown [I which] [] fun r _ => r = .bool true := by
  refine WP.tot (fun k => (call_milestonelaw5_MatchKnown k _ []).trans (milestonelaw5_MatchKnown_eq tab k _ [])) ?_
  refine WP.call (known_spec []) ?_
  rintro _ h2 ⟨rfl, e1⟩
  simp -implicitDefEqProofs (disch := first | assumption | omega | (simp only [gL] <;> omega) | ((repeat (first | exact Ext.refl _ | assumption | apply Ext.app | apply Ext.mk | (refine Ext.setr ?_ (by (first | omega | (simp only [gL] <;> omega))) _))); done) | (simp only [gL, gA] <;> omega) | fail) only [gB, setAll, partL, fldV, reduceIte, Nat.reduceAdd, Nat.reduceMul]
  simp only [Nat.add_assoc, Nat.reduceAdd]
  obtain ⟨H, hH⟩ : ∃ H, H = ((((((((((((((((((((((h2 ++ [AObj.cells ⟨[.str ⟨#[119, 42]⟩, .str ⟨#[119, 42]⟩, .str ⟨#[119, 43]⟩, .str ⟨#[119, 98, 124, 99]⟩, .str ⟨#[119, 98, 124, 99]⟩, .str ⟨#[40, 119, 124, 98, 41, 42, 99]⟩, .str ⟨#[40, 119, 124, 98, 41, 42, 99]⟩, .str ⟨#[119, 123, 50, 44, 51, 125]⟩, .str ⟨#[119, 123, 50, 44, 51, 125]⟩, .str ⟨#[119, 123, 48, 44, 48, 125]⟩, .str ⟨#[48, 42]⟩, .str ⟨#[48]⟩, .str ⟨#[95]⟩, .str ⟨#[40, 119, 98, 41, 43]⟩, .str ⟨#[46, 102, 46]⟩, .str ⟨#[91, 119, 116, 93, 63, 98]⟩, .str ⟨#[40, 119, 42, 41, 42]⟩, .str ⟨#[40, 95, 124, 119, 41, 123, 51, 44, 51, 125]⟩, .str ⟨#[119, 123, 50, 44, 51, 125, 98]⟩, .str ⟨#[48, 124, 119]⟩], 0, 0, false⟩]) ++ [AObj.cells ⟨[], 0, 0, false⟩]) ++ [AObj.cells ⟨[I 0, I 0, I 0], 0, 0, false⟩]) ++ [AObj.cells ⟨[], 0, 0, false⟩]) ++ [AObj.cells ⟨[I 0, I 1], 0, 0, false⟩]) ++ [AObj.cells ⟨[I 0, I 1, I 2], 0, 0, false⟩]) ++ [AObj.cells ⟨[I 0, I 1, I 1, I 0, I 2], 0, 0, false⟩]) ++ [AObj.cells ⟨[I 0, I 2, I 1], 0, 0, false⟩]) ++ [AObj.cells ⟨[I 0, I 0, I 0], 0, 0, false⟩]) ++ [AObj.cells ⟨[I 0], 0, 0, false⟩]) ++ [AObj.cells ⟨[], 0, 0, false⟩]) ++ [AObj.cells ⟨[], 0, 0, false⟩]) ++ [AObj.cells ⟨[], 0, 0, false⟩]) ++ [AObj.cells ⟨[], 0, 0, false⟩]) ++ [AObj.cells ⟨[I 0, I 1, I 0, I 1], 0, 0, false⟩]) ++ [AObj.cells ⟨[I 4, I 3, I 2], 0, 0, false⟩]) ++ [AObj.cells ⟨[I 4, I 1], 0, 0, false⟩]) ++ [AObj.cells ⟨[I 0, I 0], 0, 0, false⟩]) ++ [AObj.cells ⟨[I 0, I 0], 0, 0, false⟩]) ++ [AObj.cells ⟨[I 0, I 0, I 1], 0, 0, false⟩]) ++ [AObj.cells ⟨[I 0], 0, 0, false⟩]) ++ [AObj.cells ⟨[.sl (h2.length + 1) 0 0 1 none 0, .sl (h2.length + 2) 0 3 1 none 0, .sl (h2.length + 3) 0 0 1 none 0, .sl (h2.length + 4) 0 2 1 none 0, .sl (h2.length + 5) 0 3 1 none 0, .sl (h2.length + 6) 0 5 1 none 0, .sl (h2.length + 7) 0 3 1 none 0, .sl (h2.length + 8) 0 3 1 none 0, .sl (h2.length + 9) 0 1 1 none 0, .sl (h2.length + 10) 0 0 1 none 0, .sl (h2.length + 11) 0 0 1 none 0, .sl (h2.length + 12) 0 0 1 none 0, .sl (h2.length + 13) 0 0 1 none 0, .sl (h2.length + 14) 0 4 1 none 0, .sl (h2.length + 15) 0 3 1 none 0, .sl (h2.length + 16) 0 2 1 none 0, .sl (h2.length + 17) 0 2 1 none 0, .sl (h2.length + 18) 0 2 1 none 0, .sl (h2.length + 19) 0 3 1 none 0, .sl (h2.length + 20) 0 1 1 none 0], 0, 0, false⟩]) ++ [AObj.cells ⟨[.bool true, .bool true, .bool false, .bool true, .bool false, .bool true, .bool false, .bool true, .bool false, .bool true, .bool true, .bool false, .bool true, .bool true, .bool true, .bool true, .bool true, .bool true, .bool true, .bool true], 0, 0, false⟩] := ⟨_, rfl⟩
  rw [← hH]
  have rS : H[h2.length]? = some (AObj.cells ⟨[.str ⟨#[119, 42]⟩, .str ⟨#[119, 42]⟩, .str ⟨#[119, 43]⟩, .str ⟨#[119, 98, 124, 99]⟩, .str ⟨#[119, 98, 124, 99]⟩, .str ⟨#[40, 119, 124, 98, 41, 42, 99]⟩, .str ⟨#[40, 119, 124, 98, 41, 42, 99]⟩, .str ⟨#[119, 123, 50, 44, 51, 125]⟩, .str ⟨#[119, 123, 50, 44, 51, 125]⟩, .str ⟨#[119, 123, 48, 44, 48, 125]⟩, .str ⟨#[48, 42]⟩, .str ⟨#[48]⟩, .str ⟨#[95]⟩, .str ⟨#[40, 119, 98, 41, 43]⟩, .str ⟨#[46, 102, 46]⟩, .str ⟨#[91, 119, 116, 93, 63, 98]⟩, .str ⟨#[40, 119, 42, 41, 42]⟩, .str ⟨#[40, 95, 124, 119, 41, 123, 51, 44, 51, 125]⟩, .str ⟨#[119, 123, 50, 44, 51, 125, 98]⟩, .str ⟨#[48, 124, 119]⟩], 0, 0, false⟩) := by rw [hH]; simp
  have rW : H[h2.length + 21]? = some (AObj.cells ⟨[.sl (h2.length + 1) 0 0 1 none 0, .sl (h2.length + 2) 0 3 1 none 0, .sl (h2.length + 3) 0 0 1 none 0, .sl (h2.length + 4) 0 2 1 none 0, .sl (h2.length + 5) 0 3 1 none 0, .sl (h2.length + 6) 0 5 1 none 0, .sl (h2.length + 7) 0 3 1 none 0, .sl (h2.length + 8) 0 3 1 none 0, .sl (h2.length + 9) 0 1 1 none 0, .sl (h2.length + 10) 0 0 1 none 0, .sl (h2.length + 11) 0 0 1 none 0, .sl (h2.length + 12) 0 0 1 none 0, .sl (h2.length + 13) 0 0 1 none 0, .sl (h2.length + 14) 0 4 1 none 0, .sl (h2.length + 15) 0 3 1 none 0, .sl (h2.length + 16) 0 2 1 none 0, .sl (h2.length + 17) 0 2 1 none 0, .sl (h2.length + 18) 0 2 1 none 0, .sl (h2.length + 19) 0 3 1 none 0, .sl (h2.length + 20) 0 1 1 none 0], 0, 0, false⟩) := by rw [hH]; simp
  have rB : H[h2.length + 22]? = some (AObj.cells ⟨[.bool true, .bool true, .bool false, .bool true, .bool false, .bool true, .bool false, .bool true, .bool false, .bool true, .bool true, .bool false, .bool true, .bool true, .bool true, .bool true, .bool true, .bool true, .bool true, .bool true], 0, 0, false⟩) := by rw [hH]; simp
  have r1 : H[h2.length + 1]? = some (AObj.cells ⟨[], 0, 0, false⟩) := by rw [hH]; simp
  have r2 : H[h2.length + 2]? = some (AObj.cells ⟨[I 0, I 0, I 0], 0, 0, false⟩) := by rw [hH]; simp
  have r3 : H[h2.length + 3]? = some (AObj.cells ⟨[], 0, 0, false⟩) := by rw [hH]; simp
  have r4 : H[h2.length + 4]? = some (AObj.cells ⟨[I 0, I 1], 0, 0, false⟩) := by rw [hH]; simp
  have r5 : H[h2.length + 5]? = some (AObj.cells ⟨[I 0, I 1, I 2], 0, 0, false⟩) := by rw [hH]; simp
  have r6 : H[h2.length + 6]? = some (AObj.cells ⟨[I 0, I 1, I 1, I 0, I 2], 0, 0, false⟩) := by rw [hH]; simp
  have r7 : H[h2.length + 7]? = some (AObj.cells ⟨[I 0, I 2, I 1], 0, 0, false⟩) := by rw [hH]; simp
  have r8 : H[h2.length + 8]? = some (AObj.cells ⟨[I 0, I 0, I 0], 0, 0, false⟩) := by rw [hH]; simp
  have r9 : H[h2.length + 9]? = some (AObj.cells ⟨[I 0], 0, 0, false⟩) := by rw [hH]; simp
  have r10 : H[h2.length + 10]? = some (AObj.cells ⟨[], 0, 0, false⟩) := by rw [hH]; simp
  have r11 : H[h2.length + 11]? = some (AObj.cells ⟨[], 0, 0, false⟩) := by rw [hH]; simp
  have r12 : H[h2.length + 12]? = some (AObj.cells ⟨[], 0, 0, false⟩) := by rw [hH]; simp
  have r13 : H[h2.length + 13]? = some (AObj.cells ⟨[], 0, 0, false⟩) := by rw [hH]; simp
  have r14 : H[h2.length + 14]? = some (AObj.cells ⟨[I 0, I 1, I 0, I 1], 0, 0, false⟩) := by rw [hH]; simp
  have r15 : H[h2.length + 15]? = some (AObj.cells ⟨[I 4, I 3, I 2], 0, 0, false⟩) := by rw [hH]; simp
  have r16 : H[h2.length + 16]? = some (AObj.cells ⟨[I 4, I 1], 0, 0, false⟩) := by rw [hH]; simp
  have r17 : H[h2.length + 17]? = some (AObj.cells ⟨[I 0, I 0], 0, 0, false⟩) := by rw [hH]; simp
  have r18 : H[h2.length + 18]? = some (AObj.cells ⟨[I 0, I 0], 0, 0, false⟩) := by rw [hH]; simp
  have r19 : H[h2.length + 19]? = some (AObj.cells ⟨[I 0, I 0, I 1], 0, 0, false⟩) := by rw [hH]; simp
  have r20 : H[h2.length + 20]? = some (AObj.cells ⟨[I 0], 0, 0, false⟩) := by rw [hH]; simp
  clear hH
  refine WP.call (within5_spec (n := ((20 : Nat) : Int)) (by omega) (by unfold Fit; omega) H) ?_
  rintro _ _ ⟨rfl, rfl⟩
  have a1 : 0 ≤ which % ((20 : Nat) : Int) ∧ which % ((20 : Nat) : Int) < 20 := ⟨Int.emod_nonneg _ (by omega), Int.emod_lt_of_pos _ (by omega)⟩
  obtain ⟨c, hc⟩ : ∃ c : Nat, which % ((20 : Nat) : Int) = c := ⟨(which % ((20 : Nat) : Int)).toNat, by omega⟩
  rw [hc] at a1 ⊢
  have hcc : c = 0 ∨ c = 1 ∨ c = 2 ∨ c = 3 ∨ c = 4 ∨ c = 5 ∨ c = 6 ∨ c = 7 ∨ c = 8 ∨ c = 9 ∨ c = 10 ∨ c = 11 ∨ c = 12 ∨ c = 13 ∨ c = 14 ∨ c = 15 ∨ c = 16 ∨ c = 17 ∨ c = 18 ∨ c = 19 := by omega
  rcases hcc with rfl | rfl | rfl | rfl | rfl | rfl | rfl | rfl | rfl | rfl | rfl | rfl | rfl | rfl | rfl | rfl | rfl | rfl | rfl | rfl
  · simp -implicitDefEqProofs (disch := first | assumption | omega | (simp only [gL] <;> omega) | ((repeat (first | exact Ext.refl _ | assumption | apply Ext.app | apply Ext.mk | (refine Ext.setr ?_ (by (first | omega | (simp only [gL] <;> omega))) _))); done) | (simp only [gL, gA, rS, rW, rB] <;> omega) | fail) only [gB, setAll, partL, fldV, reduceIte, Nat.reduceAdd, Nat.reduceMul, rS, rW, rB]
    exact kcase (S := ⟨#[119, 42]⟩) (f := 60) (n := .star (.set 1)) (w := []) (is := true) (p := .ptr (h2.length + 21) 0 1 0) (q := .ptr (h2.length + 22) 0 1 0) (s := .sl (h2.length + 1) 0 0 1 none 0) (by decide) (by omega) (by kernel_rfl) (fineB_ok _ (by decide +kernel)) (by decide +kernel) ⟨fun _ => In_ev 40 (by decide +kernel), fun _ => rfl⟩ (by decide)
      (.inr ⟨h2.length + 1, 0, none, 0, _, rfl, r1, Nat.le_refl _, rfl, by simp [encI]⟩) (fun H' e => by rw [ld1_ptr, e.get rW]; rfl) (fun H' e => by rw [ld1_ptr, e.get rB]; rfl)
  · simp -implicitDefEqProofs (disch := first | assumption | omega | (simp only [gL] <;> omega) | ((repeat (first | exact Ext.refl _ | assumption | apply Ext.app | apply Ext.mk | (refine Ext.setr ?_ (by (first | omega | (simp only [gL] <;> omega))) _))); done) | (simp only [gL, gA, rS, rW, rB] <;> omega) | fail) only [gB, setAll, partL, fldV, reduceIte, Nat.reduceAdd, Nat.reduceMul, rS, rW, rB]
    exact kcase (S := ⟨#[119, 42]⟩) (f := 60) (n := .star (.set 1)) (w := [0, 0, 0]) (is := true) (p := .ptr (h2.length + 21) 1 2 0) (q := .ptr (h2.length + 22) 1 2 0) (s := .sl (h2.length + 2) 0 3 1 none 0) (by decide) (by omega) (by kernel_rfl) (fineB_ok _ (by decide +kernel)) (by decide +kernel) ⟨fun _ => In_ev 40 (by decide +kernel), fun _ => rfl⟩ (by decide)
      (.inr ⟨h2.length + 2, 0, none, 0, _, rfl, r2, Nat.le_refl _, rfl, by simp [encI]⟩) (fun H' e => by rw [ld1_ptr, e.get rW]; rfl) (fun H' e => by rw [ld1_ptr, e.get rB]; rfl)
  · simp -implicitDefEqProofs (disch := first | assumption | omega | (simp only [gL] <;> omega) | ((repeat (first | exact Ext.refl _ | assumption | apply Ext.app | apply Ext.mk | (refine Ext.setr ?_ (by (first | omega | (simp only [gL] <;> omega))) _))); done) | (simp only [gL, gA, rS, rW, rB] <;> omega) | fail) only [gB, setAll, partL, fldV, reduceIte, Nat.reduceAdd, Nat.reduceMul, rS, rW, rB]
    exact kcase (S := ⟨#[119, 43]⟩) (f := 60) (n := .plus (.set 1)) (w := []) (is := false) (p := .ptr (h2.length + 21) 2 3 0) (q := .ptr (h2.length + 22) 2 3 0) (s := .sl (h2.length + 3) 0 0 1 none 0) (by decide) (by omega) (by kernel_rfl) (fineB_ok _ (by decide +kernel)) (by decide +kernel) ⟨fun q => (by cases q), fun q => absurd q kneg2⟩ (by decide)
      (.inr ⟨h2.length + 3, 0, none, 0, _, rfl, r3, Nat.le_refl _, rfl, by simp [encI]⟩) (fun H' e => by rw [ld1_ptr, e.get rW]; rfl) (fun H' e => by rw [ld1_ptr, e.get rB]; rfl)
  · simp -implicitDefEqProofs (disch := first | assumption | omega | (simp only [gL] <;> omega) | ((repeat (first | exact Ext.refl _ | assumption | apply Ext.app | apply Ext.mk | (refine Ext.setr ?_ (by (first | omega | (simp only [gL] <;> omega))) _))); done) | (simp only [gL, gA, rS, rW, rB] <;> omega) | fail) only [gB, setAll, partL, fldV, reduceIte, Nat.reduceAdd, Nat.reduceMul, rS, rW, rB]
    exact kcase (S := ⟨#[119, 98, 124, 99]⟩) (f := 60) (n := .uni [.join [(.set 1), (.set 2)], (.set 4)]) (w := [0, 1]) (is := true) (p := .ptr (h2.length + 21) 3 4 0) (q := .ptr (h2.length + 22) 3 4 0) (s := .sl (h2.length + 4) 0 2 1 none 0) (by decide) (by omega) (by kernel_rfl) (fineB_ok _ (by decide +kernel)) (by decide +kernel) ⟨fun _ => In_ev 40 (by decide +kernel), fun _ => rfl⟩ (by decide)
      (.inr ⟨h2.length + 4, 0, none, 0, _, rfl, r4, Nat.le_refl _, rfl, by simp [encI]⟩) (fun H' e => by rw [ld1_ptr, e.get rW]; rfl) (fun H' e => by rw [ld1_ptr, e.get rB]; rfl)
  · simp -implicitDefEqProofs (disch := first | assumption | omega | (simp only [gL] <;> omega) | ((repeat (first | exact Ext.refl _ | assumption | apply Ext.app | apply Ext.mk | (refine Ext.setr ?_ (by (first | omega | (simp only [gL] <;> omega))) _))); done) | (simp only [gL, gA, rS, rW, rB] <;> omega) | fail) only [gB, setAll, partL, fldV, reduceIte, Nat.reduceAdd, Nat.reduceMul, rS, rW, rB]
    exact kcase (S := ⟨#[119, 98, 124, 99]⟩) (f := 60) (n := .uni [.join [(.set 1), (.set 2)], (.set 4)]) (w := [0, 1, 2]) (is := false) (p := .ptr (h2.length + 21) 4 5 0) (q := .ptr (h2.length + 22) 4 5 0) (s := .sl (h2.length + 5) 0 3 1 none 0) (by decide) (by omega) (by kernel_rfl) (fineB_ok _ (by decide +kernel)) (by decide +kernel) ⟨fun q => (by cases q), fun q => absurd q kneg4⟩ (by decide)
      (.inr ⟨h2.length + 5, 0, none, 0, _, rfl, r5, Nat.le_refl _, rfl, by simp [encI]⟩) (fun H' e => by rw [ld1_ptr, e.get rW]; rfl) (fun H' e => by rw [ld1_ptr, e.get rB]; rfl)
  · simp -implicitDefEqProofs (disch := first | assumption | omega | (simp only [gL] <;> omega) | ((repeat (first | exact Ext.refl _ | assumption | apply Ext.app | apply Ext.mk | (refine Ext.setr ?_ (by (first | omega | (simp only [gL] <;> omega))) _))); done) | (simp only [gL, gA, rS, rW, rB] <;> omega) | fail) only [gB, setAll, partL, fldV, reduceIte, Nat.reduceAdd, Nat.reduceMul, rS, rW, rB]
    exact kcase (S := ⟨#[40, 119, 124, 98, 41, 42, 99]⟩) (f := 60) (n := .join [.star (.uni [(.set 1), (.set 2)]), (.set 4)]) (w := [0, 1, 1, 0, 2]) (is := true) (p := .ptr (h2.length + 21) 5 6 0) (q := .ptr (h2.length + 22) 5 6 0) (s := .sl (h2.length + 6) 0 5 1 none 0) (by decide) (by omega) (by kernel_rfl) (fineB_ok _ (by decide +kernel)) (by decide +kernel) ⟨fun _ => In_ev 40 (by decide +kernel), fun _ => rfl⟩ (by decide)
      (.inr ⟨h2.length + 6, 0, none, 0, _, rfl, r6, Nat.le_refl _, rfl, by simp [encI]⟩) (fun H' e => by rw [ld1_ptr, e.get rW]; rfl) (fun H' e => by rw [ld1_ptr, e.get rB]; rfl)
  · simp -implicitDefEqProofs (disch := first | assumption | omega | (simp only [gL] <;> omega) | ((repeat (first | exact Ext.refl _ | assumption | apply Ext.app | apply Ext.mk | (refine Ext.setr ?_ (by (first | omega | (simp only [gL] <;> omega))) _))); done) | (simp only [gL, gA, rS, rW, rB] <;> omega) | fail) only [gB, setAll, partL, fldV, reduceIte, Nat.reduceAdd, Nat.reduceMul, rS, rW, rB]
    exact kcase (S := ⟨#[40, 119, 124, 98, 41, 42, 99]⟩) (f := 60) (n := .join [.star (.uni [(.set 1), (.set 2)]), (.set 4)]) (w := [0, 2, 1]) (is := false) (p := .ptr (h2.length + 21) 6 7 0) (q := .ptr (h2.length + 22) 6 7 0) (s := .sl (h2.length + 7) 0 3 1 none 0) (by decide) (by omega) (by kernel_rfl) (fineB_ok _ (by decide +kernel)) (by decide +kernel) ⟨fun q => (by cases q), fun q => absurd q kneg6⟩ (by decide)
      (.inr ⟨h2.length + 7, 0, none, 0, _, rfl, r7, Nat.le_refl _, rfl, by simp [encI]⟩) (fun H' e => by rw [ld1_ptr, e.get rW]; rfl) (fun H' e => by rw [ld1_ptr, e.get rB]; rfl)
  · simp -implicitDefEqProofs (disch := first | assumption | omega | (simp only [gL] <;> omega) | ((repeat (first | exact Ext.refl _ | assumption | apply Ext.app | apply Ext.mk | (refine Ext.setr ?_ (by (first | omega | (simp only [gL] <;> omega))) _))); done) | (simp only [gL, gA, rS, rW, rB] <;> omega) | fail) only [gB, setAll, partL, fldV, reduceIte, Nat.reduceAdd, Nat.reduceMul, rS, rW, rB]
    exact kcase (S := ⟨#[119, 123, 50, 44, 51, 125]⟩) (f := 60) (n := .rep 2 3 (.set 1)) (w := [0, 0, 0]) (is := true) (p := .ptr (h2.length + 21) 7 8 0) (q := .ptr (h2.length + 22) 7 8 0) (s := .sl (h2.length + 8) 0 3 1 none 0) (by decide) (by omega) (by kernel_rfl) (fineB_ok _ (by decide +kernel)) (by decide +kernel) ⟨fun _ => In_ev 40 (by decide +kernel), fun _ => rfl⟩ (by decide)
      (.inr ⟨h2.length + 8, 0, none, 0, _, rfl, r8, Nat.le_refl _, rfl, by simp [encI]⟩) (fun H' e => by rw [ld1_ptr, e.get rW]; rfl) (fun H' e => by rw [ld1_ptr, e.get rB]; rfl)
  · simp -implicitDefEqProofs (disch := first | assumption | omega | (simp only [gL] <;> omega) | ((repeat (first | exact Ext.refl _ | assumption | apply Ext.app | apply Ext.mk | (refine Ext.setr ?_ (by (first | omega | (simp only [gL] <;> omega))) _))); done) | (simp only [gL, gA, rS, rW, rB] <;> omega) | fail) only [gB, setAll, partL, fldV, reduceIte, Nat.reduceAdd, Nat.reduceMul, rS, rW, rB]
    exact kcase (S := ⟨#[119, 123, 50, 44, 51, 125]⟩) (f := 60) (n := .rep 2 3 (.set 1)) (w := [0]) (is := false) (p := .ptr (h2.length + 21) 8 9 0) (q := .ptr (h2.length + 22) 8 9 0) (s := .sl (h2.length + 9) 0 1 1 none 0) (by decide) (by omega) (by kernel_rfl) (fineB_ok _ (by decide +kernel)) (by decide +kernel) ⟨fun q => (by cases q), fun q => absurd q kneg8⟩ (by decide)
      (.inr ⟨h2.length + 9, 0, none, 0, _, rfl, r9, Nat.le_refl _, rfl, by simp [encI]⟩) (fun H' e => by rw [ld1_ptr, e.get rW]; rfl) (fun H' e => by rw [ld1_ptr, e.get rB]; rfl)
  · simp -implicitDefEqProofs (disch := first | assumption | omega | (simp only [gL] <;> omega) | ((repeat (first | exact Ext.refl _ | assumption | apply Ext.app | apply Ext.mk | (refine Ext.setr ?_ (by (first | omega | (simp only [gL] <;> omega))) _))); done) | (simp only [gL, gA, rS, rW, rB] <;> omega) | fail) only [gB, setAll, partL, fldV, reduceIte, Nat.reduceAdd, Nat.reduceMul, rS, rW, rB]
    exact kcase (S := ⟨#[119, 123, 48, 44, 48, 125]⟩) (f := 60) (n := .rep 0 0 (.set 1)) (w := []) (is := true) (p := .ptr (h2.length + 21) 9 10 0) (q := .ptr (h2.length + 22) 9 10 0) (s := .sl (h2.length + 10) 0 0 1 none 0) (by decide) (by omega) (by kernel_rfl) (fineB_ok _ (by decide +kernel)) (by decide +kernel) ⟨fun _ => In_ev 40 (by decide +kernel), fun _ => rfl⟩ (by decide)
      (.inr ⟨h2.length + 10, 0, none, 0, _, rfl, r10, Nat.le_refl _, rfl, by simp [encI]⟩) (fun H' e => by rw [ld1_ptr, e.get rW]; rfl) (fun H' e => by rw [ld1_ptr, e.get rB]; rfl)
  · simp -implicitDefEqProofs (disch := first | assumption | omega | (simp only [gL] <;> omega) | ((repeat (first | exact Ext.refl _ | assumption | apply Ext.app | apply Ext.mk | (refine Ext.setr ?_ (by (first | omega | (simp only [gL] <;> omega))) _))); done) | (simp only [gL, gA, rS, rW, rB] <;> omega) | fail) only [gB, setAll, partL, fldV, reduceIte, Nat.reduceAdd, Nat.reduceMul, rS, rW, rB]
    exact kcase (S := ⟨#[48, 42]⟩) (f := 60) (n := .star .emp) (w := []) (is := true) (p := .ptr (h2.length + 21) 10 11 0) (q := .ptr (h2.length + 22) 10 11 0) (s := .sl (h2.length + 11) 0 0 1 none 0) (by decide) (by omega) (by kernel_rfl) (fineB_ok _ (by decide +kernel)) (by decide +kernel) ⟨fun _ => In_ev 40 (by decide +kernel), fun _ => rfl⟩ (by decide)
      (.inr ⟨h2.length + 11, 0, none, 0, _, rfl, r11, Nat.le_refl _, rfl, by simp [encI]⟩) (fun H' e => by rw [ld1_ptr, e.get rW]; rfl) (fun H' e => by rw [ld1_ptr, e.get rB]; rfl)
  · simp -implicitDefEqProofs (disch := first | assumption | omega | (simp only [gL] <;> omega) | ((repeat (first | exact Ext.refl _ | assumption | apply Ext.app | apply Ext.mk | (refine Ext.setr ?_ (by (first | omega | (simp only [gL] <;> omega))) _))); done) | (simp only [gL, gA, rS, rW, rB] <;> omega) | fail) only [gB, setAll, partL, fldV, reduceIte, Nat.reduceAdd, Nat.reduceMul, rS, rW, rB]
    exact kcase (S := ⟨#[48]⟩) (f := 60) (n := .emp) (w := []) (is := false) (p := .ptr (h2.length + 21) 11 12 0) (q := .ptr (h2.length + 22) 11 12 0) (s := .sl (h2.length + 12) 0 0 1 none 0) (by decide) (by omega) (by kernel_rfl) (fineB_ok _ (by decide +kernel)) (by decide +kernel) ⟨fun q => (by cases q), fun q => absurd q In_emp⟩ (by decide)
      (.inr ⟨h2.length + 12, 0, none, 0, _, rfl, r12, Nat.le_refl _, rfl, by simp [encI]⟩) (fun H' e => by rw [ld1_ptr, e.get rW]; rfl) (fun H' e => by rw [ld1_ptr, e.get rB]; rfl)
  · simp -implicitDefEqProofs (disch := first | assumption | omega | (simp only [gL] <;> omega) | ((repeat (first | exact Ext.refl _ | assumption | apply Ext.app | apply Ext.mk | (refine Ext.setr ?_ (by (first | omega | (simp only [gL] <;> omega))) _))); done) | (simp only [gL, gA, rS, rW, rB] <;> omega) | fail) only [gB, setAll, partL, fldV, reduceIte, Nat.reduceAdd, Nat.reduceMul, rS, rW, rB]
    exact kcase (S := ⟨#[95]⟩) (f := 60) (n := .eps) (w := []) (is := true) (p := .ptr (h2.length + 21) 12 13 0) (q := .ptr (h2.length + 22) 12 13 0) (s := .sl (h2.length + 13) 0 0 1 none 0) (by decide) (by omega) (by kernel_rfl) (fineB_ok _ (by decide +kernel)) (by decide +kernel) ⟨fun _ => In_ev 40 (by decide +kernel), fun _ => rfl⟩ (by decide)
      (.inr ⟨h2.length + 13, 0, none, 0, _, rfl, r13, Nat.le_refl _, rfl, by simp [encI]⟩) (fun H' e => by rw [ld1_ptr, e.get rW]; rfl) (fun H' e => by rw [ld1_ptr, e.get rB]; rfl)
  · simp -implicitDefEqProofs (disch := first | assumption | omega | (simp only [gL] <;> omega) | ((repeat (first | exact Ext.refl _ | assumption | apply Ext.app | apply Ext.mk | (refine Ext.setr ?_ (by (first | omega | (simp only [gL] <;> omega))) _))); done) | (simp only [gL, gA, rS, rW, rB] <;> omega) | fail) only [gB, setAll, partL, fldV, reduceIte, Nat.reduceAdd, Nat.reduceMul, rS, rW, rB]
    exact kcase (S := ⟨#[40, 119, 98, 41, 43]⟩) (f := 60) (n := .plus (.join [(.set 1), (.set 2)])) (w := [0, 1, 0, 1]) (is := true) (p := .ptr (h2.length + 21) 13 14 0) (q := .ptr (h2.length + 22) 13 14 0) (s := .sl (h2.length + 14) 0 4 1 none 0) (by decide) (by omega) (by kernel_rfl) (fineB_ok _ (by decide +kernel)) (by decide +kernel) ⟨fun _ => In_ev 40 (by decide +kernel), fun _ => rfl⟩ (by decide)
      (.inr ⟨h2.length + 14, 0, none, 0, _, rfl, r14, Nat.le_refl _, rfl, by simp [encI]⟩) (fun H' e => by rw [ld1_ptr, e.get rW]; rfl) (fun H' e => by rw [ld1_ptr, e.get rB]; rfl)
  · simp -implicitDefEqProofs (disch := first | assumption | omega | (simp only [gL] <;> omega) | ((repeat (first | exact Ext.refl _ | assumption | apply Ext.app | apply Ext.mk | (refine Ext.setr ?_ (by (first | omega | (simp only [gL] <;> omega))) _))); done) | (simp only [gL, gA, rS, rW, rB] <;> omega) | fail) only [gB, setAll, partL, fldV, reduceIte, Nat.reduceAdd, Nat.reduceMul, rS, rW, rB]
    exact kcase (S := ⟨#[46, 102, 46]⟩) (f := 60) (n := .join [.set 31, .set 8, .set 31]) (w := [4, 3, 2]) (is := true) (p := .ptr (h2.length + 21) 14 15 0) (q := .ptr (h2.length + 22) 14 15 0) (s := .sl (h2.length + 15) 0 3 1 none 0) (by decide) (by omega) (by kernel_rfl) (fineB_ok _ (by decide +kernel)) (by decide +kernel) ⟨fun _ => In_ev 40 (by decide +kernel), fun _ => rfl⟩ (by decide)
      (.inr ⟨h2.length + 15, 0, none, 0, _, rfl, r15, Nat.le_refl _, rfl, by simp [encI]⟩) (fun H' e => by rw [ld1_ptr, e.get rW]; rfl) (fun H' e => by rw [ld1_ptr, e.get rB]; rfl)
  · simp -implicitDefEqProofs (disch := first | assumption | omega | (simp only [gL] <;> omega) | ((repeat (first | exact Ext.refl _ | assumption | apply Ext.app | apply Ext.mk | (refine Ext.setr ?_ (by (first | omega | (simp only [gL] <;> omega))) _))); done) | (simp only [gL, gA, rS, rW, rB] <;> omega) | fail) only [gB, setAll, partL, fldV, reduceIte, Nat.reduceAdd, Nat.reduceMul, rS, rW, rB]
    exact kcase (S := ⟨#[91, 119, 116, 93, 63, 98]⟩) (f := 60) (n := .join [.opt (.set 17), (.set 2)]) (w := [4, 1]) (is := true) (p := .ptr (h2.length + 21) 15 16 0) (q := .ptr (h2.length + 22) 15 16 0) (s := .sl (h2.length + 16) 0 2 1 none 0) (by decide) (by omega) (by kernel_rfl) (fineB_ok _ (by decide +kernel)) (by decide +kernel) ⟨fun _ => In_ev 40 (by decide +kernel), fun _ => rfl⟩ (by decide)
      (.inr ⟨h2.length + 16, 0, none, 0, _, rfl, r16, Nat.le_refl _, rfl, by simp [encI]⟩) (fun H' e => by rw [ld1_ptr, e.get rW]; rfl) (fun H' e => by rw [ld1_ptr, e.get rB]; rfl)
  · simp -implicitDefEqProofs (disch := first | assumption | omega | (simp only [gL] <;> omega) | ((repeat (first | exact Ext.refl _ | assumption | apply Ext.app | apply Ext.mk | (refine Ext.setr ?_ (by (first | omega | (simp only [gL] <;> omega))) _))); done) | (simp only [gL, gA, rS, rW, rB] <;> omega) | fail) only [gB, setAll, partL, fldV, reduceIte, Nat.reduceAdd, Nat.reduceMul, rS, rW, rB]
    exact kcase (S := ⟨#[40, 119, 42, 41, 42]⟩) (f := 60) (n := .star (.star (.set 1))) (w := [0, 0]) (is := true) (p := .ptr (h2.length + 21) 16 17 0) (q := .ptr (h2.length + 22) 16 17 0) (s := .sl (h2.length + 17) 0 2 1 none 0) (by decide) (by omega) (by kernel_rfl) (fineB_ok _ (by decide +kernel)) (by decide +kernel) ⟨fun _ => In_ev 40 (by decide +kernel), fun _ => rfl⟩ (by decide)
      (.inr ⟨h2.length + 17, 0, none, 0, _, rfl, r17, Nat.le_refl _, rfl, by simp [encI]⟩) (fun H' e => by rw [ld1_ptr, e.get rW]; rfl) (fun H' e => by rw [ld1_ptr, e.get rB]; rfl)
  · simp -implicitDefEqProofs (disch := first | assumption | omega | (simp only [gL] <;> omega) | ((repeat (first | exact Ext.refl _ | assumption | apply Ext.app | apply Ext.mk | (refine Ext.setr ?_ (by (first | omega | (simp only [gL] <;> omega))) _))); done) | (simp only [gL, gA, rS, rW, rB] <;> omega) | fail) only [gB, setAll, partL, fldV, reduceIte, Nat.reduceAdd, Nat.reduceMul, rS, rW, rB]
    exact kcase (S := ⟨#[40, 95, 124, 119, 41, 123, 51, 44, 51, 125]⟩) (f := 60) (n := .rep 3 3 (.uni [.eps, (.set 1)])) (w := [0, 0]) (is := true) (p := .ptr (h2.length + 21) 17 18 0) (q := .ptr (h2.length + 22) 17 18 0) (s := .sl (h2.length + 18) 0 2 1 none 0) (by decide) (by omega) (by kernel_rfl) (fineB_ok _ (by decide +kernel)) (by decide +kernel) ⟨fun _ => In_ev 40 (by decide +kernel), fun _ => rfl⟩ (by decide)
      (.inr ⟨h2.length + 18, 0, none, 0, _, rfl, r18, Nat.le_refl _, rfl, by simp [encI]⟩) (fun H' e => by rw [ld1_ptr, e.get rW]; rfl) (fun H' e => by rw [ld1_ptr, e.get rB]; rfl)
  · simp -implicitDefEqProofs (disch := first | assumption | omega | (simp only [gL] <;> omega) | ((repeat (first | exact Ext.refl _ | assumption | apply Ext.app | apply Ext.mk | (refine Ext.setr ?_ (by (first | omega | (simp only [gL] <;> omega))) _))); done) | (simp only [gL, gA, rS, rW, rB] <;> omega) | fail) only [gB, setAll, partL, fldV, reduceIte, Nat.reduceAdd, Nat.reduceMul, rS, rW, rB]
    exact kcase (S := ⟨#[119, 123, 50, 44, 51, 125, 98]⟩) (f := 60) (n := .join [.rep 2 3 (.set 1), (.set 2)]) (w := [0, 0, 1]) (is := true) (p := .ptr (h2.length + 21) 18 19 0) (q := .ptr (h2.length + 22) 18 19 0) (s := .sl (h2.length + 19) 0 3 1 none 0) (by decide) (by omega) (by kernel_rfl) (fineB_ok _ (by decide +kernel)) (by decide +kernel) ⟨fun _ => In_ev 40 (by decide +kernel), fun _ => rfl⟩ (by decide)
      (.inr ⟨h2.length + 19, 0, none, 0, _, rfl, r19, Nat.le_refl _, rfl, by simp [encI]⟩) (fun H' e => by rw [ld1_ptr, e.get rW]; rfl) (fun H' e => by rw [ld1_ptr, e.get rB]; rfl)
  · simp -implicitDefEqProofs (disch := first | assumption | omega | (simp only [gL] <;> omega) | ((repeat (first | exact Ext.refl _ | assumption | apply Ext.app | apply Ext.mk | (refine Ext.setr ?_ (by (first | omega | (simp only [gL] <;> omega))) _))); done) | (simp only [gL, gA, rS, rW, rB] <;> omega) | fail) only [gB, setAll, partL, fldV, reduceIte, Nat.reduceAdd, Nat.reduceMul, rS, rW, rB]
    exact kcase (S := ⟨#[48, 124, 119]⟩) (f := 60) (n := .uni [.emp, (.set 1)]) (w := [0]) (is := true) (p := .ptr (h2.length + 21) 19 20 0) (q := .ptr (h2.length + 22) 19 20 0) (s := .sl (h2.length + 20) 0 1 1 none 0) (by decide) (by omega) (by kernel_rfl) (fineB_ok _ (by decide +kernel)) (by decide +kernel) ⟨fun _ => In_ev 40 (by decide +kernel), fun _ => rfl⟩ (by decide)
      (.inr ⟨h2.length + 20, 0, none, 0, _, rfl, r20, Nat.le_refl _, rfl, by simp [encI]⟩) (fun H' e => by rw [ld1_ptr, e.get rW]; rfl) (fun H' e => by rw [ld1_ptr, e.get rB]; rfl)
end Go.Gm.A5
