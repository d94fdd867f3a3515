/- A part of the proof (GmA9K): an abstract machine, what it does, and what the functions of the program come to on it. -/
import Derived.Test.YtidaobchfmnjpaaGmA9J
set_option linter.unusedVariables false
set_option linter.unusedSimpArgs false
set_option linter.unusedSectionVars false
namespace Go.Gm.A9
open Go Go.Gm
section
variable {h0 h : Heap} {g : AV} {N : Nat} {es : List E} {D : List (List Int)} {acc : List Bool}
theorem all_l1 {W : Nat → Prop} {hb : Heap} {os oc oe ov : Nat} {q sc se sf : AV} {n : Nat} {fh : FuncId} {L : Int → Int → List Tr} {st : Nat → Prop}
    (e0 : Ext h0 hb) (hW : ∀ o, W o → h0.length ≤ o) (hWn : ∀ o, hb.length ≤ o → W o) (gv : GV h0 g N es D acc) (ok : DOk D acc) (co : COk es) (hN : N ≤ 100000) (hn : n = N * D.length) (hn2 : n ≤ 1000000) (hh : HopsOk h0 g N es D fh L) (hst : ∀ x, st x → x < n) :
    ∀ (d : Nat) (h : Heap) (id0 k : Nat) (ls : Int) (rk : Nat → Nat) (cs ds fs : List Int) (M : List (Option Int)), n ≤ d + k → FrS W hb h → SW W h os g (.fn fh [] []) q sc se sf oc oe ov n cs ds fs M ls → DI n 2147483647 (hopA es D.length L) st id0 [] (gf cs) (gf M) (gf ds) (gf fs) rk k → un n (gf cs) + k = n →
      WP (fun p : Nat × Nat => product_search_all_l1 tab p.1 p.2 (.ptr os 0 7 0) h) fun r h' => r = .tup [] ∧ FrS W hb h' ∧ ∃ id2 k2 ls2 rk2 cs2 ds2 fs2 M2, SW W h' os g (.fn fh [] []) q sc se sf oc oe ov n cs2 ds2 fs2 M2 ls2 ∧
        DI n 2147483647 (hopA es D.length L) st id2 [] (gf cs2) (gf M2) (gf ds2) (gf fs2) rk2 k2 ∧ (∀ x : Nat, x < n → gf M2 x = none) ∧ un n (gf cs2) + (k2 : Int) = n := by
  intro d
  induction d with
  | zero =>
    intro h id0 k ls rk cs ds fs M hd f w di hk
    refine WP.rnd (fun i j => product_search_all_l1_eq tab i j (.ptr os 0 7 0) h) ?_
    have ex : Ext h0 h := f.ext e0 fun o q1 q2 => by have := hW o q2; omega
    have hb2 := f.len
    refine WP.call (step_spec ex hW gv ok co hN hn hn2 hh hst w di hk) ?_
    rintro r h2 ⟨f2, ⟨rfl, m, w2⟩ | ⟨id, key, ds2, fs2, M2, rk2, i1, i2, _, rfl, w2, d2, k2⟩⟩
    · simp -implicitDefEqProofs (maxSteps := 1000000) (disch := first | assumption | omega | (simp only [gL] <;> omega) | ((repeat (first | exact Ext.refl _ | assumption | apply Ext.app | apply Ext.mk | (refine Ext.setr ?_ (by (first | omega | (simp only [gL] <;> omega))) _))); done) | (simp only [gL, gA, extr_0, extr_1] <;> omega) | fail) only [gB, setAll, partL, fldV, reduceIte, Nat.reduceAdd, Nat.reduceMul, extr_0, extr_1]
      exact WP.ret ⟨rfl, f.trans f2, id0, k, ls, rk, cs, ds, fs, M, w2.mono fun o _ z => z.elim (fun z => z) fun z => hWn o (by omega), di, m, hk⟩
    · have := un_nonneg n (gf (cs.set id key))
      omega
  | succ d ih =>
    intro h id0 k ls rk cs ds fs M hd f w di hk
    refine WP.rnd (fun i j => product_search_all_l1_eq tab i j (.ptr os 0 7 0) h) ?_
    have ex : Ext h0 h := f.ext e0 fun o q1 q2 => by have := hW o q2; omega
    have hb2 := f.len
    refine WP.call (step_spec ex hW gv ok co hN hn hn2 hh hst w di hk) ?_
    rintro r h2 ⟨f2, ⟨rfl, m, w2⟩ | ⟨id, key, ds2, fs2, M2, rk2, i1, i2, _, rfl, w2, d2, k2⟩⟩
    · simp -implicitDefEqProofs (maxSteps := 1000000) (disch := first | assumption | omega | (simp only [gL] <;> omega) | ((repeat (first | exact Ext.refl _ | assumption | apply Ext.app | apply Ext.mk | (refine Ext.setr ?_ (by (first | omega | (simp only [gL] <;> omega))) _))); done) | (simp only [gL, gA, extr_0, extr_1] <;> omega) | fail) only [gB, setAll, partL, fldV, reduceIte, Nat.reduceAdd, Nat.reduceMul, extr_0, extr_1]
      exact WP.ret ⟨rfl, f.trans f2, id0, k, ls, rk, cs, ds, fs, M, w2.mono fun o _ z => z.elim (fun z => z) fun z => hWn o (by omega), di, m, hk⟩
    · simp -implicitDefEqProofs (maxSteps := 1000000) (disch := first | assumption | omega | (simp only [gL] <;> omega) | ((repeat (first | exact Ext.refl _ | assumption | apply Ext.app | apply Ext.mk | (refine Ext.setr ?_ (by (first | omega | (simp only [gL] <;> omega))) _))); done) | (simp only [gL, gA, extr_0, extr_1] <;> omega) | fail) only [gB, setAll, partL, fldV, reduceIte, Nat.reduceAdd, Nat.reduceMul, extr_0, extr_1]
      exact ih h2 id (k + 1) key rk2 _ ds2 fs2 M2 (by omega) (f.trans f2) (w2.mono fun o _ z => z.elim (fun z => z) fun z => hWn o (by omega)) d2 k2
theorem all_spec {W : Nat → Prop} {os oc oe ov : Nat} {q sc se sf : AV} {n : Nat} {fh : FuncId} {L : Int → Int → List Tr} {st : Nat → Prop} {id0 k : Nat} {ls : Int} {rk : Nat → Nat} {cs ds fs : List Int} {M : List (Option Int)}
    (e0 : Ext h0 h) (hW : ∀ o, W o → h0.length ≤ o) (gv : GV h0 g N es D acc) (ok : DOk D acc) (co : COk es) (hN : N ≤ 100000) (hn : n = N * D.length) (hn2 : n ≤ 1000000) (hh : HopsOk h0 g N es D fh L) (hst : ∀ x, st x → x < n)
    (w : SW W h os g (.fn fh [] []) q sc se sf oc oe ov n cs ds fs M ls) (di : DI n 2147483647 (hopA es D.length L) st id0 [] (gf cs) (gf M) (gf ds) (gf fs) rk k) (hk : un n (gf cs) + k = n) :
    Tot tab f_product_search_all [.ptr os 0 7 0] h fun r h' => r = .tup [] ∧ FrS W h h' ∧ ∃ id2 k2 ls2 rk2 cs2 ds2 fs2 M2, SW (fun o => W o ∨ h.length ≤ o) h' os g (.fn fh [] []) q sc se sf oc oe ov n cs2 ds2 fs2 M2 ls2 ∧
        DI n 2147483647 (hopA es D.length L) st id2 [] (gf cs2) (gf M2) (gf ds2) (gf fs2) rk2 k2 ∧ (∀ x : Nat, x < n → gf M2 x = none) ∧ un n (gf cs2) + (k2 : Int) = n := by
  refine WP.tot (fun k => (call_product_search_all k _ h).trans (product_search_all_eq tab k _ h)) ?_
  refine WP.ent ((all_l1 (W := fun o => W o ∨ h.length ≤ o) e0 (fun o z => z.elim (hW o) fun z => by have := e0.len; omega) (fun o z => .inr z) gv ok co hN hn hn2 hh hst n h id0 k ls rk cs ds fs M (by omega) (FrS.refl _ _) (w.mono fun o _ z => .inl z) di hk).mono ?_) fun i => rfl
  rintro r h' ⟨rfl, f, z⟩
  exact ⟨rfl, f.mono fun o z1 z2 => z2.elim (fun z => z) fun z => by omega, z⟩
/-! ### The beginning -/
def encP2 (p : Int × Int) : List AV := [I p.1, I p.2]
theorem un_all {n : Nat} {c : Nat → Int} (hc : ∀ x, x < n → c x = -1) : un n c = n := by
  have : un n c = sumN (fun _ => (1 : Int)) n := sumN_congr n fun x hx => by rw [if_pos (by have := hc x hx; omega)]
  rw [this]
  clear this hc
  induction n with
  | zero => rfl
  | succ n ih => rw [sumN, ih]; omega
theorem DI.start {n : Nat} {W : Int} {A : Nat → List Hop} {st : Nat → Prop} {c e f : Nat → Int} {m : Nat → Option Int} (hc : ∀ x, x < n → c x = -1) (hf : ∀ x, x < n → f x = -1) (hm : ∀ x, x < n → (st x ∧ m x = some 0) ∨ (¬ st x ∧ m x = none)) : DI n W A st 0 [] c m e f (fun _ => 0) 0 := by
  refine ⟨fun x hx h => ?_, fun x hx _ => hc x hx, fun x hx v h => ?_, fun x hx h => ?_, fun x hx h => ?_, fun x y hx hy h => ?_, fun y hy v h => ?_, fun x hx h => ?_, fun x hx v h => ?_, fun x hx h => ?_⟩
  · have := hc x hx; omega
  · rcases hm x hx with ⟨m1, m2⟩ | ⟨m1, m2⟩
    · rw [m2] at h
      injection h with h
      subst h
      exact ⟨hc x hx, Int.le_refl _, [], .nil m1⟩
    · rw [m2] at h; cases h
  · have := hc x hx; omega
  · rcases hm x hx with ⟨m1, m2⟩ | ⟨m1, m2⟩
    · exact .inr m2
    · exact absurd h m1
  · have := hc x hx; omega
  · rcases h with h | h
    · have := hc y hy; omega
    · rcases hm y hy with ⟨m1, m2⟩ | ⟨m1, m2⟩
      · rw [m2] at h
        injection h with h
        exact .inl ⟨hf y hy, m1, h.symm⟩
      · rw [m2] at h; cases h
  · have := hc x hx; omega
  · rcases h with h | h
    · have := hc x hx; omega
    · rcases hm x hx with ⟨m1, m2⟩ | ⟨m1, m2⟩
      · rw [m2] at h
        injection h with h
        subst h
        simp
      · rw [m2] at h; cases h
  · have := hc x hx; omega
end
end Go.Gm.A9
