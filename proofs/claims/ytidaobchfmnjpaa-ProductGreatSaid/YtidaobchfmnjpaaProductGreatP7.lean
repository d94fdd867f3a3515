/- A part of the proof: an abstract machine, what it does, and what the functions of the program come to on it (GmA9BO, GmA9BP, GmA9BQ, GmA9BR, GmA9BS, GmA9BT, GmA9BU, GmA9BV, GmA9CA, GmA9L2, GmEntry). -/
import Derived.OpenShut
import Derived.Test.YtidaobchfmnjpaaProductGreatP6
set_option linter.unusedVariables false
set_option linter.unusedSimpArgs false
set_option linter.unusedSectionVars false
namespace Go.Gm.A9
open Go Go.Gm
def SB (W : Nat → Prop) (h : Heap) (os : Nat) (g : AV) (fh : FuncId) (n : Nat) (A : Nat → List Hop) (st : Nat → Prop) (c : Nat → Int) (m : Nat → Option Int) (ls : Int) : Prop :=
  ∃ (q sc se sf : AV) (oc oe ov : Nat) (cs ds fs : List Int) (M : List (Option Int)) (id k : Nat) (rk : Nat → Nat), SW W h os g (.fn fh [] []) q sc se sf oc oe ov n cs ds fs M ls ∧ DI n 2147483647 A st id [] (gf cs) (gf M) (gf ds) (gf fs) rk k ∧ un n (gf cs) + (k : Int) = n ∧
    c = gf cs ∧ m = gf M
/-- The last one's cost: what waits waits at that or more. -/
def LsOk (n : Nat) (m : Nat → Option Int) (ls : Int) : Prop := 0 ≤ ls ∧ ls ≤ 4000000000000000000 ∧ ∀ x : Nat, x < n → ∀ v, m x = some v → ls ≤ v
section
variable {W : Nat → Prop} {h0 h h' : Heap} {os n : Nat} {g : AV} {fh : FuncId} {A : Nat → List Hop} {st : Nat → Prop} {c : Nat → Int} {m : Nat → Option Int} {ls : Int}
theorem SB.frs (s : SB W h os g fh n A st c m ls) {D : Nat → Prop} (f : FrS D h h') (hd : ∀ o, o < h.length → W o → ¬ D o) : SB W h' os g fh n A st c m ls := by
  obtain ⟨q, sc, se, sf, oc, oe, ov, cs, ds, fs, M, id, k, rk, w, r⟩ := s
  exact ⟨q, sc, se, sf, oc, oe, ov, cs, ds, fs, M, id, k, rk, w.frs f hd, r⟩
theorem SB.mono (s : SB W h os g fh n A st c m ls) {W' : Nat → Prop} (hw : ∀ o, o < h.length → W o → W' o) : SB W' h os g fh n A st c m ls := by
  obtain ⟨q, sc, se, sf, oc, oe, ov, cs, ds, fs, M, id, k, rk, w, r⟩ := s
  exact ⟨q, sc, se, sf, oc, oe, ov, cs, ds, fs, M, id, k, rk, w.mono hw, r⟩
theorem SB.half (s : SB W h os g fh n A st c m ls) (lo : LsOk n m ls) (hg : GOk n 2147483647 A) (hst : ∀ x, st x → x < n) : Half n A st c ls := by
  obtain ⟨q, sc, se, sf, oc, oe, ov, cs, ds, fs, M, id, k, rk, w, d, u, rfl, rfl⟩ := s
  exact d.half hg hst lo.2.2
theorem SB.st0 (s : SB W h os g fh n A st c m ls) {x : Nat} (hx : x < n) (hs : st x) : fnd c m x = 0 := by
  obtain ⟨q, sc, se, sf, oc, oe, ov, cs, ds, fs, M, id, k, rk, w, d, u, rfl, rfl⟩ := s
  exact fnd_st d hx hs
theorem SB.hop (s : SB W h os g fh n A st c m ls) {x : Nat} (hx : x < n) (h0 : 0 ≤ c x) {y e' : Nat} {w : Int} (hh : (y, e', w) ∈ A x) (hy : y < n) : 0 ≤ fnd c m y ∧ fnd c m y ≤ c x + w := by
  obtain ⟨q, sc, se, sf, oc, oe, ov, cs, ds, fs, M, id, k, rk, w, d, u, rfl, rfl⟩ := s
  exact fnd_hop d hx h0 hh hy
theorem SB.walk (s : SB W h os g fh n A st c m ls) {x : Nat} (hx : x < n) (h0 : 0 ≤ fnd c m x) : ∃ l, Wk A st x l (fnd c m x) := by
  obtain ⟨q, sc, se, sf, oc, oe, ov, cs, ds, fs, M, id, k, rk, w, d, u, rfl, rfl⟩ := s
  exact fnd_walk d hx h0
theorem SB.bnd (s : SB W h os g fh n A st c m ls) (hn2 : n ≤ 1000000) {x : Nat} (hx : x < n) : fnd c m x ≤ 4000000000000000000 := by
  obtain ⟨q, sc, se, sf, oc, oe, ov, cs, ds, fs, M, id, k, rk, w, d, u, rfl, rfl⟩ := s
  have h1 := fnd_bnd (by omega) d hx
  have h2 := un_nonneg n (gf cs)
  omega
variable {N : Nat} {es : List E} {D : List (List Int)} {acc : List Bool} {L : Int → Int → List Tr}
theorem SB.step (e0 : Ext h0 h) (hW : ∀ o, W o → h0.length ≤ o) (gv : GV h0 g N es D acc) (ok : DOk D acc) (co : COk es) (hN : N ≤ 100000) (hn : n = N * D.length) (hn2 : n ≤ 1000000) (hh : HopsOk h0 g N es D fh L) (hst : ∀ x, st x → x < n)
    (s : SB W h os g fh n (hopA es D.length L) st c m ls) :
    Tot tab f_product_search_step [.ptr os 0 7 0] h fun r h' => FrS W h h' ∧
      ((r = .tup [I 0, .bool false] ∧ (∀ x : Nat, x < n → m x = none) ∧ SB (fun o => W o ∨ h.length ≤ o) h' os g fh n (hopA es D.length L) st c m ls) ∨
       ∃ id key m2, id < n ∧ c id < 0 ∧ 0 ≤ key ∧ r = .tup [I id, .bool true] ∧ SB (fun o => W o ∨ h.length ≤ o) h' os g fh n (hopA es D.length L) st (up c id key) m2 key ∧ LsOk n m2 key) := by
  obtain ⟨q, sc, se, sf, oc, oe, ov, cs, ds, fs, M, id0, k, rk, w, d, u, rfl, rfl⟩ := s
  refine (step_spec e0 hW gv ok co hN hn hn2 hh hst w d u).mono ?_
  rintro r h2 ⟨f2, ⟨rfl, hm, w2⟩ | ⟨id, key, ds2, fs2, M2, rk2, i1, i2, i3, rfl, w2, d2, k2⟩⟩
  · exact ⟨f2, .inl ⟨rfl, hm, q, sc, se, sf, oc, oe, ov, cs, ds, fs, M, id0, k, rk, w2, d, u, rfl, rfl⟩⟩
  · obtain ⟨q1, q2, _⟩ := d.que id i1 key i2
    have hcs : gf (cs.set id key) = up (gf cs) id key := gset (by rw [w.lc]; exact i1) key
    have hid : gf (cs.set id key) id = key := by rw [hcs]; exact if_pos rfl
    refine ⟨f2, .inr ⟨id, key, gf M2, i1, by omega, q2, rfl, ⟨q, sc, se, sf, oc, oe, ov, cs.set id key, ds2, fs2, M2, id, k + 1, rk2, w2, d2, k2, hcs.symm, rfl⟩, q2, ?_, fun x hx v hv => ?_⟩⟩
    · have h5 := d2.bnd id i1 key (.inl ⟨by rw [hid]; exact q2, hid⟩)
      have h6 := un_nonneg n (gf (cs.set id key))
      omega
    have := d2.ord id x i1 hx (by rw [hid]; exact q2) v hv
    rw [hid] at this
    exact this
end
end Go.Gm.A9

set_option linter.unusedVariables false
set_option linter.unusedSimpArgs false
set_option linter.unusedSectionVars false
namespace Go.Gm.A9
open Go Go.Gm
structure RowsB (h : Heap) (ot ob ol oz os1 os2 : Nat) (L : Int) : Prop where
  rt : h[ot]? = some (.cells ⟨[.ptr os1 0 7 0], 0, 0, false⟩)
  rb : h[ob]? = some (.cells ⟨[.ptr os2 0 7 0], 0, 0, false⟩)
  rl : h[ol]? = some (.cells ⟨[I L], 0, 0, false⟩)
  rz : h[oz]? = some (.cells ⟨[.ptr os1 0 7 0, .ptr os2 0 7 0], 0, 0, false⟩)
  ne : ot ≠ ol ∧ ob ≠ ol ∧ oz ≠ ol
section
variable {h h' : Heap} {ot ob ol oz os1 os2 : Nat} {L : Int}
theorem RowsB.frs (r : RowsB h ot ob ol oz os1 os2 L) {D : Nat → Prop} (f : FrS D h h') (hd : ¬ D ot ∧ ¬ D ob ∧ ¬ D ol ∧ ¬ D oz) : RowsB h' ot ob ol oz os1 os2 L := by
  have b := fun {o : Nat} {x : AObj} (z : h[o]? = some x) => (List.getElem?_eq_some_iff.1 z).1
  exact ⟨by rw [f.get hd.1 (b r.rt)]; exact r.rt, by rw [f.get hd.2.1 (b r.rb)]; exact r.rb, by rw [f.get hd.2.2.1 (b r.rl)]; exact r.rl, by rw [f.get hd.2.2.2 (b r.rz)]; exact r.rz, r.ne⟩
variable {W1 W2 : Nat → Prop} {n : Nat} {g : AV} {f1 f2 : FuncId} {A A' : Nat → List Hop} {st en : Nat → Prop} {c1 c2 : Nat → Int} {m1 m2 : Nat → Option Int} {ls1 ls2 : Int}
theorem meet_sb (s1 : SB W1 h os1 g f1 n A st c1 m1 ls1) (s2 : SB W2 h os2 g f2 n A' en c2 m2 ls2) (hn2 : n ≤ 1000000) (r : RowsB h ot ob ol oz os1 os2 L) {x : Nat} (hx : x < n) :
    Tot tab f_product_Both_1 [I x, .ptr ot 0 1 0, .ptr ob 0 1 0, .ptr ol 0 1 0] h fun v h' => v = .tup [] ∧ RowsB h' ot ob ol oz os1 os2 (mtL L (fnd c1 m1 x) (fnd c2 m2 x)) ∧ FrS (fun o => o = ol) h h' := by
  have b1 := s1.bnd hn2 hx
  have b2 := s2.bnd hn2 hx
  obtain ⟨q, sc, se, sf, oc, oe, ov, cs, ds, fs, M, id, k, rk, w, d, u, rfl, rfl⟩ := s1
  obtain ⟨q', sc', se', sf', oc', oe', ov', cs', ds', fs', M', id', k', rk', w', d', u', rfl, rfl⟩ := s2
  refine (meet_spec w w' hx r.rt r.rb r.rl b1 b2).mono ?_
  rintro v h2 ⟨rfl, rl, f⟩
  have b := fun {o : Nat} {x : AObj} (z : h[o]? = some x) => (List.getElem?_eq_some_iff.1 z).1
  exact ⟨rfl, ⟨by rw [f.get r.ne.1 (b r.rt)]; exact r.rt, by rw [f.get r.ne.2.1 (b r.rb)]; exact r.rb, rl, by rw [f.get r.ne.2.2 (b r.rz)]; exact r.rz, r.ne⟩, f⟩
/-- A cost that was met is that of a way. -/
def Snd (A : Nat → List Hop) (st en : Nat → Prop) (L : Int) : Prop := L = -1 ∨ (0 ≤ L ∧ ∃ z, en z ∧ ∃ l, Wk A st z l L)
theorem Snd.meet (hg : GOk n 2147483647 A) (hg' : GOk n 2147483647 A') (rv : Rev n A A') (hst : ∀ x, st x → x < n) (hen : ∀ x, en x → x < n) (s1 : SB W1 h os1 g f1 n A st c1 m1 ls1) (s2 : SB W2 h os2 g f2 n A' en c2 m2 ls2) (s : Snd A st en L) {x : Nat} (hx : x < n) : Snd A st en (mtL L (fnd c1 m1 x) (fnd c2 m2 x)) := by
  unfold mtL
  split
  · rename_i q
    obtain ⟨l, hl⟩ := s1.walk hx q.1
    obtain ⟨l', hl'⟩ := s2.walk hx q.2.1
    obtain ⟨z, z1, l'', z2⟩ := Wk.join hg hg' rv hst hen hl' hl
    exact .inr ⟨by omega, z, z1, l'', z2⟩
  · exact s
end
end Go.Gm.A9

set_option linter.unusedVariables false
set_option linter.unusedSimpArgs false
set_option linter.unusedSectionVars false
namespace Go.Gm.A9
open Go Go.Gm
section
variable {h0 hb : Heap} {ot ob ol oz os1 os2 : Nat} {W1 W2 : Nat → Prop} {n : Nat} {g : AV} {f1 f2 : FuncId} {A A' : Nat → List Hop} {st en : Nat → Prop} {c1 c2 : Nat → Int} {m1 m2 : Nat → Option Int} {ls1 ls2 : Int}
variable {N : Nat} {es : List E} {D : List (List Int)} {acc : List Bool}
abbrev meetV (ot ob ol : Nat) : AV := .fn f_product_Both_1 [] [.ptr ot 0 1 0, .ptr ob 0 1 0, .ptr ol 0 1 0]
theorem both_l7 {kk : Int} {t112 : AV} {ts : List Tr} {L0 : Int} {Q : AV → Heap → Prop}
    (e0 : Ext h0 hb) (gv : GV h0 g N es D acc) (ok : DOk D acc) (hN : N ≤ 100000) (hn : n = N * D.length) (hn2 : n ≤ 1000000) (hg : GOk n 2147483647 A) (hg' : GOk n 2147483647 A') (rv : Rev n A A') (hst : ∀ x, st x → x < n) (hen : ∀ x, en x → x < n)
    (s1 : SB W1 hb os1 g f1 n A st c1 m1 ls1) (s2 : SB W2 hb os2 g f2 n A' en c2 m2 ls2) (hw : ¬ W1 ol ∧ ¬ W2 ol) (hol : h0.length ≤ ol) (hro : ot < hb.length ∧ ob < hb.length ∧ ol < hb.length ∧ oz < hb.length)
    (hts : ∀ t ∈ ts, TrOk N es D t) (htl : ts.length ≤ 10000000) (hsl : ∀ h, FrS (fun o => o = ol ∨ hb.length ≤ o) hb h → Sl h 3 t112 (ts.map encT))
    (hQ : ∀ h L, FrS (fun o => o = ol ∨ hb.length ≤ o) hb h → RowsB h ot ob ol oz os1 os2 L → Snd A st en L → (0 ≤ L0 → 0 ≤ L ∧ L ≤ L0) → (∀ t ∈ ts, 0 ≤ fnd c1 m1 (hopOf es D.length t).1 → 0 ≤ fnd c2 m2 (hopOf es D.length t).1 → 0 ≤ L ∧ L ≤ fnd c1 m1 (hopOf es D.length t).1 + fnd c2 m2 (hopOf es D.length t).1) →
      WP (fun p : Nat × Nat => product_Both_b8 tab p.1 p.2 g (.ptr ot 0 1 0) (.ptr ob 0 1 0) (.ptr ol 0 1 0) (meetV ot ob ol) (.ptr oz 0 2 0) (I kk) h) Q) :
    ∀ (d i : Nat) (h : Heap) (L : Int), i + d = ts.length → FrS (fun o => o = ol ∨ hb.length ≤ o) hb h → RowsB h ot ob ol oz os1 os2 L → Snd A st en L → (0 ≤ L0 → 0 ≤ L ∧ L ≤ L0) →
      (∀ t ∈ ts.take i, 0 ≤ fnd c1 m1 (hopOf es D.length t).1 → 0 ≤ fnd c2 m2 (hopOf es D.length t).1 → 0 ≤ L ∧ L ≤ fnd c1 m1 (hopOf es D.length t).1 + fnd c2 m2 (hopOf es D.length t).1) →
      WP (fun p : (Nat × Nat) × Nat => product_Both_l7 tab p.1.1 p.1.2 p.2 g (.ptr ot 0 1 0) (.ptr ob 0 1 0) (.ptr ol 0 1 0) (meetV ot ob ol) (.ptr oz 0 2 0) (I kk) t112 (I ts.length) (I i) h) Q := by
  intro d
  induction d with
  | zero =>
    intro i h L h1 f r s hm ha
    refine WP.rnd (fun i' j => product_Both_l7_eq tab i'.1 i'.2 j g (.ptr ot 0 1 0) (.ptr ob 0 1 0) (.ptr ol 0 1 0) (meetV ot ob ol) (.ptr oz 0 2 0) (I kk) t112 (I ts.length) (I i) h) ?_
    rw [List.take_of_length_le (by omega)] at ha
    simp -implicitDefEqProofs (maxSteps := 1000000) (disch := first | assumption | omega | (simp only [gL] <;> omega) | ((repeat (first | exact Ext.refl _ | assumption | apply Ext.app | apply Ext.mk | (refine Ext.setr ?_ (by (first | omega | (simp only [gL] <;> omega))) _))); done) | (simp only [gL, gA] <;> omega) | fail) only [gB, setAll, partL, fldV, reduceIte, Nat.reduceAdd, Nat.reduceMul]
    exact WP.lv (hQ h L f r s hm ha) fun i j => rfl
  | succ d ih =>
    intro i h L h1 f r s hm ha
    refine WP.rnd (fun i' j => product_Both_l7_eq tab i'.1 i'.2 j g (.ptr ot 0 1 0) (.ptr ob 0 1 0) (.ptr ol 0 1 0) (meetV ot ob ol) (.ptr oz 0 2 0) (I kk) t112 (I ts.length) (I i) h) ?_
    obtain ⟨t, hti⟩ : ∃ t, gi ts i = t := ⟨_, rfl⟩
    have htm : t ∈ ts := hti ▸ gi_mem (by omega) (by omega)
    obtain ⟨t1, t2, t3, t4, t5, t6⟩ := hts t htm
    obtain ⟨sp1, sp2⟩ := spot_lt (S := D.length) t1 t2 t3 t4
    obtain ⟨y, hy⟩ : ∃ y : Nat, t.1 * (D.length : Int) + t.2.1 = y := ⟨(t.1 * (D.length : Int) + t.2.1).toNat, by omega⟩
    have hyn : y < n := by omega
    have hho : (hopOf es D.length t).1 = y := by simp only [hopOf, hy]; rfl
    have htk : ts.take (i + 1) = ts.take i ++ [t] := by
      rw [List.take_add_one, show ts[i]? = some t by
        have := gi_some (xs := ts) (i := (i : Int)) (by omega) (by omega)
        rw [hti] at this; simpa using this]
      rfl
    have l0 := e0.len
    have lb := f.len
    have ex : Ext h0 h := f.ext e0 fun o q1 q2 => by omega
    have sl := hsl h f
    obtain ⟨h2, hh2⟩ : ∃ h2, h2 = ((h ++ [AObj.cells ⟨[I 0, I 0, I 0], 0, 0, false⟩]).set h.length (.cells ⟨[I t.1, I t.2.1, I t.2.2], 0, 0, false⟩)) := ⟨_, rfl⟩
    have e2 : Ext h h2 := by rw [hh2]; ((repeat (first | exact Ext.refl _ | assumption | apply Ext.app | apply Ext.mk | (refine Ext.setr ?_ (by (first | omega | (simp only [gL] <;> omega))) _))))
    simp -implicitDefEqProofs (maxSteps := 1000000) (disch := first | assumption | omega | (simp only [gL] <;> omega) | ((repeat (first | exact Ext.refl _ | assumption | apply Ext.app | apply Ext.mk | (refine Ext.setr ?_ (by (first | omega | (simp only [gL] <;> omega))) _))); done) | (simp only [gL, gA, sl.idxG, sl.ldN, hti, encT] <;> omega) | fail) only [gB, setAll, partL, fldV, reduceIte, Nat.reduceAdd, Nat.reduceMul, sl.idxG, sl.ldN, hti, encT]
    rw [show AV.int .i64 0 = I 0 from rfl, ← hh2]
    refine WP.call (id_spec (gv.ext (ex.trans e2)) ok t1 (by omega) t3 (by have := ok.l1; omega)) ?_
    rintro _ h3 ⟨rfl, e3⟩
    rw [hy]
    have f3 : FrS (fun o => o = ol ∨ hb.length ≤ o) hb h3 := f.trans ((FrS.ofExt e2).trans (FrS.ofExt e3))
    have r3 : RowsB h3 ot ob ol oz os1 os2 L := r.frs (D := fun _ => False) ((FrS.ofExt e2).trans (FrS.ofExt e3)) ⟨id, id, id, id⟩
    have s13 := s1.frs f3 fun o q1 q2 q3 => q3.elim (fun z => hw.1 (z ▸ q2)) fun z => by omega
    have s23 := s2.frs f3 fun o q1 q2 q3 => q3.elim (fun z => hw.2 (z ▸ q2)) fun z => by omega
    refine WP.call (meet_sb s13 s23 hn2 r3 hyn) ?_
    rintro _ h4 ⟨rfl, r4, f4⟩
    have mono : 0 ≤ L → 0 ≤ mtL L (fnd c1 m1 y) (fnd c2 m2 y) ∧ mtL L (fnd c1 m1 y) (fnd c2 m2 y) ≤ L := mtL_mono
    refine ih (i + 1) h4 _ (by omega) (f3.trans (f4.mono fun o _ z => .inl z)) r4 (Snd.meet hg hg' rv hst hen s13 s23 s hyn) (fun z => ?_) fun t' ht' => ?_
    · have h5 := hm z
      have h6 := mono h5.1
      exact ⟨h6.1, by omega⟩
    · rw [htk] at ht'
      intro p1 p2
      rcases List.mem_append.1 ht' with q | q
      · have h5 := ha t' q p1 p2
        have h6 := mono h5.1
        exact ⟨h6.1, by omega⟩
      · obtain rfl := List.mem_singleton.1 q
        rw [hho] at p1 p2 ⊢
        exact mtL_le p1 p2
end
end Go.Gm.A9

set_option linter.unusedVariables false
set_option linter.unusedSimpArgs false
set_option linter.unusedSectionVars false
namespace Go.Gm.A9
open Go Go.Gm
section
variable {h0 hb : Heap} {ot ob ol oz os1 os2 : Nat} {W1 W2 : Nat → Prop} {n : Nat} {g : AV} {f1 f2 : FuncId} {A A' : Nat → List Hop} {st en : Nat → Prop} {c1 c2 : Nat → Int} {m1 m2 : Nat → Option Int} {ls1 ls2 : Int}
variable {N : Nat} {es : List E} {D : List (List Int)} {acc : List Bool}
theorem SB.row {W : Nat → Prop} {h : Heap} {os : Nat} {fh : FuncId} {c : Nat → Int} {m : Nat → Option Int} {ls : Int} (s : SB W h os g fh n A st c m ls) : W os ∧ ∃ q sc se sf, h[os]? = some (.cells ⟨[g, .fn fh [] [], q, sc, se, sf, I ls], 0, 0, false⟩) := by
  obtain ⟨q, sc, se, sf, oc, oe, ov, cs, ds, fs, M, id, k, rk, w, _⟩ := s
  exact ⟨w.ws, q, sc, se, sf, w.row⟩
theorem both_b6 {kk osk id : Nat} {fk : FuncId} {Wk' : Nat → Prop} {lsk L0 : Int} {LL : Int → Int → List Tr} {Ak : Nat → List Hop} {sk : Nat → Prop} {ck : Nat → Int} {mk' : Nat → Option Int} {Q : AV → Heap → Prop}
    (e0 : Ext h0 hb) (gv : GV h0 g N es D acc) (ok : DOk D acc) (hN : N ≤ 100000) (hn : n = N * D.length) (hn2 : n ≤ 1000000) (hg : GOk n 2147483647 A) (hg' : GOk n 2147483647 A') (rv : Rev n A A') (hst : ∀ x, st x → x < n) (hen : ∀ x, en x → x < n)
    (s1 : SB W1 hb os1 g f1 n A st c1 m1 ls1) (s2 : SB W2 hb os2 g f2 n A' en c2 m2 ls2) (hw : ¬ W1 ol ∧ ¬ W2 ol) (hol : h0.length ≤ ol)
    (sK : SB Wk' hb osk g fk n Ak sk ck mk' lsk) (hwk : ¬ Wk' ol) (hk : (kk = 0 ∧ osk = os1) ∨ (kk = 1 ∧ osk = os2)) (hh : HopsOk h0 g N es D fk LL) (hid : id < n)
    (r : RowsB hb ot ob ol oz os1 os2 L0) (s : Snd A st en L0)
    (hQ : ∀ h L, FrS (fun o => o = ol ∨ hb.length ≤ o) hb h → RowsB h ot ob ol oz os1 os2 L → Snd A st en L → (0 ≤ L0 → 0 ≤ L ∧ L ≤ L0) → (0 ≤ fnd c1 m1 id → 0 ≤ fnd c2 m2 id → 0 ≤ L ∧ L ≤ fnd c1 m1 id + fnd c2 m2 id) →
      (∀ t ∈ LL ((id / D.length : Nat) : Int) ((id % D.length : Nat) : Int), 0 ≤ fnd c1 m1 (hopOf es D.length t).1 → 0 ≤ fnd c2 m2 (hopOf es D.length t).1 → 0 ≤ L ∧ L ≤ fnd c1 m1 (hopOf es D.length t).1 + fnd c2 m2 (hopOf es D.length t).1) →
      WP (fun p : Nat × Nat => product_Both_b8 tab p.1 p.2 g (.ptr ot 0 1 0) (.ptr ob 0 1 0) (.ptr ol 0 1 0) (meetV ot ob ol) (.ptr oz 0 2 0) (I kk) h) Q) :
    WP (fun p : Nat × Nat => product_Both_b6 tab p.1 p.2 g (.ptr ot 0 1 0) (.ptr ob 0 1 0) (.ptr ol 0 1 0) (meetV ot ob ol) (.ptr oz 0 2 0) (I kk) (I id) hb) Q := by
  refine WP.congr (fun p => product_Both_b6_eq tab p.1 p.2 g (.ptr ot 0 1 0) (.ptr ob 0 1 0) (.ptr ol 0 1 0) (meetV ot ob ol) (.ptr oz 0 2 0) (I kk) (I id) hb) ?_
  have b := fun {h : Heap} {o : Nat} {x : AObj} (z : h[o]? = some x) => (List.getElem?_eq_some_iff.1 z).1
  have hro : ot < hb.length ∧ ob < hb.length ∧ ol < hb.length ∧ oz < hb.length := ⟨b r.rt, b r.rb, b r.rl, b r.rz⟩
  refine WP.call (meet_sb s1 s2 hn2 r hid) ?_
  rintro _ h1 ⟨rfl, r1, fr1⟩
  have l1 := fr1.len
  have ex1 : Ext h0 h1 := fr1.ext e0 fun o z1 z2 => by omega
  have s11 := s1.frs fr1 fun o z1 z2 z3 => hw.1 (z3 ▸ z2)
  have s21 := s2.frs fr1 fun o z1 z2 z3 => hw.2 (z3 ▸ z2)
  have sK1 := sK.frs fr1 fun o z1 z2 z3 => hwk (z3 ▸ z2)
  obtain ⟨_, q, sc, se, sf, ro⟩ := sK1.row
  have hix : idxA 2 1 (.ptr oz 0 2 0) (I kk) = some (.ptr oz kk (kk + 1) 0) := by
    simp only [idxA, I]
    rw [if_pos ⟨by omega, by omega, by omega⟩]
    simp
  have hld : ∀ h, RowsB h ot ob ol oz os1 os2 (mtL L0 (fnd c1 m1 id) (fnd c2 m2 id)) → Gm.ld1 h (.ptr oz kk (kk + 1) 0) = some (.ptr osk 0 7 0) := by
    intro h rr
    have rz := rr.rz
    rcases hk with ⟨rfl, rfl⟩ | ⟨rfl, rfl⟩
    · simp [Gm.ld1, rz]
    · simp [Gm.ld1, rz]
  have hld' : rdAt h1[oz]? kk (kk + 1) 0 = some (.ptr osk 0 7 0) := hld h1 r1
  simp -implicitDefEqProofs (maxSteps := 1000000) (disch := first | assumption | omega | (simp only [gL] <;> omega) | ((repeat (first | exact Ext.refl _ | assumption | apply Ext.app | apply Ext.mk | (refine Ext.setr ?_ (by (first | omega | (simp only [gL] <;> omega))) _))); done) | (simp only [gL, gA, hix, hld', ro] <;> omega) | fail) only [gB, setAll, partL, fldV, reduceIte, Nat.reduceAdd, Nat.reduceMul, hix, hld', ro]
  refine WP.call (spot_spec (gv.ext ex1) ok (by omega)) ?_
  rintro _ h2 ⟨rfl, e2⟩
  have ro2 := e2.get ro
  have r2 := r1.frs (D := fun _ => False) (FrS.ofExt e2) ⟨fun z => z, fun z => z, fun z => z, fun z => z⟩
  have hld2 : rdAt h2[oz]? kk (kk + 1) 0 = some (.ptr osk 0 7 0) := hld h2 r2
  obtain ⟨d1, d2⟩ := dm (N := N) (S := D.length) (hn ▸ hid)
  simp -implicitDefEqProofs (maxSteps := 1000000) (disch := first | assumption | omega | (simp only [gL] <;> omega) | ((repeat (first | exact Ext.refl _ | assumption | apply Ext.app | apply Ext.mk | (refine Ext.setr ?_ (by (first | omega | (simp only [gL] <;> omega))) _))); done) | (simp only [gL, gA, hld2, ro2] <;> omega) | fail) only [gB, setAll, partL, fldV, reduceIte, Nat.reduceAdd, Nat.reduceMul, hld2, ro2]
  refine WP.call (hh.call h2 (ex1.trans e2) _ _ (Int.natCast_nonneg _) (Int.ofNat_lt.2 d1) (Int.natCast_nonneg _) (Int.ofNat_lt.2 d2)) ?_
  rintro t112 h3 ⟨e3, g3⟩
  simp -implicitDefEqProofs (maxSteps := 1000000) (disch := first | assumption | omega | (simp only [gL] <;> omega) | ((repeat (first | exact Ext.refl _ | assumption | apply Ext.app | apply Ext.mk | (refine Ext.setr ?_ (by (first | omega | (simp only [gL] <;> omega))) _))); done) | (simp only [gL, gA, g3.sl.lenG] <;> omega) | fail) only [gB, setAll, partL, fldV, reduceIte, Nat.reduceAdd, Nat.reduceMul, g3.sl.lenG]
  have e13 := e2.trans e3
  have ex3 := ex1.trans e13
  have l2 := e2.len
  have l3 := e3.len
  have r3 := r1.frs (D := fun _ => False) (FrS.ofExt e13) ⟨fun z => z, fun z => z, fun z => z, fun z => z⟩
  have s13 := s11.frs (FrS.ofExt (D := fun _ => False) e13) fun _ _ _ z => z
  have s23 := s21.frs (FrS.ofExt (D := fun _ => False) e13) fun _ _ _ z => z
  have fb3 : FrS (fun o => o = ol ∨ hb.length ≤ o) hb h3 := (fr1.mono fun o _ z => .inl z).trans (FrS.ofExt e13)
  refine WP.ent (both_l7 (L0 := mtL L0 (fnd c1 m1 id) (fnd c2 m2 id)) (hb := h3) (kk := kk) ex3 gv ok hN hn hn2 hg hg' rv hst hen s13 s23 hw hol ⟨by omega, by omega, by omega, by omega⟩
    (hh.tr _ _ (Int.natCast_nonneg _) (Int.ofNat_lt.2 d1) (Int.natCast_nonneg _) (Int.ofNat_lt.2 d2)) (hh.len _ _ (Int.natCast_nonneg _) (Int.ofNat_lt.2 d1) (Int.natCast_nonneg _) (Int.ofNat_lt.2 d2))
    (fun h f => (g3.frs f fun o z1 z2 z3 => by omega).sl) (fun h L f rr ss hm ha => hQ h L (fb3.trans (f.mono fun o z1 z2 => z2.elim .inl fun z => .inr (by omega))) rr ss (fun z => ?_) (fun z1 z2 => ?_) ha) _ 0 h3 _ (Nat.zero_add _) (FrS.refl _ _) r3 (Snd.meet hg hg' rv hst hen s11 s21 s hid) (fun z => ⟨z, Int.le_refl _⟩) (fun t ht => by simp at ht)) fun i => rfl
  · have h5 := mtL_mono (a := fnd c1 m1 id) (b := fnd c2 m2 id) z
    have h6 := hm h5.1
    exact ⟨h6.1, by omega⟩
  · have h5 := mtL_le (L := L0) z1 z2
    have h6 := hm h5.1
    exact ⟨h6.1, by omega⟩
end
end Go.Gm.A9

set_option linter.unusedVariables false
set_option linter.unusedSimpArgs false
set_option linter.unusedSectionVars false
namespace Go.Gm.A9
open Go Go.Gm
section
variable {W : Nat → Prop} {h0 h h' : Heap} {os n : Nat} {g : AV} {fh : FuncId} {A : Nat → List Hop} {st : Nat → Prop} {c : Nat → Int} {m : Nat → Option Int} {ls : Int}
variable {N : Nat} {es : List E} {D : List (List Int)} {acc : List Bool} {L : Int → Int → List Tr}
theorem SB.all (e0 : Ext h0 h) (hW : ∀ o, W o → h0.length ≤ o) (gv : GV h0 g N es D acc) (ok : DOk D acc) (co : COk es) (hN : N ≤ 100000) (hn : n = N * D.length) (hn2 : n ≤ 1000000) (hh : HopsOk h0 g N es D fh L) (hst : ∀ x, st x → x < n)
    (s : SB W h os g fh n (hopA es D.length L) st c m ls) :
    Tot tab f_product_search_all [.ptr os 0 7 0] h fun r h' => r = .tup [] ∧ FrS W h h' ∧ ∃ c2 m2 ls2, SB (fun o => W o ∨ h.length ≤ o) h' os g fh n (hopA es D.length L) st c2 m2 ls2 ∧ ∀ x : Nat, x < n → m2 x = none := by
  obtain ⟨q, sc, se, sf, oc, oe, ov, cs, ds, fs, M, id0, k, rk, w, d, u, rfl, rfl⟩ := s
  refine (all_spec e0 hW gv ok co hN hn hn2 hh hst w d u).mono ?_
  rintro r h2 ⟨rfl, f2, id2, k2, ls2, rk2, cs2, ds2, fs2, M2, w2, d2, m2, u2⟩
  exact ⟨rfl, f2, gf cs2, gf M2, ls2, ⟨q, sc, se, sf, oc, oe, ov, cs2, ds2, fs2, M2, id2, k2, rk2, w2, d2, u2, rfl, rfl⟩, m2⟩
/-- Nothing waits: what there is a way to is found, at no more. -/
theorem SB.done (s : SB W h os g fh n A st c m ls) (hg : GOk n 2147483647 A) (hst : ∀ x, st x → x < n) (hm : ∀ x : Nat, x < n → m x = none) {z : Nat} {l : List Nat} {v : Int} (h : Wk A st z l v) : 0 ≤ c z ∧ c z ≤ v ∧ fnd c m z = c z := by
  obtain ⟨q, sc, se, sf, oc, oe, ov, cs, ds, fs, M, id0, k, rk, w, d, u, rfl, rfl⟩ := s
  obtain ⟨h1, h2⟩ := d.all hg hst hm h
  exact ⟨h1, h2, if_pos h1⟩
end
section
variable {hb : Heap} {ot ob ol oz os1 os2 : Nat} {W1 W2 : Nat → Prop} {n : Nat} {g : AV} {f1 f2 : FuncId} {A A' : Nat → List Hop} {st en : Nat → Prop} {c1 c2 : Nat → Int} {m1 m2 : Nat → Option Int} {ls1 ls2 : Int}
/-- What Both answers of the least that was met. -/
theorem both_b5 {ι : Type} {h : Heap} {L : Int} (r : RowsB h ot ob ol oz os1 os2 L) (k : ι → Nat) [Fuel ι] {Q : AV → Heap → Prop} (hQ : Q (.tup [I (max L 0), .bool (decide (0 ≤ L))]) h) :
    WP (fun p : ι => product_Both_b5 tab (k p) (.ptr ol 0 1 0) h) Q := by
  refine WP.congr (fun p => product_Both_b5_eq tab (k p) (.ptr ol 0 1 0) h) ?_
  have rl := r.rl
  by_cases h0 : 0 ≤ L
  · have : decide (0 ≤ L) = true := decide_eq_true h0
    rw [this] at hQ
    simp -implicitDefEqProofs (maxSteps := 1000000) (disch := first | assumption | omega | (simp only [gL] <;> omega) | ((repeat (first | exact Ext.refl _ | assumption | apply Ext.app | apply Ext.mk | (refine Ext.setr ?_ (by (first | omega | (simp only [gL] <;> omega))) _))); done) | (simp only [gL, gA, rl] <;> omega) | fail) only [gB, setAll, partL, fldV, reduceIte, Nat.reduceAdd, Nat.reduceMul, rl]
    exact WP.ret hQ
  · have : decide (0 ≤ L) = false := decide_eq_false h0
    rw [this] at hQ
    simp -implicitDefEqProofs (maxSteps := 1000000) (disch := first | assumption | omega | (simp only [gL] <;> omega) | ((repeat (first | exact Ext.refl _ | assumption | apply Ext.app | apply Ext.mk | (refine Ext.setr ?_ (by (first | omega | (simp only [gL] <;> omega))) _))); done) | (simp only [gL, gA, rl] <;> omega) | fail) only [gB, setAll, partL, fldV, reduceIte, Nat.reduceAdd, Nat.reduceMul, rl]
    exact WP.ret hQ
theorem both_l4 {Q : AV → Heap → Prop} (hn2 : n ≤ 1000000) (hg : GOk n 2147483647 A) (hg' : GOk n 2147483647 A') (rv : Rev n A A') (hst : ∀ x, st x → x < n) (hen : ∀ x, en x → x < n)
    (s1 : SB W1 hb os1 g f1 n A st c1 m1 ls1) (s2 : SB W2 hb os2 g f2 n A' en c2 m2 ls2) (hw : ¬ W1 ol ∧ ¬ W2 ol)
    (hQ : ∀ h L, FrS (fun o => o = ol) hb h → Snd A st en L → (∀ x : Nat, x < n → 0 ≤ fnd c1 m1 x → 0 ≤ fnd c2 m2 x → 0 ≤ L ∧ L ≤ fnd c1 m1 x + fnd c2 m2 x) → Q (.tup [I (max L 0), .bool (decide (0 ≤ L))]) h) :
    ∀ (d i : Nat) (h : Heap) (L : Int), i + d = n → FrS (fun o => o = ol) hb h → RowsB h ot ob ol oz os1 os2 L → Snd A st en L →
      (∀ x : Nat, x < i → 0 ≤ fnd c1 m1 x → 0 ≤ fnd c2 m2 x → 0 ≤ L ∧ L ≤ fnd c1 m1 x + fnd c2 m2 x) →
      WP (fun p : (Nat × Nat) × Nat => product_Both_l4 tab p.1.1 p.1.2 p.2 (.ptr ol 0 1 0) (meetV ot ob ol) (I n) (I i) h) Q := by
  intro d
  induction d with
  | zero =>
    intro i h L h1 f r s ha
    refine WP.rnd (fun i' j => product_Both_l4_eq tab i'.1 i'.2 j (.ptr ol 0 1 0) (meetV ot ob ol) (I n) (I i) h) ?_
    obtain rfl : i = n := by omega
    simp -implicitDefEqProofs (maxSteps := 1000000) (disch := first | assumption | omega | (simp only [gL] <;> omega) | ((repeat (first | exact Ext.refl _ | assumption | apply Ext.app | apply Ext.mk | (refine Ext.setr ?_ (by (first | omega | (simp only [gL] <;> omega))) _))); done) | (simp only [gL, gA] <;> omega) | fail) only [gB, setAll, partL, fldV, reduceIte, Nat.reduceAdd, Nat.reduceMul]
    exact WP.lv (both_b5 (ι := Nat × Nat) r (fun p => p.1) (hQ h L f s ha)) fun i j => rfl
  | succ d ih =>
    intro i h L h1 f r s ha
    refine WP.rnd (fun i' j => product_Both_l4_eq tab i'.1 i'.2 j (.ptr ol 0 1 0) (meetV ot ob ol) (I n) (I i) h) ?_
    have hin : i < n := by omega
    have s13 := s1.frs f fun o q1 q2 q3 => hw.1 (q3 ▸ q2)
    have s23 := s2.frs f fun o q1 q2 q3 => hw.2 (q3 ▸ q2)
    simp -implicitDefEqProofs (maxSteps := 1000000) (disch := first | assumption | omega | (simp only [gL] <;> omega) | ((repeat (first | exact Ext.refl _ | assumption | apply Ext.app | apply Ext.mk | (refine Ext.setr ?_ (by (first | omega | (simp only [gL] <;> omega))) _))); done) | (simp only [gL, gA] <;> omega) | fail) only [gB, setAll, partL, fldV, reduceIte, Nat.reduceAdd, Nat.reduceMul]
    refine WP.call (meet_sb s13 s23 hn2 r hin) ?_
    rintro _ h4 ⟨rfl, r4, f4⟩
    refine ih (i + 1) h4 _ (by omega) (f.trans f4) r4 (Snd.meet hg hg' rv hst hen s13 s23 s hin) fun x hx p1 p2 => ?_
    by_cases q : x = i
    · subst q; exact mtL_le p1 p2
    · have h5 := ha x (by omega) p1 p2
      have h6 := mtL_mono (a := fnd c1 m1 i) (b := fnd c2 m2 i) h5.1
      exact ⟨h6.1, by omega⟩
end
end Go.Gm.A9

set_option linter.unusedVariables false
set_option linter.unusedSimpArgs false
set_option linter.unusedSectionVars false
namespace Go.Gm.A9
open Go Go.Gm
section
variable {h0 : Heap} {ot ob ol oz os1 os2 : Nat} {n : Nat} {g : AV} {st en : Nat → Prop}
variable {N : Nat} {es : List E} {D : List (List Int)} {acc : List Bool}
/-- One's places: behind h0, there, none of the four. -/
def Pl (h0 h : Heap) (ot ob ol oz : Nat) (W : Nat → Prop) : Prop := ∀ o, W o → h0.length ≤ o ∧ o < h.length ∧ o ≠ ot ∧ o ≠ ob ∧ o ≠ ol ∧ o ≠ oz
theorem Pl.grow {h h' : Heap} {W : Nat → Prop} (p : Pl h0 h ot ob ol oz W) (e0 : h0.length ≤ h.length) (e : h.length ≤ h'.length) (hr : ot < h.length ∧ ob < h.length ∧ ol < h.length ∧ oz < h.length) : Pl h0 h' ot ob ol oz (fun o => W o ∨ (h.length ≤ o ∧ o < h'.length)) := by
  intro o z
  rcases z with z | z
  · have := p o z; omega
  · omega
/-- What is known of both after a spot of the first one was found and met. -/
theorem met_one {A A' : Nat → List Hop} {os : Nat} {W1 W2 : Nat → Prop} {h : Heap} {f1 f2 : FuncId} {c1 c2 : Nat → Int} {m1 m2 m1' : Nat → Option Int} {ls1 ls2 key L L' : Int} {id : Nat} {LL : Int → Int → List Tr}
    (hid : id < n) (hneg : c1 id < 0) (hkey : 0 ≤ key) (hg : GOk n 2147483647 (hopA es D.length LL)) (hen : ∀ x, en x → x < n)
    (s1 : SB W1 h os1 g f1 n (hopA es D.length LL) st (up c1 id key) m1' key) (s2 : SB W2 h os2 g f2 n A' en c2 m2 ls2) (mt : Met n (hopA es D.length LL) st en c1 c2 L) (hmono : 0 ≤ L → 0 ≤ L' ∧ L' ≤ L)
    (hme : 0 ≤ fnd (up c1 id key) m1' id → 0 ≤ fnd c2 m2 id → 0 ≤ L' ∧ L' ≤ fnd (up c1 id key) m1' id + fnd c2 m2 id)
    (hal : ∀ t ∈ LL ((id / D.length : Nat) : Int) ((id % D.length : Nat) : Int), 0 ≤ fnd (up c1 id key) m1' (hopOf es D.length t).1 → 0 ≤ fnd c2 m2 (hopOf es D.length t).1 → 0 ≤ L' ∧ L' ≤ fnd (up c1 id key) m1' (hopOf es D.length t).1 + fnd c2 m2 (hopOf es D.length t).1) :
    Met n (hopA es D.length LL) st en (up c1 id key) c2 L' := by
  have e1 : up c1 id key id = key := if_pos rfl
  have e2 : fnd (up c1 id key) m1' id = key := by rw [fnd, e1, if_pos hkey]
  refine mt.step (fun x hx q => if_neg q) hmono (fun q => ?_) fun y e w hh hd => ?_
  · have h1 := s2.st0 hid q
    have h2 := hme (by omega) (by omega)
    rw [e2, h1] at h2
    rw [e1]; omega
  · obtain ⟨t, ht, h1⟩ := List.mem_map.1 hh
    have hy := (hg.hop id hid _ _ _ hh).1
    have h2 := s1.hop hid (by rw [e1]; exact hkey) hh hy
    have h3 : (hopOf es D.length t).1 = y := by rw [h1]
    have h4 := hal t ht
    rw [h3] at h4
    have h5 : fnd c2 m2 y = c2 y := if_pos hd
    have h6 := h4 h2.1 (by rw [h5]; exact hd)
    rw [h5] at h6
    have h7 := h2.2
    omega
end
end Go.Gm.A9

set_option linter.unusedVariables false
set_option linter.unusedSimpArgs false
set_option linter.unusedSectionVars false
namespace Go.Gm.A9
open Go Go.Gm
/-- One goes on. -/
theorem both_guard {ι : Type} [Fuel ι] {h : Heap} {ot oB ol oz os1 os2 : Nat} {L ls1 ls2 : Int} {a1 b1 q1 x1 y1 z1 a2 b2 q2 x2 y2 z2 : AV} {K : ι → AV → Heap → Option (AV × Heap)} {Q : AV → Heap → Prop} (r : RowsB h ot oB ol oz os1 os2 L)
    (r1 : h[os1]? = some (.cells ⟨[a1, b1, q1, x1, y1, z1, I ls1], 0, 0, false⟩)) (r2 : h[os2]? = some (.cells ⟨[a2, b2, q2, x2, y2, z2, I ls2], 0, 0, false⟩)) (h1 : 0 ≤ ls1 ∧ ls1 ≤ 4000000000000000000) (h2 : 0 ≤ ls2 ∧ ls2 ≤ 4000000000000000000)
    (hQ : WP (fun i => K i (.bool (decide (L < 0 ∨ ls1 + ls2 < L))) h) Q) :
    WP (fun i =>
    oa (ld1 h (.ptr ol 0 1 0)) fun t129_1 =>
    oa (binV .lss .scalar t129_1 (.int .i64 0)) fun t130_2 =>
    ob (gd t130_2 false (pure1 h (ld1 h (.ptr ot 0 1 0))) h) fun t132_3 h_4 =>
    ob (gd t130_2 false (pure1 h_4 (nilCk t132_3)) h_4) fun t133_5 h_6 =>
    ob (gd t130_2 false (pure1 h_6 (fldA 6 t133_5)) h_6) fun t134_7 h_8 =>
    ob (gd t130_2 false (pure1 h_8 (ld1 h_8 t134_7)) h_8) fun t135_9 h_10 =>
    ob (gd t130_2 false (pure1 h_10 (ld1 h_10 (.ptr oB 0 1 0))) h_10) fun t136_11 h_12 =>
    ob (gd t130_2 false (pure1 h_12 (nilCk t136_11)) h_12) fun t137_13 h_14 =>
    ob (gd t130_2 false (pure1 h_14 (fldA 6 t137_13)) h_14) fun t138_15 h_16 =>
    ob (gd t130_2 false (pure1 h_16 (ld1 h_16 t138_15)) h_16) fun t139_17 h_18 =>
    ob (gd t130_2 false (pure1 h_18 (binV .add .scalar t135_9 t139_17)) h_18) fun t140_19 h_20 =>
    ob (gd t130_2 false (pure1 h_20 (ld1 h_20 (.ptr ol 0 1 0))) h_20) fun t141_21 h_22 =>
    ob (gd t130_2 false (pure1 h_22 (binV .lss .scalar t140_19 t141_21)) h_22) fun t142_23 h_24 =>
    oa (pickV t130_2 (.bool true) t142_23) fun t143_25 => K i t143_25 h_24) Q := by
  have rt := r.rt
  have rb := r.rb
  have rl := r.rl
  by_cases q0 : L < 0
  · rw [decide_eq_true (Or.inl q0)] at hQ
    simp -implicitDefEqProofs (maxSteps := 1000000) (disch := first | assumption | omega | (simp only [gL] <;> omega) | ((repeat (first | exact Ext.refl _ | assumption | apply Ext.app | apply Ext.mk | (refine Ext.setr ?_ (by (first | omega | (simp only [gL] <;> omega))) _))); done) | (simp only [gL, gA, rt, rb, rl, r1, r2] <;> omega) | fail) only [gB, setAll, partL, fldV, reduceIte, Nat.reduceAdd, Nat.reduceMul, rt, rb, rl, r1, r2]
    exact hQ
  · by_cases q1 : ls1 + ls2 < L
    · rw [decide_eq_true (Or.inr q1)] at hQ
      simp -implicitDefEqProofs (maxSteps := 1000000) (disch := first | assumption | omega | (simp only [gL] <;> omega) | ((repeat (first | exact Ext.refl _ | assumption | apply Ext.app | apply Ext.mk | (refine Ext.setr ?_ (by (first | omega | (simp only [gL] <;> omega))) _))); done) | (simp only [gL, gA, rt, rb, rl, r1, r2] <;> omega) | fail) only [gB, setAll, partL, fldV, reduceIte, Nat.reduceAdd, Nat.reduceMul, rt, rb, rl, r1, r2]
      exact hQ
    · rw [decide_eq_false (fun z => z.elim q0 q1)] at hQ
      simp -implicitDefEqProofs (maxSteps := 1000000) (disch := first | assumption | omega | (simp only [gL] <;> omega) | ((repeat (first | exact Ext.refl _ | assumption | apply Ext.app | apply Ext.mk | (refine Ext.setr ?_ (by (first | omega | (simp only [gL] <;> omega))) _))); done) | (simp only [gL, gA, rt, rb, rl, r1, r2] <;> omega) | fail) only [gB, setAll, partL, fldV, reduceIte, Nat.reduceAdd, Nat.reduceMul, rt, rb, rl, r1, r2]
      exact hQ
section
variable {h0 : Heap} {ot ob ol oz os1 os2 n : Nat} {g : AV} {f1 f2 : FuncId} {st en : Nat → Prop} {L1 L2 : Int → Int → List Tr}
variable {N : Nat} {es : List E} {D : List (List Int)} {acc : List Bool}
/-- Both sides, between two steps. -/
structure BI (h0 h : Heap) (ot ob ol oz os1 os2 n : Nat) (g : AV) (f1 f2 : FuncId) (st en : Nat → Prop) (A1 A2 : Nat → List Hop) (W1 W2 : Nat → Prop) (c1 c2 : Nat → Int) (m1 m2 : Nat → Option Int) (ls1 ls2 L : Int) : Prop where
  ex : Ext h0 h
  sa : SB W1 h os1 g f1 n A1 st c1 m1 ls1
  sb : SB W2 h os2 g f2 n A2 en c2 m2 ls2
  ka : LsOk n m1 ls1
  kb : LsOk n m2 ls2
  rr : RowsB h ot ob ol oz os1 os2 L
  sn : Snd A1 st en L
  mt : Met n A1 st en c1 c2 L
  pa : Pl h0 h ot ob ol oz W1
  pb : Pl h0 h ot ob ol oz W2
  dj : ∀ o, W1 o → ¬ W2 o
theorem both_l3 (gv : GV h0 g N es D acc) (ok : DOk D acc) (co : COk es) (hN : N ≤ 100000) (hn : n = N * D.length) (hn2 : n ≤ 1000000) (hh1 : HopsOk h0 g N es D f1 L1) (hh2 : HopsOk h0 g N es D f2 L2) (rv : Rev n (hopA es D.length L1) (hopA es D.length L2)) (hst : ∀ x, st x → x < n) (hen : ∀ x, en x → x < n)
    (hro : h0.length ≤ ot ∧ h0.length ≤ ob ∧ h0.length ≤ ol ∧ h0.length ≤ oz) {Q : AV → Heap → Prop}
    (hQ : ∀ h L, Ext h0 h → Snd (hopA es D.length L1) st en L → (∀ z l v, en z → Wk (hopA es D.length L1) st z l v → 0 ≤ L ∧ L ≤ v) → Q (.tup [I (max L 0), .bool (decide (0 ≤ L))]) h) :
    ∀ (d : Nat) (W1 W2 : Nat → Prop) (c1 c2 : Nat → Int) (m1 m2 : Nat → Option Int) (ls1 ls2 L : Int) (h : Heap) (kk : Int), un n c1 + un n c2 < d → (kk = 0 ∨ kk = 1) →
      BI h0 h ot ob ol oz os1 os2 n g f1 f2 st en (hopA es D.length L1) (hopA es D.length L2) W1 W2 c1 c2 m1 m2 ls1 ls2 L →
      WP (fun p : Nat × Nat => product_Both_l3 tab p.1 p.2 g (.ptr ot 0 1 0) (.ptr ob 0 1 0) (.ptr ol 0 1 0) (meetV ot ob ol) (.ptr oz 0 2 0) (I kk) h) Q := by
  have hg1 : GOk n 2147483647 (hopA es D.length L1) := hn ▸ hh1.gok co
  have hg2 : GOk n 2147483647 (hopA es D.length L2) := hn ▸ hh2.gok co
  intro d
  induction d with
  | zero =>
    intro W1 W2 c1 c2 m1 m2 ls1 ls2 L h kk hd
    have := un_nonneg n c1
    have := un_nonneg n c2
    omega
  | succ d ih =>
    intro W1 W2 c1 c2 m1 m2 ls1 ls2 L h kk hd hk b
    refine WP.rnd (fun i j => product_Both_l3_eq tab i j g (.ptr ot 0 1 0) (.ptr ob 0 1 0) (.ptr ol 0 1 0) (meetV ot ob ol) (.ptr oz 0 2 0) (I kk) h) ?_
    obtain ⟨ws1, a1, a2, a3, a4, ro1⟩ := b.sa.row
    obtain ⟨ws2, b1, b2, b3, b4, ro2⟩ := b.sb.row
    refine both_guard b.rr ro1 ro2 ⟨b.ka.1, b.ka.2.1⟩ ⟨b.kb.1, b.kb.2.1⟩ ?_
    have lt := fun {o : Nat} {x : AObj} (z : h[o]? = some x) => (List.getElem?_eq_some_iff.1 z).1
    have hlt := lt b.rr.rt
    have hlb := lt b.rr.rb
    have hll := lt b.rr.rl
    have hlz := lt b.rr.rz
    have e0 := b.ex.len
    have w1l : ¬ W1 ol := fun z => (b.pa _ z).2.2.2.2.1 rfl
    have w2l : ¬ W2 ol := fun z => (b.pb _ z).2.2.2.2.1 rfl
    have na : ¬ W1 ot ∧ ¬ W1 ob ∧ ¬ W1 ol ∧ ¬ W1 oz := ⟨fun z => (b.pa _ z).2.2.1 rfl, fun z => (b.pa _ z).2.2.2.1 rfl, w1l, fun z => (b.pa _ z).2.2.2.2.2 rfl⟩
    have nb : ¬ W2 ot ∧ ¬ W2 ob ∧ ¬ W2 ol ∧ ¬ W2 oz := ⟨fun z => (b.pb _ z).2.2.1 rfl, fun z => (b.pb _ z).2.2.2.1 rfl, w2l, fun z => (b.pb _ z).2.2.2.2.2 rfl⟩
    by_cases hc : L < 0 ∨ ls1 + ls2 < L
    · rw [decide_eq_true hc]
      have hix0 : idxA 2 1 (.ptr oz 0 2 0) (I 0) = some (.ptr oz 0 1 0) := by simp [idxA, I]
      have hix1 : idxA 2 1 (.ptr oz 0 2 0) (I 1) = some (.ptr oz 1 2 0) := by simp [idxA, I]
      have hld0 : ∀ {h' : Heap} {L' : Int}, RowsB h' ot ob ol oz os1 os2 L' → rdAt h'[oz]? 0 1 0 = some (.ptr os1 0 7 0) := by
        intro h' L' r'
        rw [r'.rz]; simp [rdAt]
      have hld1 : ∀ {h' : Heap} {L' : Int}, RowsB h' ot ob ol oz os1 os2 L' → rdAt h'[oz]? 1 2 0 = some (.ptr os2 0 7 0) := by
        intro h' L' r'
        rw [r'.rz]; simp [rdAt]
      rcases hk with rfl | rfl
      · have hx := hld0 b.rr
        simp -implicitDefEqProofs (maxSteps := 1000000) (disch := first | assumption | omega | (simp only [gL] <;> omega) | ((repeat (first | exact Ext.refl _ | assumption | apply Ext.app | apply Ext.mk | (refine Ext.setr ?_ (by (first | omega | (simp only [gL] <;> omega))) _))); done) | (simp only [gL, gA, hix0, hx] <;> omega) | fail) only [gB, setAll, partL, fldV, reduceIte, Nat.reduceAdd, Nat.reduceMul, hix0, hx]
        refine WP.call (b.sa.step b.ex (fun o z => (b.pa o z).1) gv ok co hN hn hn2 hh1 hst) ?_
        rintro _ h2 ⟨fa, ⟨rfl, hm, sa2⟩ | ⟨id, key, m1', i1, i2, i3, rfl, sa2, lo2⟩⟩
        · have l2 := fa.len
          have ex2 : Ext h0 h2 := fa.ext b.ex fun o q1 q2 => by have := (b.pa o q2).1; omega
          have r2 := b.rr.frs fa na
          have sb2 := b.sb.frs fa fun o q1 q2 q3 => b.dj o q3 q2
          have hx2 := hld1 r2
          simp -implicitDefEqProofs (maxSteps := 1000000) (disch := first | assumption | omega | (simp only [gL] <;> omega) | ((repeat (first | exact Ext.refl _ | assumption | apply Ext.app | apply Ext.mk | (refine Ext.setr ?_ (by (first | omega | (simp only [gL] <;> omega))) _))); done) | (simp only [gL, gA, extr_0, extr_1, show (1 : Int) - 0 = 1 from rfl, hix1, hx2] <;> omega) | fail) only [gB, setAll, partL, fldV, reduceIte, Nat.reduceAdd, Nat.reduceMul, extr_0, extr_1, show (1 : Int) - 0 = 1 from rfl, hix1, hx2]
          refine WP.call (sb2.all ex2 (fun o z => (b.pb o z).1) gv ok co hN hn hn2 hh2 hen) ?_
          rintro _ h3 ⟨rfl, fb, c2', m2', ls2', sb3, hm2⟩
          have l3 := fb.len
          have ex3 : Ext h0 h3 := fb.ext ex2 fun o q1 q2 => by have := (b.pb o q2).1; omega
          have r3 := r2.frs fb nb
          have sa3 := sa2.frs fb fun o q1 q2 q3 => q2.elim (fun z => b.dj o z q3) fun z => by have := (b.pb o q3).2.1; omega
          have rt := r3.rt
          obtain ⟨sc, ob', g3, row3⟩ : ∃ sc, (∃ x : AObj, True) ∧ lenS sc = some (I n) ∧ ∃ q se sf, h3[os1]? = some (.cells ⟨[g, .fn f1 [] [], q, sc, se, sf, I ls1], 0, 0, false⟩) := by
            obtain ⟨q, sc, se, sf, oc, oe, ov, cs, ds, fs, M, id, k, rk, w, _⟩ := sa3
            refine ⟨sc, ⟨.cells ⟨[], 0, 0, false⟩, trivial⟩, ?_, q, se, sf, w.row⟩
            have := w.gc.sl.len
            rw [List.length_map, w.lc] at this
            exact this
          obtain ⟨q, se, sf, row3⟩ := row3
          simp -implicitDefEqProofs (maxSteps := 1000000) (disch := first | assumption | omega | (simp only [gL] <;> omega) | ((repeat (first | exact Ext.refl _ | assumption | apply Ext.app | apply Ext.mk | (refine Ext.setr ?_ (by (first | omega | (simp only [gL] <;> omega))) _))); done) | (simp only [gL, gA, rt, row3, g3] <;> omega) | fail) only [gB, setAll, partL, fldV, reduceIte, Nat.reduceAdd, Nat.reduceMul, rt, row3, g3]
          refine WP.ent (both_l4 hn2 hg1 hg2 rv hst hen sa3 sb3 ⟨fun z => z.elim w1l fun z => by omega, fun z => z.elim w2l fun z => by omega⟩ (fun h' L' f s ha => hQ h' L' (f.ext ex3 fun o q1 q2 => by omega) s fun z l v hz hw => ?_) n 0 h3 L (Nat.zero_add _) (FrS.refl _ _) r3 b.sn (fun x hx => absurd hx (by omega))) fun i => rfl
          have h5 := sa3.done hg1 hst hm hw
          have h6 := sb3.st0 (hen z hz) hz
          have h7 := ha z (hen z hz) (by omega) (by omega)
          omega
        · have l2 := fa.len
          have ex2 : Ext h0 h2 := fa.ext b.ex fun o q1 q2 => by have := (b.pa o q2).1; omega
          have r2 := b.rr.frs fa na
          have sb2 := b.sb.frs fa fun o q1 q2 q3 => b.dj o q3 q2
          have sa3 := sa2.mono (W' := fun o => W1 o ∨ (h.length ≤ o ∧ o < h2.length)) fun o q1 q2 => q2.elim .inl fun z => .inr ⟨z, q1⟩
          have pa2 := b.pa.grow e0 l2 ⟨hlt, hlb, hll, hlz⟩
          have w1l' : ¬ (W1 ol ∨ (h.length ≤ ol ∧ ol < h2.length)) := fun z => z.elim w1l fun z => by omega
          simp -implicitDefEqProofs (maxSteps := 1000000) (disch := first | assumption | omega | (simp only [gL] <;> omega) | ((repeat (first | exact Ext.refl _ | assumption | apply Ext.app | apply Ext.mk | (refine Ext.setr ?_ (by (first | omega | (simp only [gL] <;> omega))) _))); done) | (simp only [gL, gA, extr_0, extr_1] <;> omega) | fail) only [gB, setAll, partL, fldV, reduceIte, Nat.reduceAdd, Nat.reduceMul, extr_0, extr_1]
          refine both_b6 (L0 := L) ex2 gv ok hN hn hn2 hg1 hg2 rv hst hen sa3 sb2 ⟨w1l', w2l⟩ hro.2.2.1 sa3 w1l' (.inl ⟨rfl, rfl⟩) hh1 i1 r2 b.sn ?_
          intro h4 L' f4 r4 sn4 hmo hme hal
          refine WP.congr (fun p => product_Both_b8_eq tab p.1 p.2 g (.ptr ot 0 1 0) (.ptr ob 0 1 0) (.ptr ol 0 1 0) (meetV ot ob ol) (.ptr oz 0 2 0) (I 0) h4) ?_
          have l4 := f4.len
          have sa4 := sa3.frs f4 fun o q1 q2 q3 => q3.elim (fun z => w1l' (z ▸ q2)) fun z => by omega
          have sb4 := sb2.frs f4 fun o q1 q2 q3 => q3.elim (fun z => w2l (z ▸ q2)) fun z => by omega
          have hu := un_up (n := n) (c := c1) (y := id) (v := key) i1 i3
          rw [if_pos i2] at hu
          simp -implicitDefEqProofs (maxSteps := 1000000) (disch := first | assumption | omega | (simp only [gL] <;> omega) | ((repeat (first | exact Ext.refl _ | assumption | apply Ext.app | apply Ext.mk | (refine Ext.setr ?_ (by (first | omega | (simp only [gL] <;> omega))) _))); done) | (simp only [gL, gA] <;> omega) | fail) only [gB, setAll, partL, fldV, reduceIte, Nat.reduceAdd, Nat.reduceMul]
          refine ih (fun o => W1 o ∨ (h.length ≤ o ∧ o < h2.length)) W2 (up c1 id key) c2 m1' m2 key ls2 L' h4 1 (by omega) (.inr rfl) ⟨f4.ext ex2 fun o q1 q2 => by omega, sa4, sb4, lo2, b.kb, r4, sn4, met_one (os := 0) (A := fun _ => []) (m1 := m1) (ls1 := 0) i1 i2 i3 hg1 hen sa4 sb4 b.mt hmo hme hal, fun o z => ?_, fun o z => ?_, fun o z1 z2 => ?_⟩
          · have := pa2 o z
            exact ⟨this.1, by omega, this.2.2⟩
          · have := b.pb o z
            exact ⟨this.1, by omega, this.2.2⟩
          · rcases z1 with z1 | z1
            · exact b.dj o z1 z2
            · have := b.pb o z2
              omega
      · have hx := hld1 b.rr
        simp -implicitDefEqProofs (maxSteps := 1000000) (disch := first | assumption | omega | (simp only [gL] <;> omega) | ((repeat (first | exact Ext.refl _ | assumption | apply Ext.app | apply Ext.mk | (refine Ext.setr ?_ (by (first | omega | (simp only [gL] <;> omega))) _))); done) | (simp only [gL, gA, hix1, hx] <;> omega) | fail) only [gB, setAll, partL, fldV, reduceIte, Nat.reduceAdd, Nat.reduceMul, hix1, hx]
        refine WP.call (b.sb.step b.ex (fun o z => (b.pb o z).1) gv ok co hN hn hn2 hh2 hen) ?_
        rintro _ h2 ⟨fa, ⟨rfl, hm, sb2⟩ | ⟨id, key, m2', i1, i2, i3, rfl, sb2, lo2⟩⟩
        · have l2 := fa.len
          have ex2 : Ext h0 h2 := fa.ext b.ex fun o q1 q2 => by have := (b.pb o q2).1; omega
          have r2 := b.rr.frs fa nb
          have sa2 := b.sa.frs fa fun o q1 q2 q3 => b.dj o q2 q3
          have hx2 := hld0 r2
          simp -implicitDefEqProofs (maxSteps := 1000000) (disch := first | assumption | omega | (simp only [gL] <;> omega) | ((repeat (first | exact Ext.refl _ | assumption | apply Ext.app | apply Ext.mk | (refine Ext.setr ?_ (by (first | omega | (simp only [gL] <;> omega))) _))); done) | (simp only [gL, gA, extr_0, extr_1, show (1 : Int) - 1 = 0 from rfl, hix0, hx2] <;> omega) | fail) only [gB, setAll, partL, fldV, reduceIte, Nat.reduceAdd, Nat.reduceMul, extr_0, extr_1, show (1 : Int) - 1 = 0 from rfl, hix0, hx2]
          refine WP.call (sa2.all ex2 (fun o z => (b.pa o z).1) gv ok co hN hn hn2 hh1 hst) ?_
          rintro _ h3 ⟨rfl, fb, c1', m1', ls1', sa3, hm2⟩
          have l3 := fb.len
          have ex3 : Ext h0 h3 := fb.ext ex2 fun o q1 q2 => by have := (b.pa o q2).1; omega
          have r3 := r2.frs fb na
          have sb3 := sb2.frs fb fun o q1 q2 q3 => q2.elim (fun z => b.dj o q3 z) fun z => by have := (b.pa o q3).2.1; omega
          have rt := r3.rt
          obtain ⟨sc, g3, row3⟩ : ∃ sc, lenS sc = some (I n) ∧ ∃ q se sf, h3[os1]? = some (.cells ⟨[g, .fn f1 [] [], q, sc, se, sf, I ls1'], 0, 0, false⟩) := by
            obtain ⟨q, sc, se, sf, oc, oe, ov, cs, ds, fs, M, id, k, rk, w, _⟩ := sa3
            refine ⟨sc, ?_, q, se, sf, w.row⟩
            have := w.gc.sl.len
            rw [List.length_map, w.lc] at this
            exact this
          obtain ⟨q, se, sf, row3⟩ := row3
          simp -implicitDefEqProofs (maxSteps := 1000000) (disch := first | assumption | omega | (simp only [gL] <;> omega) | ((repeat (first | exact Ext.refl _ | assumption | apply Ext.app | apply Ext.mk | (refine Ext.setr ?_ (by (first | omega | (simp only [gL] <;> omega))) _))); done) | (simp only [gL, gA, rt, row3, g3] <;> omega) | fail) only [gB, setAll, partL, fldV, reduceIte, Nat.reduceAdd, Nat.reduceMul, rt, row3, g3]
          refine WP.ent (both_l4 hn2 hg1 hg2 rv hst hen sa3 sb3 ⟨fun z => z.elim w1l fun z => by omega, fun z => z.elim w2l fun z => by omega⟩ (fun h' L' f s ha => hQ h' L' (f.ext ex3 fun o q1 q2 => by omega) s fun z l v hz hw => ?_) n 0 h3 L (Nat.zero_add _) (FrS.refl _ _) r3 b.sn (fun x hx => absurd hx (by omega))) fun i => rfl
          have h5 := sa3.done hg1 hst hm2 hw
          have h6 := sb3.st0 (hen z hz) hz
          have h7 := ha z (hen z hz) (by omega) (by omega)
          omega
        · have l2 := fa.len
          have ex2 : Ext h0 h2 := fa.ext b.ex fun o q1 q2 => by have := (b.pb o q2).1; omega
          have r2 := b.rr.frs fa nb
          have sa2 := b.sa.frs fa fun o q1 q2 q3 => b.dj o q2 q3
          have sb3 := sb2.mono (W' := fun o => W2 o ∨ (h.length ≤ o ∧ o < h2.length)) fun o q1 q2 => q2.elim .inl fun z => .inr ⟨z, q1⟩
          have pb2 := b.pb.grow e0 l2 ⟨hlt, hlb, hll, hlz⟩
          have w2l' : ¬ (W2 ol ∨ (h.length ≤ ol ∧ ol < h2.length)) := fun z => z.elim w2l fun z => by omega
          simp -implicitDefEqProofs (maxSteps := 1000000) (disch := first | assumption | omega | (simp only [gL] <;> omega) | ((repeat (first | exact Ext.refl _ | assumption | apply Ext.app | apply Ext.mk | (refine Ext.setr ?_ (by (first | omega | (simp only [gL] <;> omega))) _))); done) | (simp only [gL, gA, extr_0, extr_1] <;> omega) | fail) only [gB, setAll, partL, fldV, reduceIte, Nat.reduceAdd, Nat.reduceMul, extr_0, extr_1]
          refine both_b6 (L0 := L) ex2 gv ok hN hn hn2 hg1 hg2 rv hst hen sa2 sb3 ⟨w1l, w2l'⟩ hro.2.2.1 sb3 w2l' (.inr ⟨rfl, rfl⟩) hh2 i1 r2 b.sn ?_
          intro h4 L' f4 r4 sn4 hmo hme hal
          refine WP.congr (fun p => product_Both_b8_eq tab p.1 p.2 g (.ptr ot 0 1 0) (.ptr ob 0 1 0) (.ptr ol 0 1 0) (meetV ot ob ol) (.ptr oz 0 2 0) (I 1) h4) ?_
          have l4 := f4.len
          have sb4 := sb3.frs f4 fun o q1 q2 q3 => q3.elim (fun z => w2l' (z ▸ q2)) fun z => by omega
          have sa4 := sa2.frs f4 fun o q1 q2 q3 => q3.elim (fun z => w1l (z ▸ q2)) fun z => by omega
          have hu := un_up (n := n) (c := c2) (y := id) (v := key) i1 i3
          rw [if_pos i2] at hu
          simp -implicitDefEqProofs (maxSteps := 1000000) (disch := first | assumption | omega | (simp only [gL] <;> omega) | ((repeat (first | exact Ext.refl _ | assumption | apply Ext.app | apply Ext.mk | (refine Ext.setr ?_ (by (first | omega | (simp only [gL] <;> omega))) _))); done) | (simp only [gL, gA] <;> omega) | fail) only [gB, setAll, partL, fldV, reduceIte, Nat.reduceAdd, Nat.reduceMul]
          refine ih W1 (fun o => W2 o ∨ (h.length ≤ o ∧ o < h2.length)) c1 (up c2 id key) m1 m2' ls1 key L' h4 0 (by omega) (.inl rfl) ⟨f4.ext ex2 fun o q1 q2 => by omega, sa4, sb4, b.ka, lo2, r4, sn4, (met_one (os := 0) (A := fun _ => []) (m1 := m1) (ls1 := 0) i1 i2 i3 hg2 hst sb4 sa4 (b.mt.symm hg1 hg2 rv) hmo (fun z1 z2 => ?_) (fun t ht z1 z2 => ?_)).symm hg2 hg1 rv.symm, fun o z => ?_, fun o z => ?_, fun o z1 z2 => ?_⟩
          · have := hme z2 z1
            omega
          · have := hal t ht z2 z1
            omega
          · have := b.pa o z
            exact ⟨this.1, by omega, this.2.2⟩
          · have := pb2 o z
            exact ⟨this.1, by omega, this.2.2⟩
          · rcases z2 with z2 | z2
            · exact b.dj o z1 z2
            · have := b.pa o z1
              omega
    · rw [decide_eq_false hc]
      simp -implicitDefEqProofs (maxSteps := 1000000) (disch := first | assumption | omega | (simp only [gL] <;> omega) | ((repeat (first | exact Ext.refl _ | assumption | apply Ext.app | apply Ext.mk | (refine Ext.setr ?_ (by (first | omega | (simp only [gL] <;> omega))) _))); done) | (simp only [gL, gA] <;> omega) | fail) only [gB, setAll, partL, fldV, reduceIte, Nat.reduceAdd, Nat.reduceMul]
      refine both_b5 (ι := Nat × Nat) b.rr (fun p => p.1) (hQ h L b.ex b.sn fun z l v hz hw => ?_)
      have h5 := b.mt.least hg1 hg2 rv hst hen (b.sa.half b.ka hg1 hst) (b.sb.half b.kb hg2 hen) (by omega) (fun x hx h0 => ?_) hz hw
      · omega
      · have h6 := b.sa.st0 (hst x hx) hx
        rw [fnd, if_pos h0] at h6
        omega
end
end Go.Gm.A9

set_option linter.unusedVariables false
set_option linter.unusedSimpArgs false
set_option linter.unusedSectionVars false
namespace Go.Gm.A9
open Go Go.Gm
theorem bv_least {c : Nat → Int} {acc : List Bool} {b : Nat} : ∀ n, (bv c acc b n = -1 ∧ ∀ q : Nat, q < n → gi acc (q : Int) = true → c (b + q) < 0) ∨
    (∃ q : Nat, q < n ∧ gi acc (q : Int) = true ∧ 0 ≤ c (b + q) ∧ bv c acc b n = c (b + q) ∧ ∀ q' : Nat, q' < n → gi acc (q' : Int) = true → 0 ≤ c (b + q') → bv c acc b n ≤ c (b + q'))
  | 0 => .inl ⟨rfl, fun q h => by omega⟩
  | n + 1 => by
    by_cases t : gi acc n = true ∧ 0 ≤ c (b + n) ∧ (bv c acc b n < 0 ∨ c (b + n) < bv c acc b n)
    · have e : bv c acc b (n + 1) = c (b + n) := if_pos t
      refine .inr ⟨n, by omega, t.1, t.2.1, e, fun q hq h1 h2 => ?_⟩
      rw [e]
      by_cases hn : q = n
      · subst hn; omega
      · rcases bv_least (c := c) (acc := acc) (b := b) n with ⟨k1, k2⟩ | ⟨q', k1, k2, k3, k4, k5⟩
        · have := k2 q (by omega) h1
          omega
        · have := k5 q (by omega) h1 h2
          omega
    · have e : bv c acc b (n + 1) = bv c acc b n := if_neg t
      rcases bv_least (c := c) (acc := acc) (b := b) n with ⟨k1, k2⟩ | ⟨q', k1, k2, k3, k4, k5⟩
      · refine .inl ⟨by rw [e]; exact k1, fun q hq h1 => ?_⟩
        by_cases hn : q = n
        · subst hn
          exact Classical.byContradiction fun z => t ⟨h1, by omega, .inl (by omega)⟩
        · exact k2 q (by omega) h1
      · refine .inr ⟨q', by omega, k2, k3, by rw [e]; exact k4, fun q hq h1 h2 => ?_⟩
        rw [e]
        by_cases hn : q = n
        · subst hn
          exact Classical.byContradiction fun z => t ⟨h1, h2, .inr (by omega)⟩
        · exact k5 q (by omega) h1 h2
theorem un_full {c : Nat → Int} : ∀ n, un n c = n → ∀ x : Nat, x < n → c x < 0
  | 0, _ => fun x hx => by omega
  | n + 1, h => by
    have h1 := un_le n c
    have h2 : un (n + 1) c = un n c + if c n < 0 then 1 else 0 := rfl
    intro x hx
    by_cases q : c n < 0
    · rw [if_pos q] at h2
      by_cases hn : x = n
      · subst hn; exact q
      · exact un_full n (by omega) x (by omega)
    · rw [if_neg q] at h2
      omega
/-- The ends. -/
def endsL (acc : List Bool) (u : Int) (n : Nat) : List (Int × Int) := ((List.range n).filter fun (q : Nat) => gi acc (q : Int)).map fun (q : Nat) => (u, (q : Int))
theorem endsL_succ (acc : List Bool) (u : Int) (n : Nat) : endsL acc u (n + 1) = endsL acc u n ++ if gi acc (n : Int) = true then [(u, (n : Int))] else [] := by
  simp only [endsL, List.range_succ, List.filter_append, List.map_append]
  congr 1
  by_cases q : gi acc (n : Int) = true
  · simp [List.filter, q]
  · simp [List.filter, q]
theorem endsL_mem {acc : List Bool} {u : Int} {n : Nat} {a : Int × Int} : a ∈ endsL acc u n ↔ ∃ q : Nat, q < n ∧ gi acc (q : Int) = true ∧ a = (u, (q : Int)) := by
  simp only [endsL, List.mem_map, List.mem_filter, List.mem_range]
  constructor
  · rintro ⟨q, ⟨h1, h2⟩, rfl⟩; exact ⟨q, h1, h2, rfl⟩
  · rintro ⟨q, h1, h2, rfl⟩; exact ⟨q, ⟨h1, h2⟩, rfl⟩
theorem endsL_len (acc : List Bool) (u : Int) (n : Nat) : (endsL acc u n).length ≤ n := by
  simp only [endsL, List.length_map]
  exact Nat.le_trans (List.length_filter_le ..) (by simp)
theorem at_ends {acc : List Bool} {S u : Nat} {x : Nat} : atSt S (endsL acc (u : Int) S) x ↔ ∃ q : Nat, q < S ∧ gi acc (q : Int) = true ∧ x = u * S + q := by
  constructor
  · rintro ⟨a, h1, h2⟩
    obtain ⟨q, k1, k2, rfl⟩ := endsL_mem.1 h1
    refine ⟨q, k1, k2, ?_⟩
    simp only at h2
    rw [← Int.natCast_mul] at h2
    omega
  · rintro ⟨q, k1, k2, rfl⟩
    refine ⟨_, endsL_mem.2 ⟨q, k1, k2, rfl⟩, ?_⟩
    simp only
    rw [← Int.natCast_mul]
    omega
section
variable {h0 : Heap} {N : Nat} {es : List E} {D : List (List Int)} {acc : List Bool}
theorem both_b2 {h : Heap} {g en : AV} {n u ot os1 : Nat} {W1 : Nat → Prop} {st : Nat → Prop} {c1 : Nat → Int} {m1 : Nat → Option Int} {Q : AV → Heap → Prop}
    (gv : GV h0 g N es D acc) (ok : DOk D acc) (no : NetOk N es) (co : COk es) (hN : N ≤ 100000) (hn : n = N * D.length) (hn2 : n ≤ 1000000) (hl : es.length * D.length ≤ 10000000) (hu : u < N) (hst : ∀ x, st x → x < n) (e0 : Ext h0 h)
    (s1 : SB W1 h os1 g f_product_graph_on n (hopA es D.length (onL es D)) st c1 m1 0) (k1 : LsOk n m1 0) (hc1 : ∀ x, x < n → c1 x < 0) (p1 : ∀ o, W1 o → h0.length ≤ o ∧ o < ot) (hot : h0.length ≤ ot)
    (rt : h[ot]? = some (.cells ⟨[.ptr os1 0 7 0], 0, 0, false⟩)) (hen : Sl h 2 en ((endsL acc u D.length).map encP2))
    (hQ : ∀ h' L, Ext h0 h' → Snd (hopA es D.length (onL es D)) st (atSt D.length (endsL acc u D.length)) L → (∀ z l v, atSt D.length (endsL acc u D.length) z → Wk (hopA es D.length (onL es D)) st z l v → 0 ≤ L ∧ L ≤ v) → Q (.tup [I (max L 0), .bool (decide (0 ≤ L))]) h') :
    WP (fun i : Nat => product_Both_b2 tab i g (.ptr ot 0 1 0) en h) Q := by
  refine WP.congr (fun i : Nat => product_Both_b2_eq tab i g (.ptr ot 0 1 0) en h) ?_
  have hl1 := ok.l1
  have hel := endsL_len acc u D.length
  refine WP.call (begin_spec (n := n) (gv.ext e0) ok hN hn hn2 hen (fun a z => ?_) (by omega) (hopA es D.length (backL es D))) ?_
  · obtain ⟨q, q1, q2, rfl⟩ := endsL_mem.1 z
    exact ⟨by show (0 : Int) ≤ u; omega, by show (u : Int) < N; omega, by show (0 : Int) ≤ q; omega, by show (q : Int) < D.length; omega⟩
  rintro _ h2 ⟨e2, os2, q, sc, se, sf, oc, oe, ov, cs, ds, fs, M, rfl, w2, d2, u2⟩
  have l0 := e0.len
  have l2 := e2.len
  have lot := (List.getElem?_eq_some_iff.1 rt).1
  have rt2 := e2.get rt
  obtain ⟨h3, hh3⟩ : ∃ h3, h3 = h2 ++ [AObj.cells ⟨[AV.ptr os2 0 7 0], 0, 0, false⟩] := ⟨_, rfl⟩
  obtain ⟨h4, hh4⟩ : ∃ h4, h4 = h3 ++ [AObj.cells ⟨[I (-1)], 0, 0, false⟩] := ⟨_, rfl⟩
  obtain ⟨h5, hh5⟩ : ∃ h5, h5 = h4 ++ [AObj.cells ⟨[AV.ptr os1 0 7 0, AV.ptr os2 0 7 0], 0, 0, false⟩] := ⟨_, rfl⟩
  have e3 : Ext h2 h3 := by rw [hh3]; exact Ext.push _ _
  have e4 : Ext h3 h4 := by rw [hh4]; exact Ext.push _ _
  have e5 : Ext h4 h5 := by rw [hh5]; exact Ext.push _ _
  have l3 : h3.length = h2.length + 1 := by rw [hh3]; simp
  have l4 : h4.length = h2.length + 2 := by rw [hh4]; simp; omega
  have l5 : h5.length = h2.length + 3 := by rw [hh5]; simp; omega
  have s5 : ((((h2 ++ [AObj.cells ⟨[AV.nilp], 0, 0, false⟩]).set h2.length (AObj.cells ⟨[AV.ptr os2 0 7 0], 0, 0, false⟩)) ++ [AObj.cells ⟨[AV.int .i64 0], 0, 0, false⟩]).set (h2.length + 1) (AObj.cells ⟨[AV.int .i64 (-1)], 0, 0, false⟩) ++ [AObj.cells ⟨[AV.nilp, AV.nilp], 0, 0, false⟩]).set (h2.length + 1 + 1) (AObj.cells ⟨[AV.ptr os1 0 7 0, AV.ptr os2 0 7 0], 0, 0, false⟩) = h5 := by
    rw [hh5, hh4, hh3]; simp [I]; rw [List.set_append_right _ _ (by omega), show h2.length + 1 + 1 - h2.length = 2 by omega]; rfl
  have rb3 : h3[h2.length]? = some (.cells ⟨[AV.ptr os2 0 7 0], 0, 0, false⟩) := by rw [hh3]; simp
  have rl4 : h4[h2.length + 1]? = some (.cells ⟨[I (-1)], 0, 0, false⟩) := by rw [← l3, hh4]; simp
  have rz5 : h5[h2.length + 1 + 1]? = some (.cells ⟨[AV.ptr os1 0 7 0, AV.ptr os2 0 7 0], 0, 0, false⟩) := by rw [← l4, hh5]; simp
  have rt4 := (e3.trans e4).get rt2
  have rb4 := e4.get rb3
  simp -implicitDefEqProofs (maxSteps := 1000000) (disch := first | assumption | omega | (simp only [gL] <;> omega) | ((repeat (first | exact Ext.refl _ | assumption | apply Ext.app | apply Ext.mk | (refine Ext.setr ?_ (by (first | omega | (simp only [gL] <;> omega))) _))); done) | (simp only [gL, gA, rt2] <;> omega) | fail) only [gB, setAll, partL, fldV, reduceIte, Nat.reduceAdd, Nat.reduceMul, rt2]
  rw [s5]
  have e25 := (e3.trans e4).trans e5
  have hg1 := (on_hops gv ok no)
  have hg2 := (back_hops gv ok no hl)
  have hst2 : ∀ x, atSt D.length (endsL acc u D.length) x → x < n := fun x z => by
    obtain ⟨q, q1, q2, rfl⟩ := at_ends.1 z
    have := spotN (S := D.length) hu q1
    omega
  have hc2 := un_full n (c := Gm.A9.gf cs) (by simpa using u2)
  have sb : SB (fun o => h.length ≤ o ∧ o < h2.length) h2 os2 g f_product_graph_back n (hopA es D.length (backL es D)) (atSt D.length (endsL acc u D.length)) (Gm.A9.gf cs) (Gm.A9.gf M) 0 :=
    SB.mono ⟨q, sc, se, sf, oc, oe, ov, cs, ds, fs, M, 0, 0, fun _ => 0, w2, d2, u2, rfl, rfl⟩ fun o z1 z2 => ⟨z2, z1⟩
  refine WP.ent (both_l3 (ot := ot) (ob := h2.length) (ol := h2.length + 1) (oz := h2.length + 1 + 1) gv ok co hN hn hn2 hg1 hg2 (hn ▸ on_back ok no) hst hst2 ⟨hot, by omega, by omega, by omega⟩ hQ ((un n c1 + un n (Gm.A9.gf cs)).toNat + 1) W1 (fun o => h.length ≤ o ∧ o < h2.length) c1 (Gm.A9.gf cs) m1 (Gm.A9.gf M) 0 0 (-1) h5 0 (by omega) (.inl rfl) ⟨(e0.trans e2).trans e25, (s1.frs (D := fun _ => False) (FrS.ofExt (e2.trans e25)) fun _ _ _ z => z), (sb.frs (D := fun _ => False) (FrS.ofExt e25) fun _ _ _ z => z), k1, ⟨Int.le_refl _, by omega, fun x hx v hv => (d2.que x hx v hv).2.1⟩, ⟨e5.get rt4, e5.get rb4, e5.get rl4, rz5, by omega, by omega, by omega⟩, .inl rfl, ⟨fun x hx z => ?_, fun x hx z => ?_, fun x y e w hx _ z => ?_⟩, fun o z => ?_, fun o z => ?_, fun o z1 z2 => ?_⟩) fun i => rfl
  · have := hc1 x hx; omega
  · have := hc2 x hx; omega
  · have := hc1 x hx; omega
  · have := p1 o z; omega
  · omega
  · have := p1 o z1; omega
theorem both_l1 {hb : Heap} {g tA : AV} {n u ot os1 : Nat} {W1 : Nat → Prop} {st : Nat → Prop} {c1 : Nat → Int} {m1 : Nat → Option Int} {Q : AV → Heap → Prop}
    (gv : GV h0 g N es D acc) (ok : DOk D acc) (no : NetOk N es) (co : COk es) (hN : N ≤ 100000) (hn : n = N * D.length) (hn2 : n ≤ 1000000) (hl : es.length * D.length ≤ 10000000) (hu : u < N) (hst : ∀ x, st x → x < n) (e0 : Ext h0 hb)
    (s1 : SB W1 hb os1 g f_product_graph_on n (hopA es D.length (onL es D)) st c1 m1 0) (k1 : LsOk n m1 0) (hc1 : ∀ x, x < n → c1 x < 0) (p1 : ∀ o, W1 o → h0.length ≤ o ∧ o < ot) (hot : h0.length ≤ ot)
    (rt : hb[ot]? = some (.cells ⟨[.ptr os1 0 7 0], 0, 0, false⟩)) (hA : Sl hb 1 tA (acc.map encB))
    (hQ : ∀ h' L, Ext h0 h' → Snd (hopA es D.length (onL es D)) st (atSt D.length (endsL acc u D.length)) L → (∀ z l v, atSt D.length (endsL acc u D.length) z → Wk (hopA es D.length (onL es D)) st z l v → 0 ≤ L ∧ L ≤ v) → Q (.tup [I (max L 0), .bool (decide (0 ≤ L))]) h') :
    ∀ (d i : Nat) (h : Heap) (en : AV), i + d = D.length → Ext hb h → Gr hb.length h.length h 2 en ((endsL acc u i).map encP2) →
      WP (fun p : Nat × Nat => product_Both_l1 tab p.1 p.2 (I u) g (.ptr ot 0 1 0) en tA (I D.length) (I i) h) Q := by
  intro d
  induction d with
  | zero =>
    intro i h en h1 e g1
    refine WP.rnd (fun i' j => product_Both_l1_eq tab i' j (I u) g (.ptr ot 0 1 0) en tA (I D.length) (I i) h) ?_
    obtain rfl : i = D.length := by omega
    simp -implicitDefEqProofs (maxSteps := 1000000) (disch := first | assumption | omega | (simp only [gL] <;> omega) | ((repeat (first | exact Ext.refl _ | assumption | apply Ext.app | apply Ext.mk | (refine Ext.setr ?_ (by (first | omega | (simp only [gL] <;> omega))) _))); done) | (simp only [gL, gA] <;> omega) | fail) only [gB, setAll, partL, fldV, reduceIte, Nat.reduceAdd, Nat.reduceMul]
    refine WP.lv (both_b2 gv ok no co hN hn hn2 hl hu hst (e0.trans e) (s1.frs (D := fun _ => False) (FrS.ofExt e) fun _ _ _ z => z) k1 hc1 p1 hot (e.get rt) g1.sl hQ) fun i j => rfl
  | succ d ih =>
    intro i h en h1 e g1
    refine WP.rnd (fun i' j => product_Both_l1_eq tab i' j (I u) g (.ptr ot 0 1 0) en tA (I D.length) (I i) h) ?_
    have la := ok.la
    have hl1 := ok.l1
    have hlo := e.len
    have sl := hA.ext e
    obtain ⟨b, hb'⟩ : ∃ b, gi acc (i : Int) = b := ⟨_, rfl⟩
    cases b with
    | true =>
      have hel := endsL_len acc u i
      obtain ⟨s', h', q1, q2, q3⟩ := Gr.append1 (bytes := 16) g1 (v := [I u, I i]) rfl (by omega) (by omega) (by simp; omega) (by omega) (by omega)
      rw [mkObj_eq] at q1
      simp -implicitDefEqProofs (maxSteps := 1000000) (disch := first | assumption | omega | (simp only [gL] <;> omega) | ((repeat (first | exact Ext.refl _ | assumption | apply Ext.app | apply Ext.mk | (refine Ext.setr ?_ (by (first | omega | (simp only [gL] <;> omega))) _))); done) | (simp only [gL, gA, sl.idxG, sl.ld0, hb', encB, q1] <;> omega) | fail) only [gB, setAll, partL, fldV, reduceIte, Nat.reduceAdd, Nat.reduceMul, sl.idxG, sl.ld0, hb', encB, q1]
      refine ih (i + 1) h' s' (by omega) (q3.ext e (by omega)) ((q2.mono (Nat.le_refl _) (Nat.le_refl _)).cong ?_)
      rw [endsL_succ, if_pos hb', List.map_append]
      rfl
    | false =>
      simp -implicitDefEqProofs (maxSteps := 1000000) (disch := first | assumption | omega | (simp only [gL] <;> omega) | ((repeat (first | exact Ext.refl _ | assumption | apply Ext.app | apply Ext.mk | (refine Ext.setr ?_ (by (first | omega | (simp only [gL] <;> omega))) _))); done) | (simp only [gL, gA, sl.idxG, sl.ld0, hb', encB] <;> omega) | fail) only [gB, setAll, partL, fldV, reduceIte, Nat.reduceAdd, Nat.reduceMul, sl.idxG, sl.ld0, hb', encB]
      refine ih (i + 1) h en (by omega) e (g1.cong ?_)
      rw [endsL_succ, if_neg (by rw [hb']; simp), List.append_nil]
theorem Both_spec {h : Heap} {sE sD sA : AV} (no : NetOk N es) (co : COk es) (hn2 : N * D.length ≤ 1000000) (hl : es.length * D.length ≤ 10000000) (hs : Sl h 4 sE (es.map encE)) (ok : DOk D acc) (hD : Sl h 5 sD (D.map encR)) (hA : Sl h 1 sA (acc.map encB)) {v u : Nat} (hv : v < N) (hu : u < N) :
    Tot tab f_product_Both [.agg [I N, sE], .agg [sD, sA], I v, I u] h fun r h' => Ext h h' ∧ ∃ L, r = .tup [I (max L 0), .bool (decide (0 ≤ L))] ∧
      ∀ c, LC (N * D.length) (hopA es D.length (onL es D)) (fun x => x = v * D.length) c → L = bv c acc (u * D.length) D.length := by
  refine WP.tot (fun k => (call_product_Both k _ _ _ _ h).trans (product_Both_eq tab k _ _ _ _ h)) ?_
  have hN : N ≤ 100000 := by have := no.n1; omega
  obtain ⟨h1, hh1⟩ : ∃ h1, h1 = ((h ++ [AObj.cells ⟨[I N, sE], 0, 0, false⟩]) ++ [AObj.cells ⟨[sD, sA], 0, 0, false⟩]) := ⟨_, rfl⟩
  have e1 : Ext h h1 := by rw [hh1]; ((repeat (first | exact Ext.refl _ | assumption | apply Ext.app | apply Ext.mk | (refine Ext.setr ?_ (by (first | omega | (simp only [gL] <;> omega))) _))))
  have r1 : h1[h.length + 1]? = some (.cells ⟨[sD, sA], 0, 0, false⟩) := by rw [hh1]; simp
  simp -implicitDefEqProofs (maxSteps := 1000000) (disch := first | assumption | omega | (simp only [gL] <;> omega) | ((repeat (first | exact Ext.refl _ | assumption | apply Ext.app | apply Ext.mk | (refine Ext.setr ?_ (by (first | omega | (simp only [gL] <;> omega))) _))); done) | (simp only [gL, gA, hs.one, hs.cells, hD.one, hD.cells, hA.one, hA.cells] <;> omega) | fail) only [gB, setAll, partL, fldV, reduceIte, Nat.reduceAdd, Nat.reduceMul, hs.one, hs.cells, hD.one, hD.cells, hA.one, hA.cells]
  rw [← hh1]
  refine WP.call (join_spec no (hs.ext e1) ok (hD.ext e1) (hA.ext e1)) ?_
  rintro g h2 ⟨e2, gv⟩
  obtain ⟨h3, hh3⟩ : ∃ h3, h3 = h2 ++ [AObj.cells ⟨[I v, AV.int .i64 0], 0, 0, false⟩] := ⟨_, rfl⟩
  have e3 : Ext h2 h3 := by rw [hh3]; exact Ext.push _ _
  have ha : Sl h3 2 (.sl h2.length 0 1 2 none 0) ([((v : Int), (0 : Int))].map encP2) := by
    have := (Gr.lit (h := h2) (sz := 2) (v := [I v, I 0]) rfl).sl
    rw [mkObj_eq] at this
    rw [hh3]; exact this
  rw [show AV.int .i64 0 = I 0 from rfl] at hh3
  rw [← hh3]
  have gv3 := gv.ext e3
  refine WP.call (begin_spec (n := N * D.length) gv3 ok hN rfl hn2 ha (fun a z => ?_) (by simp) (hopA es D.length (onL es D))) ?_
  · obtain rfl := List.mem_singleton.1 z
    have := ok.l0
    exact ⟨by show (0 : Int) ≤ v; omega, by show (v : Int) < N; omega, Int.le_refl _, by show (0 : Int) < D.length; omega⟩
  rintro _ h4 ⟨e4, os, q, sc, se, sf, oc, oe, ov, cs, ds, fs, M, rfl, w4, d4, u4⟩
  have hst : atSt D.length [((v : Int), (0 : Int))] = fun x => x = v * D.length := by
    funext x; exact propext at_one
  rw [hst] at d4
  have hstn : ∀ x, x = v * D.length → x < N * D.length := fun x z => by
    have := spotN (S := D.length) hv ok.l0
    omega
  obtain ⟨h5, hh5⟩ : ∃ h5, h5 = h4 ++ [AObj.cells ⟨[AV.ptr os 0 7 0], 0, 0, false⟩] := ⟨_, rfl⟩
  have e5 : Ext h4 h5 := by rw [hh5]; exact Ext.push _ _
  have s5 : (h4 ++ [AObj.cells ⟨[AV.nilp], 0, 0, false⟩]).set h4.length (AObj.cells ⟨[AV.ptr os 0 7 0], 0, 0, false⟩) = h5 := by rw [hh5]; simp
  have rt : h5[h4.length]? = some (.cells ⟨[AV.ptr os 0 7 0], 0, 0, false⟩) := by rw [hh5]; simp
  have e15 := (((e2.trans e3).trans e4).trans e5)
  have r15 := e15.get r1
  have hA5 := hA.ext (e1.trans e15)
  simp -implicitDefEqProofs (maxSteps := 1000000) (disch := first | assumption | omega | (simp only [gL] <;> omega) | ((repeat (first | exact Ext.refl _ | assumption | apply Ext.app | apply Ext.mk | (refine Ext.setr ?_ (by (first | omega | (simp only [gL] <;> omega))) _))); done) | (simp only [gL, gA] <;> omega) | fail) only [gB, setAll, partL, fldV, reduceIte, Nat.reduceAdd, Nat.reduceMul]
  rw [s5]
  simp -implicitDefEqProofs (maxSteps := 1000000) (disch := first | assumption | omega | (simp only [gL] <;> omega) | ((repeat (first | exact Ext.refl _ | assumption | apply Ext.app | apply Ext.mk | (refine Ext.setr ?_ (by (first | omega | (simp only [gL] <;> omega))) _))); done) | (simp only [gL, gA, r15, hA5.lenG, ok.la] <;> omega) | fail) only [gB, setAll, partL, fldV, reduceIte, Nat.reduceAdd, Nat.reduceMul, r15, hA5.lenG, ok.la]
  have sa : SB (fun o => h3.length ≤ o ∧ o < h4.length) h4 os g f_product_graph_on (N * D.length) (hopA es D.length (onL es D)) (fun x => x = v * D.length) (Gm.A9.gf cs) (Gm.A9.gf M) 0 :=
    SB.mono ⟨q, sc, se, sf, oc, oe, ov, cs, ds, fs, M, 0, 0, fun _ => 0, w4, d4, u4, rfl, rfl⟩ fun o z1 z2 => ⟨z2, z1⟩
  have l4 := e4.len
  refine WP.ent (both_l1 gv3 ok no co hN rfl hn2 hl hu hstn (e4.trans e5) (sa.frs (D := fun _ => False) (FrS.ofExt e5) fun _ _ _ z => z) ⟨Int.le_refl _, by omega, fun x hx v hv => (d4.que x hx v hv).2.1⟩ (un_full _ (c := Gm.A9.gf cs) (by simpa using u4)) (fun o z => z) l4 rt hA5 (fun h' L e' sn le => ⟨((e1.trans e2).trans e3).trans e', L, rfl, fun c lc => ?_⟩) D.length 0 h5 .nils (by omega) (Ext.refl _) (Gr.nil ..)) fun i => rfl
  have iff : ∀ q : Nat, q < D.length → gi acc (q : Int) = true → atSt D.length (endsL acc u D.length) (u * D.length + q) := fun q q1 q2 => at_ends.2 ⟨q, q1, q2, rfl⟩
  rcases bv_least (c := c) (acc := acc) (b := u * D.length) D.length with ⟨k1, k2⟩ | ⟨q, k1, k2, k3, k4, k5⟩
  · rw [k1]
    rcases sn with z | ⟨z0, z, z1, l, z2⟩
    · exact z
    · obtain ⟨q, q1, q2, rfl⟩ := at_ends.1 z1
      have h6 := k2 q q1 q2
      rcases lc _ (spotN hu q1) with ⟨p1, _⟩ | ⟨_, p2⟩
      · omega
      · exact absurd z2 (p2 _ _)
  · have hx := spotN hu k1
    rcases lc _ hx with ⟨p1, ⟨l, p2⟩, p3⟩ | ⟨p1, _⟩
    · have h6 := le _ _ _ (iff q k1 k2) p2
      rcases sn with z | ⟨z0, z, z1, l', z2⟩
      · omega
      · obtain ⟨q', q1, q2, rfl⟩ := at_ends.1 z1
        rcases lc _ (spotN hu q1) with ⟨r1, _, r2⟩ | ⟨_, r2⟩
        · have h7 := r2 _ _ z2
          have h8 := k5 q' q1 q2 r1
          omega
        · exact absurd z2 (r2 _ _)
    · omega
end
end Go.Gm.A9

set_option linter.unusedVariables false
set_option linter.unusedSimpArgs false
set_option linter.unusedSectionVars false
namespace Go.Gm.A9
open Go Go.Gm
def atV (es : List E) (v : Int) (l : List Nat) : Int := l.foldl (fun _ e => (eg es e).to) v
def atS (es : List E) (D : List (List Int)) (s : Int) (l : List Nat) : Int := l.foldl (fun s e => nx D s (eg es e).md) s
def atC (es : List E) (l : List Nat) : Int := l.foldl (fun c e => c + (eg es e).co) 0
def wdOf (es : List E) (l : List Nat) : List Int := l.map fun e => (eg es e).md
def goS (D : List (List Int)) (s : Int) (w : List Int) : Int := w.foldl (fun s m => nx D s m) s
def OkW (es : List E) (v : Int) (l : List Nat) : Prop := ∀ i e, l[i]? = some e → e < es.length ∧ (eg es e).fr = atV es v (l.take i)
theorem atV_snoc (es : List E) (v : Int) (l : List Nat) (e : Nat) : atV es v (l ++ [e]) = (eg es e).to := by simp [atV]
theorem atS_snoc (es : List E) (D : List (List Int)) (s : Int) (l : List Nat) (e : Nat) : atS es D s (l ++ [e]) = nx D (atS es D s l) (eg es e).md := by simp [atS]
theorem atC_snoc (es : List E) (l : List Nat) (e : Nat) : atC es (l ++ [e]) = atC es l + (eg es e).co := by simp [atC]
theorem atS_go (es : List E) (D : List (List Int)) (s : Int) (l : List Nat) : atS es D s l = goS D s (wdOf es l) := by
  simp only [atS, goS, wdOf, List.foldl_map]
theorem OkW.snoc {es : List E} {v : Int} {l : List Nat} {e : Nat} (h : OkW es v l) (he : e < es.length) (hf : (eg es e).fr = atV es v l) : OkW es v (l ++ [e]) := by
  intro i e' h1
  have hi := (List.getElem?_eq_some_iff.1 h1).1
  simp only [List.length_append, List.length_cons, List.length_nil] at hi
  by_cases q : i < l.length
  · rw [List.getElem?_append_left q] at h1
    rw [List.take_append_of_le_length (by omega)]
    exact h i e' h1
  · obtain rfl : i = l.length := by omega
    rw [List.getElem?_append_right (Nat.le_refl _)] at h1
    simp only [Nat.sub_self, List.getElem?_cons_zero, Option.some.injEq] at h1
    subst h1
    rw [List.take_left]
    exact ⟨he, hf⟩
theorem atC_bnd {es : List E} (co : COk es) : ∀ (l : List Nat), (∀ e ∈ l, e < es.length) → ∀ c : Int, c ≤ l.foldl (fun c e => c + (eg es e).co) c ∧ l.foldl (fun c e => c + (eg es e).co) c ≤ c + l.length * 2147483647
  | [], _, c => by simp
  | e :: l, h, c => by
    have he := h e (by simp)
    have h1 : 0 ≤ (eg es e).co ∧ (eg es e).co ≤ 2147483647 := co.c _ (gi_mem (xs := es) (i := (e : Int)) (by omega) (by omega))
    have h2 := atC_bnd co l (fun x hx => h x (List.mem_cons_of_mem _ hx)) (c + (eg es e).co)
    simp only [List.foldl_cons, List.length_cons]
    refine ⟨by omega, ?_⟩
    have : ((l.length + 1 : Nat) : Int) * 2147483647 = l.length * 2147483647 + 2147483647 := by omega
    rw [this]
    have : (eg es e).co ≤ 2147483647 := h1.2
    omega
theorem OkW.mem {es : List E} {v : Int} {l : List Nat} (h : OkW es v l) : ∀ e ∈ l, e < es.length := by
  intro e he
  obtain ⟨i, hi, h1⟩ := List.getElem_of_mem he
  exact (h i e (by rw [List.getElem?_eq_getElem hi, h1])).1
section
variable {N : Nat} {es : List E} {D : List (List Int)} {acc : List Bool}
theorem hop_inv' (ok : DOk D acc) (no : NetOk N es) {x y e : Nat} {w : Int} (hx : x < N * D.length) (h : (y, e, w) ∈ hopA es D.length (onL es D) x) :
    e < es.length ∧ (eg es e).fr = ((x / D.length : Nat) : Int) ∧ y / D.length = (eg es e).to.toNat ∧ y % D.length = (nx D ((x % D.length : Nat) : Int) (eg es e).md).toNat ∧ w = (eg es e).co ∧ y < N * D.length := by
  obtain ⟨q1, q2⟩ := dm hx
  obtain ⟨t, ht, h1⟩ := List.mem_map.1 h
  obtain ⟨k, hk, rfl⟩ := List.mem_map.1 ht
  obtain ⟨k0, k1, k2⟩ := idxTo_mem.1 hk
  obtain ⟨i, rfl⟩ : ∃ i : Nat, k = i := ⟨k.toNat, by omega⟩
  simp only [beq_iff_eq] at k2
  have he : 0 ≤ (eg es i).fr ∧ (eg es i).fr < N ∧ 0 ≤ (eg es i).to ∧ (eg es i).to < N ∧ 0 ≤ (eg es i).md ∧ (eg es i).md < 5 := no.edge _ (gi_mem (xs := es) (i := (i : Int)) (by omega) (by omega))
  have htt : 0 ≤ nx D ((x % D.length : Nat) : Int) (eg es i).md ∧ nx D ((x % D.length : Nat) : Int) (eg es i).md < D.length := ok.to _ (eg es i).md (Int.natCast_nonneg _) (Int.ofNat_lt.2 q2) he.2.2.2.2.1 he.2.2.2.2.2
  simp only [hopOf] at h1
  cases h1
  rw [Int.toNat_natCast]
  have h1 : (eg es i).to = ((eg es i).to.toNat : Int) := by omega
  have h2 : nx D ((x % D.length : Nat) : Int) (eg es i).md = ((nx D ((x % D.length : Nat) : Int) (eg es i).md).toNat : Int) := by omega
  have hy : ((eg es i).to * (D.length : Int) + nx D ((x % D.length : Nat) : Int) (eg es i).md).toNat = (eg es i).to.toNat * D.length + (nx D ((x % D.length : Nat) : Int) (eg es i).md).toNat := by
    generalize (eg es i).to.toNat = a at h1
    generalize (nx D ((x % D.length : Nat) : Int) (eg es i).md).toNat = b at h2
    rw [h1, h2, ← Int.natCast_mul, ← Int.natCast_add, Int.toNat_natCast]
  rw [show gi es (i : Int) = eg es i from rfl, hy]
  obtain ⟨p1, p2⟩ := dm_spot (v := (eg es i).to.toNat) (S := D.length) (s := (nx D ((x % D.length : Nat) : Int) (eg es i).md).toNat) (by omega)
  exact ⟨by omega, k2, p1, p2, rfl, spotN (by omega) (by omega)⟩
theorem wk_walk (ok : DOk D acc) (no : NetOk N es) {v x : Nat} {l : List Nat} {c : Int} (hv : v < N) (h : Wk (hopA es D.length (onL es D)) (fun x => x = v * D.length) x l c) :
    OkW es v l ∧ atV es v l = ((x / D.length : Nat) : Int) ∧ atS es D 0 l = ((x % D.length : Nat) : Int) ∧ atC es l = c ∧ x < N * D.length := by
  induction h with
  | nil h =>
    subst h
    obtain ⟨p1, p2⟩ := dm_spot (v := v) (S := D.length) (s := 0) ok.l0
    simp only [Nat.add_zero] at p1 p2
    rw [p1, p2]
    exact ⟨fun i e z => by simp at z, rfl, rfl, rfl, by have := spotN (S := D.length) hv ok.l0; omega⟩
  | @snoc x y e l c w h1 h2 ih =>
    obtain ⟨i1, i2, i3, i4, i5⟩ := ih
    obtain ⟨k1, k2, k3, k4, k5, k6⟩ := hop_inv' ok no i5 h2
    obtain ⟨q1, q2⟩ := dm i5
    have he : 0 ≤ (eg es e).fr ∧ (eg es e).fr < N ∧ 0 ≤ (eg es e).to ∧ (eg es e).to < N ∧ 0 ≤ (eg es e).md ∧ (eg es e).md < 5 := no.edge _ (gi_mem (xs := es) (i := (e : Int)) (by omega) (by omega))
    have htt : 0 ≤ nx D ((x % D.length : Nat) : Int) (eg es e).md ∧ nx D ((x % D.length : Nat) : Int) (eg es e).md < D.length := ok.to _ (eg es e).md (Int.natCast_nonneg _) (Int.ofNat_lt.2 q2) he.2.2.2.2.1 he.2.2.2.2.2
    refine ⟨i1.snoc k1 (k2.trans i2.symm), ?_, ?_, ?_, k6⟩
    · rw [atV_snoc, k3]; omega
    · rw [atS_snoc, i3, k4]; omega
    · rw [atC_snoc, i4, k5]
/-- What a walk's edges are. -/
theorem take_next {α : Type} {l : List α} {i : Nat} {e : α} (h : l[i]? = some e) : l.take (i + 1) = l.take i ++ [e] := by
  rw [List.take_add_one, h]; rfl
theorem walk_l1 {hb : Heap} {sE sl : AV} {v u on : Nat} {l : List Nat} {Q : AV → Heap → Prop} (no : NetOk N es) (co : COk es) (hE : Sl hb 4 sE (es.map encE)) (hl : Sl hb 1 sl ((l.map fun (e : Nat) => (e : Int)).map encI)) (hll : l.length ≤ 1000000) (ow : OkW es v l) (hu : atV es v l = u)
    (rn : hb[on]? = some (.cells ⟨[I N, sE], 0, 0, false⟩))
    (hQ : ∀ h w, Ext hb h → Gr hb.length h.length h 1 w ((wdOf es l).map encI) → Q (.tup [I (atC es l), w, .bool true]) h) :
    ∀ (d i : Nat) (h : Heap) (w : AV), i + d = l.length → Ext hb h → Gr hb.length h.length h 1 w ((wdOf es (l.take i)).map encI) →
      WP (fun p : Nat × Nat => milestoneref1_Walk_l1 tab p.1 p.2 (I (atV es v (l.take i))) (I u) sl (.ptr on 0 2 0) (I (atC es (l.take i))) w (I i) h) Q := by
  intro d
  induction d with
  | zero =>
    intro i h w h1 e g1
    refine WP.rnd (fun i' j => milestoneref1_Walk_l1_eq tab i' j (I (atV es v (l.take i))) (I u) sl (.ptr on 0 2 0) (I (atC es (l.take i))) w (I i) h) ?_
    rw [List.take_of_length_le (show l.length ≤ i by omega)] at g1 ⊢
    rw [hu]
    have hlg := (hl.ext e).lenG
    rw [List.length_map] at hlg
    simp -implicitDefEqProofs (maxSteps := 1000000) (disch := first | assumption | omega | (simp only [gL] <;> omega) | ((repeat (first | exact Ext.refl _ | assumption | apply Ext.app | apply Ext.mk | (refine Ext.setr ?_ (by (first | omega | (simp only [gL] <;> omega))) _))); done) | (simp only [gL, gA, hlg] <;> omega) | fail) only [gB, setAll, partL, fldV, reduceIte, Nat.reduceAdd, Nat.reduceMul, hlg]
    refine WP.lv (WP.congr (fun k : Nat => milestoneref1_Walk_b2_eq tab k (I u) (I u) (I (atC es l)) w h) ?_) fun i j => rfl
    simp -implicitDefEqProofs (maxSteps := 1000000) (disch := first | assumption | omega | (simp only [gL] <;> omega) | ((repeat (first | exact Ext.refl _ | assumption | apply Ext.app | apply Ext.mk | (refine Ext.setr ?_ (by (first | omega | (simp only [gL] <;> omega))) _))); done) | (simp only [gL, gA] <;> omega) | fail) only [gB, setAll, partL, fldV, reduceIte, Nat.reduceAdd, Nat.reduceMul]
    exact WP.ret (hQ h w e g1)
  | succ d ih =>
    intro i h w h1 e g1
    refine WP.rnd (fun i' j => milestoneref1_Walk_l1_eq tab i' j (I (atV es v (l.take i))) (I u) sl (.ptr on 0 2 0) (I (atC es (l.take i))) w (I i) h) ?_
    have hil : i < l.length := by omega
    obtain ⟨ed, hed⟩ : ∃ ed, l[i]? = some ed := ⟨l[i], List.getElem?_eq_getElem hil⟩
    obtain ⟨o1, o2⟩ := ow i ed hed
    have hg : gi (l.map fun (e : Nat) => (e : Int)) (i : Int) = (ed : Int) := by
      rw [gi_nat (by simpa using hil)]
      rw [List.getElem?_eq_getElem hil] at hed
      injection hed with hed
      simp [hed]
    have hlx := hl.ext e
    have hlg := hlx.lenG
    rw [List.length_map] at hlg
    have hE1 := hE.ext e
    have rn1 := e.get rn
    obtain ⟨x, hx⟩ : ∃ x, eg es ed = x := ⟨_, rfl⟩
    have hxx : gi es (ed : Int) = x := hx
    have he := no.edge _ (gi_mem (xs := es) (i := (ed : Int)) (by omega) (by omega))
    have hc := co.c _ (gi_mem (xs := es) (i := (ed : Int)) (by omega) (by omega))
    rw [hxx] at he hc
    rw [hx] at o2
    have b1 := atC_bnd co (l.take i) (fun z hz => ow.mem z (List.mem_of_mem_take hz)) 0
    have b2 : (l.take i).length ≤ 1000000 := by rw [List.length_take]; omega
    obtain ⟨c, hcc⟩ : ∃ c, atC es (l.take i) = c := ⟨_, rfl⟩
    have b3 : 0 ≤ c ∧ c ≤ (l.take i).length * 2147483647 := by rw [← hcc]; exact ⟨b1.1, by have := b1.2; simpa [atC] using this⟩
    have hlh := e.len
    obtain ⟨h2, hh2⟩ : ∃ h2, h2 = ((h ++ [AObj.cells ⟨[I 0, I 0, I 0, I 0], 0, 0, false⟩]).set h.length (.cells ⟨[I x.fr, I x.to, I x.md, I x.co], 0, 0, false⟩)) := ⟨_, rfl⟩
    have e2 : Ext h h2 := by rw [hh2]; ((repeat (first | exact Ext.refl _ | assumption | apply Ext.app | apply Ext.mk | (refine Ext.setr ?_ (by (first | omega | (simp only [gL] <;> omega))) _))))
    have r2 : h2[h.length]? = some (.cells ⟨[I x.fr, I x.to, I x.md, I x.co], 0, 0, false⟩) := by rw [hh2]; exact get_set_eq (by simp)
    have hl2 : h2.length = h.length + 1 := by rw [hh2]; simp
    obtain ⟨s', h', q1, q2, q3⟩ := Gr.append1 (bytes := 8) (g1.ext e2) (v := [I x.md]) rfl (by omega) (by omega) (by simp [wdOf]; omega) (by omega) (by omega)
    rw [mkObj_eq, hl2] at q1
    have hml : (l.map fun (e : Nat) => (e : Int)).length = l.length := List.length_map ..
    rw [← o2, hcc]
    simp -implicitDefEqProofs (maxSteps := 1000000) (disch := first | assumption | omega | (simp only [gL] <;> omega) | ((repeat (first | exact Ext.refl _ | assumption | apply Ext.app | apply Ext.mk | (refine Ext.setr ?_ (by (first | omega | (simp only [gL] <;> omega))) _))); done) | (simp only [gL, gA, hlg, hlx.idxG, hlx.ld0, hml, hg, encI, rn1, hE1.lenG, hE1.idxG, hE1.ldf, hE1.ld0, hE1.ldN, hxx, encE] <;> omega) | fail) only [gB, setAll, partL, fldV, reduceIte, Nat.reduceAdd, Nat.reduceMul, hlg, hlx.idxG, hlx.ld0, hml, hg, encI, rn1, hE1.lenG, hE1.idxG, hE1.ldf, hE1.ld0, hE1.ldN, hxx, encE]
    rw [show AV.int .i64 0 = I 0 from rfl, ← hh2]
    simp -implicitDefEqProofs (maxSteps := 1000000) (disch := first | assumption | omega | (simp only [gL] <;> omega) | ((repeat (first | exact Ext.refl _ | assumption | apply Ext.app | apply Ext.mk | (refine Ext.setr ?_ (by (first | omega | (simp only [gL] <;> omega))) _))); done) | (simp only [gL, gA, q1] <;> omega) | fail) only [gB, setAll, partL, fldV, reduceIte, Nat.reduceAdd, Nat.reduceMul, q1]
    have hv' : x.to = atV es v (l.take (i + 1)) := by rw [take_next hed, atV_snoc, hx]
    have hc' : c + x.co = atC es (l.take (i + 1)) := by rw [take_next hed, atC_snoc, hx, hcc]
    rw [hv', hc']
    refine ih (i + 1) h' s' (by omega) (q3.ext (e.trans e2) (by omega)) ((q2.mono (Nat.le_refl _) (Nat.le_refl _)).cong ?_)
    rw [take_next hed]
    simp [wdOf, hx, encI]
theorem Walk_spec {h : Heap} {sE sl : AV} {v u : Nat} {l : List Nat} (no : NetOk N es) (co : COk es) (hE : Sl h 4 sE (es.map encE)) (hl : Sl h 1 sl ((l.map fun (e : Nat) => (e : Int)).map encI)) (hll : l.length ≤ 1000000) (hv : v < N) (huN : u < N) (ow : OkW es v l) (hu : atV es v l = u) :
    Tot tab f_milestoneref1_Walk [.agg [I N, sE], I v, I u, sl] h fun r h' => Ext h h' ∧ ∃ w, r = .tup [I (atC es l), w, .bool true] ∧ Sl h' 1 w ((wdOf es l).map encI) := by
  refine WP.tot (fun k => (call_milestoneref1_Walk k _ _ _ _ h).trans (milestoneref1_Walk_eq tab k _ _ _ _ h)) ?_
  obtain ⟨h1, hh1⟩ : ∃ h1, h1 = h ++ [AObj.cells ⟨[I N, sE], 0, 0, false⟩] := ⟨_, rfl⟩
  have e1 : Ext h h1 := by rw [hh1]; exact Ext.push _ _
  have rn : h1[h.length]? = some (.cells ⟨[I N, sE], 0, 0, false⟩) := by rw [hh1]; simp
  have := no.n1
  simp -implicitDefEqProofs (maxSteps := 1000000) (disch := first | assumption | omega | (simp only [gL] <;> omega) | ((repeat (first | exact Ext.refl _ | assumption | apply Ext.app | apply Ext.mk | (refine Ext.setr ?_ (by (first | omega | (simp only [gL] <;> omega))) _))); done) | (simp only [gL, gA, hE.one, hE.cells] <;> omega) | fail) only [gB, setAll, partL, fldV, reduceIte, Nat.reduceAdd, Nat.reduceMul, hE.one, hE.cells]
  rw [← hh1]
  refine WP.ent (c2 := fun p : Nat × Nat => milestoneref1_Walk_l1 tab p.1 p.2 (I (atV es v (l.take 0))) (I u) sl (.ptr h.length 0 2 0) (I (atC es (l.take 0))) .nils (I (0 : Nat)) h1) (walk_l1 no co (hE.ext e1) (hl.ext e1) hll ow hu rn (fun h' w e' g' => ⟨e1.trans e', w, rfl, g'.sl⟩) l.length 0 h1 .nils (by omega) (Ext.refl _) (Gr.nil ..)) fun i => rfl
theorem go_range (ok : DOk D acc) : ∀ (w : List Int) (s : Int), 0 ≤ s → s < D.length → (∀ m ∈ w, 0 ≤ m ∧ m < 5) → 0 ≤ goS D s w ∧ goS D s w < D.length
  | [], s, h0, h1, _ => ⟨h0, h1⟩
  | m :: w, s, h0, h1, h => by
    have hm := h m (by simp)
    have := ok.to s m h0 h1 hm.1 hm.2
    exact go_range ok w (nx D s m) this.1 this.2 fun z hz => h z (List.mem_cons_of_mem _ hz)
theorem go_l1 {h : Heap} {sD sA sw : AV} {od : Nat} {w : List Int} (ok : DOk D acc) (hD : Sl h 5 sD (D.map encR)) (hw : Sl h 1 sw (w.map encI)) (hwl : w.length ≤ 1000000000) (hm : ∀ m ∈ w, 0 ≤ m ∧ m < 5) (rd : h[od]? = some (.cells ⟨[sD, sA], 0, 0, false⟩)) :
    ∀ (d i : Nat), i + d = w.length → WP (fun p : Nat × Nat => milestoneref7_Go_l1 tab p.1 p.2 (I (goS D 0 (w.take i))) sw (.ptr od 0 2 0) (I i) h) fun r h' => r = I (goS D 0 w) ∧ h = h' := by
  intro d
  induction d with
  | zero =>
    intro i h1
    refine WP.rnd (fun i' j => milestoneref7_Go_l1_eq tab i' j (I (goS D 0 (w.take i))) sw (.ptr od 0 2 0) (I i) h) ?_
    rw [List.take_of_length_le (show w.length ≤ i by omega)]
    simp -implicitDefEqProofs (maxSteps := 1000000) (disch := first | assumption | omega | (simp only [gL] <;> omega) | ((repeat (first | exact Ext.refl _ | assumption | apply Ext.app | apply Ext.mk | (refine Ext.setr ?_ (by (first | omega | (simp only [gL] <;> omega))) _))); done) | (simp only [gL, gA, hw.lenG] <;> omega) | fail) only [gB, setAll, partL, fldV, reduceIte, Nat.reduceAdd, Nat.reduceMul, hw.lenG]
    exact WP.ret ⟨rfl, rfl⟩
  | succ d ih =>
    intro i h1
    refine WP.rnd (fun i' j => milestoneref7_Go_l1_eq tab i' j (I (goS D 0 (w.take i))) sw (.ptr od 0 2 0) (I i) h) ?_
    have hil : i < w.length := by omega
    obtain ⟨m, hmm⟩ : ∃ m, gi w (i : Int) = m := ⟨_, rfl⟩
    have hmr := hm m (hmm ▸ gi_mem (by omega) (by omega))
    have htk : w.take (i + 1) = w.take i ++ [m] := by
      have := gi_some (xs := w) (i := (i : Int)) (by omega) (by omega)
      rw [hmm] at this
      exact take_next (by simpa using this)
    obtain ⟨s, hs⟩ : ∃ s, goS D 0 (w.take i) = s := ⟨_, rfl⟩
    have hsr := go_range ok (w.take i) 0 (by omega) (by have := ok.l0; omega) fun z hz => hm z (List.mem_of_mem_take hz)
    rw [hs] at hsr
    obtain ⟨p, p1, p2, -⟩ := cellA (H := h) hD (Ext.refl _) hsr.1 hsr.2 hmr.1 hmr.2
    rw [show (encR (gi D s)).getD m.toNat .undef = I (nx D s m) by
      have hr := ok.row s hsr.1 hsr.2
      simp only [encR, nx, List.getD_eq_getElem?_getD, List.getElem?_map]
      have := gi_some (xs := gi D s) hmr.1 (by omega)
      rw [this]; rfl] at p2
    rw [hs]
    simp -implicitDefEqProofs (maxSteps := 1000000) (disch := first | assumption | omega | (simp only [gL] <;> omega) | ((repeat (first | exact Ext.refl _ | assumption | apply Ext.app | apply Ext.mk | (refine Ext.setr ?_ (by (first | omega | (simp only [gL] <;> omega))) _))); done) | (simp only [gL, gA, hw.lenG, hw.idxG, hw.ld0, hmm, encI, rd, hD.idxG, p1, p2] <;> omega) | fail) only [gB, setAll, partL, fldV, reduceIte, Nat.reduceAdd, Nat.reduceMul, hw.lenG, hw.idxG, hw.ld0, hmm, encI, rd, hD.idxG, p1, p2]
    have hs' : nx D s m = goS D 0 (w.take (i + 1)) := by
      rw [htk]
      simp only [goS, List.foldl_append, List.foldl_cons, List.foldl_nil]
      rw [show List.foldl (fun s m => nx D s m) 0 (w.take i) = s from hs]
    rw [hs']
    exact ih (i + 1) (by omega)
theorem Run_spec {h : Heap} {sD sA sw : AV} {w : List Int} (ok : DOk D acc) (hD : Sl h 5 sD (D.map encR)) (hA : Sl h 1 sA (acc.map encB)) (hw : Sl h 1 sw (w.map encI)) (hwl : w.length ≤ 1000000000) (hm : ∀ m ∈ w, 0 ≤ m ∧ m < 5) :
    Tot tab f_milestoneref7_Run [.agg [sD, sA], sw] h fun r h' => r = .bool (gi acc (goS D 0 w)) ∧ Ext h h' := by
  refine WP.tot (fun k => (call_milestoneref7_Run k _ _ h).trans (milestoneref7_Run_eq tab k _ _ h)) ?_
  obtain ⟨h1, hh1⟩ : ∃ h1, h1 = h ++ [AObj.cells ⟨[sD, sA], 0, 0, false⟩] := ⟨_, rfl⟩
  have e1 : Ext h h1 := by rw [hh1]; exact Ext.push _ _
  have rd : h1[h.length]? = some (.cells ⟨[sD, sA], 0, 0, false⟩) := by rw [hh1]; simp
  simp -implicitDefEqProofs (maxSteps := 1000000) (disch := first | assumption | omega | (simp only [gL] <;> omega) | ((repeat (first | exact Ext.refl _ | assumption | apply Ext.app | apply Ext.mk | (refine Ext.setr ?_ (by (first | omega | (simp only [gL] <;> omega))) _))); done) | (simp only [gL, gA, hD.one, hD.cells, hA.one, hA.cells] <;> omega) | fail) only [gB, setAll, partL, fldV, reduceIte, Nat.reduceAdd, Nat.reduceMul, hD.one, hD.cells, hA.one, hA.cells]
  rw [← hh1]
  have hgo : Tot tab f_milestoneref7_Go [.agg [sD, sA], I 0, sw] h1 fun r h' => r = I (goS D 0 w) ∧ Ext h1 h' := by
    refine WP.tot (fun k => (call_milestoneref7_Go k _ _ _ h1).trans (milestoneref7_Go_eq tab k _ _ _ h1)) ?_
    obtain ⟨h2, hh2⟩ : ∃ h2, h2 = h1 ++ [AObj.cells ⟨[sD, sA], 0, 0, false⟩] := ⟨_, rfl⟩
    have e2 : Ext h1 h2 := by rw [hh2]; exact Ext.push _ _
    have rd2 : h2[h1.length]? = some (.cells ⟨[sD, sA], 0, 0, false⟩) := by rw [hh2]; simp
    have hD2 := (hD.ext e1).ext e2
    have := ok.l0
    have := ok.l1
    simp -implicitDefEqProofs (maxSteps := 1000000) (disch := first | assumption | omega | (simp only [gL] <;> omega) | ((repeat (first | exact Ext.refl _ | assumption | apply Ext.app | apply Ext.mk | (refine Ext.setr ?_ (by (first | omega | (simp only [gL] <;> omega))) _))); done) | (simp only [gL, gA, hD.one, hD.cells, hA.one, hA.cells] <;> omega) | fail) only [gB, setAll, partL, fldV, reduceIte, Nat.reduceAdd, Nat.reduceMul, hD.one, hD.cells, hA.one, hA.cells]
    rw [← hh2]
    simp -implicitDefEqProofs (maxSteps := 1000000) (disch := first | assumption | omega | (simp only [gL] <;> omega) | ((repeat (first | exact Ext.refl _ | assumption | apply Ext.app | apply Ext.mk | (refine Ext.setr ?_ (by (first | omega | (simp only [gL] <;> omega))) _))); done) | (simp only [gL, gA, rd2, hD2.lenG] <;> omega) | fail) only [gB, setAll, partL, fldV, reduceIte, Nat.reduceAdd, Nat.reduceMul, rd2, hD2.lenG]
    refine WP.ent (c2 := fun p : Nat × Nat => milestoneref7_Go_l1 tab p.1 p.2 (I (goS D 0 (w.take 0))) sw (.ptr h1.length 0 2 0) (I (0 : Nat)) h2) ((go_l1 ok hD2 ((hw.ext e1).ext e2) hwl hm rd2 w.length 0 (by omega)).mono ?_) fun i => rfl
    rintro r h' ⟨rfl, rfl⟩
    exact ⟨rfl, e2⟩
  refine WP.call hgo ?_
  rintro _ h2 ⟨rfl, e2⟩
  obtain ⟨g1, g2⟩ := go_range ok w 0 (by omega) (by have := ok.l0; omega) hm
  generalize goS D 0 w = s at g1 g2 ⊢
  have hA2 := (hA.ext e1).ext e2
  have rd2 := e2.get rd
  have la := ok.la
  simp -implicitDefEqProofs (maxSteps := 1000000) (disch := first | assumption | omega | (simp only [gL] <;> omega) | ((repeat (first | exact Ext.refl _ | assumption | apply Ext.app | apply Ext.mk | (refine Ext.setr ?_ (by (first | omega | (simp only [gL] <;> omega))) _))); done) | (simp only [gL, gA, rd2, hA2.idxG, hA2.ld0, encB] <;> omega) | fail) only [gB, setAll, partL, fldV, reduceIte, Nat.reduceAdd, Nat.reduceMul, rd2, hA2.idxG, hA2.ld0, encB]
  exact WP.ret ⟨rfl, e1.trans e2⟩
theorem Right_spec {h : Heap} {sE sD sA sl : AV} {v u : Nat} {l : List Nat} {cost : Int} (no : NetOk N es) (co : COk es) (ok : DOk D acc) (hE : Sl h 4 sE (es.map encE)) (hD : Sl h 5 sD (D.map encR)) (hA : Sl h 1 sA (acc.map encB)) (hl : Sl h 1 sl ((l.map fun (e : Nat) => (e : Int)).map encI)) (hll : l.length ≤ 1000000) (hv : v < N) (huN : u < N)
    (ow : OkW es v l) (hu : atV es v l = u) (hc : atC es l = cost) (hacc : gi acc (atS es D 0 l) = true) :
    Tot tab f_milestonelaw9_Right [.agg [I N, sE], .agg [sD, sA], I v, I u, .agg [I cost, sl], I cost] h fun r h' => r = .bool true ∧ Ext h h' := by
  refine WP.tot (fun k => (call_milestonelaw9_Right k _ _ _ _ _ _ h).trans (milestonelaw9_Right_eq tab k _ _ _ _ _ _ h)) ?_
  obtain ⟨h1, hh1⟩ : ∃ h1, h1 = ((h ++ [AObj.cells ⟨[I N, sE], 0, 0, false⟩]) ++ [AObj.cells ⟨[sD, sA], 0, 0, false⟩]) ++ [AObj.cells ⟨[I cost, sl], 0, 0, false⟩] := ⟨_, rfl⟩
  have e1 : Ext h h1 := by rw [hh1]; ((repeat (first | exact Ext.refl _ | assumption | apply Ext.app | apply Ext.mk | (refine Ext.setr ?_ (by (first | omega | (simp only [gL] <;> omega))) _))))
  have rd : h1[h.length + 1]? = some (.cells ⟨[sD, sA], 0, 0, false⟩) := by rw [hh1]; simp
  have rr : h1[h.length + 1 + 1]? = some (.cells ⟨[I cost, sl], 0, 0, false⟩) := by rw [hh1, get_app_r (by simp)]; simp
  simp -implicitDefEqProofs (maxSteps := 1000000) (disch := first | assumption | omega | (simp only [gL] <;> omega) | ((repeat (first | exact Ext.refl _ | assumption | apply Ext.app | apply Ext.mk | (refine Ext.setr ?_ (by (first | omega | (simp only [gL] <;> omega))) _))); done) | (simp only [gL, gA, hE.one, hE.cells, hD.one, hD.cells, hA.one, hA.cells, hl.one, hl.cells] <;> omega) | fail) only [gB, setAll, partL, fldV, reduceIte, Nat.reduceAdd, Nat.reduceMul, hE.one, hE.cells, hD.one, hD.cells, hA.one, hA.cells, hl.one, hl.cells]
  rw [← hh1]
  refine WP.call (Walk_spec no co (hE.ext e1) (hl.ext e1) hll hv huN ow hu) ?_
  rintro _ h2 ⟨e2, w, rfl, gw⟩
  rw [hc]
  have rd2 := e2.get rd
  have rr2 := e2.get rr
  have x2 : extr 2 (.tup [I cost, w, .bool true]) = some (.bool true) := rfl
  simp -implicitDefEqProofs (maxSteps := 1000000) (disch := first | assumption | omega | (simp only [gL] <;> omega) | ((repeat (first | exact Ext.refl _ | assumption | apply Ext.app | apply Ext.mk | (refine Ext.setr ?_ (by (first | omega | (simp only [gL] <;> omega))) _))); done) | (simp only [gL, gA, extr_0, extr_1, x2, rd2, rr2] <;> omega) | fail) only [gB, setAll, partL, fldV, reduceIte, Nat.reduceAdd, Nat.reduceMul, extr_0, extr_1, x2, rd2, rr2]
  refine WP.call (Run_spec ok ((hD.ext e1).ext e2) ((hA.ext e1).ext e2) gw (by simp [wdOf]; omega) fun m hm => ?_) ?_
  · obtain ⟨e, he, rfl⟩ := List.mem_map.1 hm
    have h3 := ow.mem e he
    have := no.edge _ (gi_mem (xs := es) (i := (e : Int)) (by omega) (by omega))
    exact ⟨this.2.2.2.2.1, this.2.2.2.2.2⟩
  · rintro _ h3 ⟨rfl, e3⟩
    rw [← atS_go, hacc]
    exact WP.ret ⟨rfl, (e1.trans e2).trans e3⟩
end
end Go.Gm.A9

set_option linter.unusedVariables false
set_option linter.unusedSimpArgs false
set_option linter.unusedSectionVars false
namespace Go.Gm.A9
open Go Go.Gm
def fw (C : Int) (i : Nat) : E := ⟨i, (i : Int) + 1, (i : Int).tmod 5, C⟩
def bw (i : Nat) : E := ⟨(i : Int) + 1, i, (i : Int).tmod 5, 0⟩
def grE (C : Int) (back : Bool) (n : Nat) : List E := (List.range n).flatMap fun i => if back then [fw C i, bw i] else [fw C i]
theorem grE_succ (C : Int) (back : Bool) (n : Nat) : grE C back (n + 1) = grE C back n ++ if back then [fw C n, bw n] else [fw C n] := by
  simp [grE, List.range_succ, List.flatMap_append]
theorem grE_len (C : Int) (back : Bool) : ∀ n, (grE C back n).length ≤ 2 * n
  | 0 => by simp [grE]
  | n + 1 => by
    rw [grE_succ, List.length_append]
    have := grE_len C back n
    cases back <;> simp <;> omega
theorem grE_mem {C : Int} {back : Bool} {n : Nat} {e : E} (h : e ∈ grE C back n) : ∃ i : Nat, i < n ∧ (e = fw C i ∨ e = bw i) := by
  obtain ⟨i, h1, h2⟩ := List.mem_flatMap.1 h
  refine ⟨i, List.mem_range.1 h1, ?_⟩
  cases back
  · simp at h2; exact .inl h2
  · simp at h2; exact h2
theorem grE_fw (C : Int) (back : Bool) {n i : Nat} (hi : i < n) : fw C i ∈ grE C back n := by
  refine List.mem_flatMap.2 ⟨i, List.mem_range.2 hi, ?_⟩
  cases back <;> simp
theorem tmod5 (i : Nat) : (i : Int).tmod 5 = ((i % 5 : Nat) : Int) := rfl
theorem gNet {C : Int} {back : Bool} {N : Nat} (h2 : 2 ≤ N) (hN : N ≤ 60) : NetOk N (grE C back (N - 1)) := by
  refine ⟨by omega, by omega, by have := grE_len C back (N - 1); omega, fun e he => ?_⟩
  obtain ⟨i, hi, rfl | rfl⟩ := grE_mem he
  · simp only [fw, tmod5]; omega
  · simp only [bw, tmod5]; omega
theorem gCo {C : Int} {back : Bool} {n : Nat} (hC : 0 ≤ C ∧ C ≤ 2147483647) : COk (grE C back n) := by
  refine ⟨fun e he => ?_⟩
  obtain ⟨i, hi, rfl | rfl⟩ := grE_mem he
  · exact hC
  · simp only [bw]; omega
theorem nx0 (m : Int) (h0 : 0 ≤ m) (h5 : m < 5) : nx kD 0 m = 0 := by
  have := kDok.to 0 m (by omega) (by decide) h0 h5
  have h1 : ((kD.length : Nat) : Int) = 1 := rfl
  have : 0 ≤ nx kD 0 m ∧ nx kD 0 m < 1 := by rw [← h1]; exact this
  omega
section
variable {C : Int} {back : Bool} {N : Nat}
/-- Each walk costs as much as it goes on, and is as long. -/
theorem gWk (hC : 0 ≤ C ∧ C ≤ 2147483647) (h2 : 2 ≤ N) (hN : N ≤ 60) {x : Nat} {l : List Nat} {w : Int} (h : Wk (hopA (grE C back (N - 1)) 1 (onL (grE C back (N - 1)) kD)) (fun x => x = 0 * 1) x l w) : x < N ∧ C * x ≤ w ∧ x ≤ l.length := by
  induction h with
  | nil h =>
    simp only [Nat.zero_mul] at h
    subst h
    exact ⟨by omega, by simp, by simp⟩
  | @snoc x y e l c w h1 h2' ih =>
    obtain ⟨i1, i2, i3⟩ := ih
    have no := gNet (C := C) (back := back) h2 hN
    obtain ⟨k1, k2, k3, k4, k5, k6⟩ := hop_inv' (D := kD) kDok no (by simpa [kD] using i1) h2'
    have hm : eg (grE C back (N - 1)) e ∈ grE C back (N - 1) := gi_mem (by omega) (by omega)
    simp only [kD, List.length_cons, List.length_nil, Nat.div_one, Nat.zero_add] at k2 k3
    rw [List.length_append]
    simp only [List.length_cons, List.length_nil, kD, Nat.mul_one, Nat.zero_add] at k6 ⊢
    obtain ⟨i, hi, q | q⟩ := grE_mem hm
    · rw [q] at k2 k3 k5
      simp only [fw] at k2 k3 k5
      have e1 : (y : Int) = x + 1 := by omega
      rw [e1, k5, Int.mul_add, Int.mul_one]
      exact ⟨k6, by omega, by omega⟩
    · rw [q] at k2 k3 k5
      simp only [bw] at k2 k3 k5
      have e1 : (x : Int) = y + 1 := by omega
      rw [e1, Int.mul_add, Int.mul_one] at i2
      rw [k5]
      exact ⟨k6, by omega, by omega⟩
theorem gWay (hC : 0 ≤ C ∧ C ≤ 2147483647) (h2 : 2 ≤ N) (hN : N ≤ 60) : ∀ x : Nat, x < N → ∃ l, Wk (hopA (grE C back (N - 1)) 1 (onL (grE C back (N - 1)) kD)) (fun x => x = 0 * 1) x l (C * x)
  | 0, _ => ⟨[], by rw [show C * ((0 : Nat) : Int) = 0 by simp]; exact .nil rfl⟩
  | x + 1, hx => by
    obtain ⟨l, hl⟩ := gWay hC h2 hN x (by omega)
    obtain ⟨k, hk, hk2⟩ := List.getElem_of_mem (grE_fw C back (n := N - 1) (i := x) (by omega))
    have he : eg (grE C back (N - 1)) k = fw C x := by rw [eg, gi_nat hk, hk2]
    have hm := hop_mem (D := kD) (s := 0) kDok (gNet (C := C) (back := back) h2 hN) hk (by decide)
    have hd : dst (grE C back (N - 1)) kD k 0 = x + 1 := by
      rw [dst, he]
      have : nx kD ((0 : Nat) : Int) (fw C x).md = 0 := nx0 _ (by simp only [fw, tmod5]; omega) (by simp only [fw, tmod5]; omega)
      rw [this]
      simp [fw, kD]
    have hs : src (grE C back (N - 1)) kD.length k 0 = x := by
      rw [src, he]; simp [fw, kD]
    rw [hd, hs, he, show kD.length = 1 from rfl] at hm
    refine ⟨l ++ [k], ?_⟩
    rw [show C * ((x + 1 : Nat) : Int) = C * x + C by rw [Int.natCast_add, Int.mul_add]; simp]
    exact .snoc hl hm
theorem gLc (hC : 0 ≤ C ∧ C ≤ 2147483647) (h2 : 2 ≤ N) (hN : N ≤ 60) {c : Nat → Int} (lc : LC (N * 1) (hopA (grE C back (N - 1)) 1 (onL (grE C back (N - 1)) kD)) (fun x => x = 0 * 1) c) : c (N - 1) = C * ((N - 1 : Nat) : Int) := by
  obtain ⟨l, hl⟩ := gWay (back := back) hC h2 hN (N - 1) (by omega)
  rcases lc (N - 1) (by omega) with ⟨k1, ⟨l', k2⟩, k3⟩ | ⟨k1, k2⟩
  · have h4 := k3 _ _ hl
    have h5 := (gWk hC h2 hN k2).2.1
    omega
  · exact absurd hl (k2 _ _)
theorem great_b3 {h : Heap} {s : AV} {on : Nat} (hC : 0 ≤ C ∧ C ≤ 2147483647) (h2 : 2 ≤ N) (hN : N ≤ 60) (rn : h[on]? = some (.cells ⟨[I N, s], 0, 0, false⟩)) (hE : Sl h 4 s ((grE C back (N - 1)).map encE)) :
    WP (fun k : Nat => milestonelaw9_ProductGreat_b3 tab k (.ptr on 0 2 0) (I C) h) fun r _ => r = .bool true := by
  refine WP.congr (fun k : Nat => milestonelaw9_ProductGreat_b3_eq tab k (.ptr on 0 2 0) (I C) h) ?_
  have bn := (List.getElem?_eq_some_iff.1 rn).1
  have no := gNet (C := C) (back := back) h2 hN
  have co := gCo (back := back) (n := N - 1) hC
  have hlen := grE_len C back (N - 1)
  obtain ⟨es, hes⟩ : ∃ es, grE C back (N - 1) = es := ⟨_, rfl⟩
  simp -implicitDefEqProofs (maxSteps := 1000000) (disch := first | assumption | omega | (simp only [gL] <;> omega) | ((repeat (first | exact Ext.refl _ | assumption | apply Ext.app | apply Ext.mk | (refine Ext.setr ?_ (by (first | omega | (simp only [gL] <;> omega))) _))); done) | (simp only [gL, gA, rn] <;> omega) | fail) only [gB, setAll, partL, fldV, reduceIte, Nat.reduceAdd, Nat.reduceMul, rn]
  obtain ⟨h1, hh1⟩ : ∃ h1, h1 = (List.set (h ++ [AObj.cells ⟨[AV.int .i64 0, AV.int .i64 0, AV.int .i64 0, AV.int .i64 0, AV.int .i64 0], 0, 0, false⟩] ++ [AObj.cells ⟨[AV.bool true], 0, 0, false⟩] ++ [AObj.cells ⟨[.nils, .nils], 0, 0, false⟩])
      (h.length + 1 + 1) (AObj.cells ⟨[AV.sl h.length 0 1 5 none 0, AV.sl (h.length + 1) 0 1 1 none 0], 0, 0, false⟩)) := ⟨_, rfl⟩
  have e1 : Ext h h1 := by rw [hh1]; ((repeat (first | exact Ext.refl _ | assumption | apply Ext.app | apply Ext.mk | (refine Ext.setr ?_ (by (first | omega | (simp only [gL] <;> omega))) _))))
  have r0 : h1[h.length]? = some (.cells ⟨encR [0, 0, 0, 0, 0], 0, 0, false⟩) := by rw [hh1]; simp -implicitDefEqProofs (maxSteps := 1000000) (disch := first | assumption | omega | (simp only [gL] <;> omega) | ((repeat (first | exact Ext.refl _ | assumption | apply Ext.app | apply Ext.mk | (refine Ext.setr ?_ (by (first | omega | (simp only [gL] <;> omega))) _))); done) | (simp only [gL, gA] <;> omega) | fail) only [gB, setAll, partL, fldV, reduceIte, Nat.reduceAdd, Nat.reduceMul]; try rfl
  have r1 : h1[h.length + 1]? = some (.cells ⟨encB true, 0, 0, false⟩) := by rw [hh1]; simp -implicitDefEqProofs (maxSteps := 1000000) (disch := first | assumption | omega | (simp only [gL] <;> omega) | ((repeat (first | exact Ext.refl _ | assumption | apply Ext.app | apply Ext.mk | (refine Ext.setr ?_ (by (first | omega | (simp only [gL] <;> omega))) _))); done) | (simp only [gL, gA] <;> omega) | fail) only [gB, setAll, partL, fldV, reduceIte, Nat.reduceAdd, Nat.reduceMul]; try rfl
  have r2 : h1[h.length + 1 + 1]? = some (.cells ⟨[AV.sl h.length 0 1 5 none 0, AV.sl (h.length + 1) 0 1 1 none 0], 0, 0, false⟩) := by rw [hh1]; simp -implicitDefEqProofs (maxSteps := 1000000) (disch := first | assumption | omega | (simp only [gL] <;> omega) | ((repeat (first | exact Ext.refl _ | assumption | apply Ext.app | apply Ext.mk | (refine Ext.setr ?_ (by (first | omega | (simp only [gL] <;> omega))) _))); done) | (simp only [gL, gA] <;> omega) | fail) only [gB, setAll, partL, fldV, reduceIte, Nat.reduceAdd, Nat.reduceMul]; try rfl
  have hD : Sl h1 5 (.sl h.length 0 1 5 none 0) (kD.map encR) := sl_row r0 rfl
  have hA : Sl h1 1 (.sl (h.length + 1) 0 1 1 none 0) ([true].map encB) := sl_row r1 rfl
  rw [← hh1]
  obtain ⟨T, hT⟩ : ∃ T, C * ((N - 1 : Nat) : Int) = T := ⟨_, rfl⟩
  have hT0 : 0 ≤ T ∧ T ≤ 2147483647 * 60 := by
    rw [← hT]
    refine ⟨Int.mul_nonneg hC.1 (by omega), ?_⟩
    exact Int.mul_le_mul hC.2 (by omega) (by omega) (by omega)
  have hN1 : (N : Int) - 1 = ((N - 1 : Nat) : Int) := by omega
  have hw : IntKind.i64.wrap (C * ((N - 1 : Nat) : Int)) = T := by rw [hT]; exact wrap_id (by omega) (by omega)
  have hE1 := hE.ext e1
  have rn1 := e1.get rn
  rw [hN1]
  refine WP.call (Route_spec (v := 0) (u := N - 1) no co (by rw [show kD.length = 1 from rfl]; omega) hE1 kDok hD hA (by omega) (by omega)) ?_
  rintro _ h3 ⟨e3, c, lc, rq⟩
  rw [show kD.length = 1 from rfl] at lc
  have hc := gLc hC h2 hN lc
  rw [hT] at hc
  have hbv : bv c [true] ((N - 1) * kD.length) kD.length = T := by
    rw [show kD.length = 1 from rfl, Nat.mul_one]
    rw [kBv (by omega)]; exact hc
  rcases rq with ⟨q1, _⟩ | ⟨q1, q, l, sl, hq, q2, q3, q4, q5, rfl, q6⟩
  · rw [hbv] at q1; omega
  rw [hbv] at q4 ⊢
  have hwk := wk_walk (v := 0) kDok no (by omega) q4
  rw [show kD.length = 1 from rfl] at hwk q4 hq
  obtain rfl : q = 0 := by omega
  simp only [Nat.mul_one, Nat.add_zero, Nat.div_one, Nat.mod_one] at hwk q4
  obtain ⟨w1, w2, w3, w4, w5⟩ := hwk
  have hll := (gWk hC h2 hN q4).2.2
  have gs := q6.sl
  have rn3 := e3.get rn1
  have r23 := e3.get r2
  have b3 := (List.getElem?_eq_some_iff.1 rn3).1
  have b23 := (List.getElem?_eq_some_iff.1 r23).1
  simp -implicitDefEqProofs (maxSteps := 1000000) (disch := first | assumption | omega | (simp only [gL] <;> omega) | ((repeat (first | exact Ext.refl _ | assumption | apply Ext.app | apply Ext.mk | (refine Ext.setr ?_ (by (first | omega | (simp only [gL] <;> omega))) _))); done) | (simp only [gL, gA, extr_0, extr_1, gs.one, gs.cells] <;> omega) | fail) only [gB, setAll, partL, fldV, reduceIte, Nat.reduceAdd, Nat.reduceMul, extr_0, extr_1, gs.one, gs.cells]
  obtain ⟨h4, hh4⟩ : ∃ h4, h4 = ((h3 ++ [AObj.cells ⟨[AV.int .i64 0, .nils], 0, 0, false⟩]).set h3.length (.cells ⟨[I T, sl], 0, 0, false⟩)) := ⟨_, rfl⟩
  have e4 : Ext h3 h4 := by rw [hh4]; ((repeat (first | exact Ext.refl _ | assumption | apply Ext.app | apply Ext.mk | (refine Ext.setr ?_ (by (first | omega | (simp only [gL] <;> omega))) _))))
  have r4 : h4[h3.length]? = some (.cells ⟨[I T, sl], 0, 0, false⟩) := by rw [hh4]; exact get_set_eq (by simp)
  have rn4 := e4.get rn3
  have r24 := e4.get r23
  rw [← hh4]
  simp -implicitDefEqProofs (maxSteps := 1000000) (disch := first | assumption | omega | (simp only [gL] <;> omega) | ((repeat (first | exact Ext.refl _ | assumption | apply Ext.app | apply Ext.mk | (refine Ext.setr ?_ (by (first | omega | (simp only [gL] <;> omega))) _))); done) | (simp only [gL, gA, rn3, r23] <;> omega) | fail) only [gB, setAll, partL, fldV, reduceIte, Nat.reduceAdd, Nat.reduceMul, rn3, r23]
  rw [hN1]
  have e34 := e3.trans e4
  refine WP.call (Both_spec (v := 0) (u := N - 1) no co (by rw [show kD.length = 1 from rfl]; omega) (by rw [show kD.length = 1 from rfl]; omega) (hE1.ext e34) kDok (hD.ext e34) (hA.ext e34) (by omega) (by omega)) ?_
  rintro _ h5 ⟨e5, L, rfl, hL⟩
  obtain rfl : L = T := (hL c lc).trans hbv
  have rn5 := e5.get rn4
  have r25 := e5.get r24
  have r5 := e5.get r4
  have hmx : max L 0 = L := by omega
  rw [hmx, decide_eq_true hT0.1]
  simp -implicitDefEqProofs (maxSteps := 1000000) (disch := first | assumption | omega | (simp only [gL] <;> omega) | ((repeat (first | exact Ext.refl _ | assumption | apply Ext.app | apply Ext.mk | (refine Ext.setr ?_ (by (first | omega | (simp only [gL] <;> omega))) _))); done) | (simp only [gL, gA, extr_0, extr_1, rn5, r5, r25, hN1, mul_w, hw] <;> omega) | fail) only [gB, setAll, partL, fldV, reduceIte, Nat.reduceAdd, Nat.reduceMul, extr_0, extr_1, rn5, r5, r25, hN1, mul_w, hw]
  have e35 := e34.trans e5
  refine WP.call (Right_spec (v := 0) (u := N - 1) no co kDok (hE1.ext e35) (hD.ext e35) (hA.ext e35) ((gs.ext e4).ext e5) q5 (by omega) (by omega) w1 w2 w4 (by rw [w3]; rfl)) ?_
  rintro _ h6 ⟨rfl, e6⟩
  have rn6 := e6.get rn5
  have r6 := e6.get r5
  have hlg := gs.lenG
  rw [List.length_map] at hlg
  simp -implicitDefEqProofs (maxSteps := 1000000) (disch := first | assumption | omega | (simp only [gL] <;> omega) | ((repeat (first | exact Ext.refl _ | assumption | apply Ext.app | apply Ext.mk | (refine Ext.setr ?_ (by (first | omega | (simp only [gL] <;> omega))) _))); done) | (simp only [gL, gA, rn6, r6, hlg, hN1] <;> omega) | fail) only [gB, setAll, partL, fldV, reduceIte, Nat.reduceAdd, Nat.reduceMul, rn6, r6, hlg, hN1]
  exact WP.ret rfl
theorem great_l2 {h0 : Heap} {on : Nat} (hC : 0 ≤ C ∧ C ≤ 2147483647) (h2 : 2 ≤ N) (hN : N ≤ 60) :
    ∀ (d i lo : Nat) (h : Heap) (s : AV), i + d = N - 1 → on < lo → lo ≤ h.length → h[on]? = some (.cells ⟨[I N, s], 0, 0, false⟩) → Gr lo h.length h 4 s ((grE C back i).map encE) →
      WP (fun p : Nat × Nat => milestonelaw9_ProductGreat_l2 tab p.1 p.2 (.bool back) (.ptr on 0 2 0) (I C) (I i) h) fun r _ => r = .bool true := by
  intro d
  induction d with
  | zero =>
    intro i lo h s h1 ho hlo rn g
    refine WP.rnd (fun k j => milestonelaw9_ProductGreat_l2_eq tab k j (.bool back) (.ptr on 0 2 0) (I C) (I i) h) ?_
    obtain rfl : i = N - 1 := by omega
    simp -implicitDefEqProofs (maxSteps := 1000000) (disch := first | assumption | omega | (simp only [gL] <;> omega) | ((repeat (first | exact Ext.refl _ | assumption | apply Ext.app | apply Ext.mk | (refine Ext.setr ?_ (by (first | omega | (simp only [gL] <;> omega))) _))); done) | (simp only [gL, gA, rn] <;> omega) | fail) only [gB, setAll, partL, fldV, reduceIte, Nat.reduceAdd, Nat.reduceMul, rn]
    exact WP.lv (great_b3 hC h2 hN rn g.sl) fun i j => rfl
  | succ d ih =>
    intro i lo h s h1 ho hlo rn g
    refine WP.rnd (fun k j => milestonelaw9_ProductGreat_l2_eq tab k j (.bool back) (.ptr on 0 2 0) (I C) (I i) h) ?_
    have hln := grE_len C back i
    have bn := (List.getElem?_eq_some_iff.1 rn).1
    obtain ⟨s', h', q1, q2, q3⟩ := Gr.append1 (bytes := 32) g (v := encE (fw C i)) rfl (by omega) (by omega) (by simp; omega) hlo (Nat.le_refl _)
    rw [mkObj_eq] at q1
    simp only [encE, fw] at q1
    have rn1 : h'[on]? = some (.cells ⟨[I N, s], 0, 0, false⟩) := by rw [q3.get (by omega) bn]; exact rn
    have bn1 := (List.getElem?_eq_some_iff.1 rn1).1
    have o1 := q2.sl.one
    have o2 := q2.sl.cells
    obtain ⟨h3, hh3⟩ : ∃ h3, h3 = h'.set on (.cells ⟨[I N, s'], 0, 0, false⟩) := ⟨_, rfl⟩
    have l3 : h3.length = h'.length := by rw [hh3]; simp
    have l1 := q3.1
    have rn3 : h3[on]? = some (.cells ⟨[I N, s'], 0, 0, false⟩) := by rw [hh3]; exact get_set_eq bn1
    have g3 : Gr lo h3.length h3 4 s' ((grE C back i).map encE ++ [encE (fw C i)]) := by rw [l3, hh3]; exact q2.set (.inl ho) _
    cases back with
    | false =>
      simp -implicitDefEqProofs (maxSteps := 1000000) (disch := first | assumption | omega | (simp only [gL] <;> omega) | ((repeat (first | exact Ext.refl _ | assumption | apply Ext.app | apply Ext.mk | (refine Ext.setr ?_ (by (first | omega | (simp only [gL] <;> omega))) _))); done) | (simp only [gL, gA, rn, q1, rn1, o1, o2] <;> omega) | fail) only [gB, setAll, partL, fldV, reduceIte, Nat.reduceAdd, Nat.reduceMul, rn, q1, rn1, o1, o2]
      rw [← hh3]
      refine ih (i + 1) lo h3 s' (by omega) ho (by omega) rn3 (g3.cong ?_)
      rw [grE_succ]; simp
    | true =>
      obtain ⟨s4, h4, p1, p2, p3⟩ := Gr.append1 (bytes := 32) g3 (v := encE (bw i)) rfl (by omega) (by omega) (by simp; omega) (by omega) (Nat.le_refl _)
      rw [mkObj_eq, l3] at p1
      simp only [encE, bw] at p1
      have rn4 : h4[on]? = some (.cells ⟨[I N, s'], 0, 0, false⟩) := by rw [p3.get (by omega) (by omega)]; exact rn3
      have bn4 := (List.getElem?_eq_some_iff.1 rn4).1
      have o3 := p2.sl.one
      have o4 := p2.sl.cells
      obtain ⟨h5, hh5⟩ : ∃ h5, h5 = h4.set on (.cells ⟨[I N, s4], 0, 0, false⟩) := ⟨_, rfl⟩
      have l5 : h5.length = h4.length := by rw [hh5]; simp
      have l4 := p3.1
      have rn5 : h5[on]? = some (.cells ⟨[I N, s4], 0, 0, false⟩) := by rw [hh5]; exact get_set_eq bn4
      have g5 : Gr lo h5.length h5 4 s4 ((grE C true i).map encE ++ [encE (fw C i)] ++ [encE (bw i)]) := by rw [l5, hh5]; exact p2.set (.inl ho) _
      simp -implicitDefEqProofs (maxSteps := 1000000) (disch := first | assumption | omega | (simp only [gL] <;> omega) | ((repeat (first | exact Ext.refl _ | assumption | apply Ext.app | apply Ext.mk | (refine Ext.setr ?_ (by (first | omega | (simp only [gL] <;> omega))) _))); done) | (simp only [gL, gA, rn, q1, rn1, o1, o2] <;> omega) | fail) only [gB, setAll, partL, fldV, reduceIte, Nat.reduceAdd, Nat.reduceMul, rn, q1, rn1, o1, o2]
      rw [← hh3]
      simp -implicitDefEqProofs (maxSteps := 1000000) (disch := first | assumption | omega | (simp only [gL] <;> omega) | ((repeat (first | exact Ext.refl _ | assumption | apply Ext.app | apply Ext.mk | (refine Ext.setr ?_ (by (first | omega | (simp only [gL] <;> omega))) _))); done) | (simp only [gL, gA, rn3, p1, rn4, o3, o4] <;> omega) | fail) only [gB, setAll, partL, fldV, reduceIte, Nat.reduceAdd, Nat.reduceMul, rn3, p1, rn4, o3, o4]
      rw [← hh5]
      refine ih (i + 1) lo h5 s4 (by omega) ho (by omega) rn5 (g5.cong ?_)
      rw [grE_succ]; simp
theorem great_spec {h : Heap} {k : Int} {zero back : Bool} : Tot tab f_milestonelaw9_ProductGreat [I k, .bool zero, .bool back] h fun r _ => r = .bool true := by
  refine WP.tot (fun j => (call_milestonelaw9_ProductGreat j _ _ _ h).trans (milestonelaw9_ProductGreat_eq tab j _ _ _ h)) ?_
  refine WP.call (known_spec h) ?_
  rintro _ h1 ⟨rfl, e1⟩
  simp -implicitDefEqProofs (maxSteps := 1000000) (disch := first | assumption | omega | (simp only [gL] <;> omega) | ((repeat (first | exact Ext.refl _ | assumption | apply Ext.app | apply Ext.mk | (refine Ext.setr ?_ (by (first | omega | (simp only [gL] <;> omega))) _))); done) | (simp only [gL, gA] <;> omega) | fail) only [gB, setAll, partL, fldV, reduceIte, Nat.reduceAdd, Nat.reduceMul]
  refine WP.call (within9_spec (n := 50) (by omega) (by unfold Fit; omega) _) ?_
  rintro _ _ ⟨rfl, rfl⟩
  obtain ⟨N, hNN⟩ : ∃ N : Nat, 2 + k % 50 = N := ⟨(2 + k % 50).toNat, by omega⟩
  simp -implicitDefEqProofs (maxSteps := 1000000) (disch := first | assumption | omega | (simp only [gL] <;> omega) | ((repeat (first | exact Ext.refl _ | assumption | apply Ext.app | apply Ext.mk | (refine Ext.setr ?_ (by (first | omega | (simp only [gL] <;> omega))) _))); done) | (simp only [gL, gA, hNN] <;> omega) | fail) only [gB, setAll, partL, fldV, reduceIte, Nat.reduceAdd, Nat.reduceMul, hNN]
  obtain ⟨h2, hh2⟩ : ∃ h2, h2 = ((h1 ++ [AObj.cells ⟨[AV.int .i64 0, .nils], 0, 0, false⟩]).set h1.length (.cells ⟨[I N, .nils], 0, 0, false⟩)) := ⟨_, rfl⟩
  have rn : h2[h1.length]? = some (.cells ⟨[I N, .nils], 0, 0, false⟩) := by rw [hh2]; exact get_set_eq (by simp)
  have l2 : h2.length = h1.length + 1 := by rw [hh2]; simp
  rw [← hh2]
  cases zero with
  | true =>
    simp -implicitDefEqProofs (maxSteps := 1000000) (disch := first | assumption | omega | (simp only [gL] <;> omega) | ((repeat (first | exact Ext.refl _ | assumption | apply Ext.app | apply Ext.mk | (refine Ext.setr ?_ (by (first | omega | (simp only [gL] <;> omega))) _))); done) | (simp only [gL, gA] <;> omega) | fail) only [gB, setAll, partL, fldV, reduceIte, Nat.reduceAdd, Nat.reduceMul]
    refine WP.congr (fun j : Nat => milestonelaw9_ProductGreat_b1_eq tab j (.bool back) (.ptr h1.length 0 2 0) (I 0) h2) ?_
    exact WP.ent (great_l2 (h0 := h1) (C := 0) (back := back) (by omega) (by omega) (by omega) (N - 1) 0 h2.length h2 .nils (by omega) (by omega) (Nat.le_refl _) rn (Gr.nil ..)) fun i => rfl
  | false =>
    simp -implicitDefEqProofs (maxSteps := 1000000) (disch := first | assumption | omega | (simp only [gL] <;> omega) | ((repeat (first | exact Ext.refl _ | assumption | apply Ext.app | apply Ext.mk | (refine Ext.setr ?_ (by (first | omega | (simp only [gL] <;> omega))) _))); done) | (simp only [gL, gA] <;> omega) | fail) only [gB, setAll, partL, fldV, reduceIte, Nat.reduceAdd, Nat.reduceMul]
    refine WP.congr (fun j : Nat => milestonelaw9_ProductGreat_b1_eq tab j (.bool back) (.ptr h1.length 0 2 0) (I 2147483647) h2) ?_
    exact WP.ent (great_l2 (h0 := h1) (C := 2147483647) (back := back) (by omega) (by omega) (by omega) (N - 1) 0 h2.length h2 .nils (by omega) (by omega) (Nat.le_refl _) rn (Gr.nil ..)) fun i => rfl
end
end Go.Gm.A9

set_option linter.unusedVariables false
set_option linter.unusedSimpArgs false
namespace Go.Gm
open Go.RowKit
def roObj (cs : List AV) : AObj := .cells ⟨cs, 0, 0, true⟩
def initH (L : List (List AV × Option Loc)) : Heap := L.map fun p => roObj p.1
def initR (L : List (List AV × Option Loc)) : Ren := ⟨fun o g => if g = 0 then (L[o]?).bind (·.2) else none, fun _ => none⟩

/-- A row that came in; one that isn't told of has no place. -/
def EntOk (W : World) (φ : Ren) (p : List AV × Option Loc) : Prop := ∀ l, p.2 = some l → ∃ C e fr, W.heap[l.b]? = some (.cells C e fr) ∧ C.size = l.N ∧ l.n = p.1.length ∧ CellsAt φ p.1 l C

theorem initS {W : World} {L : List (List AV × Option Loc)} (hL : ∀ p ∈ L, EntOk W (initR L) p) :
    S W.heap.size W (initR L) (initH L) W := by
  have got : ∀ o g l, (initR L).c o g = some l → g = 0 ∧ ∃ cs, L[o]? = some (cs, some l) := fun o g l h => by
    simp only [initR] at h
    split at h
    · rename_i hg
      cases hq : L[o]? with
      | none => rw [hq] at h; cases h
      | some p => rw [hq] at h; exact ⟨hg, p.1, by rw [← (show p.2 = some l from h)]⟩
    · cases h
  have ro : ∀ o g l, (initR L).c o g = some l → isRo (initH L) o = true := fun o g l h => by
    obtain ⟨_, cs, hq⟩ := got o g l h
    simp [isRo, initH, hq, roObj]
  refine ⟨⟨fun o g l h => ?_, fun o b h => (by cases h), fun o g l o' g' l' h h' _ => .inr ⟨ro o g l h, ro o' g' l' h'⟩, fun o b o' b' h => (by cases h)⟩, Below.refl _ _, Nat.le_refl _⟩
  obtain ⟨hg, cs, hq⟩ := got o g l h
  subst hg
  obtain ⟨C, e, fr, h1, h2, h3, h4⟩ := hL _ (List.mem_of_getElem? hq) l rfl
  exact ⟨⟨cs, 0, 0, true⟩, by simp [initH, hq, roObj], Nat.le_refl _, Nat.le_refl _, ⟨C, e, fr, h1, h2, fun q => (by cases q), fun _ => h4⟩, fun _ => h3⟩

theorem entry {P : Program} {T : Tab} (hv : Valid P T) {W : World} {L : List (List AV × Option Loc)} (hL : ∀ p ∈ L, EntOk W (initR L) p)
    {f : FuncId} {args : List AV} {args' : List Value} (ha : VRs (initR L) args args') {Q : AV → Heap → Prop} (ht : Tot T f args (initH L) Q) (hq : ∀ v h, Q v h → v = .bool true) :
    Calls P f args'.toArray W fun e w' => e = .returned (.bool true) ∧ Below W.heap.size W w' := by
  obtain ⟨v, h', h1, N, hN⟩ := ht
  have hv1 := hq v h' h1
  subst hv1
  obtain ⟨_, h2⟩ := fnSim (B := W.heap.size) (w0 := W) hv N f args (initH L) _ _ (hN N (Nat.le_refl N))
  refine (h2 _ W args' ha (initS hL)).mono ?_
  rintro e w' ⟨ψ, v', rfl, k1, k2, k3⟩
  cases k1
  exact ⟨rfl, k2.below⟩

end Go.Gm

