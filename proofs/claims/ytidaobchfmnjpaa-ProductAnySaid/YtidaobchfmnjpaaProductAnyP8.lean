/- A part of the proof: an abstract machine, what it does, and what the functions of the program come to on it (GmA9BO, GmA9BP, GmA9BQ, GmA9BR, GmA9BS, GmA9BT, GmA9BU, GmA9BV, GmA9CA, GmA9CB, GmPt, GmA9CC, GmA9CD, GmPu, GmA9CE, GmA9CF). -/
import Derived.Test.YtidaobchfmnjpaaProductAnyP7
set_option linter.unusedVariables false
set_option linter.unusedSimpArgs false
set_option linter.unusedSectionVars false
namespace Go.Gm.A9
open Go Go.Gm
def SB (W : Nat → Prop) (h : Heap) (os : Nat) (g : AV) (fh : FuncId) (n : Nat) (A : Nat → List Hop) (st : Nat → Prop) (c : Nat → Int) (m : Nat → Option Int) (ls : Int) : Prop :=
  ∃ (q sc se sf : AV) (oc oe ov : Nat) (cs ds fs : List Int) (M : List (Option Int)) (id k : Nat) (rk : Nat → Nat), SW W h os g (.fn fh [] []) q sc se sf oc oe ov n cs ds fs M ls ∧ DI n 2147483647 A st id [] (gf cs) (gf M) (gf ds) (gf fs) rk k ∧ un n (gf cs) + (k : Int) = n ∧
    c = gf cs ∧ m = gf M
def LsOk (n : Nat) (m : Nat → Option Int) (ls : Int) : Prop := 0 ≤ ls ∧ ls ≤ 4000000000000000000 ∧ ∀ x : Nat, x < n → ∀ v, m x = some v → ls ≤ v
section
variable {W : Nat → Prop} {h0 h h' : Heap} {os n : Nat} {g : AV} {fh : FuncId} {A : Nat → List Hop} {st : Nat → Prop} {c : Nat → Int} {m : Nat → Option Int} {ls : Int}
theorem SB.frs (s : SB W h os g fh n A st c m ls) {D : Nat → Prop} (f : FrS D h h') (hd : ∀ o, o < h.length → W o → ¬ D o) : SB W h' os g fh n A st c m ls := by
  obtain ⟨q, sc, se, sf, oc, oe, ov, cs, ds, fs, M, id, k, rk, w, r⟩ := s
  exact ⟨q, sc, se, sf, oc, oe, ov, cs, ds, fs, M, id, k, rk, w.frs f hd, r⟩
theorem SB.mono (s : SB W h os g fh n A st c m ls) {W' : Nat → Prop} (hw : ∀ o, o < h.length → W o → W' o) : SB W' h os g fh n A st c m ls := by
  obtain ⟨q, sc, se, sf, oc, oe, ov, cs, ds, fs, M, id, k, rk, w, r⟩ := s
  exact ⟨q, sc, se, sf, oc, oe, ov, cs, ds, fs, M, id, k, rk, w.mono hw, r⟩
theorem SB.half (s : SB W h os g fh n A st c m ls) (lo : LsOk n m ls) (hg : GOk n 2147483647 A) (hst : ∀ x, st x → x < n) : Half n A st c ls := by
  obtain ⟨q, sc, se, sf, oc, oe, ov, cs, ds, fs, M, id, k, rk, w, d, u, rfl, rfl⟩ := s
  exact d.half hg hst lo.2.2
theorem SB.st0 (s : SB W h os g fh n A st c m ls) {x : Nat} (hx : x < n) (hs : st x) : fnd c m x = 0 := by
  obtain ⟨q, sc, se, sf, oc, oe, ov, cs, ds, fs, M, id, k, rk, w, d, u, rfl, rfl⟩ := s
  exact b4S d hx hs
theorem SB.hop (s : SB W h os g fh n A st c m ls) {x : Nat} (hx : x < n) (h0 : 0 ≤ c x) {y e' : Nat} {w : Int} (hh : (y, e', w) ∈ A x) (hy : y < n) : 0 ≤ fnd c m y ∧ fnd c m y ≤ c x + w := by
  obtain ⟨q, sc, se, sf, oc, oe, ov, cs, ds, fs, M, id, k, rk, w, d, u, rfl, rfl⟩ := s
  exact b4v d hx h0 hh hy
theorem SB.walk (s : SB W h os g fh n A st c m ls) {x : Nat} (hx : x < n) (h0 : 0 ≤ fnd c m x) : ∃ l, Wk A st x l (fnd c m x) := by
  obtain ⟨q, sc, se, sf, oc, oe, ov, cs, ds, fs, M, id, k, rk, w, d, u, rfl, rfl⟩ := s
  exact b3O d hx h0
theorem SB.bnd (s : SB W h os g fh n A st c m ls) (hn2 : n ≤ 1000000) {x : Nat} (hx : x < n) : fnd c m x ≤ 4000000000000000000 := by
  obtain ⟨q, sc, se, sf, oc, oe, ov, cs, ds, fs, M, id, k, rk, w, d, u, rfl, rfl⟩ := s
  have h1 := b4w (by omega) d hx
  have h2 := o7_ n (gf cs)
  omega
variable {N : Nat} {es : List E} {D : List (List Int)} {acc : List Bool} {L : Int → Int → List Tr}
theorem SB.step (e0 : Ext h0 h) (hW : ∀ o, W o → h0.length ≤ o) (gv : GV h0 g N es D acc) (ok : DOk D acc) (co : COk es) (hN : N ≤ 100000) (hn : n = N * D.length) (hn2 : n ≤ 1000000) (hh : HopsOk h0 g N es D fh L) (hst : ∀ x, st x → x < n)
    (s : SB W h os g fh n (hopA es D.length L) st c m ls) :
    Tot tab b6_ [.ptr os 0 7 0] h fun r h' => FrS W h h' ∧
      ((r = .tup [I 0, .bool false] ∧ (∀ x : Nat, x < n → m x = none) ∧ SB (fun o => W o ∨ h.length ≤ o) h' os g fh n (hopA es D.length L) st c m ls) ∨
       ∃ id key m2, id < n ∧ c id < 0 ∧ 0 ≤ key ∧ r = .tup [I id, .bool true] ∧ SB (fun o => W o ∨ h.length ≤ o) h' os g fh n (hopA es D.length L) st (up c id key) m2 key ∧ LsOk n m2 key) := by
  obtain ⟨q, sc, se, sf, oc, oe, ov, cs, ds, fs, M, id0, k, rk, w, d, u, rfl, rfl⟩ := s
  refine (a8A e0 hW gv ok co hN hn hn2 hh hst w d u).mono ?_
  rintro r h2 ⟨f2, ⟨rfl, hm, w2⟩ | ⟨id, key, ds2, fs2, M2, rk2, i1, i2, i3, rfl, w2, d2, k2⟩⟩
  · exact ⟨f2, .inl ⟨rfl, hm, q, sc, se, sf, oc, oe, ov, cs, ds, fs, M, id0, k, rk, w2, d, u, rfl, rfl⟩⟩
  · obtain ⟨q1, q2, _⟩ := d.que id i1 key i2
    have hcs : gf (cs.set id key) = up (gf cs) id key := gset (by rw [w.lc]; exact i1) key
    have hid : gf (cs.set id key) id = key := by rw [hcs]; exact if_pos rfl
    refine ⟨f2, .inr ⟨id, key, gf M2, i1, by omega, q2, rfl, ⟨q, sc, se, sf, oc, oe, ov, cs.set id key, ds2, fs2, M2, id, k + 1, rk2, w2, d2, k2, hcs.symm, rfl⟩, q2, ?_, fun x hx v hv => ?_⟩⟩
    · have h5 := d2.bnd id i1 key (.inl ⟨by rw [hid]; exact q2, hid⟩)
      have h6 := o7_ n (gf (cs.set id key))
      omega
    have := d2.ord id x i1 hx (by rw [hid]; exact q2) v hv
    rw [hid] at this
    exact this
end
end Go.Gm.A9

namespace Go.Gm.A9
open Go Go.Gm
structure RowsB (h : Heap) (ot ob ol oz os1 os2 : Nat) (L : Int) : Prop where
  rt : h[ot]? = some (.cells ⟨[.ptr os1 0 7 0], 0, 0, false⟩)
  rb : h[ob]? = some (.cells ⟨[.ptr os2 0 7 0], 0, 0, false⟩)
  rl : h[ol]? = some (.cells ⟨[I L], 0, 0, false⟩)
  rz : h[oz]? = some (.cells ⟨[.ptr os1 0 7 0, .ptr os2 0 7 0], 0, 0, false⟩)
  ne : ot ≠ ol ∧ ob ≠ ol ∧ oz ≠ ol
section
variable {h h' : Heap} {ot ob ol oz os1 os2 : Nat} {L : Int}
theorem RowsB.frs (r : RowsB h ot ob ol oz os1 os2 L) {D : Nat → Prop} (f : FrS D h h') (hd : ¬ D ot ∧ ¬ D ob ∧ ¬ D ol ∧ ¬ D oz) : RowsB h' ot ob ol oz os1 os2 L := by
  have b := fun {o : Nat} {x : AObj} (z : h[o]? = some x) => (List.getElem?_eq_some_iff.1 z).1
  exact ⟨by rw [f.get hd.1 (b r.rt)]; exact r.rt, by rw [f.get hd.2.1 (b r.rb)]; exact r.rb, by rw [f.get hd.2.2.1 (b r.rl)]; exact r.rl, by rw [f.get hd.2.2.2 (b r.rz)]; exact r.rz, r.ne⟩
variable {W1 W2 : Nat → Prop} {n : Nat} {g : AV} {f1 f2 : FuncId} {A A' : Nat → List Hop} {st en : Nat → Prop} {c1 c2 : Nat → Int} {m1 m2 : Nat → Option Int} {ls1 ls2 : Int}
theorem b0w (s1 : SB W1 h os1 g f1 n A st c1 m1 ls1) (s2 : SB W2 h os2 g f2 n A' en c2 m2 ls2) (hn2 : n ≤ 1000000) (r : RowsB h ot ob ol oz os1 os2 L) {x : Nat} (hx : x < n) :
    Tot tab k9_ [I x, .ptr ot 0 1 0, .ptr ob 0 1 0, .ptr ol 0 1 0] h fun v h' => v = .tup [] ∧ RowsB h' ot ob ol oz os1 os2 (mtL L (fnd c1 m1 x) (fnd c2 m2 x)) ∧ FrS (fun o => o = ol) h h' := by
  have b1 := s1.bnd hn2 hx
  have b2 := s2.bnd hn2 hx
  obtain ⟨q, sc, se, sf, oc, oe, ov, cs, ds, fs, M, id, k, rk, w, d, u, rfl, rfl⟩ := s1
  obtain ⟨q', sc', se', sf', oc', oe', ov', cs', ds', fs', M', id', k', rk', w', d', u', rfl, rfl⟩ := s2
  refine (b3w w w' hx r.rt r.rb r.rl b1 b2).mono ?_
  rintro v h2 ⟨rfl, rl, f⟩
  have b := fun {o : Nat} {x : AObj} (z : h[o]? = some x) => (List.getElem?_eq_some_iff.1 z).1
  exact ⟨rfl, ⟨by rw [f.get r.ne.1 (b r.rt)]; exact r.rt, by rw [f.get r.ne.2.1 (b r.rb)]; exact r.rb, rl, by rw [f.get r.ne.2.2 (b r.rz)]; exact r.rz, r.ne⟩, f⟩
def Snd (A : Nat → List Hop) (st en : Nat → Prop) (L : Int) : Prop := L = -1 ∨ (0 ≤ L ∧ ∃ z, en z ∧ ∃ l, Wk A st z l L)
theorem Snd.meet (hg : GOk n 2147483647 A) (hg' : GOk n 2147483647 A') (rv : Rev n A A') (hst : ∀ x, st x → x < n) (hen : ∀ x, en x → x < n) (s1 : SB W1 h os1 g f1 n A st c1 m1 ls1) (s2 : SB W2 h os2 g f2 n A' en c2 m2 ls2) (s : Snd A st en L) {x : Nat} (hx : x < n) : Snd A st en (mtL L (fnd c1 m1 x) (fnd c2 m2 x)) := by
  unfold mtL
  split
  · rename_i q
    obtain ⟨l, hl⟩ := s1.walk hx q.1
    obtain ⟨l', hl'⟩ := s2.walk hx q.2.1
    obtain ⟨z, z1, l'', z2⟩ := Wk.join hg hg' rv hst hen hl' hl
    exact .inr ⟨by omega, z, z1, l'', z2⟩
  · exact s
end
end Go.Gm.A9

namespace Go.Gm.A9
open Go Go.Gm
section
variable {h0 hb : Heap} {ot ob ol oz os1 os2 : Nat} {W1 W2 : Nat → Prop} {n : Nat} {g : AV} {f1 f2 : FuncId} {A A' : Nat → List Hop} {st en : Nat → Prop} {c1 c2 : Nat → Int} {m1 m2 : Nat → Option Int} {ls1 ls2 : Int}
variable {N : Nat} {es : List E} {D : List (List Int)} {acc : List Bool}
abbrev meetV (ot ob ol : Nat) : AV := .fn k9_ [] [.ptr ot 0 1 0, .ptr ob 0 1 0, .ptr ol 0 1 0]
theorem b4B {kk : Int} {t112 : AV} {ts : List Tr} {L0 : Int} {Q : AV → Heap → Prop}
    (e0 : Ext h0 hb) (gv : GV h0 g N es D acc) (ok : DOk D acc) (hN : N ≤ 100000) (hn : n = N * D.length) (hn2 : n ≤ 1000000) (hg : GOk n 2147483647 A) (hg' : GOk n 2147483647 A') (rv : Rev n A A') (hst : ∀ x, st x → x < n) (hen : ∀ x, en x → x < n)
    (s1 : SB W1 hb os1 g f1 n A st c1 m1 ls1) (s2 : SB W2 hb os2 g f2 n A' en c2 m2 ls2) (hw : ¬ W1 ol ∧ ¬ W2 ol) (hol : h0.length ≤ ol) (hro : ot < hb.length ∧ ob < hb.length ∧ ol < hb.length ∧ oz < hb.length)
    (hts : ∀ t ∈ ts, TrOk N es D t) (htl : ts.length ≤ 10000000) (hsl : ∀ h, FrS (fun o => o = ol ∨ hb.length ≤ o) hb h → Sl h 3 t112 (ts.map encT))
    (hQ : ∀ h L, FrS (fun o => o = ol ∨ hb.length ≤ o) hb h → RowsB h ot ob ol oz os1 os2 L → Snd A st en L → (0 ≤ L0 → 0 ≤ L ∧ L ≤ L0) → (∀ t ∈ ts, 0 ≤ fnd c1 m1 (hopOf es D.length t).1 → 0 ≤ fnd c2 m2 (hopOf es D.length t).1 → 0 ≤ L ∧ L ≤ fnd c1 m1 (hopOf es D.length t).1 + fnd c2 m2 (hopOf es D.length t).1) →
      WP (fun p : Nat × Nat => y8_ tab p.1 p.2 g (.ptr ot 0 1 0) (.ptr ob 0 1 0) (.ptr ol 0 1 0) (meetV ot ob ol) (.ptr oz 0 2 0) (I kk) h) Q) :
    ∀ (d i : Nat) (h : Heap) (L : Int), i + d = ts.length → FrS (fun o => o = ol ∨ hb.length ≤ o) hb h → RowsB h ot ob ol oz os1 os2 L → Snd A st en L → (0 ≤ L0 → 0 ≤ L ∧ L ≤ L0) →
      (∀ t ∈ ts.take i, 0 ≤ fnd c1 m1 (hopOf es D.length t).1 → 0 ≤ fnd c2 m2 (hopOf es D.length t).1 → 0 ≤ L ∧ L ≤ fnd c1 m1 (hopOf es D.length t).1 + fnd c2 m2 (hopOf es D.length t).1) →
      WP (fun p : (Nat × Nat) × Nat => y7_ tab p.1.1 p.1.2 p.2 g (.ptr ot 0 1 0) (.ptr ob 0 1 0) (.ptr ol 0 1 0) (meetV ot ob ol) (.ptr oz 0 2 0) (I kk) t112 (I ts.length) (I i) h) Q := by
  intro d
  induction d with
  | zero =>
    intro i h L h1 f r s hm ha
    refine WP.rnd (fun i' j => a2U tab i'.1 i'.2 j g (.ptr ot 0 1 0) (.ptr ob 0 1 0) (.ptr ol 0 1 0) (meetV ot ob ol) (.ptr oz 0 2 0) (I kk) t112 (I ts.length) (I i) h) ?_
    rw [List.take_of_length_le (by omega)] at ha
    simp -implicitDefEqProofs (maxSteps := 1000000) (disch := first | assumption | omega | (simp only [gL] <;> omega) | ((repeat (first | exact Ext.refl _ | assumption | apply Ext.app | apply Ext.mk | (refine Ext.setr ?_ (by (first | omega | (simp only [gL] <;> omega))) _))); done) | (simp only [gL, gA] <;> omega) | fail) only [gB, setAll, partL, fldV, reduceIte, Nat.reduceAdd, Nat.reduceMul]
    exact WP.lv (hQ h L f r s hm ha) fun i j => rfl
  | succ d ih =>
    intro i h L h1 f r s hm ha
    refine WP.rnd (fun i' j => a2U tab i'.1 i'.2 j g (.ptr ot 0 1 0) (.ptr ob 0 1 0) (.ptr ol 0 1 0) (meetV ot ob ol) (.ptr oz 0 2 0) (I kk) t112 (I ts.length) (I i) h) ?_
    obtain ⟨t, hti⟩ : ∃ t, gi ts i = t := ⟨_, rfl⟩
    have htm : t ∈ ts := hti ▸ b4_ (by omega) (by omega)
    obtain ⟨t1, t2, t3, t4, t5, t6⟩ := hts t htm
    obtain ⟨sp1, sp2⟩ := a8P (S := D.length) t1 t2 t3 t4
    obtain ⟨y, hy⟩ : ∃ y : Nat, t.1 * (D.length : Int) + t.2.1 = y := ⟨(t.1 * (D.length : Int) + t.2.1).toNat, by omega⟩
    have hyn : y < n := by omega
    have hho : (hopOf es D.length t).1 = y := by simp only [hopOf, hy]; rfl
    have htk : ts.take (i + 1) = ts.take i ++ [t] := by
      rw [List.take_add_one, show ts[i]? = some t by
        have := d5_ (xs := ts) (i := (i : Int)) (by omega) (by omega)
        rw [hti] at this; simpa using this]
      rfl
    have l0 := e0.len
    have lb := f.len
    have ex : Ext h0 h := f.ext e0 fun o q1 q2 => by omega
    have sl := hsl h f
    obtain ⟨h2, hh2⟩ : ∃ h2, h2 = ((h ++ [AObj.cells ⟨[I 0, I 0, I 0], 0, 0, false⟩]).set h.length (.cells ⟨[I t.1, I t.2.1, I t.2.2], 0, 0, false⟩)) := ⟨_, rfl⟩
    have e2 : Ext h h2 := by rw [hh2]; ((repeat (first | exact Ext.refl _ | assumption | apply Ext.app | apply Ext.mk | (refine Ext.setr ?_ (by (first | omega | (simp only [gL] <;> omega))) _))))
    simp -implicitDefEqProofs (maxSteps := 1000000) (disch := first | assumption | omega | (simp only [gL] <;> omega) | ((repeat (first | exact Ext.refl _ | assumption | apply Ext.app | apply Ext.mk | (refine Ext.setr ?_ (by (first | omega | (simp only [gL] <;> omega))) _))); done) | (simp only [gL, gA, sl.idxG, sl.ldN, hti, encT] <;> omega) | fail) only [gB, setAll, partL, fldV, reduceIte, Nat.reduceAdd, Nat.reduceMul, sl.idxG, sl.ldN, hti, encT]
    rw [show AV.int .i64 0 = I 0 from rfl, ← hh2]
    refine WP.call (a8O (gv.ext (ex.trans e2)) ok t1 (by omega) t3 (by have := ok.l1; omega)) ?_
    rintro _ h3 ⟨rfl, e3⟩
    rw [hy]
    have f3 : FrS (fun o => o = ol ∨ hb.length ≤ o) hb h3 := f.trans ((FrS.ofExt e2).trans (FrS.ofExt e3))
    have r3 : RowsB h3 ot ob ol oz os1 os2 L := r.frs (D := fun _ => False) ((FrS.ofExt e2).trans (FrS.ofExt e3)) ⟨id, id, id, id⟩
    have s13 := s1.frs f3 fun o q1 q2 q3 => q3.elim (fun z => hw.1 (z ▸ q2)) fun z => by omega
    have s23 := s2.frs f3 fun o q1 q2 q3 => q3.elim (fun z => hw.2 (z ▸ q2)) fun z => by omega
    refine WP.call (b0w s13 s23 hn2 r3 hyn) ?_
    rintro _ h4 ⟨rfl, r4, f4⟩
    have mono : 0 ≤ L → 0 ≤ mtL L (fnd c1 m1 y) (fnd c2 m2 y) ∧ mtL L (fnd c1 m1 y) (fnd c2 m2 y) ≤ L := a9E
    refine ih (i + 1) h4 _ (by omega) (f3.trans (f4.mono fun o _ z => .inl z)) r4 (Snd.meet hg hg' rv hst hen s13 s23 s hyn) (fun z => ?_) fun t' ht' => ?_
    · have h5 := hm z
      have h6 := mono h5.1
      exact ⟨h6.1, by omega⟩
    · rw [htk] at ht'
      intro p1 p2
      rcases List.mem_append.1 ht' with q | q
      · have h5 := ha t' q p1 p2
        have h6 := mono h5.1
        exact ⟨h6.1, by omega⟩
      · obtain rfl := List.mem_singleton.1 q
        rw [hho] at p1 p2 ⊢
        exact b1z p1 p2
end
end Go.Gm.A9

namespace Go.Gm.A9
open Go Go.Gm
section
variable {h0 hb : Heap} {ot ob ol oz os1 os2 : Nat} {W1 W2 : Nat → Prop} {n : Nat} {g : AV} {f1 f2 : FuncId} {A A' : Nat → List Hop} {st en : Nat → Prop} {c1 c2 : Nat → Int} {m1 m2 : Nat → Option Int} {ls1 ls2 : Int}
variable {N : Nat} {es : List E} {D : List (List Int)} {acc : List Bool}
theorem SB.row {W : Nat → Prop} {h : Heap} {os : Nat} {fh : FuncId} {c : Nat → Int} {m : Nat → Option Int} {ls : Int} (s : SB W h os g fh n A st c m ls) : W os ∧ ∃ q sc se sf, h[os]? = some (.cells ⟨[g, .fn fh [] [], q, sc, se, sf, I ls], 0, 0, false⟩) := by
  obtain ⟨q, sc, se, sf, oc, oe, ov, cs, ds, fs, M, id, k, rk, w, _⟩ := s
  exact ⟨w.ws, q, sc, se, sf, w.row⟩
theorem b2g {kk osk id : Nat} {fk : FuncId} {Wk' : Nat → Prop} {lsk L0 : Int} {LL : Int → Int → List Tr} {Ak : Nat → List Hop} {sk : Nat → Prop} {ck : Nat → Int} {mk' : Nat → Option Int} {Q : AV → Heap → Prop}
    (e0 : Ext h0 hb) (gv : GV h0 g N es D acc) (ok : DOk D acc) (hN : N ≤ 100000) (hn : n = N * D.length) (hn2 : n ≤ 1000000) (hg : GOk n 2147483647 A) (hg' : GOk n 2147483647 A') (rv : Rev n A A') (hst : ∀ x, st x → x < n) (hen : ∀ x, en x → x < n)
    (s1 : SB W1 hb os1 g f1 n A st c1 m1 ls1) (s2 : SB W2 hb os2 g f2 n A' en c2 m2 ls2) (hw : ¬ W1 ol ∧ ¬ W2 ol) (hol : h0.length ≤ ol)
    (sK : SB Wk' hb osk g fk n Ak sk ck mk' lsk) (hwk : ¬ Wk' ol) (hk : (kk = 0 ∧ osk = os1) ∨ (kk = 1 ∧ osk = os2)) (hh : HopsOk h0 g N es D fk LL) (hid : id < n)
    (r : RowsB hb ot ob ol oz os1 os2 L0) (s : Snd A st en L0)
    (hQ : ∀ h L, FrS (fun o => o = ol ∨ hb.length ≤ o) hb h → RowsB h ot ob ol oz os1 os2 L → Snd A st en L → (0 ≤ L0 → 0 ≤ L ∧ L ≤ L0) → (0 ≤ fnd c1 m1 id → 0 ≤ fnd c2 m2 id → 0 ≤ L ∧ L ≤ fnd c1 m1 id + fnd c2 m2 id) →
      (∀ t ∈ LL ((id / D.length : Nat) : Int) ((id % D.length : Nat) : Int), 0 ≤ fnd c1 m1 (hopOf es D.length t).1 → 0 ≤ fnd c2 m2 (hopOf es D.length t).1 → 0 ≤ L ∧ L ≤ fnd c1 m1 (hopOf es D.length t).1 + fnd c2 m2 (hopOf es D.length t).1) →
      WP (fun p : Nat × Nat => y8_ tab p.1 p.2 g (.ptr ot 0 1 0) (.ptr ob 0 1 0) (.ptr ol 0 1 0) (meetV ot ob ol) (.ptr oz 0 2 0) (I kk) h) Q) :
    WP (fun p : Nat × Nat => a1U tab p.1 p.2 g (.ptr ot 0 1 0) (.ptr ob 0 1 0) (.ptr ol 0 1 0) (meetV ot ob ol) (.ptr oz 0 2 0) (I kk) (I id) hb) Q := by
  refine WP.congr (fun p => a8h tab p.1 p.2 g (.ptr ot 0 1 0) (.ptr ob 0 1 0) (.ptr ol 0 1 0) (meetV ot ob ol) (.ptr oz 0 2 0) (I kk) (I id) hb) ?_
  have b := fun {h : Heap} {o : Nat} {x : AObj} (z : h[o]? = some x) => (List.getElem?_eq_some_iff.1 z).1
  have hro : ot < hb.length ∧ ob < hb.length ∧ ol < hb.length ∧ oz < hb.length := ⟨b r.rt, b r.rb, b r.rl, b r.rz⟩
  refine WP.call (b0w s1 s2 hn2 r hid) ?_
  rintro _ h1 ⟨rfl, r1, fr1⟩
  have l1 := fr1.len
  have ex1 : Ext h0 h1 := fr1.ext e0 fun o z1 z2 => by omega
  have s11 := s1.frs fr1 fun o z1 z2 z3 => hw.1 (z3 ▸ z2)
  have s21 := s2.frs fr1 fun o z1 z2 z3 => hw.2 (z3 ▸ z2)
  have sK1 := sK.frs fr1 fun o z1 z2 z3 => hwk (z3 ▸ z2)
  obtain ⟨_, q, sc, se, sf, ro⟩ := sK1.row
  have hix : idxA 2 1 (.ptr oz 0 2 0) (I kk) = some (.ptr oz kk (kk + 1) 0) := by
    simp only [idxA, I]
    rw [if_pos ⟨by omega, by omega, by omega⟩]
    simp
  have hld : ∀ h, RowsB h ot ob ol oz os1 os2 (mtL L0 (fnd c1 m1 id) (fnd c2 m2 id)) → Gm.ld1 h (.ptr oz kk (kk + 1) 0) = some (.ptr osk 0 7 0) := by
    intro h rr
    have rz := rr.rz
    rcases hk with ⟨rfl, rfl⟩ | ⟨rfl, rfl⟩
    · simp [Gm.ld1, rz]
    · simp [Gm.ld1, rz]
  have hld' : rdAt h1[oz]? kk (kk + 1) 0 = some (.ptr osk 0 7 0) := hld h1 r1
  simp -implicitDefEqProofs (maxSteps := 1000000) (disch := first | assumption | omega | (simp only [gL] <;> omega) | ((repeat (first | exact Ext.refl _ | assumption | apply Ext.app | apply Ext.mk | (refine Ext.setr ?_ (by (first | omega | (simp only [gL] <;> omega))) _))); done) | (simp only [gL, gA, hix, hld', ro] <;> omega) | fail) only [gB, setAll, partL, fldV, reduceIte, Nat.reduceAdd, Nat.reduceMul, hix, hld', ro]
  refine WP.call (b0P (gv.ext ex1) ok (by omega)) ?_
  rintro _ h2 ⟨rfl, e2⟩
  have ro2 := e2.get ro
  have r2 := r1.frs (D := fun _ => False) (FrS.ofExt e2) ⟨fun z => z, fun z => z, fun z => z, fun z => z⟩
  have hld2 : rdAt h2[oz]? kk (kk + 1) 0 = some (.ptr osk 0 7 0) := hld h2 r2
  obtain ⟨d1, d2⟩ := dm (N := N) (S := D.length) (hn ▸ hid)
  simp -implicitDefEqProofs (maxSteps := 1000000) (disch := first | assumption | omega | (simp only [gL] <;> omega) | ((repeat (first | exact Ext.refl _ | assumption | apply Ext.app | apply Ext.mk | (refine Ext.setr ?_ (by (first | omega | (simp only [gL] <;> omega))) _))); done) | (simp only [gL, gA, hld2, ro2] <;> omega) | fail) only [gB, setAll, partL, fldV, reduceIte, Nat.reduceAdd, Nat.reduceMul, hld2, ro2]
  refine WP.call (hh.call h2 (ex1.trans e2) _ _ (Int.natCast_nonneg _) (Int.ofNat_lt.2 d1) (Int.natCast_nonneg _) (Int.ofNat_lt.2 d2)) ?_
  rintro t112 h3 ⟨e3, g3⟩
  simp -implicitDefEqProofs (maxSteps := 1000000) (disch := first | assumption | omega | (simp only [gL] <;> omega) | ((repeat (first | exact Ext.refl _ | assumption | apply Ext.app | apply Ext.mk | (refine Ext.setr ?_ (by (first | omega | (simp only [gL] <;> omega))) _))); done) | (simp only [gL, gA, g3.sl.lenG] <;> omega) | fail) only [gB, setAll, partL, fldV, reduceIte, Nat.reduceAdd, Nat.reduceMul, g3.sl.lenG]
  have e13 := e2.trans e3
  have ex3 := ex1.trans e13
  have l2 := e2.len
  have l3 := e3.len
  have r3 := r1.frs (D := fun _ => False) (FrS.ofExt e13) ⟨fun z => z, fun z => z, fun z => z, fun z => z⟩
  have s13 := s11.frs (FrS.ofExt (D := fun _ => False) e13) fun _ _ _ z => z
  have s23 := s21.frs (FrS.ofExt (D := fun _ => False) e13) fun _ _ _ z => z
  have fb3 : FrS (fun o => o = ol ∨ hb.length ≤ o) hb h3 := (fr1.mono fun o _ z => .inl z).trans (FrS.ofExt e13)
  refine WP.ent (b4B (L0 := mtL L0 (fnd c1 m1 id) (fnd c2 m2 id)) (hb := h3) (kk := kk) ex3 gv ok hN hn hn2 hg hg' rv hst hen s13 s23 hw hol ⟨by omega, by omega, by omega, by omega⟩
    (hh.tr _ _ (Int.natCast_nonneg _) (Int.ofNat_lt.2 d1) (Int.natCast_nonneg _) (Int.ofNat_lt.2 d2)) (hh.len _ _ (Int.natCast_nonneg _) (Int.ofNat_lt.2 d1) (Int.natCast_nonneg _) (Int.ofNat_lt.2 d2))
    (fun h f => (g3.frs f fun o z1 z2 z3 => by omega).sl) (fun h L f rr ss hm ha => hQ h L (fb3.trans (f.mono fun o z1 z2 => z2.elim .inl fun z => .inr (by omega))) rr ss (fun z => ?_) (fun z1 z2 => ?_) ha) _ 0 h3 _ (Nat.zero_add _) (FrS.refl _ _) r3 (Snd.meet hg hg' rv hst hen s11 s21 s hid) (fun z => ⟨z, Int.le_refl _⟩) (fun t ht => by simp at ht)) fun i => rfl
  · have h5 := a9E (a := fnd c1 m1 id) (b := fnd c2 m2 id) z
    have h6 := hm h5.1
    exact ⟨h6.1, by omega⟩
  · have h5 := b1z (L := L0) z1 z2
    have h6 := hm h5.1
    exact ⟨h6.1, by omega⟩
end
end Go.Gm.A9

namespace Go.Gm.A9
open Go Go.Gm
section
variable {W : Nat → Prop} {h0 h h' : Heap} {os n : Nat} {g : AV} {fh : FuncId} {A : Nat → List Hop} {st : Nat → Prop} {c : Nat → Int} {m : Nat → Option Int} {ls : Int}
variable {N : Nat} {es : List E} {D : List (List Int)} {acc : List Bool} {L : Int → Int → List Tr}
theorem SB.all (e0 : Ext h0 h) (hW : ∀ o, W o → h0.length ≤ o) (gv : GV h0 g N es D acc) (ok : DOk D acc) (co : COk es) (hN : N ≤ 100000) (hn : n = N * D.length) (hn2 : n ≤ 1000000) (hh : HopsOk h0 g N es D fh L) (hst : ∀ x, st x → x < n)
    (s : SB W h os g fh n (hopA es D.length L) st c m ls) :
    Tot tab b1_ [.ptr os 0 7 0] h fun r h' => r = .tup [] ∧ FrS W h h' ∧ ∃ c2 m2 ls2, SB (fun o => W o ∨ h.length ≤ o) h' os g fh n (hopA es D.length L) st c2 m2 ls2 ∧ ∀ x : Nat, x < n → m2 x = none := by
  obtain ⟨q, sc, se, sf, oc, oe, ov, cs, ds, fs, M, id0, k, rk, w, d, u, rfl, rfl⟩ := s
  refine (a9C e0 hW gv ok co hN hn hn2 hh hst w d u).mono ?_
  rintro r h2 ⟨rfl, f2, id2, k2, ls2, rk2, cs2, ds2, fs2, M2, w2, d2, m2, u2⟩
  exact ⟨rfl, f2, gf cs2, gf M2, ls2, ⟨q, sc, se, sf, oc, oe, ov, cs2, ds2, fs2, M2, id2, k2, rk2, w2, d2, u2, rfl, rfl⟩, m2⟩
theorem SB.done (s : SB W h os g fh n A st c m ls) (hg : GOk n 2147483647 A) (hst : ∀ x, st x → x < n) (hm : ∀ x : Nat, x < n → m x = none) {z : Nat} {l : List Nat} {v : Int} (h : Wk A st z l v) : 0 ≤ c z ∧ c z ≤ v ∧ fnd c m z = c z := by
  obtain ⟨q, sc, se, sf, oc, oe, ov, cs, ds, fs, M, id0, k, rk, w, d, u, rfl, rfl⟩ := s
  obtain ⟨h1, h2⟩ := d.all hg hst hm h
  exact ⟨h1, h2, if_pos h1⟩
end
section
variable {hb : Heap} {ot ob ol oz os1 os2 : Nat} {W1 W2 : Nat → Prop} {n : Nat} {g : AV} {f1 f2 : FuncId} {A A' : Nat → List Hop} {st en : Nat → Prop} {c1 c2 : Nat → Int} {m1 m2 : Nat → Option Int} {ls1 ls2 : Int}
theorem b2h {ι : Type} {h : Heap} {L : Int} (r : RowsB h ot ob ol oz os1 os2 L) (k : ι → Nat) [Fuel ι] {Q : AV → Heap → Prop} (hQ : Q (.tup [I (max L 0), .bool (decide (0 ≤ L))]) h) :
    WP (fun p : ι => y6_ tab (k p) (.ptr ol 0 1 0) h) Q := by
  refine WP.congr (fun p => a8g tab (k p) (.ptr ol 0 1 0) h) ?_
  have rl := r.rl
  by_cases h0 : 0 ≤ L
  · have : decide (0 ≤ L) = true := decide_eq_true h0
    rw [this] at hQ
    simp -implicitDefEqProofs (maxSteps := 1000000) (disch := first | assumption | omega | (simp only [gL] <;> omega) | ((repeat (first | exact Ext.refl _ | assumption | apply Ext.app | apply Ext.mk | (refine Ext.setr ?_ (by (first | omega | (simp only [gL] <;> omega))) _))); done) | (simp only [gL, gA, rl] <;> omega) | fail) only [gB, setAll, partL, fldV, reduceIte, Nat.reduceAdd, Nat.reduceMul, rl]
    exact WP.ret hQ
  · have : decide (0 ≤ L) = false := decide_eq_false h0
    rw [this] at hQ
    simp -implicitDefEqProofs (maxSteps := 1000000) (disch := first | assumption | omega | (simp only [gL] <;> omega) | ((repeat (first | exact Ext.refl _ | assumption | apply Ext.app | apply Ext.mk | (refine Ext.setr ?_ (by (first | omega | (simp only [gL] <;> omega))) _))); done) | (simp only [gL, gA, rl] <;> omega) | fail) only [gB, setAll, partL, fldV, reduceIte, Nat.reduceAdd, Nat.reduceMul, rl]
    exact WP.ret hQ
theorem b2i {Q : AV → Heap → Prop} (hn2 : n ≤ 1000000) (hg : GOk n 2147483647 A) (hg' : GOk n 2147483647 A') (rv : Rev n A A') (hst : ∀ x, st x → x < n) (hen : ∀ x, en x → x < n)
    (s1 : SB W1 hb os1 g f1 n A st c1 m1 ls1) (s2 : SB W2 hb os2 g f2 n A' en c2 m2 ls2) (hw : ¬ W1 ol ∧ ¬ W2 ol)
    (hQ : ∀ h L, FrS (fun o => o = ol) hb h → Snd A st en L → (∀ x : Nat, x < n → 0 ≤ fnd c1 m1 x → 0 ≤ fnd c2 m2 x → 0 ≤ L ∧ L ≤ fnd c1 m1 x + fnd c2 m2 x) → Q (.tup [I (max L 0), .bool (decide (0 ≤ L))]) h) :
    ∀ (d i : Nat) (h : Heap) (L : Int), i + d = n → FrS (fun o => o = ol) hb h → RowsB h ot ob ol oz os1 os2 L → Snd A st en L →
      (∀ x : Nat, x < i → 0 ≤ fnd c1 m1 x → 0 ≤ fnd c2 m2 x → 0 ≤ L ∧ L ≤ fnd c1 m1 x + fnd c2 m2 x) →
      WP (fun p : (Nat × Nat) × Nat => y5_ tab p.1.1 p.1.2 p.2 (.ptr ol 0 1 0) (meetV ot ob ol) (I n) (I i) h) Q := by
  intro d
  induction d with
  | zero =>
    intro i h L h1 f r s ha
    refine WP.rnd (fun i' j => a2S tab i'.1 i'.2 j (.ptr ol 0 1 0) (meetV ot ob ol) (I n) (I i) h) ?_
    obtain rfl : i = n := by omega
    simp -implicitDefEqProofs (maxSteps := 1000000) (disch := first | assumption | omega | (simp only [gL] <;> omega) | ((repeat (first | exact Ext.refl _ | assumption | apply Ext.app | apply Ext.mk | (refine Ext.setr ?_ (by (first | omega | (simp only [gL] <;> omega))) _))); done) | (simp only [gL, gA] <;> omega) | fail) only [gB, setAll, partL, fldV, reduceIte, Nat.reduceAdd, Nat.reduceMul]
    exact WP.lv (b2h (ι := Nat × Nat) r (fun p => p.1) (hQ h L f s ha)) fun i j => rfl
  | succ d ih =>
    intro i h L h1 f r s ha
    refine WP.rnd (fun i' j => a2S tab i'.1 i'.2 j (.ptr ol 0 1 0) (meetV ot ob ol) (I n) (I i) h) ?_
    have hin : i < n := by omega
    have s13 := s1.frs f fun o q1 q2 q3 => hw.1 (q3 ▸ q2)
    have s23 := s2.frs f fun o q1 q2 q3 => hw.2 (q3 ▸ q2)
    simp -implicitDefEqProofs (maxSteps := 1000000) (disch := first | assumption | omega | (simp only [gL] <;> omega) | ((repeat (first | exact Ext.refl _ | assumption | apply Ext.app | apply Ext.mk | (refine Ext.setr ?_ (by (first | omega | (simp only [gL] <;> omega))) _))); done) | (simp only [gL, gA] <;> omega) | fail) only [gB, setAll, partL, fldV, reduceIte, Nat.reduceAdd, Nat.reduceMul]
    refine WP.call (b0w s13 s23 hn2 r hin) ?_
    rintro _ h4 ⟨rfl, r4, f4⟩
    refine ih (i + 1) h4 _ (by omega) (f.trans f4) r4 (Snd.meet hg hg' rv hst hen s13 s23 s hin) fun x hx p1 p2 => ?_
    by_cases q : x = i
    · subst q; exact b1z p1 p2
    · have h5 := ha x (by omega) p1 p2
      have h6 := a9E (a := fnd c1 m1 i) (b := fnd c2 m2 i) h5.1
      exact ⟨h6.1, by omega⟩
end
end Go.Gm.A9

namespace Go.Gm.A9
open Go Go.Gm
section
variable {h0 : Heap} {ot ob ol oz os1 os2 : Nat} {n : Nat} {g : AV} {st en : Nat → Prop}
variable {N : Nat} {es : List E} {D : List (List Int)} {acc : List Bool}
def Pl (h0 h : Heap) (ot ob ol oz : Nat) (W : Nat → Prop) : Prop := ∀ o, W o → h0.length ≤ o ∧ o < h.length ∧ o ≠ ot ∧ o ≠ ob ∧ o ≠ ol ∧ o ≠ oz
theorem Pl.grow {h h' : Heap} {W : Nat → Prop} (p : Pl h0 h ot ob ol oz W) (e0 : h0.length ≤ h.length) (e : h.length ≤ h'.length) (hr : ot < h.length ∧ ob < h.length ∧ ol < h.length ∧ oz < h.length) : Pl h0 h' ot ob ol oz (fun o => W o ∨ (h.length ≤ o ∧ o < h'.length)) := by
  intro o z
  rcases z with z | z
  · have := p o z; omega
  · omega
theorem b2j {A A' : Nat → List Hop} {os : Nat} {W1 W2 : Nat → Prop} {h : Heap} {f1 f2 : FuncId} {c1 c2 : Nat → Int} {m1 m2 m1' : Nat → Option Int} {ls1 ls2 key L L' : Int} {id : Nat} {LL : Int → Int → List Tr}
    (hid : id < n) (hneg : c1 id < 0) (hkey : 0 ≤ key) (hg : GOk n 2147483647 (hopA es D.length LL)) (hen : ∀ x, en x → x < n)
    (s1 : SB W1 h os1 g f1 n (hopA es D.length LL) st (up c1 id key) m1' key) (s2 : SB W2 h os2 g f2 n A' en c2 m2 ls2) (mt : Met n (hopA es D.length LL) st en c1 c2 L) (hmono : 0 ≤ L → 0 ≤ L' ∧ L' ≤ L)
    (hme : 0 ≤ fnd (up c1 id key) m1' id → 0 ≤ fnd c2 m2 id → 0 ≤ L' ∧ L' ≤ fnd (up c1 id key) m1' id + fnd c2 m2 id)
    (hal : ∀ t ∈ LL ((id / D.length : Nat) : Int) ((id % D.length : Nat) : Int), 0 ≤ fnd (up c1 id key) m1' (hopOf es D.length t).1 → 0 ≤ fnd c2 m2 (hopOf es D.length t).1 → 0 ≤ L' ∧ L' ≤ fnd (up c1 id key) m1' (hopOf es D.length t).1 + fnd c2 m2 (hopOf es D.length t).1) :
    Met n (hopA es D.length LL) st en (up c1 id key) c2 L' := by
  have e1 : up c1 id key id = key := if_pos rfl
  have e2 : fnd (up c1 id key) m1' id = key := by rw [fnd, e1, if_pos hkey]
  refine mt.step (fun x hx q => if_neg q) hmono (fun q => ?_) fun y e w hh hd => ?_
  · have h1 := s2.st0 hid q
    have h2 := hme (by omega) (by omega)
    rw [e2, h1] at h2
    rw [e1]; omega
  · obtain ⟨t, ht, h1⟩ := List.mem_map.1 hh
    have hy := (hg.hop id hid _ _ _ hh).1
    have h2 := s1.hop hid (by rw [e1]; exact hkey) hh hy
    have h3 : (hopOf es D.length t).1 = y := by rw [h1]
    have h4 := hal t ht
    rw [h3] at h4
    have h5 : fnd c2 m2 y = c2 y := if_pos hd
    have h6 := h4 h2.1 (by rw [h5]; exact hd)
    rw [h5] at h6
    have h7 := h2.2
    omega
end
end Go.Gm.A9

namespace Go.Gm.A9
open Go Go.Gm
theorem b2C {ι : Type} [Fuel ι] {h : Heap} {ot oB ol oz os1 os2 : Nat} {L ls1 ls2 : Int} {a1 b1 q1 x1 y1 z1 a2 b2 q2 x2 y2 z2 : AV} {K : ι → AV → Heap → Option (AV × Heap)} {Q : AV → Heap → Prop} (r : RowsB h ot oB ol oz os1 os2 L)
    (r1 : h[os1]? = some (.cells ⟨[a1, b1, q1, x1, y1, z1, I ls1], 0, 0, false⟩)) (r2 : h[os2]? = some (.cells ⟨[a2, b2, q2, x2, y2, z2, I ls2], 0, 0, false⟩)) (h1 : 0 ≤ ls1 ∧ ls1 ≤ 4000000000000000000) (h2 : 0 ≤ ls2 ∧ ls2 ≤ 4000000000000000000)
    (hQ : WP (fun i => K i (.bool (decide (L < 0 ∨ ls1 + ls2 < L))) h) Q) :
    WP (fun i =>
    oa (ld1 h (.ptr ol 0 1 0)) fun t129_1 =>
    oa (binV .lss .scalar t129_1 (.int .i64 0)) fun t130_2 =>
    ob (gd t130_2 false (pure1 h (ld1 h (.ptr ot 0 1 0))) h) fun t132_3 h_4 =>
    ob (gd t130_2 false (pure1 h_4 (nilCk t132_3)) h_4) fun t133_5 h_6 =>
    ob (gd t130_2 false (pure1 h_6 (fldA 6 t133_5)) h_6) fun t134_7 h_8 =>
    ob (gd t130_2 false (pure1 h_8 (ld1 h_8 t134_7)) h_8) fun t135_9 h_10 =>
    ob (gd t130_2 false (pure1 h_10 (ld1 h_10 (.ptr oB 0 1 0))) h_10) fun t136_11 h_12 =>
    ob (gd t130_2 false (pure1 h_12 (nilCk t136_11)) h_12) fun t137_13 h_14 =>
    ob (gd t130_2 false (pure1 h_14 (fldA 6 t137_13)) h_14) fun t138_15 h_16 =>
    ob (gd t130_2 false (pure1 h_16 (ld1 h_16 t138_15)) h_16) fun t139_17 h_18 =>
    ob (gd t130_2 false (pure1 h_18 (binV .add .scalar t135_9 t139_17)) h_18) fun t140_19 h_20 =>
    ob (gd t130_2 false (pure1 h_20 (ld1 h_20 (.ptr ol 0 1 0))) h_20) fun t141_21 h_22 =>
    ob (gd t130_2 false (pure1 h_22 (binV .lss .scalar t140_19 t141_21)) h_22) fun t142_23 h_24 =>
    oa (pickV t130_2 (.bool true) t142_23) fun t143_25 => K i t143_25 h_24) Q := by
  have rt := r.rt
  have rb := r.rb
  have rl := r.rl
  by_cases q0 : L < 0
  · rw [decide_eq_true (Or.inl q0)] at hQ
    simp -implicitDefEqProofs (maxSteps := 1000000) (disch := first | assumption | omega | (simp only [gL] <;> omega) | ((repeat (first | exact Ext.refl _ | assumption | apply Ext.app | apply Ext.mk | (refine Ext.setr ?_ (by (first | omega | (simp only [gL] <;> omega))) _))); done) | (simp only [gL, gA, rt, rb, rl, r1, r2] <;> omega) | fail) only [gB, setAll, partL, fldV, reduceIte, Nat.reduceAdd, Nat.reduceMul, rt, rb, rl, r1, r2]
    exact hQ
  · by_cases q1 : ls1 + ls2 < L
    · rw [decide_eq_true (Or.inr q1)] at hQ
      simp -implicitDefEqProofs (maxSteps := 1000000) (disch := first | assumption | omega | (simp only [gL] <;> omega) | ((repeat (first | exact Ext.refl _ | assumption | apply Ext.app | apply Ext.mk | (refine Ext.setr ?_ (by (first | omega | (simp only [gL] <;> omega))) _))); done) | (simp only [gL, gA, rt, rb, rl, r1, r2] <;> omega) | fail) only [gB, setAll, partL, fldV, reduceIte, Nat.reduceAdd, Nat.reduceMul, rt, rb, rl, r1, r2]
      exact hQ
    · rw [decide_eq_false (fun z => z.elim q0 q1)] at hQ
      simp -implicitDefEqProofs (maxSteps := 1000000) (disch := first | assumption | omega | (simp only [gL] <;> omega) | ((repeat (first | exact Ext.refl _ | assumption | apply Ext.app | apply Ext.mk | (refine Ext.setr ?_ (by (first | omega | (simp only [gL] <;> omega))) _))); done) | (simp only [gL, gA, rt, rb, rl, r1, r2] <;> omega) | fail) only [gB, setAll, partL, fldV, reduceIte, Nat.reduceAdd, Nat.reduceMul, rt, rb, rl, r1, r2]
      exact hQ
section
variable {h0 : Heap} {ot ob ol oz os1 os2 n : Nat} {g : AV} {f1 f2 : FuncId} {st en : Nat → Prop} {L1 L2 : Int → Int → List Tr}
variable {N : Nat} {es : List E} {D : List (List Int)} {acc : List Bool}
structure BI (h0 h : Heap) (ot ob ol oz os1 os2 n : Nat) (g : AV) (f1 f2 : FuncId) (st en : Nat → Prop) (A1 A2 : Nat → List Hop) (W1 W2 : Nat → Prop) (c1 c2 : Nat → Int) (m1 m2 : Nat → Option Int) (ls1 ls2 L : Int) : Prop where
  ex : Ext h0 h
  sa : SB W1 h os1 g f1 n A1 st c1 m1 ls1
  sb : SB W2 h os2 g f2 n A2 en c2 m2 ls2
  ka : LsOk n m1 ls1
  kb : LsOk n m2 ls2
  rr : RowsB h ot ob ol oz os1 os2 L
  sn : Snd A1 st en L
  mt : Met n A1 st en c1 c2 L
  pa : Pl h0 h ot ob ol oz W1
  pb : Pl h0 h ot ob ol oz W2
  dj : ∀ o, W1 o → ¬ W2 o
theorem b4C (gv : GV h0 g N es D acc) (ok : DOk D acc) (co : COk es) (hN : N ≤ 100000) (hn : n = N * D.length) (hn2 : n ≤ 1000000) (hh1 : HopsOk h0 g N es D f1 L1) (hh2 : HopsOk h0 g N es D f2 L2) (rv : Rev n (hopA es D.length L1) (hopA es D.length L2)) (hst : ∀ x, st x → x < n) (hen : ∀ x, en x → x < n)
    (hro : h0.length ≤ ot ∧ h0.length ≤ ob ∧ h0.length ≤ ol ∧ h0.length ≤ oz) {Q : AV → Heap → Prop}
    (hQ : ∀ h L, Ext h0 h → Snd (hopA es D.length L1) st en L → (∀ z l v, en z → Wk (hopA es D.length L1) st z l v → 0 ≤ L ∧ L ≤ v) → Q (.tup [I (max L 0), .bool (decide (0 ≤ L))]) h) :
    ∀ (d : Nat) (W1 W2 : Nat → Prop) (c1 c2 : Nat → Int) (m1 m2 : Nat → Option Int) (ls1 ls2 L : Int) (h : Heap) (kk : Int), un n c1 + un n c2 < d → (kk = 0 ∨ kk = 1) →
      BI h0 h ot ob ol oz os1 os2 n g f1 f2 st en (hopA es D.length L1) (hopA es D.length L2) W1 W2 c1 c2 m1 m2 ls1 ls2 L →
      WP (fun p : Nat × Nat => y4_ tab p.1 p.2 g (.ptr ot 0 1 0) (.ptr ob 0 1 0) (.ptr ol 0 1 0) (meetV ot ob ol) (.ptr oz 0 2 0) (I kk) h) Q := by
  have hg1 : GOk n 2147483647 (hopA es D.length L1) := hn ▸ hh1.gok co
  have hg2 : GOk n 2147483647 (hopA es D.length L2) := hn ▸ hh2.gok co
  intro d
  induction d with
  | zero =>
    intro W1 W2 c1 c2 m1 m2 ls1 ls2 L h kk hd
    have := o7_ n c1
    have := o7_ n c2
    omega
  | succ d ih =>
    intro W1 W2 c1 c2 m1 m2 ls1 ls2 L h kk hd hk b
    refine WP.rnd (fun i j => a8i tab i j g (.ptr ot 0 1 0) (.ptr ob 0 1 0) (.ptr ol 0 1 0) (meetV ot ob ol) (.ptr oz 0 2 0) (I kk) h) ?_
    obtain ⟨ws1, a1, a2, a3, a4, ro1⟩ := b.sa.row
    obtain ⟨ws2, b1, b2, b3, b4, ro2⟩ := b.sb.row
    refine b2C b.rr ro1 ro2 ⟨b.ka.1, b.ka.2.1⟩ ⟨b.kb.1, b.kb.2.1⟩ ?_
    have lt := fun {o : Nat} {x : AObj} (z : h[o]? = some x) => (List.getElem?_eq_some_iff.1 z).1
    have hlt := lt b.rr.rt
    have hlb := lt b.rr.rb
    have hll := lt b.rr.rl
    have hlz := lt b.rr.rz
    have e0 := b.ex.len
    have w1l : ¬ W1 ol := fun z => (b.pa _ z).2.2.2.2.1 rfl
    have w2l : ¬ W2 ol := fun z => (b.pb _ z).2.2.2.2.1 rfl
    have na : ¬ W1 ot ∧ ¬ W1 ob ∧ ¬ W1 ol ∧ ¬ W1 oz := ⟨fun z => (b.pa _ z).2.2.1 rfl, fun z => (b.pa _ z).2.2.2.1 rfl, w1l, fun z => (b.pa _ z).2.2.2.2.2 rfl⟩
    have nb : ¬ W2 ot ∧ ¬ W2 ob ∧ ¬ W2 ol ∧ ¬ W2 oz := ⟨fun z => (b.pb _ z).2.2.1 rfl, fun z => (b.pb _ z).2.2.2.1 rfl, w2l, fun z => (b.pb _ z).2.2.2.2.2 rfl⟩
    by_cases hc : L < 0 ∨ ls1 + ls2 < L
    · rw [decide_eq_true hc]
      have hix0 : idxA 2 1 (.ptr oz 0 2 0) (I 0) = some (.ptr oz 0 1 0) := by simp [idxA, I]
      have hix1 : idxA 2 1 (.ptr oz 0 2 0) (I 1) = some (.ptr oz 1 2 0) := by simp [idxA, I]
      have hld0 : ∀ {h' : Heap} {L' : Int}, RowsB h' ot ob ol oz os1 os2 L' → rdAt h'[oz]? 0 1 0 = some (.ptr os1 0 7 0) := by
        intro h' L' r'
        rw [r'.rz]; simp [rdAt]
      have hld1 : ∀ {h' : Heap} {L' : Int}, RowsB h' ot ob ol oz os1 os2 L' → rdAt h'[oz]? 1 2 0 = some (.ptr os2 0 7 0) := by
        intro h' L' r'
        rw [r'.rz]; simp [rdAt]
      rcases hk with rfl | rfl
      · have hx := hld0 b.rr
        simp -implicitDefEqProofs (maxSteps := 1000000) (disch := first | assumption | omega | (simp only [gL] <;> omega) | ((repeat (first | exact Ext.refl _ | assumption | apply Ext.app | apply Ext.mk | (refine Ext.setr ?_ (by (first | omega | (simp only [gL] <;> omega))) _))); done) | (simp only [gL, gA, hix0, hx] <;> omega) | fail) only [gB, setAll, partL, fldV, reduceIte, Nat.reduceAdd, Nat.reduceMul, hix0, hx]
        refine WP.call (b.sa.step b.ex (fun o z => (b.pa o z).1) gv ok co hN hn hn2 hh1 hst) ?_
        rintro _ h2 ⟨fa, ⟨rfl, hm, sa2⟩ | ⟨id, key, m1', i1, i2, i3, rfl, sa2, lo2⟩⟩
        · have l2 := fa.len
          have ex2 : Ext h0 h2 := fa.ext b.ex fun o q1 q2 => by have := (b.pa o q2).1; omega
          have r2 := b.rr.frs fa na
          have sb2 := b.sb.frs fa fun o q1 q2 q3 => b.dj o q3 q2
          have hx2 := hld1 r2
          simp -implicitDefEqProofs (maxSteps := 1000000) (disch := first | assumption | omega | (simp only [gL] <;> omega) | ((repeat (first | exact Ext.refl _ | assumption | apply Ext.app | apply Ext.mk | (refine Ext.setr ?_ (by (first | omega | (simp only [gL] <;> omega))) _))); done) | (simp only [gL, gA, a4_, a5_, show (1 : Int) - 0 = 1 from rfl, hix1, hx2] <;> omega) | fail) only [gB, setAll, partL, fldV, reduceIte, Nat.reduceAdd, Nat.reduceMul, a4_, a5_, show (1 : Int) - 0 = 1 from rfl, hix1, hx2]
          refine WP.call (sb2.all ex2 (fun o z => (b.pb o z).1) gv ok co hN hn hn2 hh2 hen) ?_
          rintro _ h3 ⟨rfl, fb, c2', m2', ls2', sb3, hm2⟩
          have l3 := fb.len
          have ex3 : Ext h0 h3 := fb.ext ex2 fun o q1 q2 => by have := (b.pb o q2).1; omega
          have r3 := r2.frs fb nb
          have sa3 := sa2.frs fb fun o q1 q2 q3 => q2.elim (fun z => b.dj o z q3) fun z => by have := (b.pb o q3).2.1; omega
          have rt := r3.rt
          obtain ⟨sc, ob', g3, row3⟩ : ∃ sc, (∃ x : AObj, True) ∧ lenS sc = some (I n) ∧ ∃ q se sf, h3[os1]? = some (.cells ⟨[g, .fn f1 [] [], q, sc, se, sf, I ls1], 0, 0, false⟩) := by
            obtain ⟨q, sc, se, sf, oc, oe, ov, cs, ds, fs, M, id, k, rk, w, _⟩ := sa3
            refine ⟨sc, ⟨.cells ⟨[], 0, 0, false⟩, trivial⟩, ?_, q, se, sf, w.row⟩
            have := w.gc.sl.len
            rw [List.length_map, w.lc] at this
            exact this
          obtain ⟨q, se, sf, row3⟩ := row3
          simp -implicitDefEqProofs (maxSteps := 1000000) (disch := first | assumption | omega | (simp only [gL] <;> omega) | ((repeat (first | exact Ext.refl _ | assumption | apply Ext.app | apply Ext.mk | (refine Ext.setr ?_ (by (first | omega | (simp only [gL] <;> omega))) _))); done) | (simp only [gL, gA, rt, row3, g3] <;> omega) | fail) only [gB, setAll, partL, fldV, reduceIte, Nat.reduceAdd, Nat.reduceMul, rt, row3, g3]
          refine WP.ent (b2i hn2 hg1 hg2 rv hst hen sa3 sb3 ⟨fun z => z.elim w1l fun z => by omega, fun z => z.elim w2l fun z => by omega⟩ (fun h' L' f s ha => hQ h' L' (f.ext ex3 fun o q1 q2 => by omega) s fun z l v hz hw => ?_) n 0 h3 L (Nat.zero_add _) (FrS.refl _ _) r3 b.sn (fun x hx => absurd hx (by omega))) fun i => rfl
          have h5 := sa3.done hg1 hst hm hw
          have h6 := sb3.st0 (hen z hz) hz
          have h7 := ha z (hen z hz) (by omega) (by omega)
          omega
        · have l2 := fa.len
          have ex2 : Ext h0 h2 := fa.ext b.ex fun o q1 q2 => by have := (b.pa o q2).1; omega
          have r2 := b.rr.frs fa na
          have sb2 := b.sb.frs fa fun o q1 q2 q3 => b.dj o q3 q2
          have sa3 := sa2.mono (W' := fun o => W1 o ∨ (h.length ≤ o ∧ o < h2.length)) fun o q1 q2 => q2.elim .inl fun z => .inr ⟨z, q1⟩
          have pa2 := b.pa.grow e0 l2 ⟨hlt, hlb, hll, hlz⟩
          have w1l' : ¬ (W1 ol ∨ (h.length ≤ ol ∧ ol < h2.length)) := fun z => z.elim w1l fun z => by omega
          simp -implicitDefEqProofs (maxSteps := 1000000) (disch := first | assumption | omega | (simp only [gL] <;> omega) | ((repeat (first | exact Ext.refl _ | assumption | apply Ext.app | apply Ext.mk | (refine Ext.setr ?_ (by (first | omega | (simp only [gL] <;> omega))) _))); done) | (simp only [gL, gA, a4_, a5_] <;> omega) | fail) only [gB, setAll, partL, fldV, reduceIte, Nat.reduceAdd, Nat.reduceMul, a4_, a5_]
          refine b2g (L0 := L) ex2 gv ok hN hn hn2 hg1 hg2 rv hst hen sa3 sb2 ⟨w1l', w2l⟩ hro.2.2.1 sa3 w1l' (.inl ⟨rfl, rfl⟩) hh1 i1 r2 b.sn ?_
          intro h4 L' f4 r4 sn4 hmo hme hal
          refine WP.congr (fun p => a2T tab p.1 p.2 g (.ptr ot 0 1 0) (.ptr ob 0 1 0) (.ptr ol 0 1 0) (meetV ot ob ol) (.ptr oz 0 2 0) (I 0) h4) ?_
          have l4 := f4.len
          have sa4 := sa3.frs f4 fun o q1 q2 q3 => q3.elim (fun z => w1l' (z ▸ q2)) fun z => by omega
          have sb4 := sb2.frs f4 fun o q1 q2 q3 => q3.elim (fun z => w2l (z ▸ q2)) fun z => by omega
          have hu := un_up (n := n) (c := c1) (y := id) (v := key) i1 i3
          rw [if_pos i2] at hu
          simp -implicitDefEqProofs (maxSteps := 1000000) (disch := first | assumption | omega | (simp only [gL] <;> omega) | ((repeat (first | exact Ext.refl _ | assumption | apply Ext.app | apply Ext.mk | (refine Ext.setr ?_ (by (first | omega | (simp only [gL] <;> omega))) _))); done) | (simp only [gL, gA] <;> omega) | fail) only [gB, setAll, partL, fldV, reduceIte, Nat.reduceAdd, Nat.reduceMul]
          refine ih (fun o => W1 o ∨ (h.length ≤ o ∧ o < h2.length)) W2 (up c1 id key) c2 m1' m2 key ls2 L' h4 1 (by omega) (.inr rfl) ⟨f4.ext ex2 fun o q1 q2 => by omega, sa4, sb4, lo2, b.kb, r4, sn4, b2j (os := 0) (A := fun _ => []) (m1 := m1) (ls1 := 0) i1 i2 i3 hg1 hen sa4 sb4 b.mt hmo hme hal, fun o z => ?_, fun o z => ?_, fun o z1 z2 => ?_⟩
          · have := pa2 o z
            exact ⟨this.1, by omega, this.2.2⟩
          · have := b.pb o z
            exact ⟨this.1, by omega, this.2.2⟩
          · rcases z1 with z1 | z1
            · exact b.dj o z1 z2
            · have := b.pb o z2
              omega
      · have hx := hld1 b.rr
        simp -implicitDefEqProofs (maxSteps := 1000000) (disch := first | assumption | omega | (simp only [gL] <;> omega) | ((repeat (first | exact Ext.refl _ | assumption | apply Ext.app | apply Ext.mk | (refine Ext.setr ?_ (by (first | omega | (simp only [gL] <;> omega))) _))); done) | (simp only [gL, gA, hix1, hx] <;> omega) | fail) only [gB, setAll, partL, fldV, reduceIte, Nat.reduceAdd, Nat.reduceMul, hix1, hx]
        refine WP.call (b.sb.step b.ex (fun o z => (b.pb o z).1) gv ok co hN hn hn2 hh2 hen) ?_
        rintro _ h2 ⟨fa, ⟨rfl, hm, sb2⟩ | ⟨id, key, m2', i1, i2, i3, rfl, sb2, lo2⟩⟩
        · have l2 := fa.len
          have ex2 : Ext h0 h2 := fa.ext b.ex fun o q1 q2 => by have := (b.pb o q2).1; omega
          have r2 := b.rr.frs fa nb
          have sa2 := b.sa.frs fa fun o q1 q2 q3 => b.dj o q2 q3
          have hx2 := hld0 r2
          simp -implicitDefEqProofs (maxSteps := 1000000) (disch := first | assumption | omega | (simp only [gL] <;> omega) | ((repeat (first | exact Ext.refl _ | assumption | apply Ext.app | apply Ext.mk | (refine Ext.setr ?_ (by (first | omega | (simp only [gL] <;> omega))) _))); done) | (simp only [gL, gA, a4_, a5_, show (1 : Int) - 1 = 0 from rfl, hix0, hx2] <;> omega) | fail) only [gB, setAll, partL, fldV, reduceIte, Nat.reduceAdd, Nat.reduceMul, a4_, a5_, show (1 : Int) - 1 = 0 from rfl, hix0, hx2]
          refine WP.call (sa2.all ex2 (fun o z => (b.pa o z).1) gv ok co hN hn hn2 hh1 hst) ?_
          rintro _ h3 ⟨rfl, fb, c1', m1', ls1', sa3, hm2⟩
          have l3 := fb.len
          have ex3 : Ext h0 h3 := fb.ext ex2 fun o q1 q2 => by have := (b.pa o q2).1; omega
          have r3 := r2.frs fb na
          have sb3 := sb2.frs fb fun o q1 q2 q3 => q2.elim (fun z => b.dj o q3 z) fun z => by have := (b.pa o q3).2.1; omega
          have rt := r3.rt
          obtain ⟨sc, g3, row3⟩ : ∃ sc, lenS sc = some (I n) ∧ ∃ q se sf, h3[os1]? = some (.cells ⟨[g, .fn f1 [] [], q, sc, se, sf, I ls1'], 0, 0, false⟩) := by
            obtain ⟨q, sc, se, sf, oc, oe, ov, cs, ds, fs, M, id, k, rk, w, _⟩ := sa3
            refine ⟨sc, ?_, q, se, sf, w.row⟩
            have := w.gc.sl.len
            rw [List.length_map, w.lc] at this
            exact this
          obtain ⟨q, se, sf, row3⟩ := row3
          simp -implicitDefEqProofs (maxSteps := 1000000) (disch := first | assumption | omega | (simp only [gL] <;> omega) | ((repeat (first | exact Ext.refl _ | assumption | apply Ext.app | apply Ext.mk | (refine Ext.setr ?_ (by (first | omega | (simp only [gL] <;> omega))) _))); done) | (simp only [gL, gA, rt, row3, g3] <;> omega) | fail) only [gB, setAll, partL, fldV, reduceIte, Nat.reduceAdd, Nat.reduceMul, rt, row3, g3]
          refine WP.ent (b2i hn2 hg1 hg2 rv hst hen sa3 sb3 ⟨fun z => z.elim w1l fun z => by omega, fun z => z.elim w2l fun z => by omega⟩ (fun h' L' f s ha => hQ h' L' (f.ext ex3 fun o q1 q2 => by omega) s fun z l v hz hw => ?_) n 0 h3 L (Nat.zero_add _) (FrS.refl _ _) r3 b.sn (fun x hx => absurd hx (by omega))) fun i => rfl
          have h5 := sa3.done hg1 hst hm2 hw
          have h6 := sb3.st0 (hen z hz) hz
          have h7 := ha z (hen z hz) (by omega) (by omega)
          omega
        · have l2 := fa.len
          have ex2 : Ext h0 h2 := fa.ext b.ex fun o q1 q2 => by have := (b.pb o q2).1; omega
          have r2 := b.rr.frs fa nb
          have sa2 := b.sa.frs fa fun o q1 q2 q3 => b.dj o q2 q3
          have sb3 := sb2.mono (W' := fun o => W2 o ∨ (h.length ≤ o ∧ o < h2.length)) fun o q1 q2 => q2.elim .inl fun z => .inr ⟨z, q1⟩
          have pb2 := b.pb.grow e0 l2 ⟨hlt, hlb, hll, hlz⟩
          have w2l' : ¬ (W2 ol ∨ (h.length ≤ ol ∧ ol < h2.length)) := fun z => z.elim w2l fun z => by omega
          simp -implicitDefEqProofs (maxSteps := 1000000) (disch := first | assumption | omega | (simp only [gL] <;> omega) | ((repeat (first | exact Ext.refl _ | assumption | apply Ext.app | apply Ext.mk | (refine Ext.setr ?_ (by (first | omega | (simp only [gL] <;> omega))) _))); done) | (simp only [gL, gA, a4_, a5_] <;> omega) | fail) only [gB, setAll, partL, fldV, reduceIte, Nat.reduceAdd, Nat.reduceMul, a4_, a5_]
          refine b2g (L0 := L) ex2 gv ok hN hn hn2 hg1 hg2 rv hst hen sa2 sb3 ⟨w1l, w2l'⟩ hro.2.2.1 sb3 w2l' (.inr ⟨rfl, rfl⟩) hh2 i1 r2 b.sn ?_
          intro h4 L' f4 r4 sn4 hmo hme hal
          refine WP.congr (fun p => a2T tab p.1 p.2 g (.ptr ot 0 1 0) (.ptr ob 0 1 0) (.ptr ol 0 1 0) (meetV ot ob ol) (.ptr oz 0 2 0) (I 1) h4) ?_
          have l4 := f4.len
          have sb4 := sb3.frs f4 fun o q1 q2 q3 => q3.elim (fun z => w2l' (z ▸ q2)) fun z => by omega
          have sa4 := sa2.frs f4 fun o q1 q2 q3 => q3.elim (fun z => w1l (z ▸ q2)) fun z => by omega
          have hu := un_up (n := n) (c := c2) (y := id) (v := key) i1 i3
          rw [if_pos i2] at hu
          simp -implicitDefEqProofs (maxSteps := 1000000) (disch := first | assumption | omega | (simp only [gL] <;> omega) | ((repeat (first | exact Ext.refl _ | assumption | apply Ext.app | apply Ext.mk | (refine Ext.setr ?_ (by (first | omega | (simp only [gL] <;> omega))) _))); done) | (simp only [gL, gA] <;> omega) | fail) only [gB, setAll, partL, fldV, reduceIte, Nat.reduceAdd, Nat.reduceMul]
          refine ih W1 (fun o => W2 o ∨ (h.length ≤ o ∧ o < h2.length)) c1 (up c2 id key) m1 m2' ls1 key L' h4 0 (by omega) (.inl rfl) ⟨f4.ext ex2 fun o q1 q2 => by omega, sa4, sb4, b.ka, lo2, r4, sn4, (b2j (os := 0) (A := fun _ => []) (m1 := m1) (ls1 := 0) i1 i2 i3 hg2 hst sb4 sa4 (b.mt.symm hg1 hg2 rv) hmo (fun z1 z2 => ?_) (fun t ht z1 z2 => ?_)).symm hg2 hg1 rv.symm, fun o z => ?_, fun o z => ?_, fun o z1 z2 => ?_⟩
          · have := hme z2 z1
            omega
          · have := hal t ht z2 z1
            omega
          · have := b.pa o z
            exact ⟨this.1, by omega, this.2.2⟩
          · have := pb2 o z
            exact ⟨this.1, by omega, this.2.2⟩
          · rcases z2 with z2 | z2
            · exact b.dj o z1 z2
            · have := b.pa o z1
              omega
    · rw [decide_eq_false hc]
      simp -implicitDefEqProofs (maxSteps := 1000000) (disch := first | assumption | omega | (simp only [gL] <;> omega) | ((repeat (first | exact Ext.refl _ | assumption | apply Ext.app | apply Ext.mk | (refine Ext.setr ?_ (by (first | omega | (simp only [gL] <;> omega))) _))); done) | (simp only [gL, gA] <;> omega) | fail) only [gB, setAll, partL, fldV, reduceIte, Nat.reduceAdd, Nat.reduceMul]
      refine b2h (ι := Nat × Nat) b.rr (fun p => p.1) (hQ h L b.ex b.sn fun z l v hz hw => ?_)
      have h5 := b.mt.least hg1 hg2 rv hst hen (b.sa.half b.ka hg1 hst) (b.sb.half b.kb hg2 hen) (by omega) (fun x hx h0 => ?_) hz hw
      · omega
      · have h6 := b.sa.st0 (hst x hx) hx
        rw [fnd, if_pos h0] at h6
        omega
end
end Go.Gm.A9

namespace Go.Gm.A9
open Go Go.Gm
theorem a4A {c : Nat → Int} {acc : List Bool} {b : Nat} : ∀ n, (bv c acc b n = -1 ∧ ∀ q : Nat, q < n → gi acc (q : Int) = true → c (b + q) < 0) ∨
    (∃ q : Nat, q < n ∧ gi acc (q : Int) = true ∧ 0 ≤ c (b + q) ∧ bv c acc b n = c (b + q) ∧ ∀ q' : Nat, q' < n → gi acc (q' : Int) = true → 0 ≤ c (b + q') → bv c acc b n ≤ c (b + q'))
  | 0 => .inl ⟨rfl, fun q h => by omega⟩
  | n + 1 => by
    by_cases t : gi acc n = true ∧ 0 ≤ c (b + n) ∧ (bv c acc b n < 0 ∨ c (b + n) < bv c acc b n)
    · have e : bv c acc b (n + 1) = c (b + n) := if_pos t
      refine .inr ⟨n, by omega, t.1, t.2.1, e, fun q hq h1 h2 => ?_⟩
      rw [e]
      by_cases hn : q = n
      · subst hn; omega
      · rcases a4A (c := c) (acc := acc) (b := b) n with ⟨k1, k2⟩ | ⟨q', k1, k2, k3, k4, k5⟩
        · have := k2 q (by omega) h1
          omega
        · have := k5 q (by omega) h1 h2
          omega
    · have e : bv c acc b (n + 1) = bv c acc b n := if_neg t
      rcases a4A (c := c) (acc := acc) (b := b) n with ⟨k1, k2⟩ | ⟨q', k1, k2, k3, k4, k5⟩
      · refine .inl ⟨by rw [e]; exact k1, fun q hq h1 => ?_⟩
        by_cases hn : q = n
        · subst hn
          exact Classical.byContradiction fun z => t ⟨h1, by omega, .inl (by omega)⟩
        · exact k2 q (by omega) h1
      · refine .inr ⟨q', by omega, k2, k3, by rw [e]; exact k4, fun q hq h1 h2 => ?_⟩
        rw [e]
        by_cases hn : q = n
        · subst hn
          exact Classical.byContradiction fun z => t ⟨h1, h2, .inr (by omega)⟩
        · exact k5 q (by omega) h1 h2
theorem b0x {c : Nat → Int} : ∀ n, un n c = n → ∀ x : Nat, x < n → c x < 0
  | 0, _ => fun x hx => by omega
  | n + 1, h => by
    have h1 := un_le n c
    have h2 : un (n + 1) c = un n c + if c n < 0 then 1 else 0 := rfl
    intro x hx
    by_cases q : c n < 0
    · rw [if_pos q] at h2
      by_cases hn : x = n
      · subst hn; exact q
      · exact b0x n (by omega) x (by omega)
    · rw [if_neg q] at h2
      omega
def endsL (acc : List Bool) (u : Int) (n : Nat) : List (Int × Int) := ((List.range n).filter fun (q : Nat) => gi acc (q : Int)).map fun (q : Nat) => (u, (q : Int))
theorem b0h (acc : List Bool) (u : Int) (n : Nat) : endsL acc u (n + 1) = endsL acc u n ++ if gi acc (n : Int) = true then [(u, (n : Int))] else [] := by
  simp only [endsL, List.range_succ, List.filter_append, List.map_append]
  congr 1
  by_cases q : gi acc (n : Int) = true
  · simp [List.filter, q]
  · simp [List.filter, q]
theorem a8F {acc : List Bool} {u : Int} {n : Nat} {a : Int × Int} : a ∈ endsL acc u n ↔ ∃ q : Nat, q < n ∧ gi acc (q : Int) = true ∧ a = (u, (q : Int)) := by
  simp only [endsL, List.mem_map, List.mem_filter, List.mem_range]
  constructor
  · rintro ⟨q, ⟨h1, h2⟩, rfl⟩; exact ⟨q, h1, h2, rfl⟩
  · rintro ⟨q, h1, h2, rfl⟩; exact ⟨q, ⟨h1, h2⟩, rfl⟩
theorem b0R (acc : List Bool) (u : Int) (n : Nat) : (endsL acc u n).length ≤ n := by
  simp only [endsL, List.length_map]
  exact Nat.le_trans (List.length_filter_le ..) (by simp)
theorem a8R {acc : List Bool} {S u : Nat} {x : Nat} : atSt S (endsL acc (u : Int) S) x ↔ ∃ q : Nat, q < S ∧ gi acc (q : Int) = true ∧ x = u * S + q := by
  constructor
  · rintro ⟨a, h1, h2⟩
    obtain ⟨q, k1, k2, rfl⟩ := a8F.1 h1
    refine ⟨q, k1, k2, ?_⟩
    simp only at h2
    rw [← Int.natCast_mul] at h2
    omega
  · rintro ⟨q, k1, k2, rfl⟩
    refine ⟨_, a8F.2 ⟨q, k1, k2, rfl⟩, ?_⟩
    simp only
    rw [← Int.natCast_mul]
    omega
section
variable {h0 : Heap} {N : Nat} {es : List E} {D : List (List Int)} {acc : List Bool}
theorem b4D {h : Heap} {g en : AV} {n u ot os1 : Nat} {W1 : Nat → Prop} {st : Nat → Prop} {c1 : Nat → Int} {m1 : Nat → Option Int} {Q : AV → Heap → Prop}
    (gv : GV h0 g N es D acc) (ok : DOk D acc) (no : NetOk N es) (co : COk es) (hN : N ≤ 100000) (hn : n = N * D.length) (hn2 : n ≤ 1000000) (hl : es.length * D.length ≤ 10000000) (hu : u < N) (hst : ∀ x, st x → x < n) (e0 : Ext h0 h)
    (s1 : SB W1 h os1 g a8_ n (hopA es D.length (onL es D)) st c1 m1 0) (k1 : LsOk n m1 0) (hc1 : ∀ x, x < n → c1 x < 0) (p1 : ∀ o, W1 o → h0.length ≤ o ∧ o < ot) (hot : h0.length ≤ ot)
    (rt : h[ot]? = some (.cells ⟨[.ptr os1 0 7 0], 0, 0, false⟩)) (hen : Sl h 2 en ((endsL acc u D.length).map encP2))
    (hQ : ∀ h' L, Ext h0 h' → Snd (hopA es D.length (onL es D)) st (atSt D.length (endsL acc u D.length)) L → (∀ z l v, atSt D.length (endsL acc u D.length) z → Wk (hopA es D.length (onL es D)) st z l v → 0 ≤ L ∧ L ≤ v) → Q (.tup [I (max L 0), .bool (decide (0 ≤ L))]) h') :
    WP (fun i : Nat => a1T tab i g (.ptr ot 0 1 0) en h) Q := by
  refine WP.congr (fun i : Nat => a8j tab i g (.ptr ot 0 1 0) en h) ?_
  have hl1 := ok.l1
  have hel := b0R acc u D.length
  refine WP.call (a3T (n := n) (gv.ext e0) ok hN hn hn2 hen (fun a z => ?_) (by omega) (hopA es D.length (backL es D))) ?_
  · obtain ⟨q, q1, q2, rfl⟩ := a8F.1 z
    exact ⟨by show (0 : Int) ≤ u; omega, by show (u : Int) < N; omega, by show (0 : Int) ≤ q; omega, by show (q : Int) < D.length; omega⟩
  rintro _ h2 ⟨e2, os2, q, sc, se, sf, oc, oe, ov, cs, ds, fs, M, rfl, w2, d2, u2⟩
  have l0 := e0.len
  have l2 := e2.len
  have lot := (List.getElem?_eq_some_iff.1 rt).1
  have rt2 := e2.get rt
  obtain ⟨h3, hh3⟩ : ∃ h3, h3 = h2 ++ [AObj.cells ⟨[AV.ptr os2 0 7 0], 0, 0, false⟩] := ⟨_, rfl⟩
  obtain ⟨h4, hh4⟩ : ∃ h4, h4 = h3 ++ [AObj.cells ⟨[I (-1)], 0, 0, false⟩] := ⟨_, rfl⟩
  obtain ⟨h5, hh5⟩ : ∃ h5, h5 = h4 ++ [AObj.cells ⟨[AV.ptr os1 0 7 0, AV.ptr os2 0 7 0], 0, 0, false⟩] := ⟨_, rfl⟩
  have e3 : Ext h2 h3 := by rw [hh3]; exact Ext.push _ _
  have e4 : Ext h3 h4 := by rw [hh4]; exact Ext.push _ _
  have e5 : Ext h4 h5 := by rw [hh5]; exact Ext.push _ _
  have l3 : h3.length = h2.length + 1 := by rw [hh3]; simp
  have l4 : h4.length = h2.length + 2 := by rw [hh4]; simp; omega
  have l5 : h5.length = h2.length + 3 := by rw [hh5]; simp; omega
  have s5 : ((((h2 ++ [AObj.cells ⟨[AV.nilp], 0, 0, false⟩]).set h2.length (AObj.cells ⟨[AV.ptr os2 0 7 0], 0, 0, false⟩)) ++ [AObj.cells ⟨[AV.int .i64 0], 0, 0, false⟩]).set (h2.length + 1) (AObj.cells ⟨[AV.int .i64 (-1)], 0, 0, false⟩) ++ [AObj.cells ⟨[AV.nilp, AV.nilp], 0, 0, false⟩]).set (h2.length + 1 + 1) (AObj.cells ⟨[AV.ptr os1 0 7 0, AV.ptr os2 0 7 0], 0, 0, false⟩) = h5 := by
    rw [hh5, hh4, hh3]; simp [I]; rw [List.set_append_right _ _ (by omega), show h2.length + 1 + 1 - h2.length = 2 by omega]; rfl
  have rb3 : h3[h2.length]? = some (.cells ⟨[AV.ptr os2 0 7 0], 0, 0, false⟩) := by rw [hh3]; simp
  have rl4 : h4[h2.length + 1]? = some (.cells ⟨[I (-1)], 0, 0, false⟩) := by rw [← l3, hh4]; simp
  have rz5 : h5[h2.length + 1 + 1]? = some (.cells ⟨[AV.ptr os1 0 7 0, AV.ptr os2 0 7 0], 0, 0, false⟩) := by rw [← l4, hh5]; simp
  have rt4 := (e3.trans e4).get rt2
  have rb4 := e4.get rb3
  simp -implicitDefEqProofs (maxSteps := 1000000) (disch := first | assumption | omega | (simp only [gL] <;> omega) | ((repeat (first | exact Ext.refl _ | assumption | apply Ext.app | apply Ext.mk | (refine Ext.setr ?_ (by (first | omega | (simp only [gL] <;> omega))) _))); done) | (simp only [gL, gA, rt2] <;> omega) | fail) only [gB, setAll, partL, fldV, reduceIte, Nat.reduceAdd, Nat.reduceMul, rt2]
  rw [s5]
  have e25 := (e3.trans e4).trans e5
  have hg1 := (a6Y gv ok no)
  have hg2 := (b3v gv ok no hl)
  have hst2 : ∀ x, atSt D.length (endsL acc u D.length) x → x < n := fun x z => by
    obtain ⟨q, q1, q2, rfl⟩ := a8R.1 z
    have := spotN (S := D.length) hu q1
    omega
  have hc2 := b0x n (c := Gm.A9.gf cs) (by simpa using u2)
  have sb : SB (fun o => h.length ≤ o ∧ o < h2.length) h2 os2 g c7_ n (hopA es D.length (backL es D)) (atSt D.length (endsL acc u D.length)) (Gm.A9.gf cs) (Gm.A9.gf M) 0 :=
    SB.mono ⟨q, sc, se, sf, oc, oe, ov, cs, ds, fs, M, 0, 0, fun _ => 0, w2, d2, u2, rfl, rfl⟩ fun o z1 z2 => ⟨z2, z1⟩
  refine WP.ent (b4C (ot := ot) (ob := h2.length) (ol := h2.length + 1) (oz := h2.length + 1 + 1) gv ok co hN hn hn2 hg1 hg2 (hn ▸ b4A ok no) hst hst2 ⟨hot, by omega, by omega, by omega⟩ hQ ((un n c1 + un n (Gm.A9.gf cs)).toNat + 1) W1 (fun o => h.length ≤ o ∧ o < h2.length) c1 (Gm.A9.gf cs) m1 (Gm.A9.gf M) 0 0 (-1) h5 0 (by omega) (.inl rfl) ⟨(e0.trans e2).trans e25, (s1.frs (D := fun _ => False) (FrS.ofExt (e2.trans e25)) fun _ _ _ z => z), (sb.frs (D := fun _ => False) (FrS.ofExt e25) fun _ _ _ z => z), k1, ⟨Int.le_refl _, by omega, fun x hx v hv => (d2.que x hx v hv).2.1⟩, ⟨e5.get rt4, e5.get rb4, e5.get rl4, rz5, by omega, by omega, by omega⟩, .inl rfl, ⟨fun x hx z => ?_, fun x hx z => ?_, fun x y e w hx _ z => ?_⟩, fun o z => ?_, fun o z => ?_, fun o z1 z2 => ?_⟩) fun i => rfl
  · have := hc1 x hx; omega
  · have := hc2 x hx; omega
  · have := hc1 x hx; omega
  · have := p1 o z; omega
  · omega
  · have := p1 o z1; omega
theorem b4E {hb : Heap} {g tA : AV} {n u ot os1 : Nat} {W1 : Nat → Prop} {st : Nat → Prop} {c1 : Nat → Int} {m1 : Nat → Option Int} {Q : AV → Heap → Prop}
    (gv : GV h0 g N es D acc) (ok : DOk D acc) (no : NetOk N es) (co : COk es) (hN : N ≤ 100000) (hn : n = N * D.length) (hn2 : n ≤ 1000000) (hl : es.length * D.length ≤ 10000000) (hu : u < N) (hst : ∀ x, st x → x < n) (e0 : Ext h0 hb)
    (s1 : SB W1 hb os1 g a8_ n (hopA es D.length (onL es D)) st c1 m1 0) (k1 : LsOk n m1 0) (hc1 : ∀ x, x < n → c1 x < 0) (p1 : ∀ o, W1 o → h0.length ≤ o ∧ o < ot) (hot : h0.length ≤ ot)
    (rt : hb[ot]? = some (.cells ⟨[.ptr os1 0 7 0], 0, 0, false⟩)) (hA : Sl hb 1 tA (acc.map encB))
    (hQ : ∀ h' L, Ext h0 h' → Snd (hopA es D.length (onL es D)) st (atSt D.length (endsL acc u D.length)) L → (∀ z l v, atSt D.length (endsL acc u D.length) z → Wk (hopA es D.length (onL es D)) st z l v → 0 ≤ L ∧ L ≤ v) → Q (.tup [I (max L 0), .bool (decide (0 ≤ L))]) h') :
    ∀ (d i : Nat) (h : Heap) (en : AV), i + d = D.length → Ext hb h → Gr hb.length h.length h 2 en ((endsL acc u i).map encP2) →
      WP (fun p : Nat × Nat => r1_ tab p.1 p.2 (I u) g (.ptr ot 0 1 0) en tA (I D.length) (I i) h) Q := by
  intro d
  induction d with
  | zero =>
    intro i h en h1 e g1
    refine WP.rnd (fun i' j => a2V tab i' j (I u) g (.ptr ot 0 1 0) en tA (I D.length) (I i) h) ?_
    obtain rfl : i = D.length := by omega
    simp -implicitDefEqProofs (maxSteps := 1000000) (disch := first | assumption | omega | (simp only [gL] <;> omega) | ((repeat (first | exact Ext.refl _ | assumption | apply Ext.app | apply Ext.mk | (refine Ext.setr ?_ (by (first | omega | (simp only [gL] <;> omega))) _))); done) | (simp only [gL, gA] <;> omega) | fail) only [gB, setAll, partL, fldV, reduceIte, Nat.reduceAdd, Nat.reduceMul]
    refine WP.lv (b4D gv ok no co hN hn hn2 hl hu hst (e0.trans e) (s1.frs (D := fun _ => False) (FrS.ofExt e) fun _ _ _ z => z) k1 hc1 p1 hot (e.get rt) g1.sl hQ) fun i j => rfl
  | succ d ih =>
    intro i h en h1 e g1
    refine WP.rnd (fun i' j => a2V tab i' j (I u) g (.ptr ot 0 1 0) en tA (I D.length) (I i) h) ?_
    have la := ok.la
    have hl1 := ok.l1
    have hlo := e.len
    have sl := hA.ext e
    obtain ⟨b, hb'⟩ : ∃ b, gi acc (i : Int) = b := ⟨_, rfl⟩
    cases b with
    | true =>
      have hel := b0R acc u i
      obtain ⟨s', h', q1, q2, q3⟩ := Gr.append1 (bytes := 16) g1 (v := [I u, I i]) rfl (by omega) (by omega) (by simp; omega) (by omega) (by omega)
      rw [a9_] at q1
      simp -implicitDefEqProofs (maxSteps := 1000000) (disch := first | assumption | omega | (simp only [gL] <;> omega) | ((repeat (first | exact Ext.refl _ | assumption | apply Ext.app | apply Ext.mk | (refine Ext.setr ?_ (by (first | omega | (simp only [gL] <;> omega))) _))); done) | (simp only [gL, gA, sl.idxG, sl.ld0, hb', encB, q1] <;> omega) | fail) only [gB, setAll, partL, fldV, reduceIte, Nat.reduceAdd, Nat.reduceMul, sl.idxG, sl.ld0, hb', encB, q1]
      refine ih (i + 1) h' s' (by omega) (q3.ext e (by omega)) ((q2.mono (Nat.le_refl _) (Nat.le_refl _)).cong ?_)
      rw [b0h, if_pos hb', List.map_append]
      rfl
    | false =>
      simp -implicitDefEqProofs (maxSteps := 1000000) (disch := first | assumption | omega | (simp only [gL] <;> omega) | ((repeat (first | exact Ext.refl _ | assumption | apply Ext.app | apply Ext.mk | (refine Ext.setr ?_ (by (first | omega | (simp only [gL] <;> omega))) _))); done) | (simp only [gL, gA, sl.idxG, sl.ld0, hb', encB] <;> omega) | fail) only [gB, setAll, partL, fldV, reduceIte, Nat.reduceAdd, Nat.reduceMul, sl.idxG, sl.ld0, hb', encB]
      refine ih (i + 1) h en (by omega) e (g1.cong ?_)
      rw [b0h, if_neg (by rw [hb']; simp), List.append_nil]
theorem b3x {h : Heap} {sE sD sA : AV} (no : NetOk N es) (co : COk es) (hn2 : N * D.length ≤ 1000000) (hl : es.length * D.length ≤ 10000000) (hs : Sl h 4 sE (es.map encE)) (ok : DOk D acc) (hD : Sl h 5 sD (D.map encR)) (hA : Sl h 1 sA (acc.map encB)) {v u : Nat} (hv : v < N) (hu : u < N) :
    Tot tab u0_ [.agg [I N, sE], .agg [sD, sA], I v, I u] h fun r h' => Ext h h' ∧ ∃ L, r = .tup [I (max L 0), .bool (decide (0 ≤ L))] ∧
      ∀ c, LC (N * D.length) (hopA es D.length (onL es D)) (fun x => x = v * D.length) c → L = bv c acc (u * D.length) D.length := by
  refine WP.tot (fun k => (a8Y k _ _ _ _ h).trans (a9P tab k _ _ _ _ h)) ?_
  have hN : N ≤ 100000 := by have := no.n1; omega
  obtain ⟨h1, hh1⟩ : ∃ h1, h1 = ((h ++ [AObj.cells ⟨[I N, sE], 0, 0, false⟩]) ++ [AObj.cells ⟨[sD, sA], 0, 0, false⟩]) := ⟨_, rfl⟩
  have e1 : Ext h h1 := by rw [hh1]; ((repeat (first | exact Ext.refl _ | assumption | apply Ext.app | apply Ext.mk | (refine Ext.setr ?_ (by (first | omega | (simp only [gL] <;> omega))) _))))
  have r1 : h1[h.length + 1]? = some (.cells ⟨[sD, sA], 0, 0, false⟩) := by rw [hh1]; simp
  simp -implicitDefEqProofs (maxSteps := 1000000) (disch := first | assumption | omega | (simp only [gL] <;> omega) | ((repeat (first | exact Ext.refl _ | assumption | apply Ext.app | apply Ext.mk | (refine Ext.setr ?_ (by (first | omega | (simp only [gL] <;> omega))) _))); done) | (simp only [gL, gA, hs.one, hs.cells, hD.one, hD.cells, hA.one, hA.cells] <;> omega) | fail) only [gB, setAll, partL, fldV, reduceIte, Nat.reduceAdd, Nat.reduceMul, hs.one, hs.cells, hD.one, hD.cells, hA.one, hA.cells]
  rw [← hh1]
  refine WP.call (a8B no (hs.ext e1) ok (hD.ext e1) (hA.ext e1)) ?_
  rintro g h2 ⟨e2, gv⟩
  obtain ⟨h3, hh3⟩ : ∃ h3, h3 = h2 ++ [AObj.cells ⟨[I v, AV.int .i64 0], 0, 0, false⟩] := ⟨_, rfl⟩
  have e3 : Ext h2 h3 := by rw [hh3]; exact Ext.push _ _
  have ha : Sl h3 2 (.sl h2.length 0 1 2 none 0) ([((v : Int), (0 : Int))].map encP2) := by
    have := (Gr.lit (h := h2) (sz := 2) (v := [I v, I 0]) rfl).sl
    rw [a9_] at this
    rw [hh3]; exact this
  rw [show AV.int .i64 0 = I 0 from rfl] at hh3
  rw [← hh3]
  have gv3 := gv.ext e3
  refine WP.call (a3T (n := N * D.length) gv3 ok hN rfl hn2 ha (fun a z => ?_) (by simp) (hopA es D.length (onL es D))) ?_
  · obtain rfl := List.mem_singleton.1 z
    have := ok.l0
    exact ⟨by show (0 : Int) ≤ v; omega, by show (v : Int) < N; omega, Int.le_refl _, by show (0 : Int) < D.length; omega⟩
  rintro _ h4 ⟨e4, os, q, sc, se, sf, oc, oe, ov, cs, ds, fs, M, rfl, w4, d4, u4⟩
  have hst : atSt D.length [((v : Int), (0 : Int))] = fun x => x = v * D.length := by
    funext x; exact propext a8C
  rw [hst] at d4
  have hstn : ∀ x, x = v * D.length → x < N * D.length := fun x z => by
    have := spotN (S := D.length) hv ok.l0
    omega
  obtain ⟨h5, hh5⟩ : ∃ h5, h5 = h4 ++ [AObj.cells ⟨[AV.ptr os 0 7 0], 0, 0, false⟩] := ⟨_, rfl⟩
  have e5 : Ext h4 h5 := by rw [hh5]; exact Ext.push _ _
  have s5 : (h4 ++ [AObj.cells ⟨[AV.nilp], 0, 0, false⟩]).set h4.length (AObj.cells ⟨[AV.ptr os 0 7 0], 0, 0, false⟩) = h5 := by rw [hh5]; simp
  have rt : h5[h4.length]? = some (.cells ⟨[AV.ptr os 0 7 0], 0, 0, false⟩) := by rw [hh5]; simp
  have e15 := (((e2.trans e3).trans e4).trans e5)
  have r15 := e15.get r1
  have hA5 := hA.ext (e1.trans e15)
  simp -implicitDefEqProofs (maxSteps := 1000000) (disch := first | assumption | omega | (simp only [gL] <;> omega) | ((repeat (first | exact Ext.refl _ | assumption | apply Ext.app | apply Ext.mk | (refine Ext.setr ?_ (by (first | omega | (simp only [gL] <;> omega))) _))); done) | (simp only [gL, gA] <;> omega) | fail) only [gB, setAll, partL, fldV, reduceIte, Nat.reduceAdd, Nat.reduceMul]
  rw [s5]
  simp -implicitDefEqProofs (maxSteps := 1000000) (disch := first | assumption | omega | (simp only [gL] <;> omega) | ((repeat (first | exact Ext.refl _ | assumption | apply Ext.app | apply Ext.mk | (refine Ext.setr ?_ (by (first | omega | (simp only [gL] <;> omega))) _))); done) | (simp only [gL, gA, r15, hA5.lenG, ok.la] <;> omega) | fail) only [gB, setAll, partL, fldV, reduceIte, Nat.reduceAdd, Nat.reduceMul, r15, hA5.lenG, ok.la]
  have sa : SB (fun o => h3.length ≤ o ∧ o < h4.length) h4 os g a8_ (N * D.length) (hopA es D.length (onL es D)) (fun x => x = v * D.length) (Gm.A9.gf cs) (Gm.A9.gf M) 0 :=
    SB.mono ⟨q, sc, se, sf, oc, oe, ov, cs, ds, fs, M, 0, 0, fun _ => 0, w4, d4, u4, rfl, rfl⟩ fun o z1 z2 => ⟨z2, z1⟩
  have l4 := e4.len
  refine WP.ent (b4E gv3 ok no co hN rfl hn2 hl hu hstn (e4.trans e5) (sa.frs (D := fun _ => False) (FrS.ofExt e5) fun _ _ _ z => z) ⟨Int.le_refl _, by omega, fun x hx v hv => (d4.que x hx v hv).2.1⟩ (b0x _ (c := Gm.A9.gf cs) (by simpa using u4)) (fun o z => z) l4 rt hA5 (fun h' L e' sn le => ⟨((e1.trans e2).trans e3).trans e', L, rfl, fun c lc => ?_⟩) D.length 0 h5 .nils (by omega) (Ext.refl _) (Gr.nil ..)) fun i => rfl
  have iff : ∀ q : Nat, q < D.length → gi acc (q : Int) = true → atSt D.length (endsL acc u D.length) (u * D.length + q) := fun q q1 q2 => a8R.2 ⟨q, q1, q2, rfl⟩
  rcases a4A (c := c) (acc := acc) (b := u * D.length) D.length with ⟨k1, k2⟩ | ⟨q, k1, k2, k3, k4, k5⟩
  · rw [k1]
    rcases sn with z | ⟨z0, z, z1, l, z2⟩
    · exact z
    · obtain ⟨q, q1, q2, rfl⟩ := a8R.1 z1
      have h6 := k2 q q1 q2
      rcases lc _ (spotN hu q1) with ⟨p1, _⟩ | ⟨_, p2⟩
      · omega
      · exact absurd z2 (p2 _ _)
  · have hx := spotN hu k1
    rcases lc _ hx with ⟨p1, ⟨l, p2⟩, p3⟩ | ⟨p1, _⟩
    · have h6 := le _ _ _ (iff q k1 k2) p2
      rcases sn with z | ⟨z0, z, z1, l', z2⟩
      · omega
      · obtain ⟨q', q1, q2, rfl⟩ := a8R.1 z1
        rcases lc _ (spotN hu q1) with ⟨r1, _, r2⟩ | ⟨_, r2⟩
        · have h7 := r2 _ _ z2
          have h8 := k5 q' q1 q2 r1
          omega
        · exact absurd z2 (r2 _ _)
    · omega
end
end Go.Gm.A9

namespace Go.Gm.A9
open Go Go.Gm
def atV (es : List E) (v : Int) (l : List Nat) : Int := l.foldl (fun _ e => (eg es e).to) v
def atS (es : List E) (D : List (List Int)) (s : Int) (l : List Nat) : Int := l.foldl (fun s e => nx D s (eg es e).md) s
def atC (es : List E) (l : List Nat) : Int := l.foldl (fun c e => c + (eg es e).co) 0
def wdOf (es : List E) (l : List Nat) : List Int := l.map fun e => (eg es e).md
def goS (D : List (List Int)) (s : Int) (w : List Int) : Int := w.foldl (fun s m => nx D s m) s
def OkW (es : List E) (v : Int) (l : List Nat) : Prop := ∀ i e, l[i]? = some e → e < es.length ∧ (eg es e).fr = atV es v (l.take i)
theorem a7F (es : List E) (v : Int) (l : List Nat) (e : Nat) : atV es v (l ++ [e]) = (eg es e).to := by simp [atV]
theorem b1B (es : List E) (D : List (List Int)) (s : Int) (l : List Nat) (e : Nat) : atS es D s (l ++ [e]) = nx D (atS es D s l) (eg es e).md := by simp [atS]
theorem a9G (es : List E) (l : List Nat) (e : Nat) : atC es (l ++ [e]) = atC es l + (eg es e).co := by simp [atC]
theorem b0i (es : List E) (D : List (List Int)) (s : Int) (l : List Nat) : atS es D s l = goS D s (wdOf es l) := by
  simp only [atS, goS, wdOf, List.foldl_map]
theorem OkW.snoc {es : List E} {v : Int} {l : List Nat} {e : Nat} (h : OkW es v l) (he : e < es.length) (hf : (eg es e).fr = atV es v l) : OkW es v (l ++ [e]) := by
  intro i e' h1
  have hi := (List.getElem?_eq_some_iff.1 h1).1
  simp only [List.length_append, List.length_cons, List.length_nil] at hi
  by_cases q : i < l.length
  · rw [List.getElem?_append_left q] at h1
    rw [List.take_append_of_le_length (by omega)]
    exact h i e' h1
  · obtain rfl : i = l.length := by omega
    rw [List.getElem?_append_right (Nat.le_refl _)] at h1
    simp only [Nat.sub_self, List.getElem?_cons_zero, Option.some.injEq] at h1
    subst h1
    rw [List.take_left]
    exact ⟨he, hf⟩
theorem b2k {es : List E} (co : COk es) : ∀ (l : List Nat), (∀ e ∈ l, e < es.length) → ∀ c : Int, c ≤ l.foldl (fun c e => c + (eg es e).co) c ∧ l.foldl (fun c e => c + (eg es e).co) c ≤ c + l.length * 2147483647
  | [], _, c => by simp
  | e :: l, h, c => by
    have he := h e (by simp)
    have h1 : 0 ≤ (eg es e).co ∧ (eg es e).co ≤ 2147483647 := co.c _ (b4_ (xs := es) (i := (e : Int)) (by omega) (by omega))
    have h2 := b2k co l (fun x hx => h x (List.mem_cons_of_mem _ hx)) (c + (eg es e).co)
    simp only [List.foldl_cons, List.length_cons]
    refine ⟨by omega, ?_⟩
    have : ((l.length + 1 : Nat) : Int) * 2147483647 = l.length * 2147483647 + 2147483647 := by omega
    rw [this]
    have : (eg es e).co ≤ 2147483647 := h1.2
    omega
theorem OkW.mem {es : List E} {v : Int} {l : List Nat} (h : OkW es v l) : ∀ e ∈ l, e < es.length := by
  intro e he
  obtain ⟨i, hi, h1⟩ := List.getElem_of_mem he
  exact (h i e (by rw [List.getElem?_eq_getElem hi, h1])).1
section
variable {N : Nat} {es : List E} {D : List (List Int)} {acc : List Bool}
theorem b3T (ok : DOk D acc) (no : NetOk N es) {x y e : Nat} {w : Int} (hx : x < N * D.length) (h : (y, e, w) ∈ hopA es D.length (onL es D) x) :
    e < es.length ∧ (eg es e).fr = ((x / D.length : Nat) : Int) ∧ y / D.length = (eg es e).to.toNat ∧ y % D.length = (nx D ((x % D.length : Nat) : Int) (eg es e).md).toNat ∧ w = (eg es e).co ∧ y < N * D.length := by
  obtain ⟨q1, q2⟩ := dm hx
  obtain ⟨t, ht, h1⟩ := List.mem_map.1 h
  obtain ⟨k, hk, rfl⟩ := List.mem_map.1 ht
  obtain ⟨k0, k1, k2⟩ := i0_.1 hk
  obtain ⟨i, rfl⟩ : ∃ i : Nat, k = i := ⟨k.toNat, by omega⟩
  simp only [beq_iff_eq] at k2
  have he : 0 ≤ (eg es i).fr ∧ (eg es i).fr < N ∧ 0 ≤ (eg es i).to ∧ (eg es i).to < N ∧ 0 ≤ (eg es i).md ∧ (eg es i).md < 5 := no.edge _ (b4_ (xs := es) (i := (i : Int)) (by omega) (by omega))
  have htt : 0 ≤ nx D ((x % D.length : Nat) : Int) (eg es i).md ∧ nx D ((x % D.length : Nat) : Int) (eg es i).md < D.length := ok.to _ (eg es i).md (Int.natCast_nonneg _) (Int.ofNat_lt.2 q2) he.2.2.2.2.1 he.2.2.2.2.2
  simp only [hopOf] at h1
  cases h1
  rw [Int.toNat_natCast]
  have h1 : (eg es i).to = ((eg es i).to.toNat : Int) := by omega
  have h2 : nx D ((x % D.length : Nat) : Int) (eg es i).md = ((nx D ((x % D.length : Nat) : Int) (eg es i).md).toNat : Int) := by omega
  have hy : ((eg es i).to * (D.length : Int) + nx D ((x % D.length : Nat) : Int) (eg es i).md).toNat = (eg es i).to.toNat * D.length + (nx D ((x % D.length : Nat) : Int) (eg es i).md).toNat := by
    generalize (eg es i).to.toNat = a at h1
    generalize (nx D ((x % D.length : Nat) : Int) (eg es i).md).toNat = b at h2
    rw [h1, h2, ← Int.natCast_mul, ← Int.natCast_add, Int.toNat_natCast]
  rw [show gi es (i : Int) = eg es i from rfl, hy]
  obtain ⟨p1, p2⟩ := a6Z (v := (eg es i).to.toNat) (S := D.length) (s := (nx D ((x % D.length : Nat) : Int) (eg es i).md).toNat) (by omega)
  exact ⟨by omega, k2, p1, p2, rfl, spotN (by omega) (by omega)⟩
theorem b2l (ok : DOk D acc) (no : NetOk N es) {v x : Nat} {l : List Nat} {c : Int} (hv : v < N) (h : Wk (hopA es D.length (onL es D)) (fun x => x = v * D.length) x l c) :
    OkW es v l ∧ atV es v l = ((x / D.length : Nat) : Int) ∧ atS es D 0 l = ((x % D.length : Nat) : Int) ∧ atC es l = c ∧ x < N * D.length := by
  induction h with
  | nil h =>
    subst h
    obtain ⟨p1, p2⟩ := a6Z (v := v) (S := D.length) (s := 0) ok.l0
    simp only [Nat.add_zero] at p1 p2
    rw [p1, p2]
    exact ⟨fun i e z => by simp at z, rfl, rfl, rfl, by have := spotN (S := D.length) hv ok.l0; omega⟩
  | @snoc x y e l c w h1 h2 ih =>
    obtain ⟨i1, i2, i3, i4, i5⟩ := ih
    obtain ⟨k1, k2, k3, k4, k5, k6⟩ := b3T ok no i5 h2
    obtain ⟨q1, q2⟩ := dm i5
    have he : 0 ≤ (eg es e).fr ∧ (eg es e).fr < N ∧ 0 ≤ (eg es e).to ∧ (eg es e).to < N ∧ 0 ≤ (eg es e).md ∧ (eg es e).md < 5 := no.edge _ (b4_ (xs := es) (i := (e : Int)) (by omega) (by omega))
    have htt : 0 ≤ nx D ((x % D.length : Nat) : Int) (eg es e).md ∧ nx D ((x % D.length : Nat) : Int) (eg es e).md < D.length := ok.to _ (eg es e).md (Int.natCast_nonneg _) (Int.ofNat_lt.2 q2) he.2.2.2.2.1 he.2.2.2.2.2
    refine ⟨i1.snoc k1 (k2.trans i2.symm), ?_, ?_, ?_, k6⟩
    · rw [a7F, k3]; omega
    · rw [b1B, i3, k4]; omega
    · rw [a9G, i4, k5]
theorem a3i {α : Type} {l : List α} {i : Nat} {e : α} (h : l[i]? = some e) : l.take (i + 1) = l.take i ++ [e] := by
  rw [List.take_add_one, h]; rfl
theorem b4F {hb : Heap} {sE sl : AV} {v u on : Nat} {l : List Nat} {Q : AV → Heap → Prop} (no : NetOk N es) (co : COk es) (hE : Sl hb 4 sE (es.map encE)) (hl : Sl hb 1 sl ((l.map fun (e : Nat) => (e : Int)).map encI)) (hll : l.length ≤ 1000000) (ow : OkW es v l) (hu : atV es v l = u)
    (rn : hb[on]? = some (.cells ⟨[I N, sE], 0, 0, false⟩))
    (hQ : ∀ h w, Ext hb h → Gr hb.length h.length h 1 w ((wdOf es l).map encI) → Q (.tup [I (atC es l), w, .bool true]) h) :
    ∀ (d i : Nat) (h : Heap) (w : AV), i + d = l.length → Ext hb h → Gr hb.length h.length h 1 w ((wdOf es (l.take i)).map encI) →
      WP (fun p : Nat × Nat => h9_ tab p.1 p.2 (I (atV es v (l.take i))) (I u) sl (.ptr on 0 2 0) (I (atC es (l.take i))) w (I i) h) Q := by
  intro d
  induction d with
  | zero =>
    intro i h w h1 e g1
    refine WP.rnd (fun i' j => a0u tab i' j (I (atV es v (l.take i))) (I u) sl (.ptr on 0 2 0) (I (atC es (l.take i))) w (I i) h) ?_
    rw [List.take_of_length_le (show l.length ≤ i by omega)] at g1 ⊢
    rw [hu]
    have hlg := (hl.ext e).lenG
    rw [List.length_map] at hlg
    simp -implicitDefEqProofs (maxSteps := 1000000) (disch := first | assumption | omega | (simp only [gL] <;> omega) | ((repeat (first | exact Ext.refl _ | assumption | apply Ext.app | apply Ext.mk | (refine Ext.setr ?_ (by (first | omega | (simp only [gL] <;> omega))) _))); done) | (simp only [gL, gA, hlg] <;> omega) | fail) only [gB, setAll, partL, fldV, reduceIte, Nat.reduceAdd, Nat.reduceMul, hlg]
    refine WP.lv (WP.congr (fun k : Nat => a4f tab k (I u) (I u) (I (atC es l)) w h) ?_) fun i j => rfl
    simp -implicitDefEqProofs (maxSteps := 1000000) (disch := first | assumption | omega | (simp only [gL] <;> omega) | ((repeat (first | exact Ext.refl _ | assumption | apply Ext.app | apply Ext.mk | (refine Ext.setr ?_ (by (first | omega | (simp only [gL] <;> omega))) _))); done) | (simp only [gL, gA] <;> omega) | fail) only [gB, setAll, partL, fldV, reduceIte, Nat.reduceAdd, Nat.reduceMul]
    exact WP.ret (hQ h w e g1)
  | succ d ih =>
    intro i h w h1 e g1
    refine WP.rnd (fun i' j => a0u tab i' j (I (atV es v (l.take i))) (I u) sl (.ptr on 0 2 0) (I (atC es (l.take i))) w (I i) h) ?_
    have hil : i < l.length := by omega
    obtain ⟨ed, hed⟩ : ∃ ed, l[i]? = some ed := ⟨l[i], List.getElem?_eq_getElem hil⟩
    obtain ⟨o1, o2⟩ := ow i ed hed
    have hg : gi (l.map fun (e : Nat) => (e : Int)) (i : Int) = (ed : Int) := by
      rw [q8_ (by simpa using hil)]
      rw [List.getElem?_eq_getElem hil] at hed
      injection hed with hed
      simp [hed]
    have hlx := hl.ext e
    have hlg := hlx.lenG
    rw [List.length_map] at hlg
    have hE1 := hE.ext e
    have rn1 := e.get rn
    obtain ⟨x, hx⟩ : ∃ x, eg es ed = x := ⟨_, rfl⟩
    have hxx : gi es (ed : Int) = x := hx
    have he := no.edge _ (b4_ (xs := es) (i := (ed : Int)) (by omega) (by omega))
    have hc := co.c _ (b4_ (xs := es) (i := (ed : Int)) (by omega) (by omega))
    rw [hxx] at he hc
    rw [hx] at o2
    have b1 := b2k co (l.take i) (fun z hz => ow.mem z (List.mem_of_mem_take hz)) 0
    have b2 : (l.take i).length ≤ 1000000 := by rw [List.length_take]; omega
    obtain ⟨c, hcc⟩ : ∃ c, atC es (l.take i) = c := ⟨_, rfl⟩
    have b3 : 0 ≤ c ∧ c ≤ (l.take i).length * 2147483647 := by rw [← hcc]; exact ⟨b1.1, by have := b1.2; simpa [atC] using this⟩
    have hlh := e.len
    obtain ⟨h2, hh2⟩ : ∃ h2, h2 = ((h ++ [AObj.cells ⟨[I 0, I 0, I 0, I 0], 0, 0, false⟩]).set h.length (.cells ⟨[I x.fr, I x.to, I x.md, I x.co], 0, 0, false⟩)) := ⟨_, rfl⟩
    have e2 : Ext h h2 := by rw [hh2]; ((repeat (first | exact Ext.refl _ | assumption | apply Ext.app | apply Ext.mk | (refine Ext.setr ?_ (by (first | omega | (simp only [gL] <;> omega))) _))))
    have r2 : h2[h.length]? = some (.cells ⟨[I x.fr, I x.to, I x.md, I x.co], 0, 0, false⟩) := by rw [hh2]; exact a3_ (by simp)
    have hl2 : h2.length = h.length + 1 := by rw [hh2]; simp
    obtain ⟨s', h', q1, q2, q3⟩ := Gr.append1 (bytes := 8) (g1.ext e2) (v := [I x.md]) rfl (by omega) (by omega) (by simp [wdOf]; omega) (by omega) (by omega)
    rw [a9_, hl2] at q1
    have hml : (l.map fun (e : Nat) => (e : Int)).length = l.length := List.length_map ..
    rw [← o2, hcc]
    simp -implicitDefEqProofs (maxSteps := 1000000) (disch := first | assumption | omega | (simp only [gL] <;> omega) | ((repeat (first | exact Ext.refl _ | assumption | apply Ext.app | apply Ext.mk | (refine Ext.setr ?_ (by (first | omega | (simp only [gL] <;> omega))) _))); done) | (simp only [gL, gA, hlg, hlx.idxG, hlx.ld0, hml, hg, encI, rn1, hE1.lenG, hE1.idxG, hE1.ldf, hE1.ld0, hE1.ldN, hxx, encE] <;> omega) | fail) only [gB, setAll, partL, fldV, reduceIte, Nat.reduceAdd, Nat.reduceMul, hlg, hlx.idxG, hlx.ld0, hml, hg, encI, rn1, hE1.lenG, hE1.idxG, hE1.ldf, hE1.ld0, hE1.ldN, hxx, encE]
    rw [show AV.int .i64 0 = I 0 from rfl, ← hh2]
    simp -implicitDefEqProofs (maxSteps := 1000000) (disch := first | assumption | omega | (simp only [gL] <;> omega) | ((repeat (first | exact Ext.refl _ | assumption | apply Ext.app | apply Ext.mk | (refine Ext.setr ?_ (by (first | omega | (simp only [gL] <;> omega))) _))); done) | (simp only [gL, gA, q1] <;> omega) | fail) only [gB, setAll, partL, fldV, reduceIte, Nat.reduceAdd, Nat.reduceMul, q1]
    have hv' : x.to = atV es v (l.take (i + 1)) := by rw [a3i hed, a7F, hx]
    have hc' : c + x.co = atC es (l.take (i + 1)) := by rw [a3i hed, a9G, hx, hcc]
    rw [hv', hc']
    refine ih (i + 1) h' s' (by omega) (q3.ext (e.trans e2) (by omega)) ((q2.mono (Nat.le_refl _) (Nat.le_refl _)).cong ?_)
    rw [a3i hed]
    simp [wdOf, hx, encI]
theorem b3y {h : Heap} {sE sl : AV} {v u : Nat} {l : List Nat} (no : NetOk N es) (co : COk es) (hE : Sl h 4 sE (es.map encE)) (hl : Sl h 1 sl ((l.map fun (e : Nat) => (e : Int)).map encI)) (hll : l.length ≤ 1000000) (hv : v < N) (huN : u < N) (ow : OkW es v l) (hu : atV es v l = u) :
    Tot tab j1_ [.agg [I N, sE], I v, I u, sl] h fun r h' => Ext h h' ∧ ∃ w, r = .tup [I (atC es l), w, .bool true] ∧ Sl h' 1 w ((wdOf es l).map encI) := by
  refine WP.tot (fun k => (a5e k _ _ _ _ h).trans (a6z tab k _ _ _ _ h)) ?_
  obtain ⟨h1, hh1⟩ : ∃ h1, h1 = h ++ [AObj.cells ⟨[I N, sE], 0, 0, false⟩] := ⟨_, rfl⟩
  have e1 : Ext h h1 := by rw [hh1]; exact Ext.push _ _
  have rn : h1[h.length]? = some (.cells ⟨[I N, sE], 0, 0, false⟩) := by rw [hh1]; simp
  have := no.n1
  simp -implicitDefEqProofs (maxSteps := 1000000) (disch := first | assumption | omega | (simp only [gL] <;> omega) | ((repeat (first | exact Ext.refl _ | assumption | apply Ext.app | apply Ext.mk | (refine Ext.setr ?_ (by (first | omega | (simp only [gL] <;> omega))) _))); done) | (simp only [gL, gA, hE.one, hE.cells] <;> omega) | fail) only [gB, setAll, partL, fldV, reduceIte, Nat.reduceAdd, Nat.reduceMul, hE.one, hE.cells]
  rw [← hh1]
  refine WP.ent (c2 := fun p : Nat × Nat => h9_ tab p.1 p.2 (I (atV es v (l.take 0))) (I u) sl (.ptr h.length 0 2 0) (I (atC es (l.take 0))) .nils (I (0 : Nat)) h1) (b4F no co (hE.ext e1) (hl.ext e1) hll ow hu rn (fun h' w e' g' => ⟨e1.trans e', w, rfl, g'.sl⟩) l.length 0 h1 .nils (by omega) (Ext.refl _) (Gr.nil ..)) fun i => rfl
theorem a4B (ok : DOk D acc) : ∀ (w : List Int) (s : Int), 0 ≤ s → s < D.length → (∀ m ∈ w, 0 ≤ m ∧ m < 5) → 0 ≤ goS D s w ∧ goS D s w < D.length
  | [], s, h0, h1, _ => ⟨h0, h1⟩
  | m :: w, s, h0, h1, h => by
    have hm := h m (by simp)
    have := ok.to s m h0 h1 hm.1 hm.2
    exact a4B ok w (nx D s m) this.1 this.2 fun z hz => h z (List.mem_cons_of_mem _ hz)
theorem go_l1 {h : Heap} {sD sA sw : AV} {od : Nat} {w : List Int} (ok : DOk D acc) (hD : Sl h 5 sD (D.map encR)) (hw : Sl h 1 sw (w.map encI)) (hwl : w.length ≤ 1000000000) (hm : ∀ m ∈ w, 0 ≤ m ∧ m < 5) (rd : h[od]? = some (.cells ⟨[sD, sA], 0, 0, false⟩)) :
    ∀ (d i : Nat), i + d = w.length → WP (fun p : Nat × Nat => k6_ tab p.1 p.2 (I (goS D 0 (w.take i))) sw (.ptr od 0 2 0) (I i) h) fun r h' => r = I (goS D 0 w) ∧ h = h' := by
  intro d
  induction d with
  | zero =>
    intro i h1
    refine WP.rnd (fun i' j => a1a tab i' j (I (goS D 0 (w.take i))) sw (.ptr od 0 2 0) (I i) h) ?_
    rw [List.take_of_length_le (show w.length ≤ i by omega)]
    simp -implicitDefEqProofs (maxSteps := 1000000) (disch := first | assumption | omega | (simp only [gL] <;> omega) | ((repeat (first | exact Ext.refl _ | assumption | apply Ext.app | apply Ext.mk | (refine Ext.setr ?_ (by (first | omega | (simp only [gL] <;> omega))) _))); done) | (simp only [gL, gA, hw.lenG] <;> omega) | fail) only [gB, setAll, partL, fldV, reduceIte, Nat.reduceAdd, Nat.reduceMul, hw.lenG]
    exact WP.ret ⟨rfl, rfl⟩
  | succ d ih =>
    intro i h1
    refine WP.rnd (fun i' j => a1a tab i' j (I (goS D 0 (w.take i))) sw (.ptr od 0 2 0) (I i) h) ?_
    have hil : i < w.length := by omega
    obtain ⟨m, hmm⟩ : ∃ m, gi w (i : Int) = m := ⟨_, rfl⟩
    have hmr := hm m (hmm ▸ b4_ (by omega) (by omega))
    have htk : w.take (i + 1) = w.take i ++ [m] := by
      have := d5_ (xs := w) (i := (i : Int)) (by omega) (by omega)
      rw [hmm] at this
      exact a3i (by simpa using this)
    obtain ⟨s, hs⟩ : ∃ s, goS D 0 (w.take i) = s := ⟨_, rfl⟩
    have hsr := a4B ok (w.take i) 0 (by omega) (by have := ok.l0; omega) fun z hz => hm z (List.mem_of_mem_take hz)
    rw [hs] at hsr
    obtain ⟨p, p1, p2, -⟩ := cellA (H := h) hD (Ext.refl _) hsr.1 hsr.2 hmr.1 hmr.2
    rw [show (encR (gi D s)).getD m.toNat .undef = I (nx D s m) by
      have hr := ok.row s hsr.1 hsr.2
      simp only [encR, nx, List.getD_eq_getElem?_getD, List.getElem?_map]
      have := d5_ (xs := gi D s) hmr.1 (by omega)
      rw [this]; rfl] at p2
    rw [hs]
    simp -implicitDefEqProofs (maxSteps := 1000000) (disch := first | assumption | omega | (simp only [gL] <;> omega) | ((repeat (first | exact Ext.refl _ | assumption | apply Ext.app | apply Ext.mk | (refine Ext.setr ?_ (by (first | omega | (simp only [gL] <;> omega))) _))); done) | (simp only [gL, gA, hw.lenG, hw.idxG, hw.ld0, hmm, encI, rd, hD.idxG, p1, p2] <;> omega) | fail) only [gB, setAll, partL, fldV, reduceIte, Nat.reduceAdd, Nat.reduceMul, hw.lenG, hw.idxG, hw.ld0, hmm, encI, rd, hD.idxG, p1, p2]
    have hs' : nx D s m = goS D 0 (w.take (i + 1)) := by
      rw [htk]
      simp only [goS, List.foldl_append, List.foldl_cons, List.foldl_nil]
      rw [show List.foldl (fun s m => nx D s m) 0 (w.take i) = s from hs]
    rw [hs']
    exact ih (i + 1) (by omega)
theorem b3U {h : Heap} {sD sA sw : AV} {w : List Int} (ok : DOk D acc) (hD : Sl h 5 sD (D.map encR)) (hA : Sl h 1 sA (acc.map encB)) (hw : Sl h 1 sw (w.map encI)) (hwl : w.length ≤ 1000000000) (hm : ∀ m ∈ w, 0 ≤ m ∧ m < 5) :
    Tot tab k3_ [.agg [sD, sA], sw] h fun r h' => r = .bool (gi acc (goS D 0 w)) ∧ Ext h h' := by
  refine WP.tot (fun k => (a6e k _ _ h).trans (a7h tab k _ _ h)) ?_
  obtain ⟨h1, hh1⟩ : ∃ h1, h1 = h ++ [AObj.cells ⟨[sD, sA], 0, 0, false⟩] := ⟨_, rfl⟩
  have e1 : Ext h h1 := by rw [hh1]; exact Ext.push _ _
  have rd : h1[h.length]? = some (.cells ⟨[sD, sA], 0, 0, false⟩) := by rw [hh1]; simp
  simp -implicitDefEqProofs (maxSteps := 1000000) (disch := first | assumption | omega | (simp only [gL] <;> omega) | ((repeat (first | exact Ext.refl _ | assumption | apply Ext.app | apply Ext.mk | (refine Ext.setr ?_ (by (first | omega | (simp only [gL] <;> omega))) _))); done) | (simp only [gL, gA, hD.one, hD.cells, hA.one, hA.cells] <;> omega) | fail) only [gB, setAll, partL, fldV, reduceIte, Nat.reduceAdd, Nat.reduceMul, hD.one, hD.cells, hA.one, hA.cells]
  rw [← hh1]
  have hgo : Tot tab m6_ [.agg [sD, sA], I 0, sw] h1 fun r h' => r = I (goS D 0 w) ∧ Ext h1 h' := by
    refine WP.tot (fun k => (a6U k _ _ _ h1).trans (a7N tab k _ _ _ h1)) ?_
    obtain ⟨h2, hh2⟩ : ∃ h2, h2 = h1 ++ [AObj.cells ⟨[sD, sA], 0, 0, false⟩] := ⟨_, rfl⟩
    have e2 : Ext h1 h2 := by rw [hh2]; exact Ext.push _ _
    have rd2 : h2[h1.length]? = some (.cells ⟨[sD, sA], 0, 0, false⟩) := by rw [hh2]; simp
    have hD2 := (hD.ext e1).ext e2
    have := ok.l0
    have := ok.l1
    simp -implicitDefEqProofs (maxSteps := 1000000) (disch := first | assumption | omega | (simp only [gL] <;> omega) | ((repeat (first | exact Ext.refl _ | assumption | apply Ext.app | apply Ext.mk | (refine Ext.setr ?_ (by (first | omega | (simp only [gL] <;> omega))) _))); done) | (simp only [gL, gA, hD.one, hD.cells, hA.one, hA.cells] <;> omega) | fail) only [gB, setAll, partL, fldV, reduceIte, Nat.reduceAdd, Nat.reduceMul, hD.one, hD.cells, hA.one, hA.cells]
    rw [← hh2]
    simp -implicitDefEqProofs (maxSteps := 1000000) (disch := first | assumption | omega | (simp only [gL] <;> omega) | ((repeat (first | exact Ext.refl _ | assumption | apply Ext.app | apply Ext.mk | (refine Ext.setr ?_ (by (first | omega | (simp only [gL] <;> omega))) _))); done) | (simp only [gL, gA, rd2, hD2.lenG] <;> omega) | fail) only [gB, setAll, partL, fldV, reduceIte, Nat.reduceAdd, Nat.reduceMul, rd2, hD2.lenG]
    refine WP.ent (c2 := fun p : Nat × Nat => k6_ tab p.1 p.2 (I (goS D 0 (w.take 0))) sw (.ptr h1.length 0 2 0) (I (0 : Nat)) h2) ((go_l1 ok hD2 ((hw.ext e1).ext e2) hwl hm rd2 w.length 0 (by omega)).mono ?_) fun i => rfl
    rintro r h' ⟨rfl, rfl⟩
    exact ⟨rfl, e2⟩
  refine WP.call hgo ?_
  rintro _ h2 ⟨rfl, e2⟩
  obtain ⟨g1, g2⟩ := a4B ok w 0 (by omega) (by have := ok.l0; omega) hm
  generalize goS D 0 w = s at g1 g2 ⊢
  have hA2 := (hA.ext e1).ext e2
  have rd2 := e2.get rd
  have la := ok.la
  simp -implicitDefEqProofs (maxSteps := 1000000) (disch := first | assumption | omega | (simp only [gL] <;> omega) | ((repeat (first | exact Ext.refl _ | assumption | apply Ext.app | apply Ext.mk | (refine Ext.setr ?_ (by (first | omega | (simp only [gL] <;> omega))) _))); done) | (simp only [gL, gA, rd2, hA2.idxG, hA2.ld0, encB] <;> omega) | fail) only [gB, setAll, partL, fldV, reduceIte, Nat.reduceAdd, Nat.reduceMul, rd2, hA2.idxG, hA2.ld0, encB]
  exact WP.ret ⟨rfl, e1.trans e2⟩
theorem b2D {h : Heap} {sE sD sA sl : AV} {v u : Nat} {l : List Nat} {cost : Int} (no : NetOk N es) (co : COk es) (ok : DOk D acc) (hE : Sl h 4 sE (es.map encE)) (hD : Sl h 5 sD (D.map encR)) (hA : Sl h 1 sA (acc.map encB)) (hl : Sl h 1 sl ((l.map fun (e : Nat) => (e : Int)).map encI)) (hll : l.length ≤ 1000000) (hv : v < N) (huN : u < N)
    (ow : OkW es v l) (hu : atV es v l = u) (hc : atC es l = cost) (hacc : gi acc (atS es D 0 l) = true) :
    Tot tab h1_ [.agg [I N, sE], .agg [sD, sA], I v, I u, .agg [I cost, sl], I cost] h fun r h' => r = .bool true ∧ Ext h h' := by
  refine WP.tot (fun k => (a4s k _ _ _ _ _ _ h).trans (a5J tab k _ _ _ _ _ _ h)) ?_
  obtain ⟨h1, hh1⟩ : ∃ h1, h1 = ((h ++ [AObj.cells ⟨[I N, sE], 0, 0, false⟩]) ++ [AObj.cells ⟨[sD, sA], 0, 0, false⟩]) ++ [AObj.cells ⟨[I cost, sl], 0, 0, false⟩] := ⟨_, rfl⟩
  have e1 : Ext h h1 := by rw [hh1]; ((repeat (first | exact Ext.refl _ | assumption | apply Ext.app | apply Ext.mk | (refine Ext.setr ?_ (by (first | omega | (simp only [gL] <;> omega))) _))))
  have rd : h1[h.length + 1]? = some (.cells ⟨[sD, sA], 0, 0, false⟩) := by rw [hh1]; simp
  have rr : h1[h.length + 1 + 1]? = some (.cells ⟨[I cost, sl], 0, 0, false⟩) := by rw [hh1, a2N (by simp)]; simp
  simp -implicitDefEqProofs (maxSteps := 1000000) (disch := first | assumption | omega | (simp only [gL] <;> omega) | ((repeat (first | exact Ext.refl _ | assumption | apply Ext.app | apply Ext.mk | (refine Ext.setr ?_ (by (first | omega | (simp only [gL] <;> omega))) _))); done) | (simp only [gL, gA, hE.one, hE.cells, hD.one, hD.cells, hA.one, hA.cells, hl.one, hl.cells] <;> omega) | fail) only [gB, setAll, partL, fldV, reduceIte, Nat.reduceAdd, Nat.reduceMul, hE.one, hE.cells, hD.one, hD.cells, hA.one, hA.cells, hl.one, hl.cells]
  rw [← hh1]
  refine WP.call (b3y no co (hE.ext e1) (hl.ext e1) hll hv huN ow hu) ?_
  rintro _ h2 ⟨e2, w, rfl, gw⟩
  rw [hc]
  have rd2 := e2.get rd
  have rr2 := e2.get rr
  have x2 : extr 2 (.tup [I cost, w, .bool true]) = some (.bool true) := rfl
  simp -implicitDefEqProofs (maxSteps := 1000000) (disch := first | assumption | omega | (simp only [gL] <;> omega) | ((repeat (first | exact Ext.refl _ | assumption | apply Ext.app | apply Ext.mk | (refine Ext.setr ?_ (by (first | omega | (simp only [gL] <;> omega))) _))); done) | (simp only [gL, gA, a4_, a5_, x2, rd2, rr2] <;> omega) | fail) only [gB, setAll, partL, fldV, reduceIte, Nat.reduceAdd, Nat.reduceMul, a4_, a5_, x2, rd2, rr2]
  refine WP.call (b3U ok ((hD.ext e1).ext e2) ((hA.ext e1).ext e2) gw (by simp [wdOf]; omega) fun m hm => ?_) ?_
  · obtain ⟨e, he, rfl⟩ := List.mem_map.1 hm
    have h3 := ow.mem e he
    have := no.edge _ (b4_ (xs := es) (i := (e : Int)) (by omega) (by omega))
    exact ⟨this.2.2.2.2.1, this.2.2.2.2.2⟩
  · rintro _ h3 ⟨rfl, e3⟩
    rw [← b0i, hacc]
    exact WP.ret ⟨rfl, (e1.trans e2).trans e3⟩
end
end Go.Gm.A9

namespace Go.Gm.A9
open Go Go.Gm
structure LW (es : List E) (v u : Int) (P : List Int → Prop) (b : Int) : Prop where
  ex : b = -1 ∨ (0 ≤ b ∧ ∃ l, OkW es v l ∧ atV es v l = u ∧ P (wdOf es l) ∧ atC es l = b)
  le : ∀ l, OkW es v l → atV es v l = u → P (wdOf es l) → 0 ≤ b ∧ b ≤ atC es l
theorem LW.uniq {es : List E} {v u : Int} {P : List Int → Prop} {a b : Int} (x : LW es v u P a) (y : LW es v u P b) : a = b := by
  rcases x.ex with rfl | ⟨x0, l, x1, x2, x3, x4⟩
  · rcases y.ex with rfl | ⟨y0, l', y1, y2, y3, y4⟩
    · rfl
    · have := x.le l' y1 y2 y3
      omega
  · have h1 := y.le l x1 x2 x3
    rcases y.ex with rfl | ⟨y0, l', y1, y2, y3, y4⟩
    · omega
    · have := x.le l' y1 y2 y3
      omega
theorem LW.congr {es : List E} {v u : Int} {P Q : List Int → Prop} {b : Int} (x : LW es v u P b) (h : ∀ l, OkW es v l → (P (wdOf es l) ↔ Q (wdOf es l))) : LW es v u Q b := by
  refine ⟨x.ex.imp id fun ⟨x0, l, x1, x2, x3, x4⟩ => ⟨x0, l, x1, x2, (h l x1).1 x3, x4⟩, fun l h1 h2 h3 => x.le l h1 h2 ((h l h1).2 h3)⟩
section
variable {N : Nat} {es : List E} {D : List (List Int)} {acc : List Bool}
theorem OkW.md (no : NetOk N es) {v : Int} {l : List Nat} (h : OkW es v l) : ∀ m ∈ wdOf es l, 0 ≤ m ∧ m < 5 := by
  intro m hm
  obtain ⟨e, he, rfl⟩ := List.mem_map.1 hm
  have h3 := h.mem e he
  have := no.edge _ (b4_ (xs := es) (i := (e : Int)) (by omega) (by omega))
  exact ⟨this.2.2.2.2.1, this.2.2.2.2.2⟩
theorem OkW.take {v : Int} {l : List Nat} (h : OkW es v l) (k : Nat) : OkW es v (l.take k) := by
  intro i e h1
  have hi := (List.getElem?_eq_some_iff.1 h1).1
  rw [List.length_take] at hi
  rw [List.getElem?_take, if_pos (by omega)] at h1
  rw [List.take_take, Nat.min_eq_left (by omega)]
  exact h i e h1
theorem OkW.range (no : NetOk N es) {v : Nat} (hv : v < N) {l : List Nat} (h : OkW es v l) : 0 ≤ atV es v l ∧ atV es v l < N := by
  rcases List.eq_nil_or_concat l with rfl | ⟨l', e, rfl⟩
  · exact ⟨by show (0 : Int) ≤ v; omega, by show (v : Int) < N; omega⟩
  · rw [List.concat_eq_append] at h ⊢
    rw [a7F]
    have he := h.mem e (by simp)
    have := no.edge _ (b4_ (xs := es) (i := (e : Int)) (by omega) (by omega))
    exact ⟨this.2.2.1, this.2.2.2.1⟩
theorem b3z (ok : DOk D acc) (no : NetOk N es) {v : Nat} (hv : v < N) {l : List Nat} (h : OkW es v l) : ∀ k, k ≤ l.length →
    Wk (hopA es D.length (onL es D)) (fun x => x = v * D.length) ((atV es v (l.take k)).toNat * D.length + (atS es D 0 (l.take k)).toNat) (l.take k) (atC es (l.take k))
  | 0, _ => by
    simp only [List.take_zero]
    refine .nil ?_
    show (v : Int).toNat * D.length + (0 : Int).toNat = v * D.length
    simp
  | k + 1, hk => by
    have ih := b3z ok no hv h k (by omega)
    obtain ⟨e, he⟩ : ∃ e, l[k]? = some e := ⟨l[k], List.getElem?_eq_getElem (by omega)⟩
    obtain ⟨h1, h2⟩ := h k e he
    have hr := (h.take k).range no hv
    have hs := a4B ok (wdOf es (l.take k)) 0 (by omega) (by have := ok.l0; omega) ((h.take k).md no)
    rw [← b0i] at hs
    rw [a3i he, a7F, b1B, a9G]
    have hm := b0t (s := (atS es D 0 (l.take k)).toNat) ok no h1 (by omega)
    have e1 : src es D.length e (atS es D 0 (l.take k)).toNat = (atV es v (l.take k)).toNat * D.length + (atS es D 0 (l.take k)).toNat := by rw [src, h2]
    have e2 : dst es D e (atS es D 0 (l.take k)).toNat = (eg es e).to.toNat * D.length + (nx D (atS es D 0 (l.take k)) (eg es e).md).toNat := by
      rw [dst, show (((atS es D 0 (l.take k)).toNat : Nat) : Int) = atS es D 0 (l.take k) by omega]
    rw [e1, e2] at hm
    exact .snoc ih hm
theorem bv_lw (ok : DOk D acc) (no : NetOk N es) {v u : Nat} (hv : v < N) (hu : u < N) {c : Nat → Int} (lc : LC (N * D.length) (hopA es D.length (onL es D)) (fun x => x = v * D.length) c) :
    LW es v u (fun w => gi acc (goS D 0 w) = true) (bv c acc (u * D.length) D.length) := by
  have main : ∀ l, OkW es v l → atV es v l = u → gi acc (goS D 0 (wdOf es l)) = true → 0 ≤ bv c acc (u * D.length) D.length ∧ bv c acc (u * D.length) D.length ≤ atC es l := by
    intro l h1 h2 h3
    have hw := b3z ok no hv h1 l.length (Nat.le_refl _)
    rw [List.take_length, h2, b0i, Int.toNat_natCast] at hw
    have hs := a4B ok (wdOf es l) 0 (by omega) (by have := ok.l0; omega) (h1.md no)
    have hx := spotN (N := N) (v := u) (S := D.length) (s := (goS D 0 (wdOf es l)).toNat) hu (by omega)
    have h4 : 0 ≤ c (u * D.length + (goS D 0 (wdOf es l)).toNat) ∧ c (u * D.length + (goS D 0 (wdOf es l)).toNat) ≤ atC es l := by
      rcases lc _ hx with ⟨k1, _, k2⟩ | ⟨_, k2⟩
      · exact ⟨k1, k2 _ _ hw⟩
      · exact absurd hw (k2 _ _)
    have h5 : gi acc (((goS D 0 (wdOf es l)).toNat : Nat) : Int) = true := by rw [show (((goS D 0 (wdOf es l)).toNat : Nat) : Int) = goS D 0 (wdOf es l) by omega]; exact h3
    rcases a4A (c := c) (acc := acc) (b := u * D.length) D.length with ⟨k1, k2⟩ | ⟨q, k1, k2, k3, k4, k5⟩
    · have := k2 _ (by omega) h5
      omega
    · have := k5 _ (by omega) h5 h4.1
      omega
  refine ⟨?_, main⟩
  rcases a4A (c := c) (acc := acc) (b := u * D.length) D.length with ⟨k1, k2⟩ | ⟨q, k1, k2, k3, k4, k5⟩
  · exact .inl k1
  · rcases lc _ (spotN hu k1) with ⟨p1, ⟨l, p2⟩, p3⟩ | ⟨p1, _⟩
    · obtain ⟨w1, w2, w3, w4, w5⟩ := b2l ok no hv p2
      obtain ⟨d1, d2⟩ := a6Z (v := u) (S := D.length) (s := q) k1
      rw [d1] at w2
      rw [d2, b0i] at w3
      exact .inr ⟨by omega, l, w1, w2, by rw [w3]; exact k2, by rw [w4, k4]⟩
    · omega
end
end Go.Gm.A9

namespace Go.Gm
section
variable {δ : Nat → Nat → Nat} {S : Nat} {c x : Nat → Int} {acc : Nat → Bool}
def Alk (δ : Nat → Nat → Nat) (c : Nat → Int) (a b : Nat) : Prop := c a = c b ∧ ∀ m, m < 5 → c (δ a m) = c (δ b m)
theorem Alk.refl (a : Nat) : Alk δ c a a := ⟨rfl, fun _ _ => rfl⟩
theorem Alk.symm {a b : Nat} (h : Alk δ c a b) : Alk δ c b a := ⟨h.1.symm, fun m hm => (h.2 m hm).symm⟩
theorem Alk.trans {a b d : Nat} (h : Alk δ c a b) (k : Alk δ c b d) : Alk δ c a d := ⟨h.1.trans k.1, fun m hm => (h.2 m hm).trans (k.2 m hm)⟩
def Neu (c : Nat → Int) (i : Nat) : Prop := ∀ j, j < i → c j ≠ c i
noncomputable def cntP (p : Nat → Prop) : Nat → Nat
  | 0 => 0
  | n + 1 => cntP p n + (open Classical in if p n then 1 else 0)
theorem a3j {p : Nat → Prop} {n : Nat} (h : p n) : cntP p (n + 1) = cntP p n + 1 := by simp [cntP, h]
theorem a3k {p : Nat → Prop} {n : Nat} (h : ¬ p n) : cntP p (n + 1) = cntP p n := by simp [cntP, h]
theorem a8S (p : Nat → Prop) : ∀ n, cntP p n ≤ n
  | 0 => Nat.le_refl _
  | n + 1 => by
    have := a8S p n
    by_cases h : p n
    · rw [a3j h]; omega
    · rw [a3k h]; omega
theorem a3l {p q : Nat → Prop} : ∀ n, (∀ i, i < n → p i → q i) → cntP p n ≤ cntP q n
  | 0, _ => Nat.le_refl _
  | n + 1, h => by
    have := a3l n fun i hi => h i (by omega)
    by_cases hp : p n
    · rw [a3j hp, a3j (h n (by omega) hp)]; omega
    · by_cases hq : q n
      · rw [a3k hp, a3j hq]; omega
      · rw [a3k hp, a3k hq]; omega
theorem b0y {p q : Nat → Prop} : ∀ n, (∀ i, i < n → p i → q i) → cntP p n = cntP q n → ∀ i, i < n → q i → p i
  | 0, _, _ => fun i hi => by omega
  | n + 1, h, e => by
    have h1 := a3l n fun i hi => h i (by omega)
    intro i hi hqi
    by_cases hp : p n
    · rw [a3j hp, a3j (h n (by omega) hp)] at e
      by_cases q : i = n
      · subst q; exact hp
      · exact b0y n (fun i hi => h i (by omega)) (by omega) i (by omega) hqi
    · by_cases hq : q n
      · rw [a3k hp, a3j hq] at e; omega
      · rw [a3k hp, a3k hq] at e
        by_cases q' : i = n
        · subst q'; exact absurd hqi hq
        · exact b0y n (fun i hi => h i (by omega)) e i (by omega) hqi
theorem b0j {p q : Nat → Prop} (n : Nat) (h : ∀ i, i < n → (p i ↔ q i)) : cntP p n = cntP q n :=
  Nat.le_antisymm (a3l n fun i hi => (h i hi).1) (a3l n fun i hi => (h i hi).2)
structure Finer (δ : Nat → Nat → Nat) (S : Nat) (c x : Nat → Int) (k : Nat) : Prop where
  al : ∀ a b, a < S → b < S → (x a = x b ↔ Alk δ c a b)
  rng : ∀ a, a < S → 0 ≤ x a ∧ x a < k
  cnt : k = cntP (Neu x) S
theorem Finer.neu {k : Nat} (f : Finer δ S c x k) : ∀ i, i < S → Neu c i → Neu x i := fun i hi h j hj e => h j hj ((f.al j i (by omega) hi).1 e).1
theorem Finer.le {k : Nat} (f : Finer δ S c x k) : cntP (Neu c) S ≤ k := by rw [f.cnt]; exact a3l S f.neu
theorem Finer.kS {k : Nat} (f : Finer δ S c x k) : k ≤ S := by rw [f.cnt]; exact a8S _ _
theorem Finer.pos {k : Nat} (f : Finer δ S c x k) (hS : 0 < S) : 0 < k := by have := f.rng 0 hS; omega
theorem rep (x : Nat → Int) : ∀ a, ∃ j, j ≤ a ∧ x j = x a ∧ Neu x j := by
  intro a
  induction a using Nat.strongRecOn with
  | ind a ih =>
    by_cases h : Neu x a
    · exact ⟨a, Nat.le_refl _, rfl, h⟩
    · obtain ⟨j, h1⟩ := Classical.not_forall.1 h
      obtain ⟨hj, h2⟩ := Classical.not_imp.1 h1
      obtain ⟨r, r1, r2, r3⟩ := ih j hj
      exact ⟨r, by omega, r2.trans (Classical.not_not.1 h2), r3⟩
theorem Finer.same {k : Nat} (f : Finer δ S c x k) (hk : k = cntP (Neu c) S) {a b : Nat} (ha : a < S) (hb : b < S) (h : c a = c b) : x a = x b := by
  have hn := b0y S f.neu (hk.symm.trans f.cnt)
  obtain ⟨i, i1, i2, i3⟩ := rep x a
  obtain ⟨j, j1, j2, j3⟩ := rep x b
  have n1 := hn i (by omega) i3
  have n2 := hn j (by omega) j3
  have e1 := ((f.al i a (by omega) ha).1 i2).1
  have e2 := ((f.al j b (by omega) hb).1 j2).1
  have e3 : c i = c j := e1.trans (h.trans e2.symm)
  have : i = j := by
    rcases Nat.lt_trichotomy i j with q | q | q
    · exact absurd e3 (n2 i q)
    · exact q
    · exact absurd e3.symm (n1 j q)
  subst this
  exact i2.symm.trans j2
structure Stab (δ : Nat → Nat → Nat) (acc : Nat → Bool) (S : Nat) (x : Nat → Int) : Prop where
  ac : ∀ a b, a < S → b < S → x a = x b → acc a = acc b
  to : ∀ a b, a < S → b < S → x a = x b → ∀ m, m < 5 → x (δ a m) = x (δ b m)
  rng : ∀ a, a < S → 0 ≤ x a ∧ x a < S
theorem Finer.stab {k : Nat} (f : Finer δ S c x k) (hk : k = cntP (Neu c) S) (hδ : ∀ a m, a < S → m < 5 → δ a m < S) (hc : ∀ a b, a < S → b < S → c a = c b → acc a = acc b) : Stab δ acc S x :=
  ⟨fun a b ha hb h => hc a b ha hb ((f.al a b ha hb).1 h).1, fun a b ha hb h m hm => f.same hk (hδ a m ha hm) (hδ b m hb hm) (((f.al a b ha hb).1 h).2 m hm), fun a ha => by have := f.rng a ha; have := f.kS; omega⟩
structure FI (δ : Nat → Nat → Nat) (c : Nat → Int) (F : Nat → Nat) (n : Nat) (x : Nat → Int) (i : Nat) : Prop where
  le : ∀ r, r < n → F r < i ∧ x (F r) = r
  cl : ∀ j, j < i → 0 ≤ x j ∧ x j < n ∧ Alk δ c (F (x j).toNat) j
  ds : ∀ r s, r < n → s < n → Alk δ c (F r) (F s) → r = s
  ct : n = cntP (Neu x) i
theorem FI.zero (F : Nat → Nat) (x : Nat → Int) : FI δ c F 0 x 0 := ⟨fun r h => by omega, fun j h => by omega, fun r s h => by omega, rfl⟩
theorem FI.old {F : Nat → Nat} {n i : Nat} (f : FI δ c F n x i) {k : Nat} (hk : k < n) (h : Alk δ c (F k) i) : FI δ c F n (fun j => if j = i then (k : Int) else x j) (i + 1) := by
  have hne : ∀ j, j < i → ¬ j = i := fun j h => by omega
  refine ⟨fun r hr => ?_, fun j hj => ?_, f.ds, ?_⟩
  · obtain ⟨h1, h2⟩ := f.le r hr
    exact ⟨by omega, by rw [if_neg (hne _ h1)]; exact h2⟩
  · by_cases q : j = i
    · subst q
      simp only [if_true, Int.toNat_natCast]
      exact ⟨by omega, by omega, h⟩
    · simp only [if_neg q]
      exact f.cl j (by omega)
  · have hc : cntP (Neu fun j => if j = i then (k : Int) else x j) i = cntP (Neu x) i := b0j i fun j hj => by
      constructor
      · intro h2 j' hj' e
        refine h2 j' hj' ?_
        simp only [if_neg (hne j' (by omega)), if_neg (hne j hj)]; exact e
      · intro h2 j' hj' e
        simp only [if_neg (hne j' (by omega)), if_neg (hne j hj)] at e
        exact h2 j' hj' e
    rw [a3k, hc]
    · exact f.ct
    · intro h2
      obtain ⟨h3, h4⟩ := f.le k hk
      refine h2 (F k) h3 ?_
      simp only [if_neg (hne _ h3), if_true]; exact h4
theorem FI.neu {F : Nat → Nat} {n i : Nat} (f : FI δ c F n x i) (h : ∀ k, k < n → ¬ Alk δ c (F k) i) : FI δ c (fun r => if r = n then i else F r) (n + 1) (fun j => if j = i then (n : Int) else x j) (i + 1) := by
  have hne : ∀ j, j < i → ¬ j = i := fun j h => by omega
  have hnn : ∀ j, j < n → ¬ j = n := fun j h => by omega
  refine ⟨fun r hr => ?_, fun j hj => ?_, fun r s hr hs h2 => ?_, ?_⟩
  · by_cases q : r = n
    · subst q; simp only [if_true]; exact ⟨by omega, trivial⟩
    · obtain ⟨h1, h2⟩ := f.le r (by omega)
      simp only [if_neg q, if_neg (hne _ h1)]; exact ⟨by omega, h2⟩
  · by_cases q : j = i
    · subst q
      simp only [if_true, Int.toNat_natCast]
      exact ⟨by omega, by omega, Alk.refl j⟩
    · obtain ⟨h1, h2, h3⟩ := f.cl j (by omega)
      simp only [if_neg q, if_neg (hnn (x j).toNat (by omega))]
      exact ⟨h1, by omega, h3⟩
  · by_cases q : r = n
    · subst q
      by_cases q2 : s = r
      · exact q2.symm
      · simp only [if_true, if_neg q2] at h2
        exact absurd h2.symm (h s (by omega))
    · by_cases q2 : s = n
      · subst q2
        simp only [if_true, if_neg q] at h2
        exact absurd h2 (h r (by omega))
      · simp only [if_neg q, if_neg q2] at h2
        exact f.ds r s (by omega) (by omega) h2
  · have hc : cntP (Neu fun j => if j = i then (n : Int) else x j) i = cntP (Neu x) i := b0j i fun j hj => by
      constructor
      · intro h2 j' hj' e
        refine h2 j' hj' ?_
        simp only [if_neg (hne j' (by omega)), if_neg (hne j hj)]; exact e
      · intro h2 j' hj' e
        simp only [if_neg (hne j' (by omega)), if_neg (hne j hj)] at e
        exact h2 j' hj' e
    rw [a3j, hc, ← f.ct]
    intro j hj e
    simp only [if_neg (hne j hj), if_true] at e
    have := f.cl j hj
    omega
theorem FI.fin {F : Nat → Nat} {n : Nat} (f : FI δ c F n x S) : Finer δ S c x n := by
  refine ⟨fun a b ha hb => ⟨fun h => ?_, fun h => ?_⟩, fun a ha => ⟨(f.cl a ha).1, (f.cl a ha).2.1⟩, f.ct⟩
  · have h1 := (f.cl a ha).2.2
    have h2 := (f.cl b hb).2.2
    rw [h] at h1
    exact h1.symm.trans h2
  · obtain ⟨a1, a2, a3⟩ := f.cl a ha
    obtain ⟨b1, b2, b3⟩ := f.cl b hb
    have := f.ds _ _ (by omega) (by omega) ((a3.trans h).trans b3.symm)
    omega
end
end Go.Gm

namespace Go.Gm.A9
open Go Go.Gm
def dl (D : List (List Int)) (a m : Nat) : Nat := (nx D a m).toNat
section
variable {D : List (List Int)} {acc : List Bool} {h : Heap}
theorem dl_lt (ok : DOk D acc) {a m : Nat} (ha : a < D.length) (hm : m < 5) : dl D a m < D.length := by
  have := ok.to a m (by omega) (by omega) (by omega) (by omega)
  have : 0 ≤ nx D a m ∧ nx D a m < D.length := this
  rw [dl]; omega
theorem cellN {sD : AV} (ok : DOk D acc) (hD : Sl h 5 sD (D.map encR)) {H : Heap} (e : Ext h H) {a m : Nat} (ha : a < D.length) (hm : m < 5) :
    ∃ p, idxA 5 1 (elP 5 sD a) (I m) = some p ∧ Gm.ld1 H p = some (I (dl D a m)) := by
  obtain ⟨p, p1, p2, -⟩ := cellA (H := H) hD e (i := (a : Int)) (j := (m : Int)) (by omega) (by omega) (by omega) (by omega)
  have hr := ok.row a (by omega) (by omega)
  have h2 : 0 ≤ nx D a m ∧ nx D a m < D.length := ok.to a m (by omega) (by omega) (by omega) (by omega)
  refine ⟨p, p1, p2.trans ?_⟩
  simp only [encR, List.getD_eq_getElem?_getD, List.getElem?_map, Int.toNat_natCast]
  have := d5_ (xs := gi D a) (i := (m : Int)) (by omega) (by omega)
  rw [Int.toNat_natCast] at this
  rw [this]
  show some (I (nx D a m)) = some (I ((nx D a m).toNat : Int))
  rw [show ((nx D a m).toNat : Int) = nx D a m by omega]
theorem b3V {sD sA sc : AV} {cs : List Int} {a b od : Nat} (ok : DOk D acc) (hD : Sl h 5 sD (D.map encR)) (hc : Sl h 1 sc (cs.map encI)) (lc : cs.length = D.length) (ha : a < D.length) (hb : b < D.length) (he : gf cs a = gf cs b)
    (rd : h[od]? = some (.cells ⟨[sD, sA], 0, 0, false⟩)) :
    ∀ (d m : Nat), m + d = 5 → (∀ m', m' < m → gf cs (dl D a m') = gf cs (dl D b m')) →
      WP (fun p : Nat × Nat => m3_ tab p.1 p.2 sc (I a) (I b) (.ptr od 0 2 0) (I m) h) fun r h' => h = h' ∧ ∃ t, r = .bool t ∧ (t = true ↔ Alk (dl D) (gf cs) a b) := by
  intro d
  induction d with
  | zero =>
    intro m h1 hm
    refine WP.rnd (fun i j => a0e tab i j sc (I a) (I b) (.ptr od 0 2 0) (I m) h) ?_
    obtain rfl : m = 5 := by omega
    simp -implicitDefEqProofs (maxSteps := 1000000) (disch := first | assumption | omega | (simp only [gL] <;> omega) | ((repeat (first | exact Ext.refl _ | assumption | apply Ext.app | apply Ext.mk | (refine Ext.setr ?_ (by (first | omega | (simp only [gL] <;> omega))) _))); done) | (simp only [gL, gA] <;> omega) | fail) only [gB, setAll, partL, fldV, reduceIte, Nat.reduceAdd, Nat.reduceMul]
    exact WP.ret ⟨rfl, true, rfl, fun _ => ⟨he, hm⟩, fun _ => rfl⟩
  | succ d ih =>
    intro m h1 hm
    refine WP.rnd (fun i j => a0e tab i j sc (I a) (I b) (.ptr od 0 2 0) (I m) h) ?_
    obtain ⟨p, p1, p2⟩ := cellN ok hD (Ext.refl h) ha (m := m) (by omega)
    obtain ⟨q, q1, q2⟩ := cellN ok hD (Ext.refl h) hb (m := m) (by omega)
    have x1 := dl_lt ok ha (m := m) (by omega)
    have x2 := dl_lt ok hb (m := m) (by omega)
    by_cases q : gi cs (dl D a m : Int) = gi cs (dl D b m : Int)
    · simp -implicitDefEqProofs (maxSteps := 1000000) (disch := first | assumption | omega | (simp only [gL] <;> omega) | ((repeat (first | exact Ext.refl _ | assumption | apply Ext.app | apply Ext.mk | (refine Ext.setr ?_ (by (first | omega | (simp only [gL] <;> omega))) _))); done) | (simp only [gL, gA, rd, hD.idxG, p1, p2, q1, q2, hc.idxG, hc.ld0, encI, q] <;> omega) | fail) only [gB, setAll, partL, fldV, reduceIte, Nat.reduceAdd, Nat.reduceMul, rd, hD.idxG, p1, p2, q1, q2, hc.idxG, hc.ld0, encI, q]
      refine ih (m + 1) (by omega) fun m' hm' => ?_
      by_cases z : m' = m
      · subst z; exact q
      · exact hm m' (by omega)
    · simp -implicitDefEqProofs (maxSteps := 1000000) (disch := first | assumption | omega | (simp only [gL] <;> omega) | ((repeat (first | exact Ext.refl _ | assumption | apply Ext.app | apply Ext.mk | (refine Ext.setr ?_ (by (first | omega | (simp only [gL] <;> omega))) _))); done) | (simp only [gL, gA, rd, hD.idxG, p1, p2, q1, q2, hc.idxG, hc.ld0, encI] <;> omega) | fail) only [gB, setAll, partL, fldV, reduceIte, Nat.reduceAdd, Nat.reduceMul, rd, hD.idxG, p1, p2, q1, q2, hc.idxG, hc.ld0, encI]
      exact WP.ret ⟨rfl, false, rfl, fun z => by simp at z, fun z => absurd (z.2 m (by omega)) q⟩
theorem b2E {sD sA sc : AV} {cs : List Int} {a b : Nat} (ok : DOk D acc) (hD : Sl h 5 sD (D.map encR)) (hA : Sl h 1 sA (acc.map encB)) (hc : Sl h 1 sc (cs.map encI)) (lc : cs.length = D.length) (ha : a < D.length) (hb : b < D.length) :
    Tot tab h5_ [.agg [sD, sA], sc, I a, I b] h fun r h' => Ext h h' ∧ ∃ t, r = .bool t ∧ (t = true ↔ Alk (dl D) (gf cs) a b) := by
  refine WP.tot (fun k => (a4z k _ _ _ _ h).trans (a5R tab k _ _ _ _ h)) ?_
  obtain ⟨h1, hh1⟩ : ∃ h1, h1 = h ++ [AObj.cells ⟨[sD, sA], 0, 0, false⟩] := ⟨_, rfl⟩
  have e1 : Ext h h1 := by rw [hh1]; exact Ext.push _ _
  have rd : h1[h.length]? = some (.cells ⟨[sD, sA], 0, 0, false⟩) := by rw [hh1]; simp
  have hc1 := hc.ext e1
  by_cases q : gi cs (a : Int) = gi cs (b : Int)
  · simp -implicitDefEqProofs (maxSteps := 1000000) (disch := first | assumption | omega | (simp only [gL] <;> omega) | ((repeat (first | exact Ext.refl _ | assumption | apply Ext.app | apply Ext.mk | (refine Ext.setr ?_ (by (first | omega | (simp only [gL] <;> omega))) _))); done) | (simp only [gL, gA, hD.one, hD.cells, hA.one, hA.cells, hc.idxG] <;> omega) | fail) only [gB, setAll, partL, fldV, reduceIte, Nat.reduceAdd, Nat.reduceMul, hD.one, hD.cells, hA.one, hA.cells, hc.idxG]
    rw [← hh1]
    simp -implicitDefEqProofs (maxSteps := 1000000) (disch := first | assumption | omega | (simp only [gL] <;> omega) | ((repeat (first | exact Ext.refl _ | assumption | apply Ext.app | apply Ext.mk | (refine Ext.setr ?_ (by (first | omega | (simp only [gL] <;> omega))) _))); done) | (simp only [gL, gA, hc1.ld0, encI, q] <;> omega) | fail) only [gB, setAll, partL, fldV, reduceIte, Nat.reduceAdd, Nat.reduceMul, hc1.ld0, encI, q]
    refine WP.ent ((b3V ok (hD.ext e1) hc1 lc ha hb q rd 5 0 (by omega) fun m hm => by omega).mono ?_) fun i => rfl
    rintro r h' ⟨rfl, t, rfl, ht⟩
    exact ⟨e1, t, rfl, ht⟩
  · simp -implicitDefEqProofs (maxSteps := 1000000) (disch := first | assumption | omega | (simp only [gL] <;> omega) | ((repeat (first | exact Ext.refl _ | assumption | apply Ext.app | apply Ext.mk | (refine Ext.setr ?_ (by (first | omega | (simp only [gL] <;> omega))) _))); done) | (simp only [gL, gA, hD.one, hD.cells, hA.one, hA.cells, hc.idxG] <;> omega) | fail) only [gB, setAll, partL, fldV, reduceIte, Nat.reduceAdd, Nat.reduceMul, hD.one, hD.cells, hA.one, hA.cells, hc.idxG]
    rw [← hh1]
    simp -implicitDefEqProofs (maxSteps := 1000000) (disch := first | assumption | omega | (simp only [gL] <;> omega) | ((repeat (first | exact Ext.refl _ | assumption | apply Ext.app | apply Ext.mk | (refine Ext.setr ?_ (by (first | omega | (simp only [gL] <;> omega))) _))); done) | (simp only [gL, gA, hc1.ld0, encI] <;> omega) | fail) only [gB, setAll, partL, fldV, reduceIte, Nat.reduceAdd, Nat.reduceMul, hc1.ld0, encI]
    exact WP.ret ⟨e1, false, rfl, fun z => by simp at z, fun z => absurd z.1 q⟩
def encN (n : Nat) : List AV := [I n]
theorem b2m (F : List Nat) (i : Nat) : gf (F ++ [i]) = fun r : Nat => if r = F.length then i else gf F r := by
  funext r
  simp only [gf, gi, Int.toNat_natCast, List.getD_eq_getElem?_getD]
  by_cases q : r < F.length
  · rw [List.getElem?_append_left q, if_neg (by omega)]
  · by_cases q2 : r = F.length
    · subst q2; simp
    · rw [if_neg q2, List.getElem?_eq_none (by simp; omega), List.getElem?_eq_none (by omega)]
theorem b3W {sD sA sc out first : AV} {cs : List Int} {F : List Nat} {i od : Nat} {Q : AV → Heap → Prop} (ok : DOk D acc) (hD : Sl h 5 sD (D.map encR)) (hA : Sl h 1 sA (acc.map encB)) (hc : Sl h 1 sc (cs.map encI)) (lc : cs.length = D.length)
    (rd : h[od]? = some (.cells ⟨[sD, sA], 0, 0, false⟩)) (hF : Sl h 1 first (F.map encN)) (hFS : ∀ r, r < F.length → gf F r < D.length) (hFl : F.length ≤ 100000) (hi : i < D.length)
    (hQ : ∀ h' kk, Ext h h' → kk ≤ F.length → (kk < F.length → Alk (dl D) (gf cs) (gf F kk) i) → (∀ k, k < kk → ¬ Alk (dl D) (gf cs) (gf F k) i) →
      WP (fun p : Nat × Nat => t4_ tab p.1 p.2 sc (.ptr od 0 2 0) out first (I i) (I kk) h') Q) :
    ∀ (d k : Nat) (h1 : Heap), k + d = F.length → Ext h h1 → (∀ k', k' < k → ¬ Alk (dl D) (gf cs) (gf F k') i) →
      WP (fun p : (Nat × Nat) × Nat => m2_ tab p.1.1 p.1.2 p.2 sc (.ptr od 0 2 0) out first (I i) (I k) h1) Q := by
  intro d
  induction d with
  | zero =>
    intro k h1 hk e hn
    refine WP.rnd (fun i' j => a0c tab i'.1 i'.2 j sc (.ptr od 0 2 0) out first (I i) (I k) h1) ?_
    obtain rfl : k = F.length := by omega
    have hF1 := hF.ext e
    simp -implicitDefEqProofs (maxSteps := 1000000) (disch := first | assumption | omega | (simp only [gL] <;> omega) | ((repeat (first | exact Ext.refl _ | assumption | apply Ext.app | apply Ext.mk | (refine Ext.setr ?_ (by (first | omega | (simp only [gL] <;> omega))) _))); done) | (simp only [gL, gA, hF1.lenG] <;> omega) | fail) only [gB, setAll, partL, fldV, reduceIte, Nat.reduceAdd, Nat.reduceMul, hF1.lenG]
    exact WP.lv (hQ h1 F.length e (Nat.le_refl _) (fun z => by omega) hn) fun i j => rfl
  | succ d ih =>
    intro k h1 hk e hn
    refine WP.rnd (fun i' j => a0c tab i'.1 i'.2 j sc (.ptr od 0 2 0) out first (I i) (I k) h1) ?_
    have hF1 := hF.ext e
    have rd1 := e.get rd
    have hkF : k < F.length := by omega
    obtain ⟨f, hf⟩ : ∃ f, gi F (k : Int) = f := ⟨_, rfl⟩
    have hfS : f < D.length := hf ▸ hFS k hkF
    simp -implicitDefEqProofs (maxSteps := 1000000) (disch := first | assumption | omega | (simp only [gL] <;> omega) | ((repeat (first | exact Ext.refl _ | assumption | apply Ext.app | apply Ext.mk | (refine Ext.setr ?_ (by (first | omega | (simp only [gL] <;> omega))) _))); done) | (simp only [gL, gA, hF1.lenG, hF1.idxG, hF1.ld0, hf, encN, rd1] <;> omega) | fail) only [gB, setAll, partL, fldV, reduceIte, Nat.reduceAdd, Nat.reduceMul, hF1.lenG, hF1.idxG, hF1.ld0, hf, encN, rd1]
    refine WP.call (b2E ok (hD.ext e) (hA.ext e) (hc.ext e) lc hfS hi) ?_
    rintro _ h2 ⟨e2, t, rfl, ht⟩
    cases t with
    | true =>
      simp -implicitDefEqProofs (maxSteps := 1000000) (disch := first | assumption | omega | (simp only [gL] <;> omega) | ((repeat (first | exact Ext.refl _ | assumption | apply Ext.app | apply Ext.mk | (refine Ext.setr ?_ (by (first | omega | (simp only [gL] <;> omega))) _))); done) | (simp only [gL, gA] <;> omega) | fail) only [gB, setAll, partL, fldV, reduceIte, Nat.reduceAdd, Nat.reduceMul]
      refine WP.lv (hQ h2 k (e.trans e2) (by omega) (fun _ => ?_) hn) fun i j => rfl
      rw [show gf F k = f from hf]; exact ht.1 rfl
    | false =>
      simp -implicitDefEqProofs (maxSteps := 1000000) (disch := first | assumption | omega | (simp only [gL] <;> omega) | ((repeat (first | exact Ext.refl _ | assumption | apply Ext.app | apply Ext.mk | (refine Ext.setr ?_ (by (first | omega | (simp only [gL] <;> omega))) _))); done) | (simp only [gL, gA] <;> omega) | fail) only [gB, setAll, partL, fldV, reduceIte, Nat.reduceAdd, Nat.reduceMul]
      refine ih (k + 1) h2 (by omega) (e.trans e2) fun k' hk' => ?_
      by_cases z : k' = k
      · subst z
        rw [show gf F k' = f from hf]
        intro z2
        have := ht.2 z2
        simp at this
      · exact hn k' (by omega)
theorem b3X {hb : Heap} {sD sA sc out : AV} {cs : List Int} {od oo : Nat} (ok : DOk D acc) (hD : Sl hb 5 sD (D.map encR)) (hA : Sl hb 1 sA (acc.map encB)) (hc : Sl hb 1 sc (cs.map encI)) (lc : cs.length = D.length)
    (rd : hb[od]? = some (.cells ⟨[sD, sA], 0, 0, false⟩)) (ho : hb.length ≤ oo) :
    ∀ (d i : Nat) (h : Heap) (first : AV) (xs : List Int) (F : List Nat), i + d = D.length → Ext hb h → oo < h.length → Gr oo (oo + 1) h 1 out (xs.map encI) → xs.length = D.length → Gr (oo + 1) h.length h 1 first (F.map encN) →
      FI (dl D) (gf cs) (gf F) F.length (gf xs) i →
      WP (fun p : Nat × Nat => m1_ tab p.1 p.2 sc (.ptr od 0 2 0) out first (I i) h) fun r h' => Ext hb h' ∧ ∃ (k : Nat) (xs : List Int), r = .tup [out, I k] ∧ Gr oo (oo + 1) h' 1 out (xs.map encI) ∧ xs.length = D.length ∧ Finer (dl D) D.length (gf cs) (gf xs) k := by
  have l1 := ok.l1
  intro d
  induction d with
  | zero =>
    intro i h first xs F h1 e hoo g lx gF fi
    refine WP.rnd (fun i' j => a0d tab i' j sc (.ptr od 0 2 0) out first (I i) h) ?_
    obtain rfl : i = D.length := by omega
    have hc1 := hc.ext e
    simp -implicitDefEqProofs (maxSteps := 1000000) (disch := first | assumption | omega | (simp only [gL] <;> omega) | ((repeat (first | exact Ext.refl _ | assumption | apply Ext.app | apply Ext.mk | (refine Ext.setr ?_ (by (first | omega | (simp only [gL] <;> omega))) _))); done) | (simp only [gL, gA, hc1.lenG, lc] <;> omega) | fail) only [gB, setAll, partL, fldV, reduceIte, Nat.reduceAdd, Nat.reduceMul, hc1.lenG, lc]
    refine WP.lv (WP.congr (fun k : Nat => a3K tab k out first h) ?_) fun i j => rfl
    simp -implicitDefEqProofs (maxSteps := 1000000) (disch := first | assumption | omega | (simp only [gL] <;> omega) | ((repeat (first | exact Ext.refl _ | assumption | apply Ext.app | apply Ext.mk | (refine Ext.setr ?_ (by (first | omega | (simp only [gL] <;> omega))) _))); done) | (simp only [gL, gA, gF.sl.lenG] <;> omega) | fail) only [gB, setAll, partL, fldV, reduceIte, Nat.reduceAdd, Nat.reduceMul, gF.sl.lenG]
    exact WP.ret ⟨e, F.length, xs, rfl, g, lx, fi.fin⟩
  | succ d ih =>
    intro i h first xs F h1 e hoo g lx gF fi
    refine WP.rnd (fun i' j => a0d tab i' j sc (.ptr od 0 2 0) out first (I i) h) ?_
    have hc1 := hc.ext e
    have hiD : i < D.length := by omega
    have hFn : F.length ≤ i := by rw [fi.ct]; exact a8S _ _
    simp -implicitDefEqProofs (maxSteps := 1000000) (disch := first | assumption | omega | (simp only [gL] <;> omega) | ((repeat (first | exact Ext.refl _ | assumption | apply Ext.app | apply Ext.mk | (refine Ext.setr ?_ (by (first | omega | (simp only [gL] <;> omega))) _))); done) | (simp only [gL, gA, hc1.lenG, lc] <;> omega) | fail) only [gB, setAll, partL, fldV, reduceIte, Nat.reduceAdd, Nat.reduceMul, hc1.lenG, lc]
    refine WP.ent (b3W ok (hD.ext e) (hA.ext e) hc1 lc (e.get rd) gF.sl (fun r hr => ?_) (by omega) hiD (fun h2 kk e2 k1 k2 k3 => ?_) F.length 0 h (by omega) (Ext.refl _) fun k' hk' => by omega) fun i => rfl
    · have := (fi.le r hr).1; omega
    · refine WP.congr (fun p => a3J tab p.1 p.2 sc (.ptr od 0 2 0) out first (I i) (I kk) h2) ?_
      have gF2 := gF.ext e2
      have l2 := e2.len
      by_cases q : kk = F.length
      · have hcz : gf (xs.set i (F.length : Int)) = fun j => if j = i then (F.length : Int) else gf xs j := gset (by omega) _
        obtain ⟨s', h3, q1, q2, q3⟩ := Gr.append1 (bytes := 8) (gF2.low h2.length (Nat.le_refl _)) (v := encN i) rfl (by omega) (by omega) (by simp; omega) (by omega) (Nat.le_refl _)
        rw [a9_] at q1
        simp only [encN] at q1
        have l3 := q3.1
        have g3 := (g.ext e2).fr q3 (.inl (Nat.le_refl _))
        have e3 : Ext hb h3 := q3.ext (e.trans e2) (by omega)
        obtain ⟨h4, w1, w2, w3, w4⟩ := g3.write0 (i := (i : Int)) (v := I F.length) (by omega) (by simp; omega) rfl rfl
        simp -implicitDefEqProofs (maxSteps := 1000000) (disch := first | assumption | omega | (simp only [gL] <;> omega) | ((repeat (first | exact Ext.refl _ | assumption | apply Ext.app | apply Ext.mk | (refine Ext.setr ?_ (by (first | omega | (simp only [gL] <;> omega))) _))); done) | (simp only [gL, gA, gF2.sl.lenG, q1] <;> omega) | fail) only [gB, setAll, partL, fldV, reduceIte, Nat.reduceAdd, Nat.reduceMul, gF2.sl.lenG, q1]
        refine WP.congr (fun p => a0b tab p.1 p.2 sc (.ptr od 0 2 0) out s' (I i) (I kk) h3) ?_
        rw [q]
        simp -implicitDefEqProofs (maxSteps := 1000000) (disch := first | assumption | omega | (simp only [gL] <;> omega) | ((repeat (first | exact Ext.refl _ | assumption | apply Ext.app | apply Ext.mk | (refine Ext.setr ?_ (by (first | omega | (simp only [gL] <;> omega))) _))); done) | (simp only [gL, gA, g3.sl.idxG, w1] <;> omega) | fail) only [gB, setAll, partL, fldV, reduceIte, Nat.reduceAdd, Nat.reduceMul, g3.sl.idxG, w1]
        refine WP.congr (fun p => a0a tab p.1 p.2 sc (.ptr od 0 2 0) out s' (I i) h4) ?_
        simp -implicitDefEqProofs (maxSteps := 1000000) (disch := first | assumption | omega | (simp only [gL] <;> omega) | ((repeat (first | exact Ext.refl _ | assumption | apply Ext.app | apply Ext.mk | (refine Ext.setr ?_ (by (first | omega | (simp only [gL] <;> omega))) _))); done) | (simp only [gL, gA] <;> omega) | fail) only [gB, setAll, partL, fldV, reduceIte, Nat.reduceAdd, Nat.reduceMul]
        refine ih (i + 1) h4 s' (xs.set i (F.length : Int)) (F ++ [i]) (by omega) (w3.ext e3 (by omega)) (by omega) (w2.cong ?_) (by simpa using lx) (((q2.fr w3 (.inr (Nat.le_refl _))).mono (Nat.le_refl _) (by omega)).cong ?_) ?_
        · rw [List.map_set]; rfl
        · rw [List.map_append]; rfl
        · rw [b2m, hcz, List.length_append]
          exact fi.neu fun k hk => k3 k (by omega)
      · have hkk : kk < F.length := by omega
        have hcz : gf (xs.set i (kk : Int)) = fun j => if j = i then (kk : Int) else gf xs j := gset (by omega) _
        have g3 := g.ext e2
        obtain ⟨h4, w1, w2, w3, w4⟩ := g3.write0 (i := (i : Int)) (v := I kk) (by omega) (by simp; omega) rfl rfl
        simp -implicitDefEqProofs (maxSteps := 1000000) (disch := first | assumption | omega | (simp only [gL] <;> omega) | ((repeat (first | exact Ext.refl _ | assumption | apply Ext.app | apply Ext.mk | (refine Ext.setr ?_ (by (first | omega | (simp only [gL] <;> omega))) _))); done) | (simp only [gL, gA, gF2.sl.lenG] <;> omega) | fail) only [gB, setAll, partL, fldV, reduceIte, Nat.reduceAdd, Nat.reduceMul, gF2.sl.lenG]
        refine WP.congr (fun p => a0b tab p.1 p.2 sc (.ptr od 0 2 0) out first (I i) (I kk) h2) ?_
        simp -implicitDefEqProofs (maxSteps := 1000000) (disch := first | assumption | omega | (simp only [gL] <;> omega) | ((repeat (first | exact Ext.refl _ | assumption | apply Ext.app | apply Ext.mk | (refine Ext.setr ?_ (by (first | omega | (simp only [gL] <;> omega))) _))); done) | (simp only [gL, gA, g3.sl.idxG, w1] <;> omega) | fail) only [gB, setAll, partL, fldV, reduceIte, Nat.reduceAdd, Nat.reduceMul, g3.sl.idxG, w1]
        refine WP.congr (fun p => a0a tab p.1 p.2 sc (.ptr od 0 2 0) out first (I i) h4) ?_
        simp -implicitDefEqProofs (maxSteps := 1000000) (disch := first | assumption | omega | (simp only [gL] <;> omega) | ((repeat (first | exact Ext.refl _ | assumption | apply Ext.app | apply Ext.mk | (refine Ext.setr ?_ (by (first | omega | (simp only [gL] <;> omega))) _))); done) | (simp only [gL, gA] <;> omega) | fail) only [gB, setAll, partL, fldV, reduceIte, Nat.reduceAdd, Nat.reduceMul]
        refine ih (i + 1) h4 first (xs.set i (kk : Int)) F (by omega) (w3.ext (e.trans e2) (by omega)) (by omega) (w2.cong ?_) (by simpa using lx) ((gF2.fr w3 (.inr (Nat.le_refl _))).mono (Nat.le_refl _) (by omega)) ?_
        · rw [List.map_set]; rfl
        · rw [hcz]; exact fi.old hkk (k2 hkk)
theorem b2F {sD sA sc : AV} {cs : List Int} (ok : DOk D acc) (hD : Sl h 5 sD (D.map encR)) (hA : Sl h 1 sA (acc.map encB)) (hc : Sl h 1 sc (cs.map encI)) (lc : cs.length = D.length) :
    Tot tab h3_ [.agg [sD, sA], sc] h fun r h' => Ext h h' ∧ ∃ (out : AV) (k : Nat) (xs : List Int), r = .tup [out, I k] ∧ Gr h.length h'.length h' 1 out (xs.map encI) ∧ xs.length = D.length ∧ Finer (dl D) D.length (gf cs) (gf xs) k := by
  refine WP.tot (fun k => (a4x k _ _ h).trans (a5O tab k _ _ h)) ?_
  have l1 := ok.l1
  obtain ⟨h1, hh1⟩ : ∃ h1, h1 = h ++ [AObj.cells ⟨[sD, sA], 0, 0, false⟩] := ⟨_, rfl⟩
  have e1 : Ext h h1 := by rw [hh1]; exact Ext.push _ _
  have rd : h1[h.length]? = some (.cells ⟨[sD, sA], 0, 0, false⟩) := by rw [hh1]; simp
  have hl1 : h1.length = h.length + 1 := by rw [hh1]; simp
  obtain ⟨s2, h2, a2, g2, e2, _, l2⟩ := q4_ (zero := [AV.int .i64 0]) (sz := 1) (bytes := 8) (n := (D.length : Int)) h1 (by omega) (by omega) (by omega) rfl rfl
  have hre : List.replicate (D.length : Int).toNat [AV.int .i64 0] = (List.replicate D.length (0 : Int)).map encI := by simp [encI, I]
  rw [hre] at g2
  simp -implicitDefEqProofs (maxSteps := 1000000) (disch := first | assumption | omega | (simp only [gL] <;> omega) | ((repeat (first | exact Ext.refl _ | assumption | apply Ext.app | apply Ext.mk | (refine Ext.setr ?_ (by (first | omega | (simp only [gL] <;> omega))) _))); done) | (simp only [gL, gA, hD.one, hD.cells, hA.one, hA.cells, hc.lenG, lc] <;> omega) | fail) only [gB, setAll, partL, fldV, reduceIte, Nat.reduceAdd, Nat.reduceMul, hD.one, hD.cells, hA.one, hA.cells, hc.lenG, lc]
  rw [← hh1]
  simp -implicitDefEqProofs (maxSteps := 1000000) (disch := first | assumption | omega | (simp only [gL] <;> omega) | ((repeat (first | exact Ext.refl _ | assumption | apply Ext.app | apply Ext.mk | (refine Ext.setr ?_ (by (first | omega | (simp only [gL] <;> omega))) _))); done) | (simp only [gL, gA, a2] <;> omega) | fail) only [gB, setAll, partL, fldV, reduceIte, Nat.reduceAdd, Nat.reduceMul, a2]
  refine WP.ent ((b3X ok (hD.ext e1) (hA.ext e1) (hc.ext e1) lc rd (Nat.le_refl _) D.length 0 h2 .nils _ [] (by omega) e2 (by omega) g2 (by simp) (Gr.nil ..) (FI.zero ..)).mono ?_) fun i => rfl
  rintro r h3 ⟨e3, k, xs, rfl, g3, lx, f3⟩
  exact ⟨e1.trans e3, s2, k, xs, rfl, (g3.low _ (Nat.le_refl _)).mono (by omega) (Nat.le_refl _), lx, f3⟩
end
end Go.Gm.A9

namespace Go.Gm.A9
open Go Go.Gm
section
variable {D : List (List Int)} {acc : List Bool} {h : Heap}
theorem b3A {hb : Heap} {sD sA : AV} {od : Nat} (ok : DOk D acc) (hD : Sl hb 5 sD (D.map encR)) (hA : Sl hb 1 sA (acc.map encB)) (rd : hb[od]? = some (.cells ⟨[sD, sA], 0, 0, false⟩)) :
    ∀ (d : Nat) (n : Nat) (h : Heap) (sc : AV) (cs : List Int), D.length + 1 ≤ d + n → Ext hb h → Gr hb.length h.length h 1 sc (cs.map encI) → cs.length = D.length → (n = 0 ∨ n = cntP (Neu (gf cs)) D.length) → (∀ a b, a < D.length → b < D.length → gf cs a = gf cs b → gi acc (a : Int) = gi acc (b : Int)) →
      WP (fun p : Nat × Nat => k1_ tab p.1 p.2 (.ptr od 0 2 0) sc (I n) h) fun r h' => Ext hb h' ∧ ∃ xs : List Int, Gr hb.length h'.length h' 1 r (xs.map encI) ∧ xs.length = D.length ∧ Stab (dl D) (fun a : Nat => gi acc (a : Int)) D.length (gf xs) := by
  have l0 := ok.l0
  have l1 := ok.l1
  intro d
  induction d with
  | zero =>
    intro n h sc cs h1 e g lc hn hac
    have : n ≤ D.length := by
      rcases hn with rfl | rfl
      · omega
      · exact a8S _ _
    omega
  | succ d ih =>
    intro n h sc cs h1 e g lc hn hac
    refine WP.rnd (fun i' j => a3o tab i' j (.ptr od 0 2 0) sc (I n) h) ?_
    have rd1 := e.get rd
    simp -implicitDefEqProofs (maxSteps := 1000000) (disch := first | assumption | omega | (simp only [gL] <;> omega) | ((repeat (first | exact Ext.refl _ | assumption | apply Ext.app | apply Ext.mk | (refine Ext.setr ?_ (by (first | omega | (simp only [gL] <;> omega))) _))); done) | (simp only [gL, gA, rd1] <;> omega) | fail) only [gB, setAll, partL, fldV, reduceIte, Nat.reduceAdd, Nat.reduceMul, rd1]
    refine WP.call (b2F ok (hD.ext e) (hA.ext e) g.sl lc) ?_
    rintro _ h2 ⟨e2, out, k, xs, rfl, g2, lx, f2⟩
    have l2 := e.len
    have g2' : Gr hb.length h2.length h2 1 out (xs.map encI) := g2.mono l2 (Nat.le_refl _)
    by_cases q : k = n
    · simp -implicitDefEqProofs (maxSteps := 1000000) (disch := first | assumption | omega | (simp only [gL] <;> omega) | ((repeat (first | exact Ext.refl _ | assumption | apply Ext.app | apply Ext.mk | (refine Ext.setr ?_ (by (first | omega | (simp only [gL] <;> omega))) _))); done) | (simp only [gL, gA, a4_, a5_] <;> omega) | fail) only [gB, setAll, partL, fldV, reduceIte, Nat.reduceAdd, Nat.reduceMul, a4_, a5_]
      refine WP.ret ⟨e.trans e2, xs, g2', lx, ?_⟩
      refine f2.stab ?_ (fun a m ha hm => dl_lt ok ha hm) hac
      rcases hn with hn | hn
      · have := f2.pos l0; omega
      · omega
    · have hkn : n < k := by
        rcases hn with hn | hn
        · have := f2.pos l0; omega
        · have := f2.le; omega
      simp -implicitDefEqProofs (maxSteps := 1000000) (disch := first | assumption | omega | (simp only [gL] <;> omega) | ((repeat (first | exact Ext.refl _ | assumption | apply Ext.app | apply Ext.mk | (refine Ext.setr ?_ (by (first | omega | (simp only [gL] <;> omega))) _))); done) | (simp only [gL, gA, a4_, a5_] <;> omega) | fail) only [gB, setAll, partL, fldV, reduceIte, Nat.reduceAdd, Nat.reduceMul, a4_, a5_]
      refine ih k h2 out xs (by omega) (e.trans e2) g2' lx (.inr f2.cnt) fun a b ha hb hab => hac a b ha hb ((f2.al a b ha hb).1 hab).1
theorem b3B {hb : Heap} {sD sA sc : AV} {od : Nat} (ok : DOk D acc) (hD : Sl hb 5 sD (D.map encR)) (hA : Sl hb 1 sA (acc.map encB)) (rd : hb[od]? = some (.cells ⟨[sD, sA], 0, 0, false⟩)) :
    ∀ (d i : Nat) (h : Heap) (cs : List Int), i + d = D.length → Ext hb h → hb.length + 1 = h.length → Gr hb.length (hb.length + 1) h 1 sc (cs.map encI) → cs.length = D.length → (∀ a : Nat, a < D.length → gf cs a = if a < i ∧ gi acc (a : Int) = true then 1 else 0) →
      WP (fun p : Nat × Nat => e7_ tab p.1 p.2 (.ptr od 0 2 0) sc (I i) h) fun r h' => Ext hb h' ∧ ∃ xs : List Int, Gr hb.length h'.length h' 1 r (xs.map encI) ∧ xs.length = D.length ∧ Stab (dl D) (fun a : Nat => gi acc (a : Int)) D.length (gf xs) := by
  have l0 := ok.l0
  have l1 := ok.l1
  have la := ok.la
  intro d
  induction d with
  | zero =>
    intro i h cs h1 e hl g lc hv
    refine WP.rnd (fun i' j => x0_ tab i' j (.ptr od 0 2 0) sc (I i) h) ?_
    obtain rfl : i = D.length := by omega
    simp -implicitDefEqProofs (maxSteps := 1000000) (disch := first | assumption | omega | (simp only [gL] <;> omega) | ((repeat (first | exact Ext.refl _ | assumption | apply Ext.app | apply Ext.mk | (refine Ext.setr ?_ (by (first | omega | (simp only [gL] <;> omega))) _))); done) | (simp only [gL, gA, g.sl.lenG, lc] <;> omega) | fail) only [gB, setAll, partL, fldV, reduceIte, Nat.reduceAdd, Nat.reduceMul, g.sl.lenG, lc]
    refine WP.lv (WP.congr (fun k : Nat => a3p tab k (.ptr od 0 2 0) sc h) ?_) fun i j => rfl
    refine WP.ent (b3A ok hD hA rd (D.length + 1) 0 h sc cs (by omega) e (g.low _ (Nat.le_refl _)) lc (.inl rfl) fun a b ha hb hab => ?_) fun i => rfl
    rw [hv a ha, hv b hb] at hab
    by_cases qa : gi acc (a : Int) = true
    · by_cases qb : gi acc (b : Int) = true
      · rw [qa, qb]
      · rw [if_pos ⟨ha, qa⟩, if_neg fun z => qb z.2] at hab; omega
    · by_cases qb : gi acc (b : Int) = true
      · rw [if_neg fun z => qa z.2, if_pos ⟨hb, qb⟩] at hab; omega
      · rw [Bool.not_eq_true] at qa qb; rw [qa, qb]
  | succ d ih =>
    intro i h cs h1 e hl g lc hv
    refine WP.rnd (fun i' j => x0_ tab i' j (.ptr od 0 2 0) sc (I i) h) ?_
    have hA1 := hA.ext e
    have rd1 := e.get rd
    have hiD : i < D.length := by omega
    obtain ⟨b, hb'⟩ : ∃ b, gi acc (i : Int) = b := ⟨_, rfl⟩
    cases b with
    | true =>
      obtain ⟨h4, w1, w2, w3, w4⟩ := g.write0 (i := (i : Int)) (v := I 1) (by omega) (by simp; omega) rfl rfl
      simp -implicitDefEqProofs (maxSteps := 1000000) (disch := first | assumption | omega | (simp only [gL] <;> omega) | ((repeat (first | exact Ext.refl _ | assumption | apply Ext.app | apply Ext.mk | (refine Ext.setr ?_ (by (first | omega | (simp only [gL] <;> omega))) _))); done) | (simp only [gL, gA, g.sl.lenG, lc, rd1, hA1.idxG, hA1.ld0, hb', encB, g.sl.idxG, w1] <;> omega) | fail) only [gB, setAll, partL, fldV, reduceIte, Nat.reduceAdd, Nat.reduceMul, g.sl.lenG, lc, rd1, hA1.idxG, hA1.ld0, hb', encB, g.sl.idxG, w1]
      refine ih (i + 1) h4 (cs.set i 1) (by omega) (w3.ext e (Nat.le_refl _)) (by omega) (w2.cong ?_) (by simpa using lc) fun a ha => ?_
      · rw [List.map_set]; rfl
      · rw [show gf (cs.set i 1) = _ from gset (by omega) 1]
        by_cases q : a = i
        · subst q; simp [hb']
        · simp only [if_neg q]
          rw [show gi cs (a : Int) = gf cs a from rfl, hv a ha]
          by_cases q2 : a < i
          · simp [q2, show a < i + 1 by omega]
          · simp [q2, show ¬ a < i + 1 by omega]
    | false =>
      simp -implicitDefEqProofs (maxSteps := 1000000) (disch := first | assumption | omega | (simp only [gL] <;> omega) | ((repeat (first | exact Ext.refl _ | assumption | apply Ext.app | apply Ext.mk | (refine Ext.setr ?_ (by (first | omega | (simp only [gL] <;> omega))) _))); done) | (simp only [gL, gA, g.sl.lenG, lc, rd1, hA1.idxG, hA1.ld0, hb', encB] <;> omega) | fail) only [gB, setAll, partL, fldV, reduceIte, Nat.reduceAdd, Nat.reduceMul, g.sl.lenG, lc, rd1, hA1.idxG, hA1.ld0, hb', encB]
      refine ih (i + 1) h cs (by omega) e hl g lc fun a ha => ?_
      rw [hv a ha]
      by_cases q : a = i
      · subst q; simp [hb']
      · by_cases q2 : a < i
        · simp [q2, show a < i + 1 by omega]
        · simp [q2, show ¬ a < i + 1 by omega]
theorem b1K {sD sA : AV} (ok : DOk D acc) (hD : Sl h 5 sD (D.map encR)) (hA : Sl h 1 sA (acc.map encB)) :
    Tot tab f0_ [.agg [sD, sA]] h fun r h' => Ext h h' ∧ ∃ xs : List Int, Gr h.length h'.length h' 1 r (xs.map encI) ∧ xs.length = D.length ∧ Stab (dl D) (fun a : Nat => gi acc (a : Int)) D.length (gf xs) := by
  refine WP.tot (fun k => (a3R k _ h).trans (a4L tab k _ h)) ?_
  have l1 := ok.l1
  obtain ⟨h1, hh1⟩ : ∃ h1, h1 = h ++ [AObj.cells ⟨[sD, sA], 0, 0, false⟩] := ⟨_, rfl⟩
  have e1 : Ext h h1 := by rw [hh1]; exact Ext.push _ _
  have rd : h1[h.length]? = some (.cells ⟨[sD, sA], 0, 0, false⟩) := by rw [hh1]; simp
  have hl1 : h1.length = h.length + 1 := by rw [hh1]; simp
  obtain ⟨s2, h2, a2, g2, e2, _, l2⟩ := q4_ (zero := [AV.int .i64 0]) (sz := 1) (bytes := 8) (n := (D.length : Int)) h1 (by omega) (by omega) (by omega) rfl rfl
  have hre : List.replicate (D.length : Int).toNat [AV.int .i64 0] = (List.replicate D.length (0 : Int)).map encI := by simp [encI, I]
  rw [hre] at g2
  simp -implicitDefEqProofs (maxSteps := 1000000) (disch := first | assumption | omega | (simp only [gL] <;> omega) | ((repeat (first | exact Ext.refl _ | assumption | apply Ext.app | apply Ext.mk | (refine Ext.setr ?_ (by (first | omega | (simp only [gL] <;> omega))) _))); done) | (simp only [gL, gA, hD.one, hD.cells, hA.one, hA.cells, hD.lenG] <;> omega) | fail) only [gB, setAll, partL, fldV, reduceIte, Nat.reduceAdd, Nat.reduceMul, hD.one, hD.cells, hA.one, hA.cells, hD.lenG]
  rw [← hh1]
  simp -implicitDefEqProofs (maxSteps := 1000000) (disch := first | assumption | omega | (simp only [gL] <;> omega) | ((repeat (first | exact Ext.refl _ | assumption | apply Ext.app | apply Ext.mk | (refine Ext.setr ?_ (by (first | omega | (simp only [gL] <;> omega))) _))); done) | (simp only [gL, gA, a2] <;> omega) | fail) only [gB, setAll, partL, fldV, reduceIte, Nat.reduceAdd, Nat.reduceMul, a2]
  refine WP.ent ((b3B ok (hD.ext e1) (hA.ext e1) rd D.length 0 h2 _ (by omega) e2 (by omega) g2 (by simp) fun a ha => ?_).mono ?_) fun i => rfl
  · rw [if_neg (by omega)]
    exact a3h (by omega) (by omega)
  · rintro r h3 ⟨e3, xs, g3, lx, f3⟩
    exact ⟨e1.trans e3, xs, g3.mono (by omega) (Nat.le_refl _), lx, f3⟩
end
end Go.Gm.A9

namespace Go.Gm
section
variable {δ : Nat → Nat → Nat} {S n : Nat} {x rk : Nat → Int} {s : Nat → Nat} {acc : Nat → Bool}
structure PM (x : Nat → Int) (S : Nat) (rk : Nat → Int) (s : Nat → Nat) (n : Nat) : Prop where
  lt : ∀ j, j < n → s j < S
  rel : ∀ v : Nat, v < S → (rk v = 0 ∧ ∀ j, j < n → x (s j) ≠ v) ∨ ∃ j : Nat, j < n ∧ rk v = j + 1 ∧ x (s j) = v
  ct : un S (fun v => rk v - 1) + n = S
theorem PM.le (p : PM x S rk s n) : n ≤ S := by
  have := p.ct
  have := o7_ S (fun v => rk v - 1)
  omega
theorem PM.has (p : PM x S rk s n) {v : Nat} (hv : v < S) (h : rk v ≠ 0) : ∃ j : Nat, j < n ∧ rk v = j + 1 ∧ x (s j) = v := by
  rcases p.rel v hv with ⟨h1, _⟩ | h1
  · exact absurd h1 h
  · exact h1
theorem PM.neu (p : PM x S rk s n) {v to : Nat} (hv : v < S) (ht : to < S) (hx : x to = v) (h : rk v = 0) : PM x S (up rk v (n + 1)) (fun r => if r = n then to else s r) (n + 1) := by
  have hnn : ∀ j, j < n → ¬ j = n := fun j h => by omega
  refine ⟨fun j hj => ?_, fun w hw => ?_, ?_⟩
  · by_cases q : j = n
    · simp only [if_pos q]; exact ht
    · simp only [if_neg q]; exact p.lt j (by omega)
  · by_cases q : w = v
    · subst q
      refine .inr ⟨n, by omega, ?_, ?_⟩
      · simp [up]
      · simp only [if_true]; exact hx
    · rcases p.rel w hw with ⟨h1, h2⟩ | ⟨j, h1, h2, h3⟩
      · refine .inl ⟨by rw [up, if_neg q]; exact h1, fun j hj => ?_⟩
        by_cases q2 : j = n
        · simp only [if_pos q2]; rw [hx]; omega
        · simp only [if_neg q2]; exact h2 j (by omega)
      · refine .inr ⟨j, by omega, by rw [up, if_neg q]; exact h2, ?_⟩
        simp only [if_neg (hnn j h1)]; exact h3
  · have e : (fun w => up rk v (n + 1) w - 1) = up (fun w => rk w - 1) v n := by
      funext w
      simp only [up]
      split <;> omega
    rw [e, un_up hv (by omega), if_pos (by omega)]
    have := p.ct
    omega
def PO (δ : Nat → Nat → Nat) (acc : Nat → Bool) (x : Nat → Int) (s : Nat → Nat) (n : Nat) (nxt : Nat → Nat → Int) (ac : Nat → Bool) (i : Nat) : Prop :=
  ∀ a, a < i → ac a = acc (s a) ∧ ∀ m, m < 5 → ∃ j : Nat, j < n ∧ nxt a m = j ∧ x (s j) = x (δ (s a) m)
def PR (δ : Nat → Nat → Nat) (x : Nat → Int) (s : Nat → Nat) (n : Nat) (a : Nat) (nx : Nat → Int) (m : Nat) : Prop := ∀ m', m' < m → ∃ j : Nat, j < n ∧ nx m' = j ∧ x (s j) = x (δ a m')
theorem PO.grow {nxt : Nat → Nat → Int} {ac : Nat → Bool} {i : Nat} (p : PO δ acc x s n nxt ac i) (hi : i ≤ n) (to : Nat) : PO δ acc x (fun r => if r = n then to else s r) (n + 1) nxt ac i := by
  intro a ha
  obtain ⟨h1, h2⟩ := p a ha
  refine ⟨by simp only [if_neg (show ¬ a = n by omega)]; exact h1, fun m hm => ?_⟩
  obtain ⟨j, k1, k2, k3⟩ := h2 m hm
  refine ⟨j, by omega, k2, ?_⟩
  simp only [if_neg (show ¬ a = n by omega), if_neg (show ¬ j = n by omega)]
  exact k3
theorem PR.grow {nx : Nat → Int} {a m : Nat} (p : PR δ x s n a nx m) (to : Nat) : PR δ x (fun r => if r = n then to else s r) (n + 1) a nx m := by
  intro m' hm
  obtain ⟨j, k1, k2, k3⟩ := p m' hm
  refine ⟨j, by omega, k2, ?_⟩
  simp only [if_neg (show ¬ j = n by omega)]
  exact k3
end
end Go.Gm

namespace Go.Gm.A9
open Go Go.Gm
section
variable {D : List (List Int)} {acc : List Bool} {h : Heap}
structure MI (S : Nat) (hb h : Heap) (rank states sN sA : AV) (oS oN oA : Nat) (rk : List Int) (Ss : List Nat) (D' : List (List Int)) (acc' : List Bool) : Prop where
  eb : Ext hb h
  ro : h[hb.length]? = some (.cells ⟨[sN, sA], 0, 0, false⟩)
  gr : Gr (hb.length + 1) (hb.length + 2) h 1 rank (rk.map encI)
  gs : Gr oS (oS + 1) h 1 states (Ss.map encN)
  gn : Gr oN (oN + 1) h 5 sN (D'.map encR)
  ga : Gr oA (oA + 1) h 1 sA (acc'.map encB)
  ps : states ≠ .nils → hb.length + 2 ≤ oS ∧ oS < h.length
  pn : sN ≠ .nils → hb.length + 2 ≤ oN ∧ oN < h.length ∧ (states ≠ .nils → oN ≠ oS)
  pa : sA ≠ .nils → hb.length + 2 ≤ oA ∧ oA < h.length ∧ (states ≠ .nils → oA ≠ oS) ∧ (sN ≠ .nils → oA ≠ oN)
  lr : rk.length = S
  bl : hb.length + 2 ≤ h.length
section
variable {S : Nat} {hb : Heap} {rank states sN sA : AV} {oS oN oA : Nat} {rk : List Int} {Ss : List Nat} {D' : List (List Int)} {acc' : List Bool}
theorem MI.ext (p : MI S hb h rank states sN sA oS oN oA rk Ss D' acc') {h' : Heap} (e : Ext h h') : MI S hb h' rank states sN sA oS oN oA rk Ss D' acc' := by
  have l := e.len
  refine ⟨p.eb.trans e, e.get p.ro, p.gr.ext e, p.gs.ext e, p.gn.ext e, p.ga.ext e, fun z => ?_, fun z => ?_, fun z => ?_, p.lr, by have := p.bl; omega⟩
  · have := p.ps z; omega
  · have := p.pn z; exact ⟨this.1, by omega, this.2.2⟩
  · have := p.pa z; exact ⟨this.1, by omega, this.2.2⟩
theorem MI.frs (p : MI S hb h rank states sN sA oS oN oA rk Ss D' acc') {h' : Heap} {o : Nat} (f : FrS (fun q => q = o) h h') (ho : hb.length + 2 ≤ o) (h1 : states ≠ .nils → o ≠ oS) (h2 : sN ≠ .nils → o ≠ oN) (h3 : sA ≠ .nils → o ≠ oA) : MI S hb h' rank states sN sA oS oN oA rk Ss D' acc' := by
  have l := f.len
  have bl := p.bl
  have nl : ∀ {lo : Nat} {sz : Nat} {s : AV} {xs : List (List AV)}, Gr lo (lo + 1) h sz s xs → (s ≠ .nils → o ≠ lo) → Gr lo (lo + 1) h' sz s xs := by
    intro lo sz s xs g hq
    by_cases q : s = .nils
    · subst q
      have := g.isNil
      subst this
      exact Gr.nil ..
    · exact g.frs f fun r r1 r2 => by have := hq q; omega
  refine ⟨f.ext p.eb fun q q1 => by omega, by rw [f.get (by omega) (by omega)]; exact p.ro, p.gr.frs f fun q q1 q2 => by omega, nl p.gs h1, nl p.gn h2, nl p.ga h3, fun z => ?_, fun z => ?_, fun z => ?_, p.lr, by omega⟩
  · have := p.ps z; omega
  · have := p.pn z; exact ⟨this.1, by omega, this.2.2⟩
  · have := p.pa z; exact ⟨this.1, by omega, this.2.2⟩
theorem MI.addS (p : MI S hb h rank states sN sA oS oN oA rk Ss D' acc') (to : Nat) (hl : Ss.length ≤ 100000) :
    ∃ s' h' o', apnd 1 8 states (.sl h.length 0 1 1 none 0) (h ++ [AObj.cells ⟨[I to], 0, 0, false⟩]) = some (s', h') ∧ MI S hb h' rank s' sN sA o' oN oA rk (Ss ++ [to]) D' acc' ∧ FrS (fun q => states ≠ .nils ∧ q = oS) h h' ∧ (s' ≠ .nils → (o' = oS ∧ states ≠ .nils) ∨ h.length ≤ o') := by
  have b := Gr.lit (h := h) (sz := 1) (v := encN to) rfl
  rw [a9_] at b
  have e1 : Ext h (h ++ [AObj.cells ⟨encN to, 0, 0, false⟩]) := Ext.push _ _
  obtain ⟨s', h', o', q1, q2, q3, q4⟩ := (p.gs.ext e1).appP (fun z => by have := p.ps z; simp; omega) b.sl (by omega) (bytes := 8) (by omega) (by simp; omega)
  have f := (FrS.ofExt (D := fun q => states ≠ .nils ∧ q = oS) e1).trans q4
  have l := f.len
  have bl := p.bl
  have l1 : (h ++ [AObj.cells ⟨encN to, 0, 0, false⟩]).length = h.length + 1 := by simp
  have ps := p.ps
  have pn := p.pn
  have pa := p.pa
  have q3' : s' ≠ .nils → (o' = oS ∧ states ≠ .nils) ∨ h.length ≤ o' := fun z => by
    rcases (q3 z).1 with q | q
    · exact .inl q
    · exact .inr (by omega)
  have nl : ∀ {lo : Nat} {sz : Nat} {s : AV} {xs : List (List AV)}, Gr lo (lo + 1) h sz s xs → (s ≠ .nils → states ≠ .nils → lo ≠ oS) → Gr lo (lo + 1) h' sz s xs := by
    intro lo sz s xs g hq
    by_cases q : s = .nils
    · subst q
      have := g.isNil
      subst this
      exact Gr.nil ..
    · exact g.frs f fun r r1 r2 z => by have := hq q z.1; omega
  refine ⟨s', h', o', q1, ⟨f.ext p.eb fun q z1 z2 => by have := ps z2.1; omega, by rw [f.get (fun z => by have := ps z.1; omega) (by omega)]; exact p.ro, p.gr.frs f fun q z1 z2 z3 => by have := ps z3.1; omega, q2.cong (by simp [encN]), nl p.gn fun z1 z2 => (pn z1).2.2 z2, nl p.ga fun z1 z2 => (pa z1).2.2.1 z2, fun z => ?_, fun z => ?_, fun z => ?_, p.lr, by omega⟩, f, q3'⟩
  · have h1 := (q3 z).2
    rcases q3' z with ⟨h2, h3⟩ | h2
    · have := ps h3; omega
    · omega
  · have h1 := pn z
    refine ⟨h1.1, by omega, fun z2 => ?_⟩
    rcases q3' z2 with ⟨h2, h3⟩ | h2
    · have := h1.2.2 h3; omega
    · omega
  · have h1 := pa z
    refine ⟨h1.1, by omega, fun z2 => ?_, h1.2.2.2⟩
    rcases q3' z2 with ⟨h2, h3⟩ | h2
    · have := h1.2.2.1 h3; omega
    · omega
theorem MI.setRk (p : MI S hb h rank states sN sA oS oN oA rk Ss D' acc') {v : Nat} (hv : v < S) (k : Int) :
    ∃ h', stN 1 h (elP 1 rank v) (I k) = some h' ∧ MI S hb h' rank states sN sA oS oN oA (rk.set v k) Ss D' acc' ∧ FrS (fun q => q = hb.length + 1) h h' := by
  obtain ⟨h', w1, w2, w3, w4⟩ := p.gr.write0 (i := (v : Int)) (v := I k) (by omega) (by rw [List.length_map, p.lr]; omega) rfl rfl
  have f : FrS (fun q => q = hb.length + 1) h h' := w3.s.mono fun q z1 z2 => by omega
  have bl := p.bl
  have nl : ∀ {lo : Nat} {sz : Nat} {s : AV} {xs : List (List AV)}, Gr lo (lo + 1) h sz s xs → (s ≠ .nils → hb.length + 2 ≤ lo) → Gr lo (lo + 1) h' sz s xs := by
    intro lo sz s xs g hq
    by_cases q : s = .nils
    · subst q
      have := g.isNil
      subst this
      exact Gr.nil ..
    · exact g.frs f fun r r1 r2 => by have := hq q; omega
  refine ⟨h', w1, ⟨f.ext p.eb fun q z1 z2 => by omega, by rw [f.get (by omega) (by omega)]; exact p.ro, w2.cong (by rw [List.map_set]; rfl), nl p.gs fun z => (p.ps z).1, nl p.gn fun z => (p.pn z).1, nl p.ga fun z => (p.pa z).1, ?_, ?_, ?_, by rw [List.length_set]; exact p.lr, by omega⟩, f⟩
  · rw [w4]; exact p.ps
  · rw [w4]; exact p.pn
  · rw [w4]; exact p.pa
theorem MI.row (p : MI S hb h rank states sN sA oS oN oA rk Ss D' acc') {r : List Int} (hr : r.length = 5) (hl : D'.length ≤ 100000) :
    ∃ s' h' o', apnd 5 40 sN (.sl h.length 0 1 5 none 0) (h ++ [AObj.cells ⟨r.map I, 0, 0, false⟩]) = some (s', h') ∧ s'.one = true ∧ s'.cells = [s'] ∧ h'[hb.length]? = some (.cells ⟨[sN, sA], 0, 0, false⟩) ∧
      MI S hb (h'.set hb.length (.cells ⟨[s', sA], 0, 0, false⟩)) rank states s' sA oS o' oA rk Ss (D' ++ [r]) acc' := by
  have b := Gr.lit (h := h) (sz := 5) (v := r.map I) (by simp [hr])
  rw [a9_] at b
  have e1 : Ext h (h ++ [AObj.cells ⟨r.map I, 0, 0, false⟩]) := Ext.push _ _
  obtain ⟨s', h', o', q1, q2, q3, q4⟩ := (p.gn.ext e1).appP (fun z => by have := p.pn z; simp; omega) b.sl (by omega) (bytes := 40) (by omega) (by simp; omega)
  have f := (FrS.ofExt (D := fun q => sN ≠ .nils ∧ q = oN) e1).trans q4
  have l := f.len
  have bl := p.bl
  have ps := p.ps
  have pn := p.pn
  have pa := p.pa
  have l1 : (h ++ [AObj.cells ⟨r.map I, 0, 0, false⟩]).length = h.length + 1 := by simp
  have q3' : s' ≠ .nils → (o' = oN ∧ sN ≠ .nils) ∨ h.length ≤ o' := fun z => by
    rcases (q3 z).1 with q | q
    · exact .inl q
    · exact .inr (by omega)
  have ro := p.ro
  have ro' : h'[hb.length]? = some (.cells ⟨[sN, sA], 0, 0, false⟩) := by rw [f.get (fun z => by have := pn z.1; omega) (by omega)]; exact ro
  have nl : ∀ {lo : Nat} {sz : Nat} {s : AV} {xs : List (List AV)}, Gr lo (lo + 1) h sz s xs → (s ≠ .nils → sN ≠ .nils → oN ≠ lo) → Gr lo (lo + 1) h' sz s xs := by
    intro lo sz s xs g hq
    by_cases q : s = .nils
    · subst q
      have := g.isNil
      subst this
      exact Gr.nil ..
    · exact g.frs f fun r r1 r2 z => by have := hq q z.1; omega
  have st : ∀ {lo : Nat} {sz : Nat} {s : AV} {xs : List (List AV)} (x : AObj), Gr lo (lo + 1) h' sz s xs → (s ≠ .nils → hb.length < lo) → Gr lo (lo + 1) (h'.set hb.length x) sz s xs := by
    intro lo sz s xs x g hq
    by_cases q : s = .nils
    · subst q
      have := g.isNil
      subst this
      exact Gr.nil ..
    · exact g.set (.inl (hq q)) _
  have q5 : ∀ z : s' ≠ .nils, hb.length + 2 ≤ o' ∧ o' < h'.length := fun z => by
    have h1 := (q3 z).2
    rcases q3' z with ⟨h2, h3⟩ | h2
    · have := pn h3; omega
    · omega
  refine ⟨s', h', o', q1, q2.sl.one, q2.sl.cells, ro', ⟨(f.ext p.eb fun q z1 z2 => by have := pn z2.1; omega).setr (Nat.le_refl _) _, a3_ (by omega), (p.gr.frs f fun q z1 z2 z3 => by have := pn z3.1; omega).set (.inl (by omega)) _, st _ (nl p.gs fun z1 z2 => (pn z2).2.2 z1) fun z => by have := ps z; omega, st _ (q2.cong (by simp [encR])) fun z => by have := q5 z; omega, st _ (nl p.ga fun z1 z2 => ((pa z1).2.2.2 z2).symm) fun z => by have := pa z; omega, ?_, ?_, ?_, p.lr, by simp; omega⟩⟩
  · intro z; have := ps z; simp; omega
  · intro z
    have h1 := q5 z
    refine ⟨h1.1, by simp; exact h1.2, fun z2 => ?_⟩
    rcases q3' z with ⟨h2, h3⟩ | h2
    · have := (pn h3).2.2 z2; omega
    · have := ps z2; omega
  · intro z
    have h1 := pa z
    refine ⟨h1.1, by simp; omega, h1.2.2.1, fun z2 => ?_⟩
    rcases q3' z2 with ⟨h2, h3⟩ | h2
    · have := h1.2.2.2 h3; omega
    · omega
theorem MI.accept (p : MI S hb h rank states sN sA oS oN oA rk Ss D' acc') (b : Bool) (hl : acc'.length ≤ 100000) :
    ∃ s' h' o', apnd 1 1 sA (.sl h.length 0 1 1 none 0) (h ++ [AObj.cells ⟨[.bool b], 0, 0, false⟩]) = some (s', h') ∧ s'.one = true ∧ s'.cells = [s'] ∧ h'[hb.length]? = some (.cells ⟨[sN, sA], 0, 0, false⟩) ∧
      MI S hb (h'.set hb.length (.cells ⟨[sN, s'], 0, 0, false⟩)) rank states sN s' oS oN o' rk Ss D' (acc' ++ [b]) := by
  have b0 := Gr.lit (h := h) (sz := 1) (v := encB b) rfl
  rw [a9_] at b0
  have e1 : Ext h (h ++ [AObj.cells ⟨encB b, 0, 0, false⟩]) := Ext.push _ _
  obtain ⟨s', h', o', q1, q2, q3, q4⟩ := (p.ga.ext e1).appP (fun z => by have := p.pa z; simp; omega) b0.sl (by omega) (bytes := 1) (by omega) (by simp; omega)
  have f := (FrS.ofExt (D := fun q => sA ≠ .nils ∧ q = oA) e1).trans q4
  have l := f.len
  have bl := p.bl
  have ps := p.ps
  have pn := p.pn
  have pa := p.pa
  have l1 : (h ++ [AObj.cells ⟨encB b, 0, 0, false⟩]).length = h.length + 1 := by simp
  have q3' : s' ≠ .nils → (o' = oA ∧ sA ≠ .nils) ∨ h.length ≤ o' := fun z => by
    rcases (q3 z).1 with q | q
    · exact .inl q
    · exact .inr (by omega)
  have ro := p.ro
  have ro' : h'[hb.length]? = some (.cells ⟨[sN, sA], 0, 0, false⟩) := by rw [f.get (fun z => by have := pa z.1; omega) (by omega)]; exact ro
  have nl : ∀ {lo : Nat} {sz : Nat} {s : AV} {xs : List (List AV)}, Gr lo (lo + 1) h sz s xs → (s ≠ .nils → sA ≠ .nils → oA ≠ lo) → Gr lo (lo + 1) h' sz s xs := by
    intro lo sz s xs g hq
    by_cases q : s = .nils
    · subst q
      have := g.isNil
      subst this
      exact Gr.nil ..
    · exact g.frs f fun r r1 r2 z => by have := hq q z.1; omega
  have st : ∀ {lo : Nat} {sz : Nat} {s : AV} {xs : List (List AV)} (x : AObj), Gr lo (lo + 1) h' sz s xs → (s ≠ .nils → hb.length < lo) → Gr lo (lo + 1) (h'.set hb.length x) sz s xs := by
    intro lo sz s xs x g hq
    by_cases q : s = .nils
    · subst q
      have := g.isNil
      subst this
      exact Gr.nil ..
    · exact g.set (.inl (hq q)) _
  have q5 : ∀ z : s' ≠ .nils, hb.length + 2 ≤ o' ∧ o' < h'.length := fun z => by
    have h1 := (q3 z).2
    rcases q3' z with ⟨h2, h3⟩ | h2
    · have := pa h3; omega
    · omega
  refine ⟨s', h', o', q1, q2.sl.one, q2.sl.cells, ro', ⟨(f.ext p.eb fun q z1 z2 => by have := pa z2.1; omega).setr (Nat.le_refl _) _, a3_ (by omega), (p.gr.frs f fun q z1 z2 z3 => by have := pa z3.1; omega).set (.inl (by omega)) _, st _ (nl p.gs fun z1 z2 => (pa z2).2.2.1 z1) fun z => by have := ps z; omega, st _ (nl p.gn fun z1 z2 => (pa z2).2.2.2 z1) fun z => by have := pn z; omega, st _ (q2.cong (by simp [encB])) fun z => by have := q5 z; omega, ?_, ?_, ?_, p.lr, by simp; omega⟩⟩
  · intro z; have := ps z; simp; omega
  · intro z; have := pn z; exact ⟨this.1, by simp; omega, this.2.2⟩
  · intro z
    have h1 := q5 z
    refine ⟨h1.1, by simp; exact h1.2, fun z2 => ?_, fun z2 => ?_⟩
    · rcases q3' z with ⟨h2, h3⟩ | h2
      · have := (pa h3).2.2.1 z2; omega
      · have := ps z2; omega
    · rcases q3' z with ⟨h2, h3⟩ | h2
      · have := (pa h3).2.2.2 z2; omega
      · have := pn z2; omega
end
end
end Go.Gm.A9

namespace Go.Gm.A9
open Go Go.Gm
section
variable {D : List (List Int)} {acc : List Bool} {hb : Heap} {sD sA0 sc rank : AV} {xs : List Int} {od : Nat}
structure MBs (D : List (List Int)) (acc : List Bool) (hb : Heap) (sD sA0 sc : AV) (xs : List Int) (od : Nat) : Prop where
  ok : DOk D acc
  hD : Sl hb 5 sD (D.map encR)
  hA : Sl hb 1 sA0 (acc.map encB)
  hc : Sl hb 1 sc (xs.map encI)
  lx : xs.length = D.length
  st : Stab (dl D) (fun a : Nat => gi acc (a : Int)) D.length (gf xs)
  rd : hb[od]? = some (.cells ⟨[sD, sA0], 0, 0, false⟩)
structure MKn (D : List (List Int)) (acc : List Bool) (xs rk : List Int) (Ss : List Nat) (D' : List (List Int)) (acc' : List Bool) (i : Nat) : Prop where
  pm : PM (gf xs) D.length (gf rk) (gf Ss) Ss.length
  po : PO (dl D) (fun a : Nat => gi acc (a : Int)) (gf xs) (gf Ss) Ss.length (fun a m => nx D' (a : Int) (m : Int)) (fun a : Nat => gi acc' (a : Int)) i
  z0 : gf Ss 0 = 0
  il : i ≤ Ss.length
  s0 : 0 < Ss.length
  ld : D'.length = i
  la : acc'.length = i
  l5 : ∀ r ∈ D', r.length = 5
def NxOk (h : Heap) (hb : Heap) (on : Nat) (nxs : List Int) (states sN sA : AV) (oS oN oA : Nat) : Prop :=
  h[on]? = some (.cells ⟨nxs.map I, 0, 0, false⟩) ∧ nxs.length = 5 ∧ hb.length + 2 ≤ on ∧ (states ≠ .nils → on ≠ oS) ∧ (sN ≠ .nils → on ≠ oN) ∧ (sA ≠ .nils → on ≠ oA)
theorem b4X (b : MBs D acc hb sD sA0 sc xs od) {ot i on : Nat} {sN sA : AV} {oN oA : Nat} {D' : List (List Int)} {acc' : List Bool} {Q : AV → Heap → Prop}
    (hQ : ∀ h states oS rk Ss nxs, MI D.length hb h rank states sN sA oS oN oA rk Ss D' acc' → MKn D acc xs rk Ss D' acc' i → i < Ss.length → NxOk h hb on nxs states sN sA oS oN oA → PR (dl D) (gf xs) (gf Ss) Ss.length (gf Ss i) (gf nxs) 5 →
      WP (fun p : Nat × Nat => o1_ tab p.1 p.2 (.ptr od 0 2 0) (.ptr ot 0 2 0) sc (.ptr hb.length 0 2 0) rank states (I i) (.ptr on 0 5 0) h) Q) :
    ∀ (d m : Nat) (h : Heap) (states : AV) (oS : Nat) (rk : List Int) (Ss : List Nat) (nxs : List Int), m + d = 5 → MI D.length hb h rank states sN sA oS oN oA rk Ss D' acc' → MKn D acc xs rk Ss D' acc' i → i < Ss.length → NxOk h hb on nxs states sN sA oS oN oA → PR (dl D) (gf xs) (gf Ss) Ss.length (gf Ss i) (gf nxs) m →
      WP (fun p : (Nat × Nat) × Nat => i3_ tab p.1.1 p.1.2 p.2 (.ptr od 0 2 0) (.ptr ot 0 2 0) sc (.ptr hb.length 0 2 0) rank states (I i) (.ptr on 0 5 0) (I m) h) Q := by
  have l1 := b.ok.l1
  have lx := b.lx
  intro d
  induction d with
  | zero =>
    intro m h states oS rk Ss nxs h1 mi mk hi nk pr
    refine WP.rnd (fun i' j => u6_ tab i'.1 i'.2 j (.ptr od 0 2 0) (.ptr ot 0 2 0) sc (.ptr hb.length 0 2 0) rank states (I i) (.ptr on 0 5 0) (I m) h) ?_
    obtain rfl : m = 5 := by omega
    simp -implicitDefEqProofs (maxSteps := 1000000) (disch := first | assumption | omega | (simp only [gL] <;> omega) | ((repeat (first | exact Ext.refl _ | assumption | apply Ext.app | apply Ext.mk | (refine Ext.setr ?_ (by (first | omega | (simp only [gL] <;> omega))) _))); done) | (simp only [gL, gA] <;> omega) | fail) only [gB, setAll, partL, fldV, reduceIte, Nat.reduceAdd, Nat.reduceMul]
    exact WP.lv (hQ h states oS rk Ss nxs mi mk hi nk pr) fun i j => rfl
  | succ d ih =>
    intro m h states oS rk Ss nxs h1 mi mk hi nk pr
    refine WP.rnd (fun i' j => u6_ tab i'.1 i'.2 j (.ptr od 0 2 0) (.ptr ot 0 2 0) sc (.ptr hb.length 0 2 0) rank states (I i) (.ptr on 0 5 0) (I m) h) ?_
    have hm5 : m < 5 := by omega
    obtain ⟨si, hsi⟩ : ∃ si, gi Ss (i : Int) = si := ⟨_, rfl⟩
    have hsl : si < D.length := hsi ▸ mk.pm.lt i hi
    obtain ⟨to, hto⟩ : ∃ to, dl D si m = to := ⟨_, rfl⟩
    have htl : to < D.length := hto ▸ dl_lt b.ok hsl hm5
    obtain ⟨v, hv⟩ : ∃ v : Nat, gi xs (to : Int) = v := ⟨(gi xs (to : Int)).toNat, by have : 0 ≤ gi xs (to : Int) := (b.st.rng to htl).1; omega⟩
    have hvl : v < D.length := by
      have : gi xs (to : Int) < D.length := (b.st.rng to htl).2
      omega
    have key : ∀ (h : Heap) (states : AV) (oS : Nat) (rk : List Int) (Ss : List Nat), MI D.length hb h rank states sN sA oS oN oA rk Ss D' acc' → MKn D acc xs rk Ss D' acc' i → i < Ss.length → NxOk h hb on nxs states sN sA oS oN oA → PR (dl D) (gf xs) (gf Ss) Ss.length (gf Ss i) (gf nxs) m → gf Ss i = si → gf rk v ≠ 0 →
        WP (fun p : (Nat × Nat) × Nat => i4_ tab p.1.1 p.1.2 p.2 (.ptr od 0 2 0) (.ptr ot 0 2 0) sc (.ptr hb.length 0 2 0) rank states (I i) (.ptr on 0 5 0) (I m) (I to) h) Q := by
      intro h states oS rk Ss mi mk hi nk pr hsi hrk
      refine WP.congr (fun p => a2E tab p.1.1 p.1.2 p.2 (.ptr od 0 2 0) (.ptr ot 0 2 0) sc (.ptr hb.length 0 2 0) rank states (I i) (.ptr on 0 5 0) (I m) (I to) h) ?_
      obtain ⟨j, j1, j2, j3⟩ := mk.pm.has hvl hrk
      have j2' : gi rk (v : Int) = (j : Int) + 1 := j2
      have hcl := b.hc.ext mi.eb
      have grl := mi.gr.sl
      have lr := mi.lr
      have hSl := mk.pm.le
      obtain ⟨n1, n2, n3, n4, n5, n6⟩ := nk
      have hst := stP (x := j) (m := m) n1
      have hia := a8D (o := on) hm5
      have bon := (List.getElem?_eq_some_iff.1 n1).1
      have hw : h.set on (.cells ⟨(nxs.map I).set m (I j), 0, 0, false⟩) = h.set on (.cells ⟨(nxs.set m (j : Int)).map I, 0, 0, false⟩) := by rw [List.map_set]
      rw [hw] at hst
      simp -implicitDefEqProofs (maxSteps := 1000000) (disch := first | assumption | omega | (simp only [gL] <;> omega) | ((repeat (first | exact Ext.refl _ | assumption | apply Ext.app | apply Ext.mk | (refine Ext.setr ?_ (by (first | omega | (simp only [gL] <;> omega))) _))); done) | (simp only [gL, gA, hcl.idxG, hcl.ld0, encI, hv, grl.idxG, grl.ld0, j2', hia] <;> omega) | fail) only [gB, setAll, partL, fldV, reduceIte, Nat.reduceAdd, Nat.reduceMul, hcl.idxG, hcl.ld0, encI, hv, grl.idxG, grl.ld0, j2', hia]
      rw [show (j : Int) + 1 - 1 = j by omega]
      have f : FrS (fun q => q = on) h (h.set on (.cells ⟨(nxs.set m (j : Int)).map I, 0, 0, false⟩)) := ⟨by simp, fun p p1 p2 => b0_ fun z => p1 z.symm⟩
      have hwr : wrAt 1 h h[on]? on m (m + 1) 0 [I j] = some (h.set on (.cells ⟨(nxs.set m (j : Int)).map I, 0, 0, false⟩)) := by
        rw [a8J] at hst; exact hst
      simp -implicitDefEqProofs (maxSteps := 1000000) (disch := first | assumption | omega | (simp only [gL] <;> omega) | ((repeat (first | exact Ext.refl _ | assumption | apply Ext.app | apply Ext.mk | (refine Ext.setr ?_ (by (first | omega | (simp only [gL] <;> omega))) _))); done) | (simp only [gL, gA, hwr] <;> omega) | fail) only [gB, setAll, partL, fldV, reduceIte, Nat.reduceAdd, Nat.reduceMul, hwr]
      refine ih (m + 1) _ states oS rk Ss (nxs.set m (j : Int)) (by omega) (mi.frs f n3 n4 n5 n6) mk hi ⟨a3_ bon, by simpa using n2, n3, n4, n5, n6⟩ fun m' hm' => ?_
      rw [show gf (nxs.set m (j : Int)) = _ from gset (by omega) _]
      by_cases q : m' = m
      · subst q
        refine ⟨j, j1, if_pos rfl, ?_⟩
        rw [hsi, hto]
        show gf xs (gf Ss j) = gi xs (to : Int)
        rw [hv]; exact j3
      · simp only [if_neg q]
        exact pr m' (by omega)
    have hgs := mi.gs.sl
    have rd := mi.eb.get b.rd
    have hDx := b.hD.ext mi.eb
    obtain ⟨p, p1, p2⟩ := cellN b.ok hDx (Ext.refl h) hsl hm5
    rw [hto] at p2
    have hcx := b.hc.ext mi.eb
    have grl := mi.gr.sl
    have lr := mi.lr
    have hSl := mk.pm.le
    by_cases q : gi rk (v : Int) = 0
    · obtain ⟨s', h2, o', a1, mi2, a3, a4⟩ := mi.addS to (by omega)
      have hne : states ≠ .nils := fun z => by
        rw [z] at hgs
        rcases hgs with ⟨_, k⟩ | ⟨_, _, _, _, _, k, _⟩
        · have hz : Ss = [] := by simpa using k
          have := mk.s0
          rw [hz] at this
          simp at this
        · cases k
      obtain ⟨h3, w1, mi3, w3⟩ := mi2.setRk hvl ((Ss.length + 1 : Nat) : Int)
      have hcx2 := b.hc.ext mi2.eb
      have grl2 := mi2.gr.sl
      have gsl2 := mi2.gs.sl.lenG
      rw [List.length_append] at gsl2
      simp -implicitDefEqProofs (maxSteps := 1000000) (disch := first | assumption | omega | (simp only [gL] <;> omega) | ((repeat (first | exact Ext.refl _ | assumption | apply Ext.app | apply Ext.mk | (refine Ext.setr ?_ (by (first | omega | (simp only [gL] <;> omega))) _))); done) | (simp only [gL, gA, rd, hgs.idxG, hgs.ld0, hsi, encN, hDx.idxG, p1, p2, hcx.idxG, hcx.ld0, encI, hv, grl.idxG, grl.ld0, q, a1, hcx2.ld0, gsl2, w1] <;> omega) | fail) only [gB, setAll, partL, fldV, reduceIte, Nat.reduceAdd, Nat.reduceMul, rd, hgs.idxG, hgs.ld0, hsi, encN, hDx.idxG, p1, p2, hcx.idxG, hcx.ld0, encI, hv, grl.idxG, grl.ld0, q, a1, hcx2.ld0, gsl2, w1]
      have bon := (List.getElem?_eq_some_iff.1 nk.1).1
      have l2 := a3.len
      obtain ⟨n1, n2, n3, n4, n5, n6⟩ := nk
      have nk3 : NxOk h3 hb on nxs s' sN sA o' oN oA := by
        refine ⟨?_, n2, n3, fun z => ?_, n5, n6⟩
        · rw [w3.get (by omega) (by omega), a3.get (fun z => n4 z.1 z.2) bon]; exact n1
        · rcases a4 z with ⟨z1, z2⟩ | z1
          · rw [z1]; exact n4 z2
          · omega
      have hrk : gf (rk.set v ((Ss.length + 1 : Nat) : Int)) = up (gf rk) v ((Ss.length : Int) + 1) := by
        rw [show gf (rk.set v ((Ss.length + 1 : Nat) : Int)) = _ from gset (by omega) _]; rfl
      have hpush := b2m Ss to
      have hsi' : gf (Ss ++ [to]) i = si := by
        rw [hpush]; exact (if_neg (by omega)).trans hsi
      refine key h3 s' o' _ _ mi3 ⟨?_, ?_, ?_, by rw [List.length_append]; omega, by rw [List.length_append]; omega, mk.ld, mk.la, mk.l5⟩ (by rw [List.length_append]; omega) nk3 ?_ hsi' ?_
      · rw [hrk, hpush, List.length_append]
        exact mk.pm.neu hvl htl hv q
      · rw [hpush, List.length_append]
        exact mk.po.grow mk.il to
      · rw [hpush]; exact (if_neg (by have := mk.s0; omega)).trans mk.z0
      · have hps : (fun r : Nat => if r = Ss.length then to else gf Ss r) i = gf Ss i := if_neg (by omega)
        rw [hpush, List.length_append, hps]
        exact pr.grow to
      · rw [hrk, up, if_pos rfl]; omega
    · simp -implicitDefEqProofs (maxSteps := 1000000) (disch := first | assumption | omega | (simp only [gL] <;> omega) | ((repeat (first | exact Ext.refl _ | assumption | apply Ext.app | apply Ext.mk | (refine Ext.setr ?_ (by (first | omega | (simp only [gL] <;> omega))) _))); done) | (simp only [gL, gA, rd, hgs.idxG, hgs.ld0, hsi, encN, hDx.idxG, p1, p2, hcx.idxG, hcx.ld0, encI, hv, grl.idxG, grl.ld0] <;> omega) | fail) only [gB, setAll, partL, fldV, reduceIte, Nat.reduceAdd, Nat.reduceMul, rd, hgs.idxG, hgs.ld0, hsi, encN, hDx.idxG, p1, p2, hcx.idxG, hcx.ld0, encI, hv, grl.idxG, grl.ld0]
      exact key h states oS rk Ss mi mk hi nk pr hsi q
end
end Go.Gm.A9

