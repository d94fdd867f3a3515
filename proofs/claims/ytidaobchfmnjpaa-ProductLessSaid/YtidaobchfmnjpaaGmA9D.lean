/- A part of the proof (GmA9D): an abstract machine, what it does, and what the functions of the program come to on it. -/
import Derived.Test.YtidaobchfmnjpaaGmA9C
set_option linter.unusedVariables false
set_option linter.unusedSimpArgs false
set_option linter.unusedSectionVars false
namespace Go.Gm.A9
open Go Go.Gm
section
variable {W : Nat → Prop} {h h' : Heap} {q : AV} {N : Nat} {M : List (Option Int)}
/-- What a pop answers. -/
def PopQ (N : Nat) (M : List (Option Int)) (r : AV) (M2 : List (Option Int)) : Prop :=
  (cnt M = 0 ∧ r = .tup [I 0, I 0, .bool false] ∧ M2 = M) ∨ ∃ id key, IsMin N M id key ∧ r = .tup [I id, I key, .bool true] ∧ M2 = M.set id.toNat none
theorem cnt_zero {M : List (Option Int)} (h : cnt M = 0) {i : Int} (h0 : 0 ≤ i) (h1 : i < M.length) : gi M i = none := by
  rw [cnt, List.countP_eq_zero] at h
  have := h _ (gi_mem h0 h1)
  cases hx : gi M i with
  | none => rfl
  | some k => rw [hx] at this; simp at this
theorem PopQ.uniq {r r2 : AV} {M2 M3 : List (Option Int)} (hl : M.length = N) (a : PopQ N M r M2) (b : PopQ N M r2 M3) : r = r2 ∧ M2 = M3 := by
  rcases a with ⟨a1, rfl, rfl⟩ | ⟨i, k, a1, rfl, rfl⟩
  · rcases b with ⟨b1, rfl, rfl⟩ | ⟨i, k, b1, rfl, rfl⟩
    · exact ⟨rfl, rfl⟩
    · have := cnt_zero a1 b1.i0 (by have := b1.i1; omega)
      rw [b1.k] at this; cases this
  · rcases b with ⟨b1, rfl, rfl⟩ | ⟨i2, k2, b1, rfl, rfl⟩
    · have := cnt_zero b1 a1.i0 (by have := a1.i1; omega)
      rw [a1.k] at this; cases this
    · obtain ⟨rfl, rfl⟩ := a1.uniq b1
      exact ⟨rfl, rfl⟩
theorem qPop_spec (v : QV W h q N M) (hN : N ≤ 1000000) : Tot tab f_queue_Queue_Pop [q] h fun r h' => ∃ M2, PopQ N M r M2 ∧ QV W h' q N M2 ∧ FrS W h h' := by
  have vv := v
  obtain ⟨oq, xs, a, rfl, qs, r, hp, hc⟩ := v
  refine WP.tot (fun k => (call_queue_Queue_Pop k _ h).trans (queue_Queue_Pop_eq tab k _ h)) ?_
  have hcl := cnt_le M
  have lm := r.lm
  simp -implicitDefEqProofs (disch := first | assumption | omega | (simp only [gL] <;> omega) | ((repeat (first | exact Ext.refl _ | assumption | apply Ext.app | apply Ext.mk | (refine Ext.setr ?_ (by (first | omega | (simp only [gL] <;> omega))) _))); done) | (simp only [gL, gA] <;> omega) | fail) only [gB, setAll, partL, fldV, reduceIte, Nat.reduceAdd, Nat.reduceMul]
  refine WP.call (Len_spec qs) ?_
  rintro _ _ ⟨rfl, rfl⟩
  by_cases h0 : xs.length = 0
  · simp -implicitDefEqProofs (disch := first | assumption | omega | (simp only [gL] <;> omega) | ((repeat (first | exact Ext.refl _ | assumption | apply Ext.app | apply Ext.mk | (refine Ext.setr ?_ (by (first | omega | (simp only [gL] <;> omega))) _))); done) | (simp only [gL, gA] <;> omega) | fail) only [gB, setAll, partL, fldV, reduceIte, Nat.reduceAdd, Nat.reduceMul]
    exact WP.ret ⟨M, .inl ⟨by omega, rfl, rfl⟩, vv, FrS.refl _ _⟩
  · obtain ⟨n, hn⟩ : ∃ n, xs.length = n + 1 := ⟨xs.length - 1, by omega⟩
    simp -implicitDefEqProofs (disch := first | assumption | omega | (simp only [gL] <;> omega) | ((repeat (first | exact Ext.refl _ | assumption | apply Ext.app | apply Ext.mk | (refine Ext.setr ?_ (by (first | omega | (simp only [gL] <;> omega))) _))); done) | (simp only [gL, gA] <;> omega) | fail) only [gB, setAll, partL, fldV, reduceIte, Nat.reduceAdd, Nat.reduceMul]
    refine WP.call (line_spec oq h) ?_
    rintro _ _ ⟨rfl, rfl⟩
    refine WP.call (hPop_spec qs r hp hn) ?_
    rintro _ h2 ⟨rfl, xs2, at2, q2, r2, hp2, hl2, f2⟩
    have a0 := r.a 0 (by omega) (by omega)
    have hb : gi M (gi xs 0).1 = some (gi xs 0).2 := by
      rcases r.b _ a0.1 a0.2.1 with z | z
      · omega
      · rw [z.2.2.2, a0.2.2]
    have hcs := cnt_set (M := M) (i := (gi xs 0).1) a0.1 (by omega) none
    rw [hb] at hcs
    simp at hcs
    simp -implicitDefEqProofs (disch := first | assumption | omega | (simp only [gL] <;> omega) | ((repeat (first | exact Ext.refl _ | assumption | apply Ext.app | apply Ext.mk | (refine Ext.setr ?_ (by (first | omega | (simp only [gL] <;> omega))) _))); done) | (simp only [gL, gA, tAssert_t, extr_0, extr_1, encIt] <;> omega) | fail) only [gB, setAll, partL, fldV, reduceIte, Nat.reduceAdd, Nat.reduceMul, tAssert_t, extr_0, extr_1, encIt]
    refine WP.ret ⟨_, .inr ⟨(gi xs 0).1, (gi xs 0).2, ⟨a0.1, a0.2.1, hb, fun id' k' i0 i1 hk => ?_⟩, rfl, rfl⟩, ?_, f2.trans (FrS.ofExt (by ((repeat (first | exact Ext.refl _ | assumption | apply Ext.app | apply Ext.mk | (refine Ext.setr ?_ (by (first | omega | (simp only [gL] <;> omega))) _))))))⟩
    · rcases r.b id' i0 i1 with z | ⟨z0, z1, z2, z3⟩
      · rw [z.2] at hk; cases hk
      · have := hp.root (gi a id').toNat (gi a id') (by omega) z0 z1
        rw [z3] at hk
        injection hk with hk
        rw [← z2, ← hk]
        exact this
    · exact QV.ext ⟨oq, xs2, at2, rfl, q2, r2, hp2, by omega⟩ (by ((repeat (first | exact Ext.refl _ | assumption | apply Ext.app | apply Ext.mk | (refine Ext.setr ?_ (by (first | omega | (simp only [gL] <;> omega))) _)))))
theorem qnew_loop {q1 : Nat} {s2 : AV} : ∀ (d n : Nat) (h : Heap) (at' : List Int), n + d = at'.length → at'.length ≤ 1000000 → (∀ i : Int, 0 ≤ i → i < n → gi at' i = -1) → h[q1 + 1]? = some (.cells ⟨[.nils, s2], 0, 0, false⟩) → Gr q1 (q1 + 1) h 1 s2 (at'.map encI) →
    WP (fun p : Nat × Nat => queue_New_l1 tab p.1 p.2 (.ptr (q1 + 1) 0 2 0) (I at'.length) (I n) h) fun r h' => r = .ptr (q1 + 1) 0 2 0 ∧ h'.length = h.length ∧ FrS (fun o => o = q1) h h' ∧ ∃ at2 : List Int, at2.length = at'.length ∧ (∀ i : Int, 0 ≤ i → i < at2.length → gi at2 i = -1) ∧ h'[q1 + 1]? = some (.cells ⟨[.nils, s2], 0, 0, false⟩) ∧ Gr q1 (q1 + 1) h' 1 s2 (at2.map encI) := by
  intro d
  induction d with
  | zero =>
    intro n h at' h1 hl ha row g
    refine WP.rnd (fun i' j => queue_New_l1_eq tab i' j (.ptr (q1 + 1) 0 2 0) (I at'.length) (I n) h) ?_
    simp -implicitDefEqProofs (disch := first | assumption | omega | (simp only [gL] <;> omega) | ((repeat (first | exact Ext.refl _ | assumption | apply Ext.app | apply Ext.mk | (refine Ext.setr ?_ (by (first | omega | (simp only [gL] <;> omega))) _))); done) | (simp only [gL, gA] <;> omega) | fail) only [gB, setAll, partL, fldV, reduceIte, Nat.reduceAdd, Nat.reduceMul]
    exact WP.ret ⟨rfl, rfl, FrS.refl _ _, at', rfl, fun i i0 i1 => ha i i0 (by omega), row, g⟩
  | succ d ih =>
    intro n h at' h1 hl ha row g
    refine WP.rnd (fun i' j => queue_New_l1_eq tab i' j (.ptr (q1 + 1) 0 2 0) (I at'.length) (I n) h) ?_
    have hq := (List.getElem?_eq_some_iff.1 row).1
    obtain ⟨h2, k1, k2, k3, k4⟩ := g.write0 (i := (n : Int)) (v := I (-1)) (by omega) (by simp; omega) rfl rfl
    have row2 : h2[q1 + 1]? = some (.cells ⟨[.nils, s2], 0, 0, false⟩) := by rw [k3.get (by omega) hq]; exact row
    have hll : (at'.set n (-1)).length = at'.length := by simp
    have := ih (n + 1) h2 (at'.set n (-1)) (by rw [hll]; omega) (by rw [hll]; exact hl) (fun i i0 i1 => ?_) row2 (k2.cong (by rw [List.map_set]; rfl))
    · simp -implicitDefEqProofs (disch := first | assumption | omega | (simp only [gL] <;> omega) | ((repeat (first | exact Ext.refl _ | assumption | apply Ext.app | apply Ext.mk | (refine Ext.setr ?_ (by (first | omega | (simp only [gL] <;> omega))) _))); done) | (simp only [gL, gA, row, g.sl.idxG, k1] <;> omega) | fail) only [gB, setAll, partL, fldV, reduceIte, Nat.reduceAdd, Nat.reduceMul, row, g.sl.idxG, k1]
      rw [hll] at this
      refine this.mono ?_
      rintro r h3 ⟨a1, a2, a3, a4⟩
      exact ⟨a1, by omega, (k3.s.mono fun o _ z => by omega).trans a3, a4⟩
    · have := gi_set' (xs := at') (i := (n : Int)) (j := i) (by omega) (by omega) i0 (-1)
      rw [Int.toNat_natCast] at this
      rw [this]
      split
      · rfl
      · exact ha i i0 (by omega)
theorem gi_rep {α : Type} [Inhabited α] {n : Nat} {x : α} {i : Int} (h0 : 0 ≤ i) (h1 : i < n) : gi (List.replicate n x) i = x := by
  have : i.toNat < n := by omega
  simp [gi, List.getD_eq_getElem?_getD, List.getElem?_replicate, this]
theorem cnt_rep (n : Nat) : cnt (List.replicate n (none : Option Int)) = 0 := by
  rw [cnt, List.countP_eq_zero]
  intro x hx
  rw [(List.mem_replicate.1 hx).2]; simp
theorem qNew_spec (n : Nat) (hn : n ≤ 1000000) (h : Heap) : Tot tab f_queue_New [I n] h fun r h' => QV (fun o => h.length ≤ o) h' r n (List.replicate n none) ∧ Ext h h' := by
  refine WP.tot (fun k => (call_queue_New k _ h).trans (queue_New_eq tab k _ h)) ?_
  have hmx : max (n : Int) 0 = n := by omega
  obtain ⟨s2, h1, k1, k2, k3, k4, k5⟩ := mkSl_gr (zero := [AV.int .i64 0]) (sz := 1) (bytes := 8) (n := (n : Int)) h (by omega) (by omega) (by omega) rfl rfl
  have hre : List.replicate (n : Int).toNat [AV.int .i64 0] = (List.replicate n (0 : Int)).map encI := by
    rw [List.map_replicate]; rfl
  rw [hre] at k2
  obtain ⟨h2, hh2⟩ : ∃ h2, h2 = h1 ++ [AObj.cells ⟨[.nils, s2], 0, 0, false⟩] := ⟨_, rfl⟩
  have e2 : Ext h1 h2 := by rw [hh2]; ((repeat (first | exact Ext.refl _ | assumption | apply Ext.app | apply Ext.mk | (refine Ext.setr ?_ (by (first | omega | (simp only [gL] <;> omega))) _))))
  have r2 : h2[h1.length]? = some (.cells ⟨[.nils, s2], 0, 0, false⟩) := by rw [hh2]; simp
  have hl2 : h2.length = h.length + 2 := by rw [hh2]; simp; omega
  simp -implicitDefEqProofs (disch := first | assumption | omega | (simp only [gL] <;> omega) | ((repeat (first | exact Ext.refl _ | assumption | apply Ext.app | apply Ext.mk | (refine Ext.setr ?_ (by (first | omega | (simp only [gL] <;> omega))) _))); done) | (simp only [gL, gA, hmx, k1, k2.sl.one, k2.sl.cells] <;> omega) | fail) only [gB, setAll, partL, fldV, reduceIte, Nat.reduceAdd, Nat.reduceMul, hmx, k1, k2.sl.one, k2.sl.cells]
  rw [← hh2]
  have g2 := k2.ext e2
  rw [k5] at r2
  have hlr : ((List.replicate n (0 : Int)).length : Int) = n := by simp
  have hnl := qnew_loop (q1 := h.length) n 0 h2 (List.replicate n 0) (by simp) (by simp; omega) (fun i i0 i1 => by omega) r2 g2
  rw [hlr] at hnl
  simp -implicitDefEqProofs (disch := first | assumption | omega | (simp only [gL] <;> omega) | ((repeat (first | exact Ext.refl _ | assumption | apply Ext.app | apply Ext.mk | (refine Ext.setr ?_ (by (first | omega | (simp only [gL] <;> omega))) _))); done) | (simp only [gL, gA, r2, g2.sl.lenG, k5, hlr] <;> omega) | fail) only [gB, setAll, partL, fldV, reduceIte, Nat.reduceAdd, Nat.reduceMul, r2, g2.sl.lenG, k5, hlr]
  refine WP.ent (hnl.mono ?_) fun i => rfl
  rintro r h3 ⟨rfl, hl3, f3, at2, hla, ha, row3, g3⟩
  simp only [List.length_replicate] at hla
  refine ⟨⟨h.length + 1, [], at2, rfl, ⟨.nils, s2, 0, h.length, row3, .inl ⟨rfl, rfl⟩, fun q => absurd rfl q, g3, Nat.le_refl _, by omega, by omega, Nat.le_add_right _ _, by simp, by omega⟩, ⟨hla, by simp, fun i i0 i1 => by simp at i1; omega, fun id i0 i1 => .inl ⟨ha id i0 (by omega), gi_rep i0 i1⟩⟩, fun i i0 i1 => by simp at i1; omega, by rw [cnt_rep]; rfl⟩, f3.ext (k3.trans e2) (fun o q1 q2 => by omega)⟩

end
end Go.Gm.A9
