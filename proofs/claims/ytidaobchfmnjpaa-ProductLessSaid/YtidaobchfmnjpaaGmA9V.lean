/- A part of the proof (GmA9V): an abstract machine, what it does, and what the functions of the program come to on it. -/
import Derived.Test.YtidaobchfmnjpaaGmA9U
set_option linter.unusedVariables false
set_option linter.unusedSimpArgs false
set_option linter.unusedSectionVars false
namespace Go.Gm.A9
open Go Go.Gm
/-! ### Rows of rows that are written to -/
def rowL (c : Nat → Int) (S v : Nat) : List Int := (List.range S).map fun s => c (v * S + s)
theorem rowL_len (c : Nat → Int) (S v : Nat) : (rowL c S v).length = S := by simp [rowL]
theorem rowL_gi {c : Nat → Int} {S v s : Nat} (hs : s < S) : gi (rowL c S v) (s : Int) = c (v * S + s) := by
  rw [gi_nat (by simpa [rowL] using hs)]
  simp [rowL]
theorem spot_inj {S v s v' s' : Nat} (h : s < S) (h' : s' < S) (e : v * S + s = v' * S + s') : v = v' ∧ s = s' := by
  have h1 : (v * S + s) / S = v := by rw [Nat.mul_comm, Nat.mul_add_div (by omega), Nat.div_eq_of_lt h, Nat.add_zero]
  have h2 : (v' * S + s') / S = v' := by rw [Nat.mul_comm, Nat.mul_add_div (by omega), Nat.div_eq_of_lt h', Nat.add_zero]
  have : v = v' := by rw [← h1, ← h2, e]
  subst this
  exact ⟨rfl, by omega⟩
theorem rowL_up {c : Nat → Int} {S V t : Nat} (ht : t < S) (x : Int) (v : Nat) : rowL (up c (V * S + t) x) S v = if v = V then (rowL c S V).set t x else rowL c S v := by
  apply List.ext_getElem
  · split <;> simp [rowL]
  intro s h1 h2
  have hs : s < S := by simpa [rowL] using h1
  by_cases q : v = V
  · subst q
    simp only [if_true, rowL, List.getElem_map, List.getElem_range, List.getElem_set, up]
    by_cases q2 : t = s
    · subst q2; simp
    · rw [if_neg q2, if_neg (fun z => q2 (by omega))]
  · simp only [if_neg q, rowL, List.getElem_map, List.getElem_range, up]
    rw [if_neg fun z => q (spot_inj hs ht z).1]
theorem Fam.write0 {κ : Type} [DecidableEq κ] {W : Nat → Prop} {h : Heap} {A : κ → Prop} {S : κ → AV} {X : κ → List (List AV)} (f : Fam W h 1 A S X) {t : κ} (ht : A t) {i : Nat} (hi : i < (X t).length) {v : AV} (hv : v.cells.length = 1) (h1 : v.cells.all AV.one = true) :
    ∃ h', stN 1 h (elP 1 (S t) i) v = some h' ∧ Fam W h' 1 A S (fun t' => if t' = t then (X t).set i v.cells else X t') ∧ FrS W h h' := by
  obtain ⟨ob, f1, f2⟩ := f
  obtain ⟨g, g2⟩ := f1 t ht
  have hn : S t ≠ .nils := g.nnil (by intro q; rw [q] at hi; simp at hi)
  obtain ⟨w1, w2⟩ := g2 hn
  obtain ⟨h', k1, k2, k3, k4⟩ := g.write0 (i := (i : Int)) (by omega) (by omega) hv h1
  have fr : FrS (fun o => o = ob t) h h' := k3.s.mono fun o z1 z2 => by omega
  refine ⟨h', k1, ⟨ob, fun t' ht' => ?_, f2⟩, fr.mono fun o _ z => z ▸ w1⟩
  show Gr (ob t') (ob t' + 1) h' 1 (S t') (if t' = t then (X t).set i v.cells else X t') ∧ _
  by_cases q : t' = t
  · subst q
    rw [if_pos rfl]
    refine ⟨k2.cong (by rw [Int.toNat_natCast]), fun z => ⟨w1, by omega⟩⟩
  · rw [if_neg q]
    obtain ⟨g', g2'⟩ := f1 t' ht'
    by_cases z : S t' = .nils
    · refine ⟨?_, fun q => absurd z q⟩
      have hx : X t' = [] := by rw [z] at g'; exact g'.isNil
      rw [hx, z]; exact Gr.nil ..
    · refine ⟨g'.frs fr fun o q1 q2 q3 => f2 t' t ht' ht q z hn (by omega), fun q => ⟨(g2' q).1, by have := (g2' q).2; omega⟩⟩
structure MatW (W : Nat → Prop) (oc : Nat) (c7 : AV) (N S : Nat) (rows : List AV) (c : Nat → Int) (h : Heap) : Prop where
  gc : Sl h 1 c7 (rows.map fun s => [s])
  oc : ∀ h', FrS W h h' → Sl h' 1 c7 (rows.map fun s => [s])
  lr : rows.length = N
  f : Fam W h 1 (fun v : Nat => v < N) (fun v : Nat => gi rows (v : Int)) (fun v => (rowL c S v).map encI)
theorem MatW.row {W : Nat → Prop} {oc : Nat} {c7 : AV} {N S : Nat} {rows : List AV} {c : Nat → Int} {h : Heap} (w : MatW W oc c7 N S rows c h) {v : Nat} (hv : v < N) : Sl h 1 (gi rows (v : Int)) ((rowL c S v).map encI) := w.f.sl hv
theorem MatW.set {W : Nat → Prop} {oc : Nat} {c7 : AV} {N S : Nat} {rows : List AV} {c : Nat → Int} {h : Heap} (w : MatW W oc c7 N S rows c h) {v s : Nat} (hv : v < N) (hs : s < S) (x : Int) :
    ∃ h', stN 1 h (elP 1 (gi rows (v : Int)) s) (I x) = some h' ∧ MatW W oc c7 N S rows (up c (v * S + s) x) h' ∧ FrS W h h' := by
  obtain ⟨h', k1, k2, k3⟩ := Fam.write0 w.f (t := v) hv (i := s) (by rw [List.length_map, rowL_len]; exact hs) (v := I x) rfl rfl
  refine ⟨h', k1, ⟨w.oc h' k3, fun h2 f2 => w.oc h2 (k3.trans f2), w.lr, k2.congr fun t ht => ⟨rfl, ?_⟩⟩, k3⟩
  show (rowL (up c (v * S + s) x) S t).map encI = if t = v then _ else _
  rw [rowL_up hs]
  by_cases q : t = v
  · rw [if_pos q, if_pos q, List.map_set]; rfl
  · rw [if_neg q, if_neg q]
theorem MatW.ext {W : Nat → Prop} {oc : Nat} {c7 : AV} {N S : Nat} {rows : List AV} {c : Nat → Int} {h h' : Heap} (w : MatW W oc c7 N S rows c h) (e : Ext h h') : MatW W oc c7 N S rows c h' :=
  ⟨w.oc h' (FrS.ofExt e), fun h2 f2 => w.oc h2 ((FrS.ofExt e).trans f2), w.lr, w.f.frs (D := fun _ => False) (FrS.ofExt e) fun _ _ _ z => z⟩
section
variable {h0 : Heap} {N : Nat} {es : List E} {D : List (List Int)} {acc : List Bool}
abbrev eg (es : List E) (i : Nat) : E := gi es (i : Int)
def src (es : List E) (S i s : Nat) : Nat := (eg es i).fr.toNat * S + s
def dst (es : List E) (D : List (List Int)) (i s : Nat) : Nat := (eg es i).to.toNat * D.length + (nx D s (eg es i).md).toNat
def Rx (es : List E) (D : List (List Int)) (c : Nat → Int) (i s : Nat) : Prop := 0 ≤ c (src es D.length i s) → 0 ≤ c (dst es D i s) ∧ c (dst es D i s) ≤ c (src es D.length i s) + (eg es i).co
def SatUp (es : List E) (D : List (List Int)) (c : Nat → Int) (i s : Nat) : Prop := (∀ i' s', i' < i → s' < D.length → Rx es D c i' s') ∧ ∀ s', s' < s → Rx es D c i s'
structure PI (es : List E) (D : List (List Int)) (N : Nat) (st : Nat → Prop) (b : Bool) (c0 c : Nat → Int) (i s : Nat) : Prop where
  r : RI (N * D.length) 2147483647 (hopA es D.length (onL es D)) st c
  p : (b = false ∧ c = c0 ∧ SatUp es D c i s) ∨ (b = true ∧ mu (N * D.length) 2147483647 c < mu (N * D.length) 2147483647 c0)
theorem hop_mem (ok : DOk D acc) (no : NetOk N es) {i s : Nat} (hi : i < es.length) (hs : s < D.length) : (dst es D i s, i, (eg es i).co) ∈ hopA es D.length (onL es D) (src es D.length i s) := by
  have he : 0 ≤ (eg es i).fr ∧ (eg es i).fr < N ∧ 0 ≤ (eg es i).to ∧ (eg es i).to < N ∧ 0 ≤ (eg es i).md ∧ (eg es i).md < 5 := no.edge _ (gi_mem (xs := es) (i := (i : Int)) (by omega) (by omega))
  have ht : 0 ≤ nx D s (eg es i).md ∧ nx D s (eg es i).md < D.length := ok.to s (eg es i).md (by omega) (by omega) he.2.2.2.2.1 he.2.2.2.2.2
  have hsp := spot_inj (S := D.length) (v := (eg es i).fr.toNat) (s := s) (v' := src es D.length i s / D.length) (s' := src es D.length i s % D.length) hs (Nat.mod_lt _ (by omega)) (by
    rw [Nat.mul_comm (src es D.length i s / D.length), Nat.div_add_mod]; rfl)
  refine List.mem_map.2 ⟨((eg es i).to, nx D s (eg es i).md, (i : Int)), List.mem_map.2 ⟨(i : Int), ?_, ?_⟩, ?_⟩
  · refine idxTo_mem.2 ⟨by omega, by omega, ?_⟩
    rw [← hsp.1]
    simp only [beq_iff_eq]
    show (eg es i).fr = _
    omega
  · rw [← hsp.2]
  · simp only [hopOf, dst]
    congr 1
    have h1 : (eg es i).to = ((eg es i).to.toNat : Int) := by omega
    have h2 : nx D s (eg es i).md = ((nx D s (eg es i).md).toNat : Int) := by omega
    generalize (eg es i).to.toNat = a at h1
    generalize (nx D s (eg es i).md).toNat = b at h2
    rw [h1, h2, ← Int.natCast_mul, ← Int.natCast_add, Int.toNat_natCast]
theorem hop_inv (ok : DOk D acc) (no : NetOk N es) {x y e : Nat} {w : Int} (hx : x < N * D.length) (h : (y, e, w) ∈ hopA es D.length (onL es D) x) : ∃ i s, i < es.length ∧ s < D.length ∧ x = src es D.length i s ∧ y = dst es D i s ∧ w = (eg es i).co := by
  obtain ⟨q1, q2⟩ := dm hx
  obtain ⟨t, ht, h1⟩ := List.mem_map.1 h
  obtain ⟨k, hk, rfl⟩ := List.mem_map.1 ht
  obtain ⟨k0, k1, k2⟩ := idxTo_mem.1 hk
  obtain ⟨i, rfl⟩ : ∃ i : Nat, k = i := ⟨k.toNat, by omega⟩
  simp only [beq_iff_eq] at k2
  have he : 0 ≤ (eg es i).fr ∧ (eg es i).fr < N ∧ 0 ≤ (eg es i).to ∧ (eg es i).to < N ∧ 0 ≤ (eg es i).md ∧ (eg es i).md < 5 := no.edge _ (gi_mem (xs := es) (i := (i : Int)) (by omega) (by omega))
  have htt : 0 ≤ nx D ((x % D.length : Nat) : Int) (eg es i).md ∧ nx D ((x % D.length : Nat) : Int) (eg es i).md < D.length := ok.to _ (eg es i).md (Int.natCast_nonneg _) (Int.ofNat_lt.2 q2) he.2.2.2.2.1 he.2.2.2.2.2
  refine ⟨i, x % D.length, by omega, q2, ?_, ?_⟩
  · have : (eg es i).fr.toNat = x / D.length := by
      show (gi es (i : Int)).fr.toNat = _
      rw [k2, Int.toNat_natCast]
    rw [src, this, Nat.mul_comm, Nat.div_add_mod]
  · simp only [hopOf] at h1
    cases h1
    refine ⟨?_, rfl⟩
    rw [dst]
    have h1 : (eg es i).to = ((eg es i).to.toNat : Int) := by omega
    have h2 : nx D ((x % D.length : Nat) : Int) (eg es i).md = ((nx D ((x % D.length : Nat) : Int) (eg es i).md).toNat : Int) := by omega
    generalize (eg es i).to.toNat = a at h1
    generalize (nx D ((x % D.length : Nat) : Int) (eg es i).md).toNat = b at h2
    show ((eg es i).to * (D.length : Int) + nx D ((x % D.length : Nat) : Int) (eg es i).md).toNat = _
    rw [h1, h2, ← Int.natCast_mul, ← Int.natCast_add, Int.toNat_natCast]
theorem PI.done {st : Nat → Prop} {b : Bool} {c0 c : Nat → Int} (ok : DOk D acc) (no : NetOk N es) (co : COk es) (hg : GOk (N * D.length) 2147483647 (hopA es D.length (onL es D))) (hst : ∀ x, st x → x < N * D.length) (p : PI es D N st false c0 c es.length 0) : LC (N * D.length) (hopA es D.length (onL es D)) st c := by
  obtain ⟨_, _, hs, _⟩ := p.p.resolve_right (by simp)
  refine p.r.lst hg hst fun x hx h0 y e w hm => ?_
  obtain ⟨i, s, i1, s1, rfl, rfl, rfl⟩ := hop_inv ok no hx hm
  exact hs i s i1 s1 h0
/-- One is gone through. -/
theorem PI.keep {st : Nat → Prop} {b : Bool} {c0 c : Nat → Int} {i s : Nat} (p : PI es D N st b c0 c i s) (h : Rx es D c i s) : PI es D N st b c0 c i (s + 1) := by
  refine ⟨p.r, p.p.imp (fun ⟨z1, z2, z3, z4⟩ => ⟨z1, z2, z3, fun s' hs' => ?_⟩) fun z => z⟩
  by_cases q : s' = s
  · subst q; exact h
  · exact z4 s' (by omega)
theorem PI.next {st : Nat → Prop} {b : Bool} {c0 c : Nat → Int} {i : Nat} (p : PI es D N st b c0 c i D.length) : PI es D N st b c0 c (i + 1) 0 := by
  refine ⟨p.r, p.p.imp (fun ⟨z1, z2, z3, z4⟩ => ⟨z1, z2, fun i' s' hi hs => ?_, fun s' hs => by omega⟩) fun z => z⟩
  by_cases q : i' = i
  · subst q; exact z4 s' hs
  · exact z3 i' s' (by omega) hs
theorem PI.relax {st : Nat → Prop} {b : Bool} {c0 c : Nat → Int} {i s : Nat} (ok : DOk D acc) (no : NetOk N es) (hg : GOk (N * D.length) 2147483647 (hopA es D.length (onL es D))) (hst : ∀ x, st x → x < N * D.length) (hi : i < es.length) (hs : s < D.length) (hx : src es D.length i s < N * D.length) (p : PI es D N st b c0 c i s)
    (h0 : 0 ≤ c (src es D.length i s)) (hr : c (dst es D i s) < 0 ∨ c (src es D.length i s) + (eg es i).co < c (dst es D i s)) : PI es D N st true c0 (up c (dst es D i s) (c (src es D.length i s) + (eg es i).co)) i (s + 1) := by
  obtain ⟨r1, r2⟩ := p.r.relax hg hst hx (hop_mem ok no hi hs) h0 hr
  refine ⟨r1, .inr ⟨rfl, ?_⟩⟩
  rcases p.p with ⟨_, rfl, _⟩ | ⟨_, z⟩
  · exact r2
  · omega
end
end Go.Gm.A9
