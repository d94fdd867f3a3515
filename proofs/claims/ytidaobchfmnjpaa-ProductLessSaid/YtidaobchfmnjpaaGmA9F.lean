/- A part of the proof (GmA9F): an abstract machine, what it does, and what the functions of the program come to on it. -/
import Derived.Test.YtidaobchfmnjpaaGmRl
import Derived.Test.YtidaobchfmnjpaaGmA9D
set_option linter.unusedVariables false
set_option linter.unusedSimpArgs false
set_option linter.unusedSectionVars false
namespace Go.Gm.A9
open Go Go.Gm
/-! ### A network with a machine -/
def encR (r : List Int) : List AV := r.map I
/-- A machine that may be: where each state leads, which ones accept. -/
structure DOk (D : List (List Int)) (acc : List Bool) : Prop where
  l0 : 0 < D.length
  l1 : D.length ≤ 2000
  la : acc.length = D.length
  row : ∀ s : Int, 0 ≤ s → s < D.length → (gi D s).length = 5
  to : ∀ s m : Int, 0 ≤ s → s < D.length → 0 ≤ m → m < 5 → 0 ≤ gi (gi D s) m ∧ gi (gi D s) m < D.length
structure COk (es : List E) : Prop where
  c : ∀ e ∈ es, 0 ≤ e.co ∧ e.co ≤ 2147483647
abbrev nx (D : List (List Int)) (s m : Int) : Int := gi (gi D s) m
/-- The states from which one comes to a state, of the first n. -/
def befTo (D : List (List Int)) (t m : Int) (n : Nat) : List Int := ((List.range n).filter fun (i : Nat) => nx D i m == t).map fun (i : Nat) => (i : Int)
abbrev bef (D : List (List Int)) (t m : Int) : List Int := befTo D t m D.length
abbrev Tr := Int × Int × Int
def encT (t : Tr) : List AV := [I t.1, I t.2.1, I t.2.2]
def onL (es : List E) (D : List (List Int)) (v s : Int) : List Tr := (outL es v).map fun k => ((gi es k).to, nx D s (gi es k).md, k)
def backL (es : List E) (D : List (List Int)) (v s : Int) : List Tr := (inL es v).flatMap fun k => (bef D s (gi es k).md).map fun s' => ((gi es k).fr, s', k)
def hopOf (es : List E) (S : Nat) (t : Tr) : Hop := ((t.1 * S + t.2.1).toNat, t.2.2.toNat, (gi es t.2.2).co)
def hopA (es : List E) (S : Nat) (L : Int → Int → List Tr) (x : Nat) : List Hop := (L ((x / S : Nat) : Int) ((x % S : Nat) : Int)).map (hopOf es S)
/-- The joined network and machine. -/
structure GV (h : Heap) (g : AV) (N : Nat) (es : List E) (D : List (List Int)) (acc : List Bool) : Prop where
  ex : ∃ sE a sD sA sB B, At h g [I N, sE, a, sD, sA, sB] ∧ Sl h 4 sE (es.map encE) ∧ AdjV h a N es ∧ Sl h 5 sD (D.map encR) ∧ Sl h 1 sA (acc.map encB) ∧ Sl h 5 sB (B.map id) ∧
    B.length = D.length ∧ ∀ t m : Int, 0 ≤ t → t < D.length → 0 ≤ m → m < 5 → (gi B t).length = 5 ∧ Sl h 1 (gi (gi B t) m) ((bef D t m).map encI)
theorem GV.ext {h h' : Heap} {g : AV} {N : Nat} {es : List E} {D : List (List Int)} {acc : List Bool} (v : GV h g N es D acc) (e : Ext h h') : GV h' g N es D acc := by
  obtain ⟨sE, a, sD, sA, sB, B, h1, h2, h3, h4, h5, h6, h7, h8⟩ := v.ex
  exact ⟨sE, a, sD, sA, sB, B, h1.ext e, h2.ext e, h3.ext e, h4.ext e, h5.ext e, h6.ext e, h7, fun t m t0 t1 m0 m1 => ⟨(h8 t m t0 t1 m0 m1).1, (h8 t m t0 t1 m0 m1).2.ext e⟩⟩
theorem idxA_el {sz : Nat} {h : Heap} {s : AV} {α : Type} [Inhabited α] {enc : α → List AV} {xs : List α} (a : Sl h sz s (xs.map enc)) {i j : Int} (hi0 : 0 ≤ i) (hi : i < xs.length) (h0 : 0 ≤ j) (h1 : j < sz) : ∃ o off g, elP sz s i = .ptr o off (off + sz) g ∧ idxA sz 1 (elP sz s i) (I j) = some (.ptr o (off + j.toNat) (off + j.toNat + 1) g) := by
  rcases a with ⟨rfl, hx⟩ | ⟨o, off, lim, g, c, rfl, _⟩
  · cases xs with
    | nil => simp at hi; omega
    | cons => simp at hx
  · refine ⟨o, off + i.toNat * sz, g, rfl, ?_⟩
    simp only [elP, idxA, I, Nat.mul_one]
    rw [if_pos ⟨h0, h1, by omega⟩]
theorem ld1_hi {h : Heap} {o off hi hi2 g : Nat} (h1 : off < hi) (h2 : off < hi2) : Gm.ld1 h (.ptr o off hi g) = Gm.ld1 h (.ptr o off hi2 g) := by simp [Gm.ld1, h1, h2]
theorem st1_hi {h : Heap} {o off hi hi2 g : Nat} {v : AV} (h1 : off < hi) (h2 : off < hi2) : stN 1 h (.ptr o off hi g) v = stN 1 h (.ptr o off hi2 g) v := by
  simp only [stN, wrc]
  by_cases q : v.cells.length = 1
  · simp [q, show off + 1 ≤ hi by omega, show off + 1 ≤ hi2 by omega]
  · simp [q]
/-- One mode's state. -/
theorem cellA {sz : Nat} {h H : Heap} {s : AV} {α : Type} [Inhabited α] {enc : α → List AV} {xs : List α} (a : Sl h sz s (xs.map enc)) (e : Ext h H) {i j : Int} (hi0 : 0 ≤ i) (hi : i < xs.length) (h0 : 0 ≤ j) (h1 : j < sz) :
    ∃ p, idxA sz 1 (elP sz s i) (I j) = some p ∧ Gm.ld1 H p = some ((enc (gi xs i)).getD j.toNat .undef) ∧ ∀ (H' : Heap) (v : AV), stN 1 H' p v = stN 1 H' (fldP j.toNat (elP sz s i)) v := by
  obtain ⟨o, off, g, k1, k2⟩ := idxA_el a hi0 hi h0 h1
  have := a.ldf j.toNat e hi0 hi (by omega)
  rw [k1, fldP_ptr] at this
  refine ⟨_, k2, ?_, fun H' v => ?_⟩
  · rw [← this]
    exact ld1_hi (by omega) (by omega)
  · rw [k1, fldP_ptr]
    exact st1_hi (by omega) (by omega)
section
variable {h0 h : Heap} {g : AV} {N : Nat} {es : List E} {D : List (List Int)} {acc : List Bool}
theorem id_spec (gv : GV h g N es D acc) (ok : DOk D acc) {v s : Int} (v0 : 0 ≤ v) (v1 : v ≤ 100000) (s0 : 0 ≤ s) (s1 : s ≤ 100000) :
    Tot tab f_product_graph_id [g, .agg [I v, I s]] h fun r h' => r = I (v * D.length + s) ∧ Ext h h' := by
  obtain ⟨sE, a, sD, sA, sB, B, k1, k2, k3, k4, k5, k6, k7, k8⟩ := gv.ex
  refine WP.tot (fun k => (call_product_graph_id k _ _ h).trans (product_graph_id_eq tab k _ _ h)) ?_
  have hl := ok.l1
  have hm0 : 0 ≤ v * (D.length : Int) := Int.mul_nonneg v0 (by omega)
  have hm1 : v * (D.length : Int) ≤ 100000 * 2000 := Int.mul_le_mul v1 (by omega) (by omega) (by omega)
  have hw : IntKind.i64.wrap (v * (D.length : Int)) = v * D.length := wrap_id (by omega) (by omega)
  simp -implicitDefEqProofs (disch := first | assumption | omega | (simp only [gL] <;> omega) | ((repeat (first | exact Ext.refl _ | assumption | apply Ext.app | apply Ext.mk | (refine Ext.setr ?_ (by (first | omega | (simp only [gL] <;> omega))) _))); done) | (simp only [gL, gA, k1.nil, k1.fldA0, k1.fldAf, k1.ldfE, k4.lenG, hw] <;> omega) | fail) only [gB, setAll, partL, fldV, reduceIte, Nat.reduceAdd, Nat.reduceMul, k1.nil, k1.fldA0, k1.fldAf, k1.ldfE, k4.lenG, hw]
  exact WP.ret ⟨rfl, by ((repeat (first | exact Ext.refl _ | assumption | apply Ext.app | apply Ext.mk | (refine Ext.setr ?_ (by (first | omega | (simp only [gL] <;> omega))) _))))⟩
theorem spot_spec (gv : GV h g N es D acc) (ok : DOk D acc) {x : Nat} (hx : x ≤ 200000000) :
    Tot tab f_product_graph_spot [g, I x] h fun r h' => r = .agg [I ((x / D.length : Nat) : Int), I ((x % D.length : Nat) : Int)] ∧ Ext h h' := by
  obtain ⟨sE, a, sD, sA, sB, B, k1, k2, k3, k4, k5, k6, k7, k8⟩ := gv.ex
  refine WP.tot (fun k => (call_product_graph_spot k _ _ h).trans (product_graph_spot_eq tab k _ _ h)) ?_
  have hl := ok.l0
  have hd : x / D.length ≤ x := Nat.div_le_self _ _
  have hw : IntKind.i64.wrap ((x : Int).tdiv (D.length : Int)) = ((x / D.length : Nat) : Int) := by
    rw [← Int.ofNat_tdiv]
    generalize x / D.length = q at hd
    exact wrap_id (by omega) (by omega)
  have hr : (x : Int).tmod (D.length : Int) = ((x % D.length : Nat) : Int) := (Int.ofNat_tmod _ _).symm
  simp -implicitDefEqProofs (disch := first | assumption | omega | (simp only [gL] <;> omega) | ((repeat (first | exact Ext.refl _ | assumption | apply Ext.app | apply Ext.mk | (refine Ext.setr ?_ (by (first | omega | (simp only [gL] <;> omega))) _))); done) | (simp only [gL, gA, k1.nil, k1.fldA0, k1.fldAf, k1.ldfE, k4.lenG, hw, hr] <;> omega) | fail) only [gB, setAll, partL, fldV, reduceIte, Nat.reduceAdd, Nat.reduceMul, k1.nil, k1.fldA0, k1.fldAf, k1.ldfE, k4.lenG, hw, hr]
  exact WP.ret ⟨rfl, by ((repeat (first | exact Ext.refl _ | assumption | apply Ext.app | apply Ext.mk | (refine Ext.setr ?_ (by (first | omega | (simp only [gL] <;> omega))) _))))⟩
end
end Go.Gm.A9
