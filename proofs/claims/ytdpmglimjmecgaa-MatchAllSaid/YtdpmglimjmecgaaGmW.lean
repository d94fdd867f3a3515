/- A part of the proof: GmW: an abstract machine, what it does, and what the functions of the program come to on it. -/
import Derived.Test.YtdpmglimjmecgaaGmK
set_option linter.unusedVariables false
set_option linter.unusedSimpArgs false
namespace Go.Gm
/- With fuel enough: what a text comes to. -/

/-- What is told of fuel: the calls', each loop's. -/
class Fuel (ι : Type) where
  big : Nat → ι → Prop
  mono : ∀ {N M : Nat} {i : ι}, N ≤ M → big M i → big N i
  k : ι → Nat
  k_big : ∀ {N : Nat} {i : ι}, big N i → N ≤ k i
instance : Fuel Nat := ⟨fun N k => N ≤ k, fun h k => Nat.le_trans h k, fun k => k, fun h => h⟩
instance {ι : Type} [Fuel ι] : Fuel (ι × Nat) := ⟨fun N p => Fuel.big N p.1 ∧ N ≤ p.2, fun h k => ⟨Fuel.mono h k.1, Nat.le_trans h k.2⟩, fun p => Fuel.k p.1, fun h => Fuel.k_big h.1⟩

section
variable {ι : Type} [Fuel ι]
def WP (c : ι → Option (AV × Heap)) (Q : AV → Heap → Prop) : Prop := ∃ v h, Q v h ∧ ∃ N, ∀ i, Fuel.big N i → c i = some (v, h)
/-- A call, with fuel enough. -/
def Tot (T : Tab) (f : FuncId) (args : List AV) (h : Heap) (Q : AV → Heap → Prop) : Prop := ∃ v h', Q v h' ∧ ∃ N, ∀ k, N ≤ k → evalFn T k f args h = some (v, h')

theorem WP.ret {v : AV} {h : Heap} {Q : AV → Heap → Prop} (hq : Q v h) : WP (fun _ : ι => some (v, h)) Q := ⟨v, h, hq, 0, fun _ _ => rfl⟩
theorem WP.mono {c : ι → Option (AV × Heap)} {Q Q' : AV → Heap → Prop} (hc : WP c Q) (hq : ∀ v h, Q v h → Q' v h) : WP c Q' :=
  let ⟨v, h, h1, h2⟩ := hc
  ⟨v, h, hq v h h1, h2⟩
theorem WP.congr {c d : ι → Option (AV × Heap)} {Q : AV → Heap → Prop} (he : ∀ i, c i = d i) (hd : WP d Q) : WP c Q :=
  let ⟨v, h, h1, N, h2⟩ := hd
  ⟨v, h, h1, N, fun i hi => (he i).trans (h2 i hi)⟩
theorem WP.oa {x : Option AV} {v : AV} {K : ι → AV → Option (AV × Heap)} {Q : AV → Heap → Prop} (hx : x = some v) (hk : WP (fun i => K i v) Q) : WP (fun i => Gm.oa x (K i)) Q := by
  subst hx; exact hk
theorem WP.oh {x : Option Heap} {v : Heap} {K : ι → Heap → Option (AV × Heap)} {Q : AV → Heap → Prop} (hx : x = some v) (hk : WP (fun i => K i v) Q) : WP (fun i => Gm.oh x (K i)) Q := by
  subst hx; exact hk
theorem WP.ob {x : Option (AV × Heap)} {v : AV} {h : Heap} {K : ι → AV → Heap → Option (AV × Heap)} {Q : AV → Heap → Prop} (hx : x = some (v, h)) (hk : WP (fun i => K i v h) Q) : WP (fun i => Gm.ob x (K i)) Q := by
  subst hx; exact hk
theorem WP.call {T : Tab} {f : FuncId} {args : List AV} {h : Heap} {Q' Q : AV → Heap → Prop} {K : ι → AV → Heap → Option (AV × Heap)} (hf : Tot T f args h Q') (hk : ∀ v h', Q' v h' → WP (fun i => K i v h') Q) :
    WP (fun i => Gm.ob (evalFn T (Fuel.k i) f args h) (K i)) Q := by
  obtain ⟨v, h', hq, N, hN⟩ := hf
  obtain ⟨v2, h2, hq2, M, hM⟩ := hk v h' hq
  refine ⟨v2, h2, hq2, max N M, fun i hi => ?_⟩
  show Gm.ob (evalFn T (Fuel.k i) f args h) (K i) = some (v2, h2)
  rw [hN _ (Nat.le_trans (Nat.le_max_left N M) (Fuel.k_big hi))]
  exact hM i (Fuel.mono (Nat.le_max_right N M) hi)
/-- Into a loop. -/
theorem WP.enter {L : ι → Nat → Option (AV × Heap)} {Q : AV → Heap → Prop} (hl : WP (fun p : ι × Nat => L p.1 p.2) Q) : WP (fun i => L i (Fuel.k i)) Q := by
  obtain ⟨v, h, hq, N, hN⟩ := hl
  exact ⟨v, h, hq, N, fun i hi => hN (i, Fuel.k i) ⟨hi, Fuel.k_big hi⟩⟩
/-- One round. -/
theorem WP.round {L d : ι → Nat → Option (AV × Heap)} {Q : AV → Heap → Prop} (he : ∀ i j, L i (j + 1) = d i j) (hl : WP (fun p : ι × Nat => d p.1 p.2) Q) : WP (fun p : ι × Nat => L p.1 p.2) Q := by
  obtain ⟨v, h, hq, N, hN⟩ := hl
  refine ⟨v, h, hq, N + 1, fun p hp => ?_⟩
  obtain ⟨i, j⟩ := p
  obtain ⟨h1, h2⟩ := hp
  obtain ⟨j, rfl⟩ : ∃ j', j = j' + 1 := ⟨j - 1, by simp at h2; omega⟩
  exact (he i j).trans (hN (i, j) ⟨Fuel.mono (Nat.le_succ N) h1, by simp at h2; exact h2⟩)
/-- Out of a loop. -/
theorem WP.leave {c : ι → Option (AV × Heap)} {Q : AV → Heap → Prop} (hc : WP c Q) : WP (fun p : ι × Nat => c p.1) Q := by
  obtain ⟨v, h, hq, N, hN⟩ := hc
  exact ⟨v, h, hq, N, fun p hp => hN p.1 hp.1⟩
theorem WP.tot {T : Tab} {f : FuncId} {args : List AV} {h : Heap} {Q : AV → Heap → Prop} {c : Nat → Option (AV × Heap)} (he : ∀ k, evalFn T (k + 1) f args h = c k) (hc : WP c Q) : Tot T f args h Q := by
  obtain ⟨v, h', hq, N, hN⟩ := hc
  refine ⟨v, h', hq, N + 1, fun k hk => ?_⟩
  obtain ⟨k, rfl⟩ : ∃ k', k = k' + 1 := ⟨k - 1, by omega⟩
  exact (he k).trans (hN k (by exact Nat.le_of_succ_le_succ hk))
theorem Tot.mono {T : Tab} {f : FuncId} {args : List AV} {h : Heap} {Q Q' : AV → Heap → Prop} (hc : Tot T f args h Q) (hq : ∀ v h, Q v h → Q' v h) : Tot T f args h Q' :=
  let ⟨v, h, h1, h2⟩ := hc
  ⟨v, h, hq v h h1, h2⟩
theorem cond2_dec {p : Prop} [Decidable p] {R : Type} (a b : Option R) : cond2 (.bool (decide p)) a b = if p then a else b := by
  by_cases h : p <;> simp [h]
end
end Go.Gm
