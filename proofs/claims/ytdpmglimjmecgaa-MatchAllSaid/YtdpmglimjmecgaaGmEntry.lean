/- A part of the proof: GmEntry: an abstract machine, what it does, and what the functions of the program come to on it. -/
import Derived.Test.YtdpmglimjmecgaaGmX
import Derived.OpenShut
set_option linter.unusedVariables false
set_option linter.unusedSimpArgs false
namespace Go.Gm
open Go.RowKit
/- How a statement's call begins: the rows of cells that came in are told of, read only. -/

def roObj (cs : List AV) : AObj := .cells ⟨cs, 0, 0, true⟩
def initH (L : List (List AV × Option Loc)) : Heap := L.map fun p => roObj p.1
def initR (L : List (List AV × Option Loc)) : Ren := ⟨fun o g => if g = 0 then (L[o]?).bind (·.2) else none, fun _ => none⟩

/-- A row that came in; one that isn't told of has no place. -/
def EntOk (W : World) (φ : Ren) (p : List AV × Option Loc) : Prop := ∀ l, p.2 = some l → ∃ C e fr, W.heap[l.b]? = some (.cells C e fr) ∧ C.size = l.N ∧ l.n = p.1.length ∧ CellsAt φ p.1 l C

theorem initS {W : World} {L : List (List AV × Option Loc)} (hL : ∀ p ∈ L, EntOk W (initR L) p) :
    S W.heap.size W (initR L) (initH L) W := by
  have got : ∀ o g l, (initR L).c o g = some l → g = 0 ∧ ∃ cs, L[o]? = some (cs, some l) := fun o g l h => by
    simp only [initR] at h
    split at h
    · rename_i hg
      cases hq : L[o]? with
      | none => rw [hq] at h; cases h
      | some p => rw [hq] at h; exact ⟨hg, p.1, by rw [← (show p.2 = some l from h)]⟩
    · cases h
  have ro : ∀ o g l, (initR L).c o g = some l → isRo (initH L) o = true := fun o g l h => by
    obtain ⟨_, cs, hq⟩ := got o g l h
    simp [isRo, initH, hq, roObj]
  refine ⟨⟨fun o g l h => ?_, fun o b h => (by cases h), fun o g l o' g' l' h h' _ => .inr ⟨ro o g l h, ro o' g' l' h'⟩, fun o b o' b' h => (by cases h)⟩, Below.refl _ _, Nat.le_refl _⟩
  obtain ⟨hg, cs, hq⟩ := got o g l h
  subst hg
  obtain ⟨C, e, fr, h1, h2, h3, h4⟩ := hL _ (List.mem_of_getElem? hq) l rfl
  exact ⟨⟨cs, 0, 0, true⟩, by simp [initH, hq, roObj], Nat.le_refl _, Nat.le_refl _, ⟨C, e, fr, h1, h2, fun q => (by cases q), fun _ => h4⟩, fun _ => h3⟩

theorem entry {P : Program} {T : Tab} (hv : Valid P T) {W : World} {L : List (List AV × Option Loc)} (hL : ∀ p ∈ L, EntOk W (initR L) p)
    {f : FuncId} {args : List AV} {args' : List Value} (ha : VRs (initR L) args args') {Q : AV → Heap → Prop} (ht : Tot T f args (initH L) Q) (hq : ∀ v h, Q v h → v = .bool true) :
    Calls P f args'.toArray W fun e w' => e = .returned (.bool true) ∧ Below W.heap.size W w' := by
  obtain ⟨v, h', h1, N, hN⟩ := ht
  have hv1 := hq v h' h1
  subst hv1
  obtain ⟨_, h2⟩ := fnSim (B := W.heap.size) (w0 := W) hv N f args (initH L) _ _ (hN N (Nat.le_refl N))
  refine (h2 _ W args' ha (initS hL)).mono ?_
  rintro e w' ⟨ψ, v', rfl, k1, k2, k3⟩
  cases k1
  exact ⟨rfl, k2.below⟩

/-- A slice of whole numbers that came in. -/
theorem intsArg {W : World} {a : Addr} {len cap : Nat} {zs : List Int} (hl : len ≤ cap) (hm : cap ≤ maxLen) (hz : zs.length = cap) (hc : ∀ i, i < zs.length → W.cell? (a.add i) = some (.int .i64 (zs.getD i 0))) (o : Nat) :
    ∃ (p : List AV × Option Loc) (x : AV), (∀ φ, EntOk W φ p) ∧ ∀ L : List (List AV × Option Loc), L[o]? = some p → VR (initR L) x (.slice (some a) len cap) ∧ Sl (initH L) 1 x ((zs.take len).map fun n => [I n]) := by
  by_cases h0 : 0 < zs.length
  · obtain ⟨b, off, rfl, hcell⟩ := Go.ints_at hc h0
    have h1 := hcell 0 h0
    obtain ⟨C, e, fr, hb, hC⟩ : ∃ C e fr, W.heap[b]? = some (.cells C e fr) ∧ ∀ j, j < zs.length → C[off + j]? = some (.int .i64 (zs.getD j 0)) := by
      simp only [World.cell?] at h1
      cases hh : W.heap[b]? with
      | none => rw [hh] at h1; cases h1
      | some ob =>
        cases ob with
        | cells C e fr =>
          refine ⟨C, e, fr, rfl, fun j hj => ?_⟩
          have := hcell j hj
          simpa [World.cell?, hh] using this
        | _ => rw [hh] at h1; cases h1
    have hN : off + cap ≤ C.size := by
      have := (Array.getElem?_eq_some_iff.1 (hC (zs.length - 1) (by omega))).1
      omega
    refine ⟨(zs.map I, some ⟨b, off, C.size, cap⟩), .sl o 0 len 1 (some cap) 0, fun φ l hl' => ?_, fun L hL => ⟨?_, ?_⟩⟩
    · injection hl' with hl'
      subst hl'
      refine ⟨C, e, fr, hb, rfl, by simp [hz], by simp [hz], hN, fun i hi => ?_⟩
      refine ⟨I (zs.getD i 0), _, ?_, hC i (by simpa [hz] using hi), .int _ _, rfl⟩
      simp only at hi
      simp [List.getD_eq_getElem?_getD, hz, hi]
    · refine VR.sl (l := ⟨b, off, C.size, cap⟩) ?_ (by simp; exact hl) hl hm (by simp; exact hN) (fun c q => by injection q)
      simp [initR, hL]
    · refine .inr ⟨o, 0, some cap, 0, ⟨zs.map I, 0, 0, true⟩, ?_, ?_, Nat.le_refl _, ?_, ?_⟩
      · simp [hz, Nat.min_eq_left hl]
      · simp [initH, hL, roObj]
      · simp only [List.drop_zero, List.length_map, Nat.mul_one]
        rw [List.length_take, hz, Nat.min_eq_left hl, ← List.map_take]
        generalize zs.take len = ys
        induction ys with
        | nil => rfl
        | cons y ys ih => simp [ih]
      · intro x hx
        simp only [List.mem_map] at hx
        obtain ⟨n, _, rfl⟩ := hx
        rfl
  · have hz0 : zs = [] := List.eq_nil_of_length_eq_zero (by omega)
    subst hz0
    simp only [List.length_nil] at hz
    subst hz
    obtain rfl : len = 0 := by omega
    refine ⟨([], none), .sl o 0 0 1 (some 0) 0, fun φ l q => (by cases q), fun L hL => ⟨.sl0 (fun q => by cases q) (fun c q => by injection q with q; exact q.symm), ?_⟩⟩
    exact .inr ⟨o, 0, some 0, 0, ⟨[], 0, 0, true⟩, rfl, by simp [initH, hL, roObj], Nat.le_refl _, rfl, fun x hx => by simp at hx⟩
/-- A slice of whole numbers that came in, nil or not. -/
theorem rowArg {W : World} {a : Option Addr} {len cap : Nat} {zs : List Int}
    (w : (a = none ∧ len = 0 ∧ cap = 0 ∧ zs = []) ∨ ∃ x, a = some x ∧ len ≤ cap ∧ cap ≤ maxLen ∧ zs.length = cap ∧ (∀ i, i < zs.length → W.cell? (x.add i) = some (.int .i64 (zs.getD i 0))) ∧ ∀ n ∈ zs, (Lit.int .i64 n).wf = true) (o : Nat) :
    ∃ (p : List AV × Option Loc) (x : AV), (∀ φ, EntOk W φ p) ∧ ∀ L : List (List AV × Option Loc), L[o]? = some p → VR (initR L) x (.slice a len cap) ∧ Sl (initH L) 1 x ((zs.take len).map fun n => [I n]) := by
  rcases w with ⟨rfl, rfl, rfl, rfl⟩ | ⟨x, rfl, h1, h2, h3, h4, _⟩
  · exact ⟨([], none), .nils, fun φ l q => (by cases q), fun L hL => ⟨.nils, .inl ⟨rfl, rfl⟩⟩⟩
  · exact intsArg h1 h2 h3 h4 o
end Go.Gm
