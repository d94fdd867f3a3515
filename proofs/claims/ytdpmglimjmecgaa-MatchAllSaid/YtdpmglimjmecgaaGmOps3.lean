/- A part of the proof: GmOps3: an abstract machine, what it does, and what the functions of the program come to on it. -/
import Derived.Test.YtdpmglimjmecgaaGmOps2
set_option linter.unusedVariables false
set_option linter.unusedSimpArgs false
namespace Go.Gm
open Go.RowKit

section
variable {B : Nat} {w0 : World} {φ : Ren} {h : Heap} {w : World} {P : Program} {fr : Frm} {a : Act}

theorem S.newVar (hs : S B w0 φ h w) {cs : List AV} {vs : List Value} (hv : VRs φ cs vs) {v : AV} {h' : Heap} (hn : newVar h cs = some (v, h')) (e : TypeId) :
    ∃ ψ v', VR ψ v v' ∧ S B w0 ψ h' (w.alloc (.cells vs.toArray e)) ∧ Kept φ h ψ h' ∧ v' = .pointer (some ⟨w.heap.size, 0, none⟩) := by
  unfold Gm.newVar at hn
  split at hn
  · rename_i h1
    injection hn with hn
    injection hn with hn1 hn2
    subst hn1 hn2
    obtain ⟨ψ, p1, p2, p3⟩ := hs.make (cs := cs) (vs := vs) (rest := []) hv h1 e
    rw [List.append_nil] at p1
    exact ⟨ψ, _, VR.ptr p3 (Nat.le_refl _), p1, p2, by simp⟩
  · cases hn

theorem foldSet (off : Nat) : ∀ (l : List Value) (k : Nat) (arr : Array Value), off + k + l.length ≤ arr.size →
    ((l.zipIdx k).foldl (fun cs (p : Value × Nat) => cs.setIfInBounds (off + p.2) p.1) arr).size = arr.size ∧
    ∀ i, ((l.zipIdx k).foldl (fun cs (p : Value × Nat) => cs.setIfInBounds (off + p.2) p.1) arr)[i]? = if off + k ≤ i ∧ i < off + k + l.length then l[i - (off + k)]? else arr[i]?
  | [], k, arr, _ => ⟨rfl, fun i => by rw [if_neg (by simp)]; rfl⟩
  | v :: l, k, arr, hl => by
    simp only [List.length_cons] at hl
    obtain ⟨h1, h2⟩ := foldSet off l (k + 1) (arr.setIfInBounds (off + k) v) (by simp; omega)
    refine ⟨by simp only [List.zipIdx_cons, List.foldl_cons]; rw [h1]; simp, fun i => ?_⟩
    simp only [List.zipIdx_cons, List.foldl_cons]
    rw [h2]
    simp only [List.length_cons]
    by_cases h0 : i = off + k
    · subst h0
      rw [if_neg (by omega), if_pos (by omega), Array.getElem?_setIfInBounds_self_of_lt (by omega)]
      simp
    · by_cases h3 : off + (k + 1) ≤ i ∧ i < off + (k + 1) + l.length
      · rw [if_pos h3, if_pos (by omega), show i - (off + k) = (i - (off + (k + 1))) + 1 by omega, List.getElem?_cons_succ]
      · rw [if_neg h3, if_neg (by omega), Array.getElem?_setIfInBounds_ne (Ne.symm h0)]
/-- Cells filled part by part. -/
theorem fill_ok {place : Nat → Option (Nat × Nat)} : ∀ {qs : List (Nat × Nat × AV)} {ps : List (Nat × Value)} {cs : List AV} {us : List Value} {out : List AV}, VRs φ cs us → ps.length = qs.length →
    (∀ (i : Nat) p q, ps[i]? = some p → qs[i]? = some q → place p.1 = some (q.1, q.2.1) ∧ VR φ q.2.2 p.2) → fillP cs qs = some out →
    ∃ us', Instr.fill place us.toArray ps = some us'.toArray ∧ VRs φ out us' ∧ out.length = cs.length
  | [], ps, cs, us, out, hv, hl, _, hf => by
    have : ps = [] := List.eq_nil_of_length_eq_zero (by simpa using hl)
    subst this
    injection hf with hf
    subst hf
    exact ⟨us, rfl, hv, rfl⟩
  | q :: qs, [], cs, us, out, hv, hl, _, hf => by simp at hl
  | (off, size, x) :: qs, (i, u) :: ps, cs, us, out, hv, hl, hp, hf => by
    obtain ⟨hpl, hr⟩ := hp 0 _ _ rfl rfl
    simp only at hpl hr
    simp only [fillP] at hf
    split at hf
    · rename_i hc
      have hu : x ≠ .undef := by rintro rfl; have := hc.2.2; simp [AV.cells, AV.one] at this
      have hcu := hr.cells_of hu
      have hus := hv.length
      have hcl := hcu.length
      simp only [Array.length_toList] at hcl
      obtain ⟨k1, k2⟩ := setAll_get x.cells cs off (by omega)
      have hset : VRs φ (setAll cs off x.cells) (us.take off ++ u.cells.toList ++ us.drop (off + u.cells.size)) := by
        refine VRs.of_get (by simp [k1]; omega) (fun j y v hy hv' => ?_)
        rw [k2] at hy
        rw [List.append_assoc] at hv'
        by_cases h1 : j < off
        · rw [if_neg (by omega)] at hy
          rw [List.getElem?_append_left (by simp; omega), List.getElem?_take, if_pos h1] at hv'
          obtain ⟨v2, e2, r2⟩ := hv.get hy
          rw [hv'] at e2; injection e2 with e2; subst e2; exact r2
        · rw [List.getElem?_append_right (by simp; omega)] at hv'
          simp only [List.length_take, Nat.min_eq_left (show off ≤ us.length by omega)] at hv'
          by_cases h2 : j < off + x.cells.length
          · rw [if_pos (by omega)] at hy
            rw [List.getElem?_append_left (by simp; omega)] at hv'
            obtain ⟨v2, e2, r2⟩ := hcu.get hy
            rw [hv'] at e2; injection e2 with e2; subst e2; exact r2
          · rw [if_neg (by omega)] at hy
            rw [List.getElem?_append_right (by simp; omega), List.getElem?_drop] at hv'
            simp only [Array.length_toList] at hv'
            rw [show off + u.cells.size + (j - off - u.cells.size) = j by omega] at hv'
            obtain ⟨v2, e2, r2⟩ := hv.get hy
            rw [hv'] at e2; injection e2 with e2; subst e2; exact r2
      obtain ⟨us', e1, e2, e3⟩ := fill_ok (place := place) hset (by simpa using hl) (fun j p q h1 h2 => hp (j + 1) p q (by simpa using h1) (by simpa using h2)) hf
      refine ⟨us', ?_, e2, by rw [e3, k1]⟩
      have h2 := foldSet off u.cells.toList 0 us.toArray (by simp; omega)
      have e0 : (u.cells.zipIdx.foldl (fun cs (c, j) => cs.setIfInBounds (off + j) c) us.toArray) = (us.take off ++ u.cells.toList ++ us.drop (off + u.cells.size)).toArray := by
        rw [← Array.foldl_toList, Array.toList_zipIdx]
        apply Array.ext_getElem?
        intro j
        rw [show (fun (cs : Array Value) (x : Value × Nat) => match x with | (c, j) => cs.setIfInBounds (off + j) c) = (fun cs p => cs.setIfInBounds (off + p.2) p.1) from rfl, h2.2 j]
        simp only [Nat.add_zero, Array.length_toList, List.getElem?_toArray]
        rw [List.append_assoc]
        by_cases h1 : j < off
        · rw [if_neg (by omega), List.getElem?_append_left (by simp; omega), List.getElem?_take, if_pos h1]
        · rw [List.getElem?_append_right (by simp; omega)]
          simp only [List.length_take, Nat.min_eq_left (show off ≤ us.length by omega)]
          by_cases h3 : j < off + u.cells.size
          · rw [if_pos (by omega), List.getElem?_append_left (by simp; omega)]
          · rw [if_neg (by omega), List.getElem?_append_right (by simp; omega), List.getElem?_drop]
            simp only [Array.length_toList]
            rw [show off + u.cells.size + (j - off - u.cells.size) = j by omega]
      simp only [Instr.fill, hpl]
      have hnot : ((decide (u.cells.size ≠ size)) || decide (off + u.cells.size > us.toArray.size)) = false := by simp; omega
      simp only [hnot, Bool.false_eq_true, if_false]
      rw [e0]
      exact e1
    · cases hf
end
end Go.Gm
