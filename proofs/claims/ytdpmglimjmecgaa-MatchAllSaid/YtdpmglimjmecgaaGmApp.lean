/- A part of the proof: GmApp: an abstract machine, what it does, and what the functions of the program come to on it. -/
import Derived.Test.YtdpmglimjmecgaaGmMem
import Derived.Laws.AppendOwn
set_option linter.unusedVariables false
set_option linter.unusedSimpArgs false
namespace Go.Gm
open Go.RowKit

section
variable {B : Nat} {w0 : World} {φ : Ren} {h : Heap} {w : World}
theorem S.drew (hs : S B w0 φ h w) : S B w0 φ h w.drew :=
  ⟨⟨fun o g l hl => by obtain ⟨c, a, b⟩ := hs.wr.cell o g l hl; exact ⟨c, a, b.move rfl⟩, hs.wr.map, hs.wr.sep, hs.wr.msep⟩, hs.below.drew, hs.base⟩

theorem S.gen_none (hs : S B w0 φ h w) {o : Nat} {c : CObj} (ho : h[o]? = some (.cells c)) : φ.c o (c.gen + 1) = none := by
  cases hc : φ.c o (c.gen + 1) with
  | none => rfl
  | some l =>
    obtain ⟨c2, k2, k3⟩ := hs.wr.cell _ _ _ hc
    rw [ho] at k2
    injection k2 with k2
    injection k2 with k2
    subst k2
    have := k3.gen
    omega
theorem S.gen_le (hs : S B w0 φ h w) {o g : Nat} {l : Loc} {c : CObj} (hl : φ.c o g = some l) (ho : h[o]? = some (.cells c)) : g ≤ c.gen ∧ CellOk φ w B c g l := by
  obtain ⟨c2, k2, k3⟩ := hs.wr.cell _ _ _ hl
  rw [ho] at k2
  injection k2 with k2
  injection k2 with k2
  subst k2
  exact ⟨k3.gen, k3⟩

/-- A new object, laid at once. -/
theorem S.make (hs : S B w0 φ h w) {cs : List AV} {vs rest : List Value} (hv : VRs φ cs vs) (h1 : cs.all AV.one = true) (e : TypeId) :
    ∃ ψ, S B w0 ψ (mkObj h cs) (w.alloc (.cells (vs ++ rest).toArray e)) ∧ Kept φ h ψ (mkObj h cs) ∧ ψ.c h.length 0 = some ⟨w.heap.size, 0, (vs ++ rest).length, cs.length⟩ := by
  have hun := hs.wr.unm_of_len (o := h.length) (Nat.le_refl _)
  have hp := hs.push (.cells ⟨cs, 0, 0, false⟩)
  refine ⟨_, hp.lay (o := h.length) (cs := cs) (by simp) hun.1 hv h1 e (rest := rest), ⟨Ren.setC_le (hun.1 0), by simp [mkObj], fun o' ho' hc hm => ⟨fun g' => ?_, hm, List.getElem?_append_left ho'⟩⟩, by simp [Ren.setC]⟩
  simp only [Ren.setC]
  rw [if_neg (by omega)]
  exact hc g'

/-- A row grows into a new block. -/
theorem S.regrow (hs : S B w0 φ h w) {o : Nat} {c : CObj} (ho : h[o]? = some (.cells c)) (hro : c.ro = false) {k : Nat} {ns : List AV} {us rest : List Value} (hk : k ≤ c.cells.length)
    (hv : VRs φ (c.cells.take k ++ ns) us) (h1 : (c.cells.take k ++ ns).all AV.one = true) (e : TypeId) (hwg : c.wg ≤ c.gen) (hm : ∃ l, φ.c o c.gen = some l) :
    ∃ ψ, S B w0 ψ (h.set o (.cells { c with cells := c.cells.take k ++ ns, gen := c.gen + 1, wg := if k = c.cells.length then c.wg else c.gen + 1 })) (w.alloc (.cells (us ++ rest).toArray e)) ∧
      Kept φ h ψ (h.set o (.cells { c with cells := c.cells.take k ++ ns, gen := c.gen + 1, wg := if k = c.cells.length then c.wg else c.gen + 1 })) ∧
      ψ.c o (c.gen + 1) = some ⟨w.heap.size, 0, (us ++ rest).length, (c.cells.take k ++ ns).length⟩ := by
  have hol : o < h.length := (List.getElem?_eq_some_iff.1 ho).1
  have hnone := hs.gen_none ho
  have hle : φ.le (φ.setC o (c.gen + 1) ⟨w.heap.size, 0, (us ++ rest).length, (c.cells.take k ++ ns).length⟩) := Ren.setC_le hnone
  have heapSet : ∀ o', o' ≠ o → (h.set o (.cells { c with cells := c.cells.take k ++ ns, gen := c.gen + 1, wg := if k = c.cells.length then c.wg else c.gen + 1 }))[o']? = h[o']? := fun o' hne => by rw [List.getElem?_set_ne (Ne.symm hne)]
  have heapO : (h.set o (.cells { c with cells := c.cells.take k ++ ns, gen := c.gen + 1, wg := if k = c.cells.length then c.wg else c.gen + 1 }))[o]? = some (.cells { c with cells := c.cells.take k ++ ns, gen := c.gen + 1, wg := if k = c.cells.length then c.wg else c.gen + 1 }) := by rw [List.getElem?_set_self hol]
  have hwg' : (if k = c.cells.length then c.wg else c.gen + 1) ≤ c.gen + 1 := by split <;> omega
  have new : ∀ o' g' l', φ.c o' g' = some l' → l'.b < w.heap.size := fun o' g' l' hl' => by
    obtain ⟨c, _, h3⟩ := hs.wr.cell o' g' l' hl'
    exact h3.lt
  refine ⟨φ.setC o (c.gen + 1) ⟨w.heap.size, 0, (us ++ rest).length, (c.cells.take k ++ ns).length⟩, ⟨⟨fun o' g' l' hl' => ?_, fun o' b' hb' => ?_, ?_, hs.wr.msep⟩, hs.below.alloc hs.base _, by simp; have := hs.base; omega⟩, ⟨hle, by simp, fun o' ho' hc hm' => ⟨fun g' => ?_, hm', ?_⟩⟩, by simp [Ren.setC]⟩
  · simp only [Ren.setC] at hl'
    split at hl'
    · rename_i hcc
      obtain ⟨rfl, rfl⟩ := hcc
      injection hl' with hl'
      subst hl'
      refine ⟨_, heapO, ⟨Nat.le_refl _, hwg', ⟨_, e, (0, 0), alloc_heap_new w _, by simp, fun _ => ⟨rfl, hs.base⟩, fun _ => ⟨Nat.le_refl _, by simp [← hv.length], fun i hi => ?_⟩⟩, fun _ => rfl⟩⟩
      simp only at hi ⊢
      obtain ⟨v, hv', hr⟩ := hv.get (i := i) (x := (c.cells.take k ++ ns)[i]'hi) (List.getElem?_eq_getElem hi)
      refine ⟨_, v, List.getElem?_eq_getElem hi, ?_, hr.mono hle, List.all_eq_true.1 h1 _ (List.getElem_mem hi)⟩
      have : i < us.length := by rw [← hv.length]; exact hi
      simp only [Nat.zero_add, List.getElem?_toArray]
      rw [List.getElem?_append_left this]
      exact hv'
    · by_cases hoo : o' = o
      · subst hoo
        obtain ⟨hg, hcell⟩ := hs.gen_le hl' ho
        refine ⟨_, heapO, ⟨by simp only; omega, hwg', ?_, fun hgg => by simp only at hgg; omega⟩⟩
        obtain ⟨C, e2, fr, a, b, c1, d⟩ := hcell.blk
        refine ⟨C, e2, fr, (alloc_heap_old w _ _ hcell.lt).trans a, b, c1, fun hw => ?_⟩
        simp only at hw ⊢
        split at hw
        · rename_i hkl
          obtain ⟨p1, p2, p3⟩ := d hw
          refine ⟨by simp; omega, p2, fun i hi => ?_⟩
          obtain ⟨x, v, q1, q2, q3, q4⟩ := p3 i hi
          exact ⟨x, v, by rw [List.getElem?_append_left (by simp; omega), List.getElem?_take, if_pos (by omega)]; exact q1, q2, q3.mono hle, q4⟩
        · omega
      · obtain ⟨c2, h2, h3⟩ := hs.wr.cell o' g' l' hl'
        exact ⟨c2, (heapSet _ hoo).trans h2, (h3.move (alloc_heap_old w _ _ h3.lt)).mono hle⟩
  · obtain ⟨ks, es, h2, h3, es', clk, h4, h5⟩ := hs.wr.map o' b' hb'
    have hne : o' ≠ o := by rintro rfl; rw [ho] at h2; cases h2
    exact ⟨ks, es, (heapSet _ hne).trans h2, h3, es', clk, (alloc_heap_old w _ _ (heap_lt h4)).trans h4, h5.mono hle⟩
  · intro o1 g1 l1 o2 g2 l2 e1 e2 hbb
    have ro1 : ∀ o', isRo (h.set o (.cells { c with cells := c.cells.take k ++ ns, gen := c.gen + 1, wg := if k = c.cells.length then c.wg else c.gen + 1 })) o' = isRo h o' := fun o' => by
      by_cases hoo : o' = o
      · subst hoo; simp [isRo, heapO, ho]
      · simp [isRo, heapSet _ hoo]
    rw [ro1, ro1]
    simp only [Ren.setC] at e1 e2
    split at e1
    · rename_i c1
      injection e1 with e1
      subst e1
      split at e2
      · rename_i c2
        injection e2 with e2
        subst e2
        exact .inl ⟨c1.1.trans c2.1.symm, rfl⟩
      · have := new _ _ _ e2
        simp only at hbb
        omega
    · split at e2
      · injection e2 with e2
        subst e2
        have := new _ _ _ e1
        simp only at hbb
        omega
      · exact hs.wr.sep _ _ _ _ _ _ e1 e2 hbb
  · have hne : o' ≠ o := by
      rintro rfl
      obtain ⟨l, hl⟩ := hm
      rw [hc] at hl; cases hl
    simp only [Ren.setC]
    rw [if_neg (fun q => hne q.1)]
    exact hc g'
  · have hne : o' ≠ o := by
      rintro rfl
      obtain ⟨l, hl⟩ := hm
      rw [hc] at hl; cases hl
    exact heapSet _ hne

/-- A row grows within its block. -/
theorem S.grow (hs : S B w0 φ h w) {o : Nat} {c : CObj} (ho : h[o]? = some (.cells c)) (hro : c.ro = false) {l : Loc} (hl : φ.c o c.gen = some l) {k : Nat} {ns : List AV} {us : List Value} (hk : k ≤ c.cells.length)
    (hv : VRs φ ns us) (h1 : ns.all AV.one = true) {C : Array Value} {e : TypeId} (hb : w.heap[l.b]? = some (.cells C e (0, 0))) (hfit : l.d + k + us.length ≤ C.size) :
    ∃ ψ, S B w0 ψ (h.set o (.cells { c with cells := c.cells.take k ++ ns, gen := c.gen + 1, wg := if k = c.cells.length then c.wg else c.gen + 1 })) (w.setRow l.b (C.toList.take (l.d + k) ++ us ++ C.toList.drop (l.d + k + us.length)).toArray) ∧
      Kept φ h ψ (h.set o (.cells { c with cells := c.cells.take k ++ ns, gen := c.gen + 1, wg := if k = c.cells.length then c.wg else c.gen + 1 })) ∧
      ψ.c o (c.gen + 1) = some ⟨l.b, l.d, l.N, (c.cells.take k ++ ns).length⟩ := by
  have hnone := hs.gen_none ho
  have hle : φ.le (φ.setC o (c.gen + 1) ⟨l.b, l.d, l.N, (c.cells.take k ++ ns).length⟩) := Ren.setC_le hnone
  obtain ⟨_, hcell⟩ := hs.gen_le hl ho
  have hwg := hcell.wg
  obtain ⟨C0, e0, fr0, a0, b0, c0, d0⟩ := hcell.blk
  rw [hb] at a0
  injection a0 with a0
  injection a0 with aC ae afr
  subst aC
  have hcells := d0 hwg
  have hln := hcell.last rfl
  have hus := hv.length
  have hwg' : (if k = c.cells.length then c.wg else c.gen + 1) ≤ c.gen + 1 := by split <;> omega
  have hsz : (C.toList.take (l.d + k) ++ us ++ C.toList.drop (l.d + k + us.length)).toArray.size = C.size := by
    simp only [List.size_toArray, List.length_append, List.length_take, List.length_drop, Array.length_toList]
    omega
  have hCs : ∀ i, (C.toList.take (l.d + k) ++ us ++ C.toList.drop (l.d + k + us.length)).toArray[i]? = if l.d + k ≤ i ∧ i < l.d + k + us.length then us[i - (l.d + k)]? else C[i]? := by
    intro i
    simp only [List.getElem?_toArray, List.append_assoc]
    by_cases h1 : i < l.d + k
    · rw [List.getElem?_append_left (by simp; omega), if_neg (by omega), List.getElem?_take, if_pos h1, Array.getElem?_toList]
    · rw [List.getElem?_append_right (by simp; omega)]
      simp only [List.length_take, Array.length_toList, Nat.min_eq_left (show l.d + k ≤ C.size by omega)]
      by_cases h2 : i < l.d + k + us.length
      · rw [if_pos (by omega), List.getElem?_append_left (by omega)]
      · rw [if_neg (by omega), List.getElem?_append_right (by omega), List.getElem?_drop]
        rw [show l.d + k + us.length + (i - (l.d + k) - us.length) = i by omega, Array.getElem?_toList]
  have hlen : (c.cells.take k ++ ns).length = k + us.length := by simp [hus]; omega
  refine ⟨φ.setC o (c.gen + 1) ⟨l.b, l.d, l.N, (c.cells.take k ++ ns).length⟩, hs.turn (c := c) (c' := { c with cells := c.cells.take k ++ ns, gen := c.gen + 1, wg := if k = c.cells.length then c.wg else c.gen + 1 }) hl ho hro hb hsz hro hwg' hle rfl (fun o' g' l' k' => ?_) (fun g' l' k' => ?_) (fun g' l' k' hg' => ?_) (fun g' l' k' hb' hd' hw' => ?_) (fun g' l' k' hb' hw' => ?_), ⟨hle, by simp, fun o' ho' hc hm' => ⟨fun g' => ?_, hm', ?_⟩⟩, by simp [Ren.setC]⟩
  · simp only [Ren.setC] at k'
    split at k'
    · rename_i hcc
      injection k' with k'
      subst k'
      exact .inr ⟨hcc.1, rfl, rfl, rfl⟩
    · exact .inl k'
  · simp only [Ren.setC] at k'
    split at k'
    · rename_i hcc
      show g' ≤ c.gen + 1
      omega
    · have := (hs.gen_le k' ho).1
      show g' ≤ c.gen + 1
      omega
  · have hg2 : g' = c.gen + 1 := hg'
    simp only [Ren.setC] at k'
    split at k'
    · injection k' with k'
      subst k'
      rfl
    · have := (hs.gen_le k' ho).1
      omega
  · have hw2 : (if k = c.cells.length then c.wg else c.gen + 1) ≤ g' := hw'
    show CellsAt _ (c.cells.take k ++ ns) l' _
    have old : ∀ i, i < k → i < l.n → ∃ x v, (c.cells.take k ++ ns)[i]? = some x ∧ (C.toList.take (l.d + k) ++ us ++ C.toList.drop (l.d + k + us.length)).toArray[l.d + i]? = some v ∧ VR (φ.setC o (c.gen + 1) ⟨l.b, l.d, l.N, (c.cells.take k ++ ns).length⟩) x v ∧ x.one = true := by
      intro i hik hi
      obtain ⟨x, v, q1, q2, q3, q4⟩ := hcells.2.2 i hi
      refine ⟨x, v, ?_, ?_, q3.mono hle, q4⟩
      · rw [List.getElem?_append_left (by simp; omega), List.getElem?_take, if_pos hik]; exact q1
      · rw [hCs, if_neg (by omega)]; exact q2
    simp only [Ren.setC] at k'
    split at k'
    · injection k' with k'
      subst k'
      refine ⟨Nat.le_refl _, by simp only [hlen]; omega, fun i hi => ?_⟩
      simp only [hlen] at hi
      simp only
      by_cases hik : i < k
      · exact old i hik (by omega)
      · have hin : i - k < ns.length := by omega
        obtain ⟨u, hu, hr⟩ := hv.get (i := i - k) (x := ns[i - k]'hin) (List.getElem?_eq_getElem hin)
        refine ⟨ns[i - k]'hin, u, ?_, ?_, hr.mono hle, List.all_eq_true.1 h1 _ (List.getElem_mem hin)⟩
        · rw [List.getElem?_append_right (by simp; omega)]
          simp only [List.length_take, Nat.min_eq_left hk]
          exact List.getElem?_eq_getElem hin
        · rw [hCs, if_pos (by omega), show l.d + i - (l.d + k) = i - k by omega]
          exact hu
    · obtain ⟨hgg, hcell2⟩ := hs.gen_le k' ho
      split at hw2
      · rename_i hkl
        obtain ⟨C2, e2, fr2, m1, m2, m3, m4⟩ := hcell2.blk
        obtain ⟨p1, p2, p3⟩ := m4 hw2
        refine ⟨by rw [hlen]; omega, p2, fun i hi => ?_⟩
        rw [hd']
        exact old i (by omega) (by omega)
      · omega
  · have hw2 : (if k = c.cells.length then c.wg else c.gen + 1) ≤ g' := hw'
    obtain ⟨hgg, hcell2⟩ := hs.gen_le k' ho
    split at hw2
    · rename_i hkl
      refine ⟨hw2, fun i hi => ?_⟩
      obtain ⟨C2, e2, fr2, m1, m2, m3, m4⟩ := hcell2.blk
      obtain ⟨p1, p2, p3⟩ := m4 hw2
      show (c.cells.take k ++ ns)[i]? = c.cells[i]?
      rw [List.getElem?_append_left (by simp; omega), List.getElem?_take, if_pos (by omega)]
    · omega
  · have hne : o' ≠ o := by rintro rfl; rw [hc] at hl; cases hl
    simp only [Ren.setC]
    rw [if_neg (fun q => hne q.1)]
    exact hc g'
  · have hne : o' ≠ o := by rintro rfl; rw [hc] at hl; cases hl
    rw [List.getElem?_set_ne (Ne.symm hne)]
end
end Go.Gm
