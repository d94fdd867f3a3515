/- A part of the proof: GmMem: an abstract machine, what it does, and what the functions of the program come to on it. -/
import Derived.Test.YtdpmglimjmecgaaGmRel
import Derived.Laws.Rows
import Derived.Laws.CopyOwn
set_option linter.unusedVariables false
set_option linter.unusedSimpArgs false
namespace Go.Gm
open Go.RowKit

theorem add_at (b d j : Nat) : (⟨b, d, none⟩ : Addr).add j = ⟨b, d + j, none⟩ := by unfold Addr.add; split <;> simp_all

section
variable {B : Nat} {w0 : World} {φ : Ren} {h : Heap} {w : World}

/-- What stands at a place of a row that is told of. -/
theorem S.cellAt (hs : S B w0 φ h w) {o g : Nat} {l : Loc} (hl : φ.c o g = some l) {c : CObj} (ho : h[o]? = some (.cells c)) (hw : c.wg ≤ g) {i : Nat} (hi : i < l.n) :
    ∃ x v, c.cells[i]? = some x ∧ w.cell? ⟨l.b, l.d + i, none⟩ = some v ∧ VR φ x v ∧ x.one = true := by
  obtain ⟨c', ho', hc⟩ := hs.wr.cell o g l hl
  rw [ho] at ho'
  injection ho' with ho'
  injection ho' with ho'
  subst ho'
  obtain ⟨C, e, fr, a, b, _, d⟩ := hc.blk
  obtain ⟨x, v, k1, k2, k3, k4⟩ := (d hw).2.2 i hi
  exact ⟨x, v, k1, (cell_of_row w l.b _ C e fr a).trans k2, k3, k4⟩

/-- A run of cells of a row. -/
theorem S.cellsAt (hs : S B w0 φ h w) {o g : Nat} {l : Loc} (hl : φ.c o g = some l) {off n : Nat} (hn : off + n ≤ l.n) {cs : List AV} (hr : rdc h o off n g = some cs) :
    ∃ vs : List Value, vs.length = n ∧ VRs φ cs vs ∧ cs.all AV.one = true ∧ cs.length = n ∧ ∀ j v, vs[j]? = some v → w.cell? ((⟨l.b, l.d + off, none⟩ : Addr).add j) = some v := by
  obtain ⟨c, ho, hc⟩ := hs.wr.cell o g l hl
  unfold rdc at hr
  rw [ho] at hr
  simp only at hr
  split at hr
  · rename_i hw
    injection hr with hr
    have hlen : l.n ≤ c.cells.length := by
      obtain ⟨C, e, fr, _, _, _, d⟩ := hc.blk
      exact (d hw).1
    have hcl : cs.length = n := by rw [← hr]; simp; omega
    have get : ∀ j, j < n → ∃ x v, cs[j]? = some x ∧ w.cell? ⟨l.b, l.d + (off + j), none⟩ = some v ∧ VR φ x v ∧ x.one = true := by
      intro j hj
      obtain ⟨x, v, k1, k2, k3, k4⟩ := hs.cellAt hl ho hw (i := off + j) (by omega)
      refine ⟨x, v, ?_, k2, k3, k4⟩
      rw [← hr, List.getElem?_take, if_pos hj, List.getElem?_drop]
      exact k1
    refine ⟨(List.range n).map fun j => (w.cell? ⟨l.b, l.d + (off + j), none⟩).getD undef, by simp, VRs.of_get (by simp [hcl]) (fun i x v hx hv => ?_), ?_, hcl, fun j v hv => ?_⟩
    · have hi : i < n := by rw [← hcl]; exact (List.getElem?_eq_some_iff.1 hx).1
      obtain ⟨x', v', k1, k2, k3, _⟩ := get i hi
      rw [k1] at hx
      injection hx with hx
      subst hx
      simp only [List.getElem?_map, List.getElem?_range hi, Option.map_some, k2, Option.getD_some, Option.some.injEq] at hv
      subst hv
      exact k3
    · refine List.all_eq_true.2 (fun x hx => ?_)
      obtain ⟨i, hi⟩ := List.getElem?_of_mem hx
      have hin : i < n := by rw [← hcl]; exact (List.getElem?_eq_some_iff.1 hi).1
      obtain ⟨x', v', k1, _, _, k4⟩ := get i hin
      rw [k1] at hi
      injection hi with hi
      rw [← hi]
      exact k4
    · have hj : j < n := by
        have := (List.getElem?_eq_some_iff.1 hv).1
        simpa using this
      obtain ⟨x', v', k1, k2, _, _⟩ := get j hj
      simp only [List.getElem?_map, List.getElem?_range hj, Option.map_some, k2, Option.getD_some, Option.some.injEq] at hv
      subst hv
      rw [add_at, Nat.add_assoc]
      exact k2
  · cases hr

/-- One cell read through a pointer. -/
theorem S.ld1 (hs : S B w0 φ h w) {a x : AV} {p : Value} (hp : VR φ a p) (hx : ld1 h a = some x) : ∃ ad v, p = .pointer (some ad) ∧ w.cell? ad = some v ∧ VR φ x v ∧ x.one = true := by
  cases hp with
  | @ptr o off hi g l hl hn =>
    simp only [Gm.ld1] at hx
    obtain ⟨c, ho, hc⟩ := hs.wr.cell o g l hl
    rw [ho] at hx
    simp only at hx
    split at hx
    · rename_i hw
      obtain ⟨x', v, k1, k2, k3, k4⟩ := hs.cellAt hl ho hw.1 (i := off) (by omega)
      rw [hx] at k1
      injection k1 with k1
      subst k1
      exact ⟨_, v, rfl, k2, k3, k4⟩
    · cases hx
  | _ => simp [Gm.ld1] at hx

theorem S.ldN (hs : S B w0 φ h w) {n : Nat} {a x : AV} {p : Value} (hp : VR φ a p) (hx : ldN n h a = some x) :
    ∃ ad cs vs, p = .pointer (some ad) ∧ x = .agg cs ∧ vs.length = n ∧ VRs φ cs vs ∧ ∀ (j : Nat) v, vs[j]? = some v → w.cell? (ad.add j) = some v := by
  cases hp with
  | @ptr o off hi g l hl hn =>
    simp only [Gm.ldN] at hx
    split at hx
    · rename_i hh
      cases hr : rdc h o off n g with
      | none => rw [hr] at hx; cases hx
      | some cs =>
        rw [hr] at hx
        injection hx with hx
        obtain ⟨vs, k1, k2, _, _, k5⟩ := hs.cellsAt hl (by omega) hr
        exact ⟨_, cs, vs, rfl, hx.symm, k1, k2, k5⟩
    · cases hx
  | _ => simp [Gm.ldN] at hx

/-- A row that is told of is turned: one block gets other cells. -/
theorem S.turn (hs : S B w0 φ h w) {o : Nat} {l : Loc} {c : CObj} (hl : φ.c o c.gen = some l) (ho : h[o]? = some (.cells c)) (hro : c.ro = false)
    {C : Array Value} {e : TypeId} (hb : w.heap[l.b]? = some (.cells C e (0, 0))) {c' : CObj} {C' : Array Value} (hsz : C'.size = C.size) (hro' : c'.ro = false) (hwg : c'.wg ≤ c'.gen)
    {ψ : Ren} (hle : φ.le ψ) (hm : ψ.m = φ.m) (hnew : ∀ o' g' l', ψ.c o' g' = some l' → φ.c o' g' = some l' ∨ (o' = o ∧ l'.b = l.b ∧ l'.d = l.d ∧ l'.N = l.N))
    (hgen : ∀ g' l', ψ.c o g' = some l' → g' ≤ c'.gen) (hlast : ∀ g' l', ψ.c o g' = some l' → g' = c'.gen → l'.n = c'.cells.length)
    (hcells : ∀ g' l', ψ.c o g' = some l' → l'.b = l.b → l'.d = l.d → c'.wg ≤ g' → CellsAt ψ c'.cells l' C')
    (hother : ∀ g' l', φ.c o g' = some l' → l'.b ≠ l.b → c'.wg ≤ g' → c.wg ≤ g' ∧ ∀ i, i < l'.n → c'.cells[i]? = c.cells[i]?) :
    S B w0 ψ (h.set o (.cells c')) (w.setRow l.b C') := by
  have hol : o < h.length := (List.getElem?_eq_some_iff.1 ho).1
  obtain ⟨c0, ho0, hc0⟩ := hs.wr.cell o _ l hl
  rw [ho] at ho0
  injection ho0 with ho0
  injection ho0 with ho0
  subst ho0
  obtain ⟨C0, e0, fr0, a0, b0, c0', _⟩ := hc0.blk
  rw [hb] at a0
  injection a0 with a0
  injection a0 with aC ae afr
  subst aC
  have hBb := (c0' hro).2
  have rolf : isRo h o = false := by simp [isRo, ho, hro]
  have same : ∀ o' g' l', φ.c o' g' = some l' → l'.b = l.b → o' = o ∧ l'.d = l.d := fun o' g' l' hl' hbb => by
    rcases hs.wr.sep _ _ _ _ _ _ hl' hl hbb with k | k
    · exact ⟨k.1, k.2⟩
    · rw [rolf] at k; cases k.2
  have blk : ∀ k, k ≠ l.b → (w.setRow l.b C').heap[k]? = w.heap[k]? := fun k hk => setRow_other w l.b k C' hk
  have here := setRow_heap w l.b C C' e (0, 0) hb
  have heapSet : ∀ o', o' ≠ o → (h.set o (.cells c'))[o']? = h[o']? := fun o' hne => by rw [List.getElem?_set_ne (Ne.symm hne)]
  have heapO : (h.set o (.cells c'))[o]? = some (.cells c') := by rw [List.getElem?_set_self hol]
  refine ⟨⟨fun o' g' l' hl' => ?_, fun o' b' hb' => ?_, ?_, ?_⟩, below_setRow hs.below hBb C', by simpa using hs.base⟩
  · by_cases hoo : o' = o
    · subst hoo
      refine ⟨c', heapO, ⟨hgen _ _ hl', hwg, ?_, hlast _ _ hl'⟩⟩
      by_cases hbb : l'.b = l.b
      · rw [hbb]
        refine ⟨C', e, (0, 0), here, ?_, fun _ => ⟨rfl, hBb⟩, fun hw => ?_⟩
        · rw [hsz]
          rcases hnew _ _ _ hl' with k | k
          · obtain ⟨c2, k2, k3⟩ := hs.wr.cell _ _ _ k
            obtain ⟨C2, e2, fr2, m1, m2, _⟩ := k3.blk
            rw [hbb, hb] at m1
            injection m1 with m1
            injection m1 with m1
            rw [m1]; exact m2
          · rw [k.2.2.2]; exact b0
        · refine hcells _ _ hl' hbb ?_ hw
          rcases hnew _ _ _ hl' with k | k
          · exact (same _ _ _ k hbb).2
          · exact k.2.2.1
      · rcases hnew _ _ _ hl' with k | k
        · obtain ⟨c2, k2, k3⟩ := hs.wr.cell _ _ _ k
          rw [ho] at k2
          injection k2 with k2
          injection k2 with k2
          subst k2
          obtain ⟨C2, e2, fr2, m1, m2, m3, m4⟩ := k3.blk
          refine ⟨C2, e2, fr2, (blk _ hbb).trans m1, m2, fun _ => m3 hro, fun hw => ?_⟩
          obtain ⟨n1, n2⟩ := hother _ _ k hbb hw
          obtain ⟨p1, p2, p3⟩ := m4 n1
          refine ⟨?_, p2, fun i hi => ?_⟩
          · rcases Nat.lt_or_ge c'.cells.length l'.n with hlt | hge
            · have q := n2 c'.cells.length hlt
              rw [List.getElem?_eq_none (Nat.le_refl _)] at q
              have := List.getElem?_eq_none_iff.1 q.symm
              omega
            · exact hge
          · obtain ⟨x, v, q1, q2, q3, q4⟩ := p3 i hi
            exact ⟨x, v, (n2 i hi).trans q1, q2, q3.mono hle, q4⟩
        · exact absurd k.2.1 hbb
    · have k : φ.c o' g' = some l' := (hnew _ _ _ hl').resolve_right (fun q => hoo q.1)
      obtain ⟨c2, k2, k3⟩ := hs.wr.cell _ _ _ k
      refine ⟨c2, (heapSet _ hoo).trans k2, (k3.move (blk _ (fun hbb => hoo (same _ _ _ k hbb).1))).mono hle⟩
  · rw [hm] at hb'
    obtain ⟨ks, es, k1, k2, es', clk, k3, k4⟩ := hs.wr.map o' b' hb'
    have hne : o' ≠ o := by rintro rfl; rw [ho] at k1; cases k1
    have hbb : b' ≠ l.b := by rintro rfl; rw [hb] at k3; cases k3
    exact ⟨ks, es, (heapSet _ hne).trans k1, k2, es', clk, (blk _ hbb).trans k3, k4.mono hle⟩
  · intro o1 g1 l1 o2 g2 l2 e1 e2 hbb
    have ro1 : ∀ o', isRo (h.set o (.cells c')) o' = isRo h o' := fun o' => by
      by_cases hoo : o' = o
      · subst hoo; simp [isRo, heapO, hro', ho, hro]
      · simp [isRo, heapSet _ hoo]
    rw [ro1, ro1]
    rcases hnew _ _ _ e1 with k1 | k1
    · rcases hnew _ _ _ e2 with k2 | k2
      · exact hs.wr.sep _ _ _ _ _ _ k1 k2 hbb
      · have := same _ _ _ k1 (hbb.trans k2.2.1)
        exact .inl ⟨this.1.trans k2.1.symm, this.2.trans k2.2.2.1.symm⟩
    · rcases hnew _ _ _ e2 with k2 | k2
      · have := same _ _ _ k2 (hbb.symm.trans k1.2.1)
        exact .inl ⟨k1.1.trans this.1.symm, k1.2.2.1.trans this.2.symm⟩
      · exact .inl ⟨k1.1.trans k2.1.symm, k1.2.2.1.trans k2.2.2.1.symm⟩
  · rw [hm]; exact hs.wr.msep

theorem setAll_get : ∀ (vs : List AV) (cs : List AV) (off : Nat), off + vs.length ≤ cs.length → (setAll cs off vs).length = cs.length ∧ ∀ i, (setAll cs off vs)[i]? = if off ≤ i ∧ i < off + vs.length then vs[i - off]? else cs[i]?
  | [], cs, off, _ => ⟨rfl, fun i => by simp only [setAll, List.length_nil, Nat.add_zero]; rw [if_neg (by omega)]⟩
  | v :: vs, cs, off, hl => by
    simp only [List.length_cons] at hl
    obtain ⟨h1, h2⟩ := setAll_get vs (cs.set off v) (off + 1) (by simp; omega)
    refine ⟨by simp only [setAll]; rw [h1]; simp, fun i => ?_⟩
    simp only [setAll]
    rw [h2]
    simp only [List.length_cons]
    by_cases h0 : i = off
    · subst h0
      rw [if_neg (by omega), if_pos (by omega), List.getElem?_set_self (by omega)]
      simp
    · by_cases h3 : off + 1 ≤ i ∧ i < off + 1 + vs.length
      · rw [if_pos h3, if_pos (by omega)]
        rw [show i - off = (i - (off + 1)) + 1 by omega, List.getElem?_cons_succ]
      · rw [if_neg h3, if_neg (by omega), List.getElem?_set_ne (Ne.symm h0)]

/-- Cells written through a pointer. -/
theorem S.wrc (hs : S B w0 φ h w) {o off hi g : Nat} {l : Loc} (hl : φ.c o g = some l) (hhi : hi ≤ l.n) {vs : List AV} {us : List Value} (hv : VRs φ vs us) {h' : Heap} (hr : wrc h o off hi g vs = some h') (P : Program) :
    ∃ w', (storeCells ⟨l.b, l.d + off, none⟩ us 0).run P w = .ok () w' ∧ S B w0 φ h' w' ∧ Kept φ h φ h' := by
  unfold Gm.wrc at hr
  obtain ⟨c, ho, hc⟩ := hs.wr.cell o g l hl
  rw [ho] at hr
  simp only at hr
  split at hr
  · rename_i hcond
    obtain ⟨hro, hg, hlen, hone⟩ := hcond
    injection hr with hr
    subst hr
    subst hg
    obtain ⟨C, e, fr, a, b, c1, d⟩ := hc.blk
    obtain ⟨rfl, hB⟩ := c1 hro
    have hcells := d hc.wg
    have hus : us.length = vs.length := hv.length.symm
    have hrun := run_storeCells_at P l.b (l.d + off) e us 0 C w a (by have := hcells.2.1; rw [b]; omega) (hv.one_of hone)
    simp only [Nat.add_zero] at hrun
    have hln := hc.last rfl
    have hlc : off + vs.length ≤ c.cells.length := by rw [← hln]; omega
    obtain ⟨q1, q2⟩ := setAll_get vs c.cells off hlc
    have hCs : ∀ i, (C.toList.take (l.d + off) ++ us ++ C.toList.drop (l.d + off + us.length)).toArray[i]? = if l.d + off ≤ i ∧ i < l.d + off + us.length then us[i - (l.d + off)]? else C[i]? := by
      intro i
      have hds : l.d + off + us.length ≤ C.size := by have := hcells.2.1; omega
      simp only [List.getElem?_toArray, List.append_assoc]
      by_cases h1 : i < l.d + off
      · rw [List.getElem?_append_left (by simp; omega), if_neg (by omega), List.getElem?_take, if_pos h1, Array.getElem?_toList]
      · rw [List.getElem?_append_right (by simp; omega)]
        simp only [List.length_take, Array.length_toList, Nat.min_eq_left (show l.d + off ≤ C.size by omega)]
        by_cases h2 : i < l.d + off + us.length
        · rw [if_pos (by omega), List.getElem?_append_left (by omega)]
        · rw [if_neg (by omega), List.getElem?_append_right (by omega), List.getElem?_drop]
          rw [show l.d + off + us.length + (i - (l.d + off) - us.length) = i by omega, Array.getElem?_toList]
    have hsz : (C.toList.take (l.d + off) ++ us ++ C.toList.drop (l.d + off + us.length)).toArray.size = C.size := by
      have := hcells.2.1
      simp only [List.size_toArray, List.length_append, List.length_take, List.length_drop, Array.length_toList]
      omega
    refine ⟨_, hrun, ?_, ⟨.refl φ, by simp, fun o' ho' hcn hmn => ⟨hcn, hmn, ?_⟩⟩⟩
    · refine hs.turn (c := c) (c' := { c with cells := setAll c.cells off vs, wg := c.gen }) hl ho hro a hsz hro (Nat.le_refl _) (.refl φ) rfl (fun _ _ _ k => .inl k) (fun g' l' k => ?_) (fun g' l' k hg' => ?_) (fun g' l' k hb' hd' hw' => ?_) (fun g' l' k hb' hw' => ?_)
      · obtain ⟨c2, k2, k3⟩ := hs.wr.cell _ _ _ k
        rw [ho] at k2
        injection k2 with k2
        injection k2 with k2
        subst k2
        exact k3.gen
      · have hg2 : g' = c.gen := hg'
        subst hg2
        rw [hl] at k
        injection k with k
        subst k
        show l.n = (setAll c.cells off vs).length
        rw [q1, hln]
      · have hw2 : c.gen ≤ g' := hw'
        have hgg : g' = c.gen := by
          obtain ⟨c2, k2, k3⟩ := hs.wr.cell _ _ _ k
          rw [ho] at k2
          injection k2 with k2
          injection k2 with k2
          subst k2
          have := k3.gen
          omega
        subst hgg
        rw [hl] at k
        injection k with k
        subst k
        refine ⟨by rw [q1]; exact hcells.1, hcells.2.1, fun i hi' => ?_⟩
        obtain ⟨x, v, k1, k2, k3, k4⟩ := hcells.2.2 i hi'
        rw [hCs, q2]
        by_cases hin : off ≤ i ∧ i < off + vs.length
        · have hx : vs[i - off]? = some (vs[i - off]'(by omega)) := List.getElem?_eq_getElem (by omega)
          obtain ⟨u, hu, hr2⟩ := hv.get hx
          refine ⟨_, u, by rw [if_pos hin]; exact hx, ?_, hr2, List.all_eq_true.1 hone _ (List.getElem_mem _)⟩
          rw [if_pos (by omega), show l.d + i - (l.d + off) = i - off by omega]
          exact hu
        · refine ⟨x, v, by rw [if_neg hin]; exact k1, ?_, k3, k4⟩
          rw [if_neg (by omega)]
          exact k2
      · have hw2 : c.gen ≤ g' := hw'
        exfalso
        obtain ⟨c2, k2, k3⟩ := hs.wr.cell _ _ _ k
        rw [ho] at k2
        injection k2 with k2
        injection k2 with k2
        subst k2
        have := k3.gen
        have hgg : g' = c.gen := by omega
        subst hgg
        rw [hl] at k
        injection k with k
        exact hb' (by rw [k])
    · have hne : o' ≠ o := by rintro rfl; rw [hcn] at hl; cases hl
      rw [List.getElem?_set_ne (Ne.symm hne)]
  · cases hr
end
end Go.Gm
