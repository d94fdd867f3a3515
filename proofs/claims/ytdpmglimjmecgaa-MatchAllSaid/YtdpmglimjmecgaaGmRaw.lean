/- A part of the proof: GmRaw: an abstract machine, what it does, and what the functions of the program come to on it. -/
import Derived.Test.YtdpmglimjmecgaaGmEntry
import Derived.Test.YtdpmglimjmecgaaGmRw
import Derived.ChangeArms
import Derived.DataReads
set_option linter.unusedVariables false
set_option linter.unusedSimpArgs false
namespace Go.Gm
/- How a statement's call begins: rows of raw expressions that came in. -/

structure RawTy (P : Program) (T E I3 : TypeId) : Prop where
  t : P.underlying T = some (.slice E)
  e : ∃ f0 f1 f2 : Field, P.underlying E = some (.struct #[f0, f1, f2]) ∧ f0.type = I3 ∧ f0.offset = 0 ∧ f1.type = I3 ∧ f1.offset = 1 ∧ f2.type = T ∧ f2.offset = 2
  i : P.underlying I3 = some (.int .i64)
  ce : P.cellsOf E = 3
  ci : P.cellsOf I3 = 1
  ct : P.cellsOf T = 1
/-- These lie in L, from o on. -/
def Emb (F : List (List AV × Option Loc)) (o : Nat) (L : List (List AV × Option Loc)) : Prop := ∀ (i : Nat) p, F[i]? = some p → L[o + i]? = some p
theorem Emb.head {p : List AV × Option Loc} {F L : List (List AV × Option Loc)} {o : Nat} (e : Emb (p :: F) o L) : L[o]? = some p := e 0 p rfl
theorem Emb.tail {p : List AV × Option Loc} {F L : List (List AV × Option Loc)} {o : Nat} (e : Emb (p :: F) o L) : Emb F (o + 1) L := fun i q h => by
  have := e (i + 1) q (by simpa using h)
  rwa [show o + (i + 1) = o + 1 + i by omega] at this
theorem Emb.left {F G L : List (List AV × Option Loc)} {o : Nat} (e : Emb (F ++ G) o L) : Emb F o L := fun i q h => e i q (by rw [List.getElem?_append_left (List.getElem?_eq_some_iff.1 h).1]; exact h)
theorem Emb.right {F G L : List (List AV × Option Loc)} {o : Nat} (e : Emb (F ++ G) o L) : Emb G (o + F.length) L := fun i q h => by
  have := e (F.length + i) q (by rw [List.getElem?_append_right (by omega), Nat.add_sub_cancel_left]; exact h)
  rwa [show o + (F.length + i) = o + F.length + i by omega] at this

section
variable {H : Type} {enc : TypeId × Value → H} {P : Program} {T E I3 : TypeId} {W : World}
/-- What a row that came in comes to. -/
def Came (W : World) (a : Option Addr) (len cap : Nat) (o : Nat) (F : List (List AV × Option Loc)) (v : AV) (rs : List Rw) (css : List (List AV)) : Prop :=
  ∀ L, Emb F o L → (∀ p ∈ F, EntOk W (initR L) p) ∧ VR (initR L) v (.slice a len cap) ∧ Sl (initH L) 3 v css ∧ RVs (initH L) rs css
theorem RVs.snoc {h : Heap} {r : Rw} {cs : List AV} (a : RV h r cs) : ∀ {l : List Rw} {css : List (List AV)}, RVs h l css → RVs h (l ++ [r]) (css ++ [cs])
  | _, _, .nil => .cons a .nil
  | _, _, .cons x y => .cons x (RVs.snoc a y)
theorem rawsArg (ty : RawTy P T E I3) : ∀ (fuel : Nat) (cs : List Value) (x : DataW H × List MemPlace), DataW.trod enc P W 0 (fun _ => true) true fuel T cs = some x →
    ∃ (a : Option Addr) (len cap : Nat), cs = [.slice a len cap] ∧ ∀ o, ∃ F v rs css, Came W a len cap o F v rs css := by
  intro fuel
  induction fuel using Nat.strongRecOn with
  | _ fuel ih =>
  intro cs x hx
  rcases DataW.trod_slice ty.t hx with ⟨rfl, _⟩ | ⟨a, len, cap, elems, rest, n, rfl, rfl, _, _, hl, hm, hel, hE, hR, _⟩
  · exact ⟨none, 0, 0, rfl, fun o => ⟨[], .nils, [], [], fun L _ => ⟨fun p hp => by simp at hp, .nils, .inl ⟨rfl, rfl⟩, .nil⟩⟩⟩
  · refine ⟨some a, len, cap, rfl, fun o => ?_⟩
    obtain ⟨hrl, hR⟩ := hR rfl
    by_cases hc : cap = 0
    · subst hc
      obtain rfl : len = 0 := by omega
      refine ⟨[([], none)], .sl o 0 0 3 (some 0) 0, [], [], fun L hL => ⟨fun p hp l q => ?_, .sl0 (fun q => by cases q) (fun c q => by injection q with q; exact q.symm), ?_, .nil⟩⟩
      · rw [List.mem_singleton.1 hp] at q; cases q
      · exact .inr ⟨o, 0, some 0, 0, ⟨[], 0, 0, true⟩, rfl, by simp [initH, hL.head, roObj], Nat.le_refl _, rfl, fun x hx => by simp at hx⟩
    · -- each element's three cells
      have each : ∀ i, i < cap → ∃ c3 y, W.cells? 0 (a.add (i * 3)) 3 = some c3 ∧ DataW.trod enc P W 0 (fun _ => true) true n E c3 = some y := by
        intro i hi
        by_cases hil : i < len
        · have h1 := hE i hil
          rw [List.getElem?_eq_getElem (by omega), Option.bind_eq_some_iff, ty.ce] at h1
          obtain ⟨c3, h2, h3⟩ := h1
          exact ⟨c3, _, h2, h3⟩
        · have h1 := hR (i - len) (by omega)
          rw [List.getElem?_eq_getElem (by omega), Option.bind_eq_some_iff, ty.ce, show len + (i - len) = i by omega] at h1
          obtain ⟨c3, h2, h3⟩ := h1
          exact ⟨c3, _, h2, h3⟩
      obtain ⟨b, off, spot⟩ := a
      have hspot : spot = none := by
        obtain ⟨c3, y, h1, _⟩ := each 0 (by omega)
        obtain ⟨_, h2, h3⟩ := World.cells?_some h1
        have h4 := h3 0 (by omega)
        rw [List.getElem?_eq_getElem (by omega)] at h4
        have := World.cell?_spot h4
        simpa [Addr.add] using this
      subst hspot
      -- the cells, one by one
      have cell : ∀ i, i < cap → ∃ (k m : Int) (s : Value) (y : DataW H × List MemPlace) (n' : Nat), n' < n + 1 ∧ W.cell? ⟨b, off + i * 3, none⟩ = some (.int .i64 k) ∧ W.cell? ⟨b, off + i * 3 + 1, none⟩ = some (.int .i64 m) ∧ W.cell? ⟨b, off + i * 3 + 2, none⟩ = some s ∧
          DataW.trod enc P W 0 (fun _ => true) true n' T [s] = some y := by
        intro i hi
        obtain ⟨c3, y, h1, h2⟩ := each i hi
        obtain ⟨_, h3, h4⟩ := World.cells?_some h1
        obtain ⟨f0, f1, f2, e0, t0, o0, t1, o1, t2, o2⟩ := ty.e
        obtain ⟨xs, n', rfl, _, _, hxl, hf⟩ := DataW.trod_struct e0 h2
        match c3, h3 with
        | [v0, v1, v2], _ =>
        have g0 := hf 0 f0 rfl
        have g1 := hf 1 f1 rfl
        have g2 := hf 2 f2 rfl
        simp only [List.size_toArray, List.length_cons, List.length_nil] at hxl
        rw [t0, o0, ty.ci] at g0
        rw [t1, o1, ty.ci] at g1
        rw [t2, o2, ty.ct] at g2
        simp only [List.drop_zero, List.drop_succ_cons, List.take_succ_cons, List.take_zero] at g0 g1 g2
        rw [List.getElem?_eq_getElem (by omega)] at g0 g1 g2
        obtain ⟨k, q0, _, _⟩ := DataW.trod_int ty.i g0
        obtain ⟨m, q1, _, _⟩ := DataW.trod_int ty.i g1
        have c0 := h4 0 (by omega)
        have c1 := h4 1 (by omega)
        have c2 := h4 2 (by omega)
        rw [Go.WideShapes.add_plain, Go.WideShapes.add_plain] at c0 c1 c2
        simp only [List.cons.injEq, and_true] at q0 q1
        subst q0 q1
        exact ⟨k, m, v2, _, n', by omega, by simpa using c0, by simpa using c1, by simpa using c2, g2⟩
      obtain ⟨C, e, fr, hb⟩ : ∃ C e fr, W.heap[b]? = some (.cells C e fr) := by
        obtain ⟨k, m, s, y, n', _, h1, _⟩ := cell 0 (by omega)
        simp only [World.cell?] at h1
        cases hh : W.heap[b]? with
        | none => rw [hh] at h1; cases h1
        | some ob =>
          cases ob with
          | cells C e fr => exact ⟨C, e, fr, rfl⟩
          | _ => rw [hh] at h1; cases h1
      have cellC : ∀ j v, W.cell? ⟨b, j, none⟩ = some v → C[j]? = some v := fun j v h => by simpa [World.cell?, hb] using h
      have hN : off + cap * 3 ≤ C.size := by
        obtain ⟨k, m, s, y, n', _, _, _, h1, _⟩ := cell (cap - 1) (by omega)
        have := (Array.getElem?_eq_some_iff.1 (cellC _ _ h1)).1
        omega
      have rec_ : ∀ m, m ≤ len → ∀ o', ∃ (F : List (List AV × Option Loc)) (rs : List Rw) (css : List (List AV)), css.length = m ∧ (∀ c ∈ css, c.length = 3) ∧
          ∀ L, Emb F o' L → (∀ p ∈ F, EntOk W (initR L) p) ∧ RVs (initH L) rs css ∧ ∀ j, j < m * 3 → ∃ x v, css.flatten[j]? = some x ∧ C[off + j]? = some v ∧ VR (initR L) x v ∧ x.one = true := by
        intro m
        induction m with
        | zero => intro _ o'; exact ⟨[], [], [], rfl, fun c hc => by simp at hc, fun L _ => ⟨fun p hp => by simp at hp, .nil, fun j hj => by omega⟩⟩
        | succ m ihm =>
          intro hml o'
          obtain ⟨F, rs, css, h1, h2, h3⟩ := ihm (by omega) o'
          obtain ⟨k, mm, s, y, n', hn', c0, c1, c2, ht⟩ := cell m (by omega)
          obtain ⟨a', len', cap', es, hin⟩ := ih n' hn' [s] y ht
          obtain ⟨G, v, rs', css', hcame⟩ := hin (o' + F.length)
          simp only [List.cons.injEq, and_true] at es
          subst es
          refine ⟨F ++ G, rs ++ [.mk k mm rs'], css ++ [[I k, I mm, v]], by simp [h1], fun c hc => ?_, fun L hL => ?_⟩
          · rcases List.mem_append.1 hc with hc | hc
            · exact h2 c hc
            · rw [List.mem_singleton.1 hc]; rfl
          · obtain ⟨k1, k2, k3⟩ := h3 L hL.left
            obtain ⟨k4, k5, k6, k7⟩ := hcame L hL.right
            have hfl := flatten_len h2
            rw [h1] at hfl
            refine ⟨fun p hp => (List.mem_append.1 hp).elim (k1 p) (k4 p), k2.snoc (.mk k6 k7), fun j hj => ?_⟩
            rw [List.flatten_append]
            by_cases hjm : j < m * 3
            · obtain ⟨x, v', q1, q2⟩ := k3 j hjm
              exact ⟨x, v', by rw [List.getElem?_append_left (by omega)]; exact q1, q2⟩
            · rw [List.getElem?_append_right (by omega), hfl]
              have hj3 : j - m * 3 = 0 ∨ j - m * 3 = 1 ∨ j - m * 3 = 2 := by omega
              rcases hj3 with hj3 | hj3 | hj3
              · rw [hj3]
                exact ⟨I k, _, rfl, by rw [show off + j = off + m * 3 by omega]; exact cellC _ _ c0, .int _ _, rfl⟩
              · rw [hj3]
                exact ⟨I mm, _, rfl, by rw [show off + j = off + m * 3 + 1 by omega]; exact cellC _ _ c1, .int _ _, rfl⟩
              · rw [hj3]
                exact ⟨v, _, rfl, by rw [show off + j = off + m * 3 + 2 by omega]; exact cellC _ _ c2, k5, k6.one⟩
      obtain ⟨F, rs, css, h1, h2, h3⟩ := rec_ len (Nat.le_refl _) (o + 1)
      have hfl := flatten_len h2
      rw [h1] at hfl
      refine ⟨(css.flatten, some ⟨b, off, C.size, len * 3⟩) :: F, .sl o 0 len 3 (some cap) 0, rs, css, fun L hL => ?_⟩
      obtain ⟨k1, k2, k3⟩ := h3 L hL.tail
      have hLo := hL.head
      refine ⟨fun p hp => ?_, ?_, ?_, k2⟩
      · rcases List.mem_cons.1 hp with rfl | hp
        · intro l hl'
          injection hl' with hl'
          subst hl'
          exact ⟨C, e, fr, hb, rfl, by simp [hfl], by simp [hfl], by simp; omega, fun i hi => k3 i hi⟩
        · exact k1 p hp
      · refine VR.sl (l := ⟨b, off, C.size, len * 3⟩) ?_ (by simp) hl hm (by simp; exact hN) (fun c q => by injection q)
        simp [initR, hLo]
      · refine .inr ⟨o, 0, some cap, 0, ⟨css.flatten, 0, 0, true⟩, by rw [h1], by simp [initH, hLo, roObj], Nat.le_refl _, ?_, h2⟩
        rw [List.drop_zero, h1]
        exact List.take_of_length_le (by rw [hfl]; exact Nat.le_refl _)
end
end Go.Gm
