/- A part of the proof (GmDj): an abstract machine, what it does, and what the functions of the program come to on it. -/
import Derived.Test.YtidaobchfmnjpaaGmP4
set_option linter.unusedVariables false
set_option linter.unusedSimpArgs false
namespace Go.Gm
/- Least costs, found one by one. Plain Lean. -/

/-- Where a spot leads: to which one, by which edge, at what cost. -/
abbrev Hop := Nat × Nat × Int
/-- A walk from a spot of the beginning: its edges, its cost. -/
inductive Wk (A : Nat → List Hop) (st : Nat → Prop) : Nat → List Nat → Int → Prop
  | nil {x : Nat} : st x → Wk A st x [] 0
  | snoc {x y e : Nat} {l : List Nat} {c w : Int} : Wk A st x l c → (y, e, w) ∈ A x → Wk A st y (l ++ [e]) (c + w)
/-- The least cost of a spot. -/
def Lst (A : Nat → List Hop) (st : Nat → Prop) (x : Nat) (c : Int) : Prop := (∃ l, Wk A st x l c) ∧ ∀ l c', Wk A st x l c' → c ≤ c'
theorem Lst.uniq {A : Nat → List Hop} {st : Nat → Prop} {x : Nat} {c d : Int} (a : Lst A st x c) (b : Lst A st x d) : c = d := by
  obtain ⟨⟨l, h1⟩, h2⟩ := a
  obtain ⟨⟨l', h3⟩, h4⟩ := b
  have := h2 _ _ h3
  have := h4 _ _ h1
  omega
structure GOk (n : Nat) (W : Int) (A : Nat → List Hop) : Prop where
  w0 : 0 ≤ W
  hop : ∀ x, x < n → ∀ y e w, (y, e, w) ∈ A x → y < n ∧ 0 ≤ w ∧ w ≤ W
section
variable {n : Nat} {W : Int} {A : Nat → List Hop} {st : Nat → Prop}
theorem Wk.range (g : GOk n W A) (hs : ∀ x, st x → x < n) {x : Nat} {l : List Nat} {c : Int} (h : Wk A st x l c) : x < n ∧ 0 ≤ c := by
  induction h with
  | nil h => exact ⟨hs _ h, Int.le_refl _⟩
  | snoc _ k ih => have := g.hop _ ih.1 _ _ _ k; omega

/-- A search: what is found (c), what waits (m), by which edge (e), from where (f), in which order (r), how many are found (k); of 'id' the hops 'todo' are still to be gone. -/
structure DI (n : Nat) (W : Int) (A : Nat → List Hop) (st : Nat → Prop) (id : Nat) (todo : List Hop) (c : Nat → Int) (m : Nat → Option Int) (e f : Nat → Int) (r : Nat → Nat) (k : Nat) : Prop where
  fin : ∀ x, x < n → 0 ≤ c x → Lst A st x (c x)
  neg : ∀ x, x < n → ¬ 0 ≤ c x → c x = -1
  que : ∀ x, x < n → ∀ v, m x = some v → c x = -1 ∧ 0 ≤ v ∧ ∃ l, Wk A st x l v
  rel : ∀ x, x < n → 0 ≤ c x → ∀ y e w, (y, e, w) ∈ A x → (x = id ∧ (y, e, w) ∈ todo) ∨ 0 ≤ c y ∨ ∃ v, m y = some v ∧ v ≤ c x + w
  sta : ∀ x, x < n → st x → 0 ≤ c x ∨ m x = some 0
  ord : ∀ x y, x < n → y < n → 0 ≤ c x → ∀ v, m y = some v → c x ≤ v
  par : ∀ y, y < n → ∀ v, (0 ≤ c y ∧ c y = v ∨ m y = some v) → (f y = -1 ∧ st y ∧ v = 0) ∨ ∃ x w, x < n ∧ f y = (x : Int) ∧ 0 ≤ c x ∧ 0 ≤ e y ∧ (y, (e y).toNat, w) ∈ A x ∧ v = c x + w ∧ (0 ≤ c y → r x < r y)
  rk : ∀ x, x < n → 0 ≤ c x → r x < k
  bnd : ∀ x, x < n → ∀ v, (0 ≤ c x ∧ c x = v ∨ m x = some v) → v ≤ k * W
  mx : ∀ x, x < n → 0 ≤ c x → c x ≤ c id
/-- Of any walk a spot that waits costs no more, where its end is not found. -/
theorem DI.front {c : Nat → Int} {m : Nat → Option Int} {e f : Nat → Int} {r : Nat → Nat} {k id : Nat} (g : GOk n W A) (hs : ∀ x, st x → x < n) (d : DI n W A st id [] c m e f r k) {y : Nat} {l : List Nat} {v : Int} (h : Wk A st y l v) : (0 ≤ c y ∧ c y ≤ v) ∨ ∃ z u, z < n ∧ m z = some u ∧ u ≤ v := by
  induction h with
  | @nil x h =>
    have hx := hs _ h
    rcases d.sta x hx h with h1 | h1
    · left
      have := (d.fin x hx h1).2 [] 0 (.nil h)
      exact ⟨h1, this⟩
    · exact .inr ⟨x, 0, hx, h1, Int.le_refl _⟩
  | @snoc x y e l v w h1 h2 ih =>
    have hx := (Wk.range g hs h1).1
    have hh := g.hop x hx _ _ _ h2
    rcases ih with ⟨i1, i2⟩ | ⟨z, u, i1, i2, i3⟩
    · rcases d.rel x hx i1 _ _ _ h2 with ⟨_, q⟩ | q | ⟨u, q1, q2⟩
      · simp at q
      · left
        exact ⟨q, (d.fin y hh.1 q).2 _ _ (.snoc h1 h2)⟩
      · exact .inr ⟨y, u, hh.1, q1, by omega⟩
    · exact .inr ⟨z, u, i1, i2, by omega⟩
/-- Nothing waits: all is found. -/
theorem DI.all {c : Nat → Int} {m : Nat → Option Int} {e f : Nat → Int} {r : Nat → Nat} {k id : Nat} (g : GOk n W A) (hs : ∀ x, st x → x < n) (d : DI n W A st id [] c m e f r k) (hm : ∀ x, x < n → m x = none) {y : Nat} {l : List Nat} {v : Int} (h : Wk A st y l v) : 0 ≤ c y ∧ c y ≤ v := by
  rcases d.front g hs h with h1 | ⟨z, u, h1, h2, _⟩
  · exact h1
  · rw [hm z h1] at h2; cases h2
/-- The least that waits is found. -/
theorem DI.pop {c : Nat → Int} {m : Nat → Option Int} {e f : Nat → Int} {r : Nat → Nat} {k id0 : Nat} (g : GOk n W A) (hs : ∀ x, st x → x < n) (d : DI n W A st id0 [] c m e f r k) {id : Nat} {key : Int} (hid : id < n) (hm : m id = some key) (hmin : ∀ z, z < n → ∀ u, m z = some u → key ≤ u) :
    DI n W A st id (A id) (fun x => if x = id then key else c x) (fun x => if x = id then none else m x) e f (fun x => if x = id then k else r x) (k + 1) := by
  obtain ⟨q1, q2, q3⟩ := d.que id hid key hm
  have hW := g.w0
  have hkW : (k : Int) * W ≤ ((k + 1 : Nat) : Int) * W := by
    rw [Int.natCast_add, Int.add_mul]; omega
  have least : ∀ l v, Wk A st id l v → key ≤ v := by
    intro l v h
    rcases d.front g hs h with h1 | ⟨z, u, h1, h2, h3⟩
    · omega
    · have := hmin z h1 u h2; omega
  refine ⟨fun x hx h => ?_, fun x hx h => ?_, fun x hx v h => ?_, fun x hx h y e' w h2 => ?_, fun x hx h => ?_, fun x y hx hy h v h2 => ?_, fun y hy v h => ?_, fun x hx h => ?_, fun x hx v h => ?_, fun x hx h => ?_⟩
  · try simp only at h ⊢
    by_cases q : x = id
    · subst q; rw [if_pos rfl] at h ⊢; exact ⟨q3, least⟩
    · rw [if_neg q] at h ⊢; exact d.fin x hx h
  · try simp only at h ⊢
    by_cases q : x = id
    · subst q; rw [if_pos rfl] at h; exact absurd q2 h
    · rw [if_neg q] at h ⊢; exact d.neg x hx h
  · try simp only at h ⊢
    by_cases q : x = id
    · rw [if_pos q] at h; cases h
    · rw [if_neg q] at h ⊢; exact d.que x hx v h
  · try simp only at h ⊢
    by_cases q : x = id
    · subst q; exact .inl ⟨rfl, h2⟩
    · rw [if_neg q] at h ⊢
      rcases d.rel x hx h _ _ _ h2 with ⟨_, z⟩ | z | ⟨v, z1, z2⟩
      · simp at z
      · right; left
        by_cases q' : y = id
        · rw [if_pos q']; exact q2
        · rw [if_neg q']; exact z
      · right
        by_cases q' : y = id
        · left; rw [if_pos q']; exact q2
        · right; exact ⟨v, by rw [if_neg q']; exact z1, z2⟩
  · try simp only
    by_cases q : x = id
    · left; rw [if_pos q]; exact q2
    · rw [if_neg q, if_neg q]; exact d.sta x hx h
  · try simp only at h h2 ⊢
    by_cases q' : y = id
    · rw [if_pos q'] at h2; cases h2
    · rw [if_neg q'] at h2
      by_cases q : x = id
      · rw [if_pos q]; exact hmin y hy v h2
      · rw [if_neg q] at h ⊢; exact d.ord x y hx hy h v h2
  · try simp only at h ⊢
    have h' : 0 ≤ c y ∧ c y = v ∨ m y = some v := by
      by_cases q : y = id
      · subst q
        rw [if_pos rfl, if_pos rfl] at h
        rcases h with h | h
        · exact .inr (by rw [hm, h.2])
        · cases h
      · rw [if_neg q, if_neg q] at h; exact h
    rcases d.par y hy v h' with z | ⟨x, w, z1, z2, z3, z4, z5, z6, z7⟩
    · exact .inl z
    · refine .inr ⟨x, w, z1, z2, ?_, z4, z5, ?_, fun _ => ?_⟩
      · by_cases q : x = id
        · rw [if_pos q]; exact q2
        · rw [if_neg q]; exact z3
      · by_cases q : x = id
        · subst q; omega
        · rw [if_neg q]; exact z6
      · have hxi : x ≠ id := fun q => by subst q; omega
        rw [if_neg hxi]
        by_cases q : y = id
        · rw [if_pos q]; exact d.rk x z1 z3
        · rw [if_neg q]
          refine z7 ?_
          rw [if_neg q, if_neg q] at h
          rcases h with h | h
          · exact h.1
          · have h0 : 0 ≤ c y ∨ ¬ 0 ≤ c y := by omega
            rcases h0 with h0 | h0
            · exact h0
            · rename_i hc
              simp only [if_neg q] at hc
              exact hc
  · try simp only at h ⊢
    by_cases q : x = id
    · rw [if_pos q]; omega
    · rw [if_neg q] at h ⊢; have := d.rk x hx h; omega
  · try simp only at h
    have h' : 0 ≤ c x ∧ c x = v ∨ m x = some v := by
      by_cases q : x = id
      · subst q
        rw [if_pos rfl, if_pos rfl] at h
        rcases h with h | h
        · exact .inr (by rw [hm, h.2])
        · cases h
      · rw [if_neg q, if_neg q] at h; exact h
    have := d.bnd x hx v h'
    omega
  · rw [if_pos rfl]
    by_cases q : x = id
    · rw [if_pos q]; omega
    · rw [if_neg q] at h ⊢; exact d.ord x id hx hid h key hm
/-- A hop: its end is found already, or waits at no more, or is put. -/
theorem DI.skip {c : Nat → Int} {m : Nat → Option Int} {e f : Nat → Int} {r : Nat → Nat} {k id y ed : Nat} {w : Int} {todo : List Hop} (d : DI n W A st id ((y, ed, w) :: todo) c m e f r k) (h : 0 ≤ c y ∨ ∃ v, m y = some v ∧ v ≤ c id + w) : DI n W A st id todo c m e f r k := by
  refine ⟨d.fin, d.neg, d.que, fun x hx h1 y' e' w' h2 => ?_, d.sta, d.ord, d.par, d.rk, d.bnd, d.mx⟩
  rcases d.rel x hx h1 _ _ _ h2 with ⟨rfl, z⟩ | z
  · rcases List.mem_cons.1 z with z | z
    · injection z with z1 z2
      injection z2 with z2 z3
      subst z1 z2 z3
      exact .inr h
    · exact .inl ⟨rfl, z⟩
  · exact .inr z
theorem DI.put {c : Nat → Int} {m : Nat → Option Int} {e f : Nat → Int} {r : Nat → Nat} {k id y ed : Nat} {w : Int} {todo : List Hop} (g : GOk n W A) (d : DI n W A st id ((y, ed, w) :: todo) c m e f r (k + 1)) (hid : id < n) (hc : 0 ≤ c id) (hA : (y, ed, w) ∈ A id) (hy : c y < 0) (hm : ∀ v, m y = some v → c id + w < v) (hk : c id ≤ k * W) :
    DI n W A st id todo c (fun x => if x = y then some (c id + w) else m x) (fun x => if x = y then (ed : Int) else e x) (fun x => if x = y then (id : Int) else f x) r (k + 1) := by
  have hh := g.hop id hid _ _ _ hA
  have hyn := d.neg y hh.1 (by omega)
  obtain ⟨⟨l, hl⟩, _⟩ := d.fin id hid hc
  refine ⟨d.fin, d.neg, fun x hx v h => ?_, fun x hx h1 y' e' w' h2 => ?_, fun x hx h => ?_, fun x z hx hz h v h2 => ?_, fun z hz v h => ?_, d.rk, fun x hx v h => ?_, d.mx⟩
  · try simp only at h
    by_cases q : x = y
    · subst q
      rw [if_pos rfl] at h
      injection h with h
      subst h
      exact ⟨hyn, by omega, _, .snoc hl hA⟩
    · rw [if_neg q] at h; exact d.que x hx v h
  · try simp only
    have key : ∀ z, (0 ≤ c z ∨ ∃ v, m z = some v ∧ v ≤ c x + w') → (0 ≤ c z ∨ ∃ v, (if z = y then some (c id + w) else m z) = some v ∧ v ≤ c x + w') := by
      rintro z (q | ⟨v, q1, q2⟩)
      · exact .inl q
      · by_cases qz : z = y
        · subst qz
          right
          exact ⟨c id + w, by rw [if_pos rfl], by have := hm v q1; omega⟩
        · exact .inr ⟨v, by rw [if_neg qz]; exact q1, q2⟩
    rcases d.rel x hx h1 _ _ _ h2 with ⟨rfl, z⟩ | z
    · rcases List.mem_cons.1 z with z | z
      · injection z with z1 z2
        injection z2 with z2 z3
        subst z1 z2 z3
        exact .inr (.inr ⟨c x + w', by rw [if_pos rfl], Int.le_refl _⟩)
      · exact .inl ⟨rfl, z⟩
    · exact .inr (key _ z)
  · try simp only
    rcases d.sta x hx h with q | q
    · exact .inl q
    · by_cases qz : x = y
      · subst qz
        have := hm 0 q
        omega
      · right; rw [if_neg qz]; exact q
  · try simp only at h2
    by_cases q : z = y
    · subst q
      rw [if_pos rfl] at h2
      injection h2 with h2
      subst h2
      have := d.mx x hx h; omega
    · rw [if_neg q] at h2; exact d.ord x z hx hz h v h2
  · try simp only at h ⊢
    by_cases q : z = y
    · subst q
      rw [if_pos rfl] at h
      right
      have hv : v = c id + w := by
        rcases h with h | h
        · omega
        · injection h with h; exact h.symm
      refine ⟨id, w, hid, by rw [if_pos rfl], hc, by rw [if_pos rfl]; omega, by rw [if_pos rfl]; simpa using hA, hv, fun h => by omega⟩
    · rw [if_neg q] at h
      rw [if_neg q, if_neg q]
      exact d.par z hz v h
  · try simp only at h
    by_cases q : x = y
    · subst q
      rw [if_pos rfl] at h
      have hv : v = c id + w := by
        rcases h with h | h
        · omega
        · injection h with h; exact h.symm
      rw [Int.natCast_add, Int.add_mul]
      omega
    · rw [if_neg q] at h; exact d.bnd x hx v h
end
end Go.Gm
