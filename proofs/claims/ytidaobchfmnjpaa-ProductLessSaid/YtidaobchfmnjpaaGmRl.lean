/- A part of the proof (GmRl): an abstract machine, what it does, and what the functions of the program come to on it. -/
import Derived.Test.YtidaobchfmnjpaaGmDj
set_option linter.unusedVariables false
set_option linter.unusedSimpArgs false
namespace Go.Gm
/- Least costs, made less as long as that can be. Plain Lean. -/
def sumN (f : Nat → Int) : Nat → Int
  | 0 => 0
  | n + 1 => sumN f n + f n
theorem sumN_congr {f g : Nat → Int} : ∀ n, (∀ x, x < n → f x = g x) → sumN f n = sumN g n
  | 0, _ => rfl
  | n + 1, h => by rw [sumN, sumN, sumN_congr n fun x hx => h x (by omega), h n (by omega)]
theorem sumN_upd {f : Nat → Int} {y : Nat} {a : Int} : ∀ n, y < n → sumN (fun x => if x = y then a else f x) n = sumN f n - f y + a
  | 0, h => by omega
  | n + 1, h => by
    rw [sumN, sumN]
    by_cases q : y = n
    · subst q
      rw [if_pos rfl, sumN_congr y (g := f) fun x hx => if_neg (by omega)]
      omega
    · rw [if_neg (fun z => q z.symm), sumN_upd n (by omega)]
      omega
theorem sumN_nonneg {f : Nat → Int} : ∀ n, (∀ x, x < n → 0 ≤ f x) → 0 ≤ sumN f n
  | 0, _ => Int.le_refl _
  | n + 1, h => by
    have := sumN_nonneg n fun x hx => h x (by omega)
    have := h n (by omega)
    rw [sumN]; omega
theorem sumN_le {f : Nat → Int} : ∀ n, (∀ x, x < n → f x ≤ 1) → sumN f n ≤ n
  | 0, _ => Int.le_refl _
  | n + 1, h => by
    have := sumN_le n fun x hx => h x (by omega)
    have := h n (by omega)
    rw [sumN]; omega
def up (c : Nat → Int) (y : Nat) (v : Int) : Nat → Int := fun x => if x = y then v else c x
/-- How many are not found. -/
def un (n : Nat) (c : Nat → Int) : Int := sumN (fun x => if c x < 0 then 1 else 0) n
def mu (n : Nat) (W : Int) (c : Nat → Int) : Int := sumN (fun x => if c x < 0 then n * W + 1 else c x) n
theorem un_nonneg (n : Nat) (c : Nat → Int) : 0 ≤ un n c := sumN_nonneg n fun x _ => by split <;> omega
theorem un_le (n : Nat) (c : Nat → Int) : un n c ≤ n := sumN_le n fun x _ => by split <;> omega
theorem mu_nonneg {n : Nat} {W : Int} (hW : 0 ≤ W) (c : Nat → Int) : 0 ≤ mu n W c := by
  have : 0 ≤ (n : Int) * W := Int.mul_nonneg (by omega) hW
  exact sumN_nonneg n fun x _ => by split <;> omega
theorem un_up {n : Nat} {c : Nat → Int} {y : Nat} {v : Int} (hy : y < n) (hv : 0 ≤ v) : un n (up c y v) = un n c - if c y < 0 then 1 else 0 := by
  have : un n (up c y v) = sumN (fun x => if x = y then 0 else (fun x => if c x < 0 then (1 : Int) else 0) x) n := by
    refine sumN_congr n fun x hx => ?_
    by_cases q : x = y
    · have e : up c y v x = v := if_pos q
      simp only [e, if_pos q]
      rw [if_neg (by omega)]
    · have e : up c y v x = c x := if_neg q
      simp only [e, if_neg q]
  rw [this, sumN_upd n hy, un]
  omega
theorem mu_up {n : Nat} {W : Int} {c : Nat → Int} {y : Nat} {v : Int} (hy : y < n) (hv : 0 ≤ v) : mu n W (up c y v) = mu n W c - (if c y < 0 then n * W + 1 else c y) + v := by
  have : mu n W (up c y v) = sumN (fun x => if x = y then v else (fun x => if c x < 0 then n * W + 1 else c x) x) n := by
    refine sumN_congr n fun x hx => ?_
    by_cases q : x = y
    · have e : up c y v x = v := if_pos q
      simp only [e, if_pos q]
      rw [if_neg (by omega)]
    · have e : up c y v x = c x := if_neg q
      simp only [e, if_neg q]
  rw [this, sumN_upd n hy, mu]
/-- Costs of walks, not yet the least. -/
structure RI (n : Nat) (W : Int) (A : Nat → List Hop) (st : Nat → Prop) (c : Nat → Int) : Prop where
  wk : ∀ x, x < n → 0 ≤ c x → ∃ l, Wk A st x l (c x)
  neg : ∀ x, x < n → ¬ 0 ≤ c x → c x = -1
  sta : ∀ x, x < n → st x → c x = 0
  bnd : ∀ x, x < n → c x + un n c * W ≤ n * W
/-- Costs that are the least ones; -1: there is no way. -/
def LC (n : Nat) (A : Nat → List Hop) (st : Nat → Prop) (c : Nat → Int) : Prop := ∀ x, x < n → (0 ≤ c x ∧ Lst A st x (c x)) ∨ (c x = -1 ∧ ∀ l v, ¬ Wk A st x l v)
section
variable {n : Nat} {W : Int} {A : Nat → List Hop} {st : Nat → Prop} {c : Nat → Int}
theorem LC.uniq {d : Nat → Int} (a : LC n A st c) (b : LC n A st d) : ∀ x, x < n → c x = d x := by
  intro x hx
  rcases a x hx with ⟨a1, a2⟩ | ⟨a1, a2⟩ <;> rcases b x hx with ⟨b1, b2⟩ | ⟨b1, b2⟩
  · exact a2.uniq b2
  · obtain ⟨⟨l, h⟩, _⟩ := a2
    exact absurd h (b2 _ _)
  · obtain ⟨⟨l, h⟩, _⟩ := b2
    exact absurd h (a2 _ _)
  · omega
theorem RI.le (hW : 0 ≤ W) (r : RI n W A st c) {x : Nat} (hx : x < n) : -1 ≤ c x ∧ c x ≤ n * W := by
  have h1 := r.bnd x hx
  have h2 : 0 ≤ un n c * W := Int.mul_nonneg (un_nonneg n c) hW
  have h3 := r.neg x hx
  omega
theorem RI.relax (g : GOk n W A) (hs : ∀ x, st x → x < n) (r : RI n W A st c) {x y e : Nat} {w : Int} (hx : x < n) (h : (y, e, w) ∈ A x) (h0 : 0 ≤ c x) (hr : c y < 0 ∨ c x + w < c y) :
    RI n W A st (up c y (c x + w)) ∧ mu n W (up c y (c x + w)) < mu n W c := by
  obtain ⟨hy, w0, w1⟩ := g.hop x hx _ _ _ h
  have hW := g.w0
  have hv : 0 ≤ c x + w := by omega
  obtain ⟨l, hl⟩ := r.wk x hx h0
  have bx := r.bnd x hx
  have bu := un_nonneg n (up c y (c x + w))
  have eu := un_up (c := c) hy hv
  have bm := Int.mul_nonneg bu hW
  have key : c x + w + un n (up c y (c x + w)) * W ≤ n * W := by
    by_cases q : c y < 0
    · rw [if_pos q] at eu
      rw [eu, Int.sub_mul]
      omega
    · rw [if_neg q] at eu
      have := r.bnd y hy
      rw [eu, Int.sub_zero]
      omega
  refine ⟨⟨fun z hz hc => ?_, fun z hz hc => ?_, fun z hz hc => ?_, fun z hz => ?_⟩, ?_⟩
  · by_cases q : z = y
    · subst q
      simp only [up, if_pos rfl]
      exact ⟨_, .snoc hl h⟩
    · simp only [up, if_neg q] at hc ⊢
      exact r.wk z hz hc
  · by_cases q : z = y
    · simp only [up, if_pos q] at hc; omega
    · simp only [up, if_neg q] at hc ⊢
      exact r.neg z hz hc
  · by_cases q : z = y
    · subst q
      have := r.sta z hz hc
      omega
    · simp only [up, if_neg q]
      exact r.sta z hz hc
  · by_cases q : z = y
    · subst q
      have : up c z (c x + w) z = c x + w := if_pos rfl
      rw [this]; exact key
    · have : up c y (c x + w) z = c z := by simp only [up, if_neg q]
      rw [this]
      have h1 := r.bnd z hz
      have h2 : un n (up c y (c x + w)) * W ≤ un n c * W := Int.mul_le_mul_of_nonneg_right (by rw [eu]; split <;> omega) hW
      omega
  · rw [mu_up hy hv]
    split <;> omega
theorem RI.lst (g : GOk n W A) (hs : ∀ x, st x → x < n) (r : RI n W A st c) (hd : ∀ x, x < n → 0 ≤ c x → ∀ y e w, (y, e, w) ∈ A x → 0 ≤ c y ∧ c y ≤ c x + w) : LC n A st c := by
  have all : ∀ y l v, Wk A st y l v → 0 ≤ c y ∧ c y ≤ v := by
    intro y l v h
    induction h with
    | nil h => have := r.sta _ (hs _ h) h; omega
    | snoc h1 h2 ih => have := hd _ (Wk.range g hs h1).1 ih.1 _ _ _ h2; omega
  intro x hx
  by_cases q : 0 ≤ c x
  · exact .inl ⟨q, r.wk x hx q, fun l v h => (all x l v h).2⟩
  · exact .inr ⟨r.neg x hx q, fun l v h => q (all x l v h).1⟩
theorem DI.lc {m : Nat → Option Int} {e f : Nat → Int} {r : Nat → Nat} {k id : Nat} (g : GOk n W A) (hs : ∀ x, st x → x < n) (d : DI n W A st id [] c m e f r k) (hm : ∀ x, x < n → m x = none) : LC n A st c := by
  intro x hx
  by_cases q : 0 ≤ c x
  · exact .inl ⟨q, d.fin x hx q⟩
  · exact .inr ⟨d.neg x hx q, fun l v h => q (d.all g hs hm h).1⟩
/-- At first. -/
theorem RI.start (g : GOk n W A) {x0 : Nat} (h0 : x0 < n) (hst : ∀ x, st x ↔ x = x0) (hc : ∀ x, x < n → c x = if x = x0 then 0 else -1) : RI n W A st c := by
  have hW := g.w0
  have hu : un n c = n - 1 := by
    have : un n c = sumN (fun x => if x = x0 then 0 else (fun _ => (1 : Int)) x) n := by
      refine sumN_congr n fun x hx => ?_
      simp only [hc x hx]
      by_cases q : x = x0
      · rw [if_pos q, if_pos q, if_neg (by omega)]
      · rw [if_neg q, if_neg q, if_pos (by omega)]
    have e1 : ∀ n : Nat, sumN (fun _ => (1 : Int)) n = n := by
      intro n
      induction n with
      | zero => rfl
      | succ n ih => rw [sumN, ih]; omega
    rw [this, sumN_upd n h0, e1]
    omega
  refine ⟨fun x hx h => ?_, fun x hx h => ?_, fun x hx h => ?_, fun x hx => ?_⟩
  · rw [hc x hx] at h ⊢
    by_cases q : x = x0
    · rw [if_pos q]; exact ⟨[], .nil ((hst x).2 q)⟩
    · rw [if_neg q] at h; omega
  · rw [hc x hx] at h ⊢
    by_cases q : x = x0
    · rw [if_pos q] at h; omega
    · rw [if_neg q]
  · rw [hc x hx, if_pos ((hst x).1 h)]
  · rw [hc x hx, hu, Int.sub_mul]
    have : (1 : Int) * W = W := Int.one_mul W
    split <;> omega
end
end Go.Gm
