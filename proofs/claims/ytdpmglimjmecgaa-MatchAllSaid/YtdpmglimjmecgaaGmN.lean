/- A part of the proof: GmN: an abstract machine, what it does, and what the functions of the program come to on it. -/
import Derived.Test.YtdpmglimjmecgaaGmZ
set_option linter.unusedVariables false
set_option linter.unusedSimpArgs false
namespace Go.Gm
/- Expressions: which words. Plain Lean. -/

inductive Nd where
  | set (s : Nat) | emp | eps | join (l : List Nd) | uni (l : List Nd) | star (n : Nd) | plus (n : Nd) | opt (n : Nd) | rep (lo hi : Nat) (n : Nd)
  deriving Inhabited
namespace Nd
def kids : Nd → List Nd
  | .join l | .uni l => l
  | .star n | .plus n | .opt n | .rep _ _ n => [n]
  | .set _ | .emp | .eps => []
def kind : Nd → Int
  | .set _ => 1 | .emp => 2 | .eps => 3 | .join _ => 4 | .uni _ => 5 | .star _ => 6 | .plus _ => 7 | .opt _ => 8 | .rep .. => 9
def st : Nd → Nat
  | .set s => s
  | _ => 0
def lo : Nd → Nat
  | .rep lo _ _ => lo
  | _ => 0
def hi : Nd → Nat
  | .rep _ hi _ => hi
  | _ => 0
theorem kid_lt {c n : Nd} (h : c ∈ n.kids) : SizeOf.sizeOf c < SizeOf.sizeOf n := by
  cases n with
  | join l => have := List.sizeOf_lt_of_mem (show c ∈ l from h); simp only [Nd.join.sizeOf_spec]; omega
  | uni l => have := List.sizeOf_lt_of_mem (show c ∈ l from h); simp only [Nd.uni.sizeOf_spec]; omega
  | star n => simp only [kids, List.mem_singleton] at h; subst h; simp only [Nd.star.sizeOf_spec]; omega
  | plus n => simp only [kids, List.mem_singleton] at h; subst h; simp only [Nd.plus.sizeOf_spec]; omega
  | opt n => simp only [kids, List.mem_singleton] at h; subst h; simp only [Nd.opt.sizeOf_spec]; omega
  | rep a b n => simp only [kids, List.mem_singleton] at h; subst h; simp only [Nd.rep.sizeOf_spec]; omega
  | _ => simp [kids] at h
/-- By the parts. -/
theorem ind {p : Nd → Prop} (h : ∀ n, (∀ c ∈ n.kids, p c) → p n) (n : Nd) : p n := by
  have : ∀ (N : Nat) (n : Nd), SizeOf.sizeOf n ≤ N → p n := by
    intro N
    induction N with
    | zero => intro n hn; exact h n fun c hc => by have := kid_lt hc; omega
    | succ N ih => intro n hn; exact h n fun c hc => ih c (by have := kid_lt hc; omega)
  exact this _ n (Nat.le_refl _)
end Nd

/-! ### Ways between places -/
inductive Star (r : Nat → Nat → Prop) : Nat → Nat → Prop
  | refl (i : Nat) : Star r i i
  | tail {i m j : Nat} : Star r i m → r m j → Star r i j
def Pow (r : Nat → Nat → Prop) : Nat → Nat → Nat → Prop
  | 0, i, j => i = j
  | t + 1, i, j => ∃ m, Pow r t i m ∧ r m j
section
variable {r : Nat → Nat → Prop}
theorem Star.one {i j : Nat} (h : r i j) : Star r i j := .tail (.refl _) h
theorem Star.trans {i m j : Nat} (a : Star r i m) (b : Star r m j) : Star r i j := by
  induction b with
  | refl => exact a
  | tail _ h ih => exact .tail ih h
theorem Star.head {i m j : Nat} (a : r i m) (b : Star r m j) : Star r i j := (Star.one a).trans b
/-- What begins inside stays inside. -/
theorem Star.inv {P : Nat → Prop} (hP : ∀ i j, P i → r i j → P j) {i j : Nat} (a : Star r i j) (h : P i) : P j := by
  induction a with
  | refl => exact h
  | tail _ k ih => exact hP _ _ ih k
theorem Star.pow {i j : Nat} (a : Star r i j) : ∃ t, Pow r t i j := by
  induction a with
  | refl => exact ⟨0, rfl⟩
  | tail _ k ih => obtain ⟨t, h⟩ := ih; exact ⟨t + 1, _, h, k⟩
theorem Pow.star : ∀ {t i j : Nat}, Pow r t i j → Star r i j
  | 0, i, j, h => by cases h; exact .refl _
  | t + 1, i, j, ⟨m, h, k⟩ => .tail (Pow.star h) k
theorem Pow.add {s : Nat} {i m : Nat} (a : Pow r s i m) : ∀ {t j : Nat}, Pow r t m j → Pow r (s + t) i j
  | 0, j, h => by cases h; exact a
  | t + 1, j, ⟨p, h, k⟩ => ⟨p, Pow.add a h, k⟩
theorem Pow.split : ∀ {t s i j : Nat}, Pow r (s + t) i j → ∃ m, Pow r s i m ∧ Pow r t m j
  | 0, s, i, j, h => ⟨j, h, rfl⟩
  | t + 1, s, i, j, ⟨p, h, k⟩ => by
    obtain ⟨m, h1, h2⟩ := Pow.split (t := t) h
    exact ⟨m, h1, p, h2, k⟩
theorem Pow.one {i j : Nat} : Pow r 1 i j ↔ r i j := ⟨fun ⟨m, h, k⟩ => by cases h; exact k, fun h => ⟨i, rfl, h⟩⟩
end

/-- A word's mode at a place, among a set's. -/
def hit (w : List Int) (s i : Nat) : Prop := ∃ c, w[i]? = some c ∧ 0 ≤ c ∧ c < 5 ∧ s.testBit c.toNat = true
mutual
/-- From place i to place j a word of the expression's. -/
def R (w : List Int) : Nd → Nat → Nat → Prop
  | .set s => fun i j => hit w s i ∧ j = i + 1
  | .emp => fun _ _ => False
  | .eps => fun i j => i = j
  | .join l => RJ w l
  | .uni l => RU w l
  | .star n => Star (R w n)
  | .plus n => fun i j => ∃ m, R w n i m ∧ Star (R w n) m j
  | .opt n => fun i j => i = j ∨ R w n i j
  | .rep lo hi n => fun i j => ∃ t, lo ≤ t ∧ t ≤ hi ∧ Pow (R w n) t i j
def RJ (w : List Int) : List Nd → Nat → Nat → Prop
  | [] => fun i j => i = j
  | n :: l => fun i j => ∃ m, R w n i m ∧ RJ w l m j
def RU (w : List Int) : List Nd → Nat → Nat → Prop
  | [] => fun _ _ => False
  | n :: l => fun i j => R w n i j ∨ RU w l i j
end
section
variable {w : List Int}
theorem RU_iff : ∀ {l : List Nd} {i j : Nat}, RU w l i j ↔ ∃ n ∈ l, R w n i j
  | [], i, j => by simp [RU]
  | n :: l, i, j => by simp [RU, RU_iff (l := l)]
theorem RJ_snoc : ∀ {l : List Nd} {n : Nd} {i j : Nat}, RJ w (l ++ [n]) i j ↔ ∃ m, RJ w l i m ∧ R w n m j
  | [], n, i, j => by
    simp only [List.nil_append, RJ]
    constructor
    · rintro ⟨m, h, rfl⟩; exact ⟨i, rfl, h⟩
    · rintro ⟨m, rfl, h⟩; exact ⟨j, h, rfl⟩
  | c :: l, n, i, j => by
    simp only [List.cons_append, RJ]
    constructor
    · rintro ⟨m, h, k⟩
      obtain ⟨p, k1, k2⟩ := RJ_snoc.1 k
      exact ⟨p, ⟨m, h, k1⟩, k2⟩
    · rintro ⟨p, ⟨m, h, k1⟩, k2⟩
      exact ⟨m, h, RJ_snoc.2 ⟨p, k1, k2⟩⟩
theorem RJ_le : ∀ {l : List Nd} (hl : ∀ n ∈ l, ∀ i j, R w n i j → i ≤ j ∧ (i ≤ w.length → j ≤ w.length)) {i j : Nat}, RJ w l i j → i ≤ j ∧ (i ≤ w.length → j ≤ w.length)
  | [], _, i, j, h => by cases h; exact ⟨Nat.le_refl _, id⟩
  | n :: l, hl, i, j, ⟨m, h, k⟩ => by
    have h1 := hl n (by simp) _ _ h
    have h2 := RJ_le (fun c hc => hl c (by simp [hc])) k
    exact ⟨Nat.le_trans h1.1 h2.1, fun q => h2.2 (h1.2 q)⟩
/-- Places are within the word, and in order. -/
theorem R_le (n : Nd) : ∀ i j, R w n i j → i ≤ j ∧ (i ≤ w.length → j ≤ w.length) := by
  refine Nd.ind (p := fun n => ∀ i j, R w n i j → i ≤ j ∧ (i ≤ w.length → j ≤ w.length)) ?_ n
  intro n ih i j h
  have star : ∀ c, (∀ i j, R w c i j → i ≤ j ∧ (i ≤ w.length → j ≤ w.length)) → ∀ i j, Star (R w c) i j → i ≤ j ∧ (i ≤ w.length → j ≤ w.length) := by
    intro c hc i j hs
    induction hs with
    | refl => exact ⟨Nat.le_refl _, id⟩
    | tail _ k ih => have := hc _ _ k; exact ⟨Nat.le_trans ih.1 this.1, fun q => this.2 (ih.2 q)⟩
  cases n with
  | set s =>
    simp only [R] at h
    obtain ⟨⟨c, h1, _⟩, rfl⟩ := h
    have := (List.getElem?_eq_some_iff.1 h1).1
    exact ⟨by omega, fun _ => by omega⟩
  | emp => simp only [R] at h
  | eps => simp only [R] at h; subst h; exact ⟨Nat.le_refl _, id⟩
  | join l => simp only [R] at h; exact RJ_le (fun c hc => ih c hc) h
  | uni l =>
    simp only [R] at h
    obtain ⟨c, hc, h⟩ := RU_iff.1 h
    exact ih c hc _ _ h
  | star c => simp only [R] at h; exact star c (ih c (by simp [Nd.kids])) _ _ h
  | plus c =>
    simp only [R] at h
    obtain ⟨m, h1, h2⟩ := h
    have k1 := ih c (by simp [Nd.kids]) _ _ h1
    have k2 := star c (ih c (by simp [Nd.kids])) _ _ h2
    exact ⟨Nat.le_trans k1.1 k2.1, fun q => k2.2 (k1.2 q)⟩
  | opt c =>
    simp only [R] at h
    rcases h with rfl | h
    · exact ⟨Nat.le_refl _, id⟩
    · exact ih c (by simp [Nd.kids]) _ _ h
  | rep lo hi c =>
    simp only [R] at h
    obtain ⟨t, _, _, h⟩ := h
    exact star c (ih c (by simp [Nd.kids])) _ _ h.star
end

/-- A row of places: just those. -/
def Is (w : List Int) (bs : List Bool) (P : Nat → Prop) : Prop := bs.length = w.length + 1 ∧ ∀ j, bs.getD j false = true ↔ P j
theorem Is.cong {w : List Int} {bs : List Bool} {P Q : Nat → Prop} (a : Is w bs P) (h : ∀ j, P j ↔ Q j) : Is w bs Q := ⟨a.1, fun j => (a.2 j).trans (h j)⟩
theorem Is.le {w : List Int} {bs : List Bool} {P : Nat → Prop} (a : Is w bs P) {j : Nat} (h : P j) : j ≤ w.length := by
  have h2 := (a.2 j).2 h
  by_cases hj : j < bs.length
  · have := a.1; omega
  · rw [List.getD_eq_getElem?_getD, List.getElem?_eq_none (by omega)] at h2
    cases h2
/-- The word is in the language. -/
def In (n : Nd) (w : List Int) : Prop := R w n 0 w.length
def cntT (bs : List Bool) : Nat := (bs.filter id).length
theorem cntT_le (bs : List Bool) : cntT bs ≤ bs.length := List.length_filter_le ..
theorem cntT_set : ∀ {bs : List Bool} {i : Nat}, bs[i]? = some false → cntT (bs.set i true) = cntT bs + 1
  | [], i, h => by simp at h
  | b :: bs, 0, h => by
    simp only [List.getElem?_cons_zero, Option.some.injEq] at h
    subst h; simp [cntT]
  | b :: bs, i + 1, h => by
    have := cntT_set (bs := bs) (i := i) (by simpa using h)
    cases b <;> simp_all [cntT]
theorem Is.none {w : List Int} : Is w (List.replicate (w.length + 1) false) fun _ => False := by
  refine ⟨by simp, fun j => ?_⟩
  rw [List.getD_eq_getElem?_getD, List.getElem?_replicate]
  split <;> simp
theorem Is.set {w : List Int} {bs : List Bool} {P : Nat → Prop} (a : Is w bs P) {i : Nat} (h : i ≤ w.length) : Is w (bs.set i true) fun j => j = i ∨ P j := by
  refine ⟨by simp [a.1], fun j => ?_⟩
  have h2 := a.2 j
  rw [List.getD_eq_getElem?_getD] at h2 ⊢
  by_cases hj : j = i
  · subst hj; rw [List.getElem?_set_self (by have := a.1; omega)]; simp
  · rw [List.getElem?_set_ne (Ne.symm hj), h2]; simp [hj]
end Go.Gm
