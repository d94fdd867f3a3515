/- A part of the proof (GmN, GmWd, GmLg, GmLh, GmRw, GmRaw): an abstract machine, what it does, and what the functions of the program come to on it. -/
import Derived.ChangeArms
import Derived.DataReads
import Derived.Test.YtidaobchfmnjpaaGmP4
set_option linter.unusedVariables false
set_option linter.unusedSimpArgs false
namespace Go.Gm
/- Expressions: which words. Plain Lean. -/

inductive Nd where
  | set (s : Nat) | emp | eps | join (l : List Nd) | uni (l : List Nd) | star (n : Nd) | plus (n : Nd) | opt (n : Nd) | rep (lo hi : Nat) (n : Nd)
  deriving Inhabited
namespace Nd
def kids : Nd → List Nd
  | .join l | .uni l => l
  | .star n | .plus n | .opt n | .rep _ _ n => [n]
  | .set _ | .emp | .eps => []
def kind : Nd → Int
  | .set _ => 1 | .emp => 2 | .eps => 3 | .join _ => 4 | .uni _ => 5 | .star _ => 6 | .plus _ => 7 | .opt _ => 8 | .rep .. => 9
def st : Nd → Nat
  | .set s => s
  | _ => 0
def lo : Nd → Nat
  | .rep lo _ _ => lo
  | _ => 0
def hi : Nd → Nat
  | .rep _ hi _ => hi
  | _ => 0
theorem kid_lt {c n : Nd} (h : c ∈ n.kids) : SizeOf.sizeOf c < SizeOf.sizeOf n := by
  cases n with
  | join l => have := List.sizeOf_lt_of_mem (show c ∈ l from h); simp only [Nd.join.sizeOf_spec]; omega
  | uni l => have := List.sizeOf_lt_of_mem (show c ∈ l from h); simp only [Nd.uni.sizeOf_spec]; omega
  | star n => simp only [kids, List.mem_singleton] at h; subst h; simp only [Nd.star.sizeOf_spec]; omega
  | plus n => simp only [kids, List.mem_singleton] at h; subst h; simp only [Nd.plus.sizeOf_spec]; omega
  | opt n => simp only [kids, List.mem_singleton] at h; subst h; simp only [Nd.opt.sizeOf_spec]; omega
  | rep a b n => simp only [kids, List.mem_singleton] at h; subst h; simp only [Nd.rep.sizeOf_spec]; omega
  | _ => simp [kids] at h
/-- By the parts. -/
theorem ind {p : Nd → Prop} (h : ∀ n, (∀ c ∈ n.kids, p c) → p n) (n : Nd) : p n := by
  have : ∀ (N : Nat) (n : Nd), SizeOf.sizeOf n ≤ N → p n := by
    intro N
    induction N with
    | zero => intro n hn; exact h n fun c hc => by have := kid_lt hc; omega
    | succ N ih => intro n hn; exact h n fun c hc => ih c (by have := kid_lt hc; omega)
  exact this _ n (Nat.le_refl _)
end Nd

/-! ### Ways between places -/
inductive Star (r : Nat → Nat → Prop) : Nat → Nat → Prop
  | refl (i : Nat) : Star r i i
  | tail {i m j : Nat} : Star r i m → r m j → Star r i j
def Pow (r : Nat → Nat → Prop) : Nat → Nat → Nat → Prop
  | 0, i, j => i = j
  | t + 1, i, j => ∃ m, Pow r t i m ∧ r m j
section
variable {r : Nat → Nat → Prop}
theorem Star.one {i j : Nat} (h : r i j) : Star r i j := .tail (.refl _) h
theorem Star.trans {i m j : Nat} (a : Star r i m) (b : Star r m j) : Star r i j := by
  induction b with
  | refl => exact a
  | tail _ h ih => exact .tail ih h
theorem Star.head {i m j : Nat} (a : r i m) (b : Star r m j) : Star r i j := (Star.one a).trans b
/-- What begins inside stays inside. -/
theorem Star.inv {P : Nat → Prop} (hP : ∀ i j, P i → r i j → P j) {i j : Nat} (a : Star r i j) (h : P i) : P j := by
  induction a with
  | refl => exact h
  | tail _ k ih => exact hP _ _ ih k
theorem Star.pow {i j : Nat} (a : Star r i j) : ∃ t, Pow r t i j := by
  induction a with
  | refl => exact ⟨0, rfl⟩
  | tail _ k ih => obtain ⟨t, h⟩ := ih; exact ⟨t + 1, _, h, k⟩
theorem Pow.star : ∀ {t i j : Nat}, Pow r t i j → Star r i j
  | 0, i, j, h => by cases h; exact .refl _
  | t + 1, i, j, ⟨m, h, k⟩ => .tail (Pow.star h) k
theorem Pow.add {s : Nat} {i m : Nat} (a : Pow r s i m) : ∀ {t j : Nat}, Pow r t m j → Pow r (s + t) i j
  | 0, j, h => by cases h; exact a
  | t + 1, j, ⟨p, h, k⟩ => ⟨p, Pow.add a h, k⟩
theorem Pow.split : ∀ {t s i j : Nat}, Pow r (s + t) i j → ∃ m, Pow r s i m ∧ Pow r t m j
  | 0, s, i, j, h => ⟨j, h, rfl⟩
  | t + 1, s, i, j, ⟨p, h, k⟩ => by
    obtain ⟨m, h1, h2⟩ := Pow.split (t := t) h
    exact ⟨m, h1, p, h2, k⟩
theorem Pow.one {i j : Nat} : Pow r 1 i j ↔ r i j := ⟨fun ⟨m, h, k⟩ => by cases h; exact k, fun h => ⟨i, rfl, h⟩⟩
end

/-- A word's mode at a place, among a set's. -/
def hit (w : List Int) (s i : Nat) : Prop := ∃ c, w[i]? = some c ∧ 0 ≤ c ∧ c < 5 ∧ s.testBit c.toNat = true
mutual
/-- From place i to place j a word of the expression's. -/
def R (w : List Int) : Nd → Nat → Nat → Prop
  | .set s => fun i j => hit w s i ∧ j = i + 1
  | .emp => fun _ _ => False
  | .eps => fun i j => i = j
  | .join l => RJ w l
  | .uni l => RU w l
  | .star n => Star (R w n)
  | .plus n => fun i j => ∃ m, R w n i m ∧ Star (R w n) m j
  | .opt n => fun i j => i = j ∨ R w n i j
  | .rep lo hi n => fun i j => ∃ t, lo ≤ t ∧ t ≤ hi ∧ Pow (R w n) t i j
def RJ (w : List Int) : List Nd → Nat → Nat → Prop
  | [] => fun i j => i = j
  | n :: l => fun i j => ∃ m, R w n i m ∧ RJ w l m j
def RU (w : List Int) : List Nd → Nat → Nat → Prop
  | [] => fun _ _ => False
  | n :: l => fun i j => R w n i j ∨ RU w l i j
end
section
variable {w : List Int}
theorem RU_iff : ∀ {l : List Nd} {i j : Nat}, RU w l i j ↔ ∃ n ∈ l, R w n i j
  | [], i, j => by simp [RU]
  | n :: l, i, j => by simp [RU, RU_iff (l := l)]
theorem RJ_snoc : ∀ {l : List Nd} {n : Nd} {i j : Nat}, RJ w (l ++ [n]) i j ↔ ∃ m, RJ w l i m ∧ R w n m j
  | [], n, i, j => by
    simp only [List.nil_append, RJ]
    constructor
    · rintro ⟨m, h, rfl⟩; exact ⟨i, rfl, h⟩
    · rintro ⟨m, rfl, h⟩; exact ⟨j, h, rfl⟩
  | c :: l, n, i, j => by
    simp only [List.cons_append, RJ]
    constructor
    · rintro ⟨m, h, k⟩
      obtain ⟨p, k1, k2⟩ := RJ_snoc.1 k
      exact ⟨p, ⟨m, h, k1⟩, k2⟩
    · rintro ⟨p, ⟨m, h, k1⟩, k2⟩
      exact ⟨m, h, RJ_snoc.2 ⟨p, k1, k2⟩⟩
theorem RJ_le : ∀ {l : List Nd} (hl : ∀ n ∈ l, ∀ i j, R w n i j → i ≤ j ∧ (i ≤ w.length → j ≤ w.length)) {i j : Nat}, RJ w l i j → i ≤ j ∧ (i ≤ w.length → j ≤ w.length)
  | [], _, i, j, h => by cases h; exact ⟨Nat.le_refl _, id⟩
  | n :: l, hl, i, j, ⟨m, h, k⟩ => by
    have h1 := hl n (by simp) _ _ h
    have h2 := RJ_le (fun c hc => hl c (by simp [hc])) k
    exact ⟨Nat.le_trans h1.1 h2.1, fun q => h2.2 (h1.2 q)⟩
/-- Places are within the word, and in order. -/
theorem R_le (n : Nd) : ∀ i j, R w n i j → i ≤ j ∧ (i ≤ w.length → j ≤ w.length) := by
  refine Nd.ind (p := fun n => ∀ i j, R w n i j → i ≤ j ∧ (i ≤ w.length → j ≤ w.length)) ?_ n
  intro n ih i j h
  have star : ∀ c, (∀ i j, R w c i j → i ≤ j ∧ (i ≤ w.length → j ≤ w.length)) → ∀ i j, Star (R w c) i j → i ≤ j ∧ (i ≤ w.length → j ≤ w.length) := by
    intro c hc i j hs
    induction hs with
    | refl => exact ⟨Nat.le_refl _, id⟩
    | tail _ k ih => have := hc _ _ k; exact ⟨Nat.le_trans ih.1 this.1, fun q => this.2 (ih.2 q)⟩
  cases n with
  | set s =>
    simp only [R] at h
    obtain ⟨⟨c, h1, _⟩, rfl⟩ := h
    have := (List.getElem?_eq_some_iff.1 h1).1
    exact ⟨by omega, fun _ => by omega⟩
  | emp => simp only [R] at h
  | eps => simp only [R] at h; subst h; exact ⟨Nat.le_refl _, id⟩
  | join l => simp only [R] at h; exact RJ_le (fun c hc => ih c hc) h
  | uni l =>
    simp only [R] at h
    obtain ⟨c, hc, h⟩ := RU_iff.1 h
    exact ih c hc _ _ h
  | star c => simp only [R] at h; exact star c (ih c (by simp [Nd.kids])) _ _ h
  | plus c =>
    simp only [R] at h
    obtain ⟨m, h1, h2⟩ := h
    have k1 := ih c (by simp [Nd.kids]) _ _ h1
    have k2 := star c (ih c (by simp [Nd.kids])) _ _ h2
    exact ⟨Nat.le_trans k1.1 k2.1, fun q => k2.2 (k1.2 q)⟩
  | opt c =>
    simp only [R] at h
    rcases h with rfl | h
    · exact ⟨Nat.le_refl _, id⟩
    · exact ih c (by simp [Nd.kids]) _ _ h
  | rep lo hi c =>
    simp only [R] at h
    obtain ⟨t, _, _, h⟩ := h
    exact star c (ih c (by simp [Nd.kids])) _ _ h.star
end

/-- A row of places: just those. -/
def Is (w : List Int) (bs : List Bool) (P : Nat → Prop) : Prop := bs.length = w.length + 1 ∧ ∀ j, bs.getD j false = true ↔ P j
theorem Is.cong {w : List Int} {bs : List Bool} {P Q : Nat → Prop} (a : Is w bs P) (h : ∀ j, P j ↔ Q j) : Is w bs Q := ⟨a.1, fun j => (a.2 j).trans (h j)⟩
theorem Is.le {w : List Int} {bs : List Bool} {P : Nat → Prop} (a : Is w bs P) {j : Nat} (h : P j) : j ≤ w.length := by
  have h2 := (a.2 j).2 h
  by_cases hj : j < bs.length
  · have := a.1; omega
  · rw [List.getD_eq_getElem?_getD, List.getElem?_eq_none (by omega)] at h2
    cases h2
/-- The word is in the language. -/
def In (n : Nd) (w : List Int) : Prop := R w n 0 w.length
def cntT (bs : List Bool) : Nat := (bs.filter id).length
theorem cntT_le (bs : List Bool) : cntT bs ≤ bs.length := List.length_filter_le ..
theorem cntT_set : ∀ {bs : List Bool} {i : Nat}, bs[i]? = some false → cntT (bs.set i true) = cntT bs + 1
  | [], i, h => by simp at h
  | b :: bs, 0, h => by
    simp only [List.getElem?_cons_zero, Option.some.injEq] at h
    subst h; simp [cntT]
  | b :: bs, i + 1, h => by
    have := cntT_set (bs := bs) (i := i) (by simpa using h)
    cases b <;> simp_all [cntT]
theorem Is.none {w : List Int} : Is w (List.replicate (w.length + 1) false) fun _ => False := by
  refine ⟨by simp, fun j => ?_⟩
  rw [List.getD_eq_getElem?_getD, List.getElem?_replicate]
  split <;> simp
theorem Is.set {w : List Int} {bs : List Bool} {P : Nat → Prop} (a : Is w bs P) {i : Nat} (h : i ≤ w.length) : Is w (bs.set i true) fun j => j = i ∨ P j := by
  refine ⟨by simp [a.1], fun j => ?_⟩
  have h2 := a.2 j
  rw [List.getD_eq_getElem?_getD] at h2 ⊢
  by_cases hj : j = i
  · subst hj; rw [List.getElem?_set_self (by have := a.1; omega)]; simp
  · rw [List.getElem?_set_ne (Ne.symm hj), h2]; simp [hj]
end Go.Gm

set_option linter.unusedVariables false
set_option linter.unusedSimpArgs false
namespace Go.Gm
/- All words of so many modes, in order. Plain Lean. -/

/-- One mode more behind each. -/
def longer (l : List (List Int)) : List (List Int) := l.flatMap fun w => [w ++ [0], w ++ [1], w ++ [2], w ++ [3], w ++ [4]]
/-- All of just so many. -/
def wl : Nat → List (List Int)
  | 0 => [[]]
  | t + 1 => longer (wl t)
theorem longer_append (a b : List (List Int)) : longer (a ++ b) = longer a ++ longer b := by simp [longer]
theorem longer_len : ∀ l : List (List Int), (longer l).length = 5 * l.length
  | [] => rfl
  | a :: l => by
    have := longer_len l
    simp only [longer, List.flatMap_cons, List.length_append, List.length_cons, List.length_nil] at this ⊢
    omega
theorem wl_len : ∀ t, (wl t).length = 5 ^ t
  | 0 => rfl
  | t + 1 => by rw [wl, longer_len, wl_len t, Nat.pow_succ]; omega
theorem wl_mem : ∀ {t : Nat} {w : List Int}, w ∈ wl t ↔ w.length = t ∧ ∀ c ∈ w, 0 ≤ c ∧ c < 5
  | 0, w => by
    simp only [wl, List.mem_singleton]
    constructor
    · rintro rfl; simp
    · rintro ⟨h, _⟩; exact List.eq_nil_of_length_eq_zero h
  | t + 1, w => by
    simp only [wl, longer, List.mem_flatMap, wl_mem (t := t), List.mem_cons, List.not_mem_nil, or_false]
    constructor
    · rintro ⟨v, ⟨h1, h2⟩, h⟩
      have hc : ∀ k : Int, 0 ≤ k → k < 5 → (v ++ [k]).length = t + 1 ∧ ∀ c ∈ v ++ [k], 0 ≤ c ∧ c < 5 := by
        intro k k0 k1
        refine ⟨by simp [h1], fun c hc => ?_⟩
        rcases List.mem_append.1 hc with hc | hc
        · exact h2 c hc
        · rw [List.mem_singleton.1 hc]; exact ⟨k0, k1⟩
      rcases h with rfl | rfl | rfl | rfl | rfl
      · exact hc 0 (by omega) (by omega)
      · exact hc 1 (by omega) (by omega)
      · exact hc 2 (by omega) (by omega)
      · exact hc 3 (by omega) (by omega)
      · exact hc 4 (by omega) (by omega)
    · rintro ⟨h1, h2⟩
      have hne : w ≠ [] := by rintro rfl; simp at h1
      refine ⟨w.dropLast, ⟨by simp [h1], fun c hc => h2 c (List.dropLast_subset _ hc)⟩, ?_⟩
      have hl := h2 (w.getLast hne) (List.getLast_mem hne)
      have he : w.dropLast ++ [w.getLast hne] = w := List.dropLast_concat_getLast hne
      obtain ⟨k, hk⟩ : ∃ k, w.getLast hne = k := ⟨_, rfl⟩
      rw [hk] at hl he
      have : k = 0 ∨ k = 1 ∨ k = 2 ∨ k = 3 ∨ k = 4 := by omega
      rcases this with q | q | q | q | q <;> subst q <;> simp [he]
open Classical in
/-- A language's words, of no more than so many modes. -/
noncomputable def wordsN (n : Nd) (most : Nat) : List (List Int) := ((List.range (most + 1)).flatMap wl).filter fun w => decide (In n w)

/-! ### The word behind one -/
def incR : List Int → List Int × Bool
  | [] => ([], true)
  | c :: r => if c + 1 < 5 then ((c + 1) :: r, false) else (0 :: (incR r).1, (incR r).2)
/-- The word behind one, of as many modes; whether there was none. -/
def inc (w : List Int) : List Int × Bool := ((incR w.reverse).1.reverse, (incR w.reverse).2)
theorem inc_lt {w : List Int} {k : Int} (h : k + 1 < 5) : inc (w ++ [k]) = (w ++ [k + 1], false) := by simp [inc, incR, h]
theorem inc_ge {w : List Int} {k : Int} (h : ¬ k + 1 < 5) : inc (w ++ [k]) = ((inc w).1 ++ [0], (inc w).2) := by simp [inc, incR, h]
theorem inc_len (w : List Int) : (inc w).1.length = w.length := by
  have : ∀ r : List Int, (incR r).1.length = r.length := by
    intro r
    induction r with
    | nil => rfl
    | cons c r ih => simp only [incR]; split <;> simp [ih]
  simp [inc, this]
def zer (t : Nat) : List Int := List.replicate t 0
theorem zer_s (t : Nat) : zer t ++ [0] = zer (t + 1) := by simp [zer, List.replicate_succ']
/-- The next of all words. -/
def nxt (w : List Int) : List Int := if (inc w).2 then (inc w).1 ++ [0] else (inc w).1
/-- Each one's next is the one behind it; the last is the last of its length. -/
def Ch : List (List Int) → Prop
  | [] => False
  | [a] => inc a = (zer a.length, true)
  | a :: b :: l => inc a = (b, false) ∧ Ch (b :: l)
theorem ch_longer : ∀ {l : List (List Int)}, Ch l → Ch (longer l)
  | [], h => h.elim
  | [a], h => by
    have h1 : longer [a] = [a ++ [0], a ++ [1], a ++ [2], a ++ [3], a ++ [4]] := rfl
    rw [h1]
    refine ⟨inc_lt (by omega), inc_lt (by omega), inc_lt (by omega), inc_lt (by omega), ?_⟩
    show inc (a ++ [4]) = _
    rw [inc_ge (by omega), show inc a = _ from h, List.length_append, List.length_singleton, zer_s]
  | a :: b :: l, h => by
    have ih := ch_longer h.2
    have h1 : longer (a :: b :: l) = (a ++ [0]) :: (a ++ [1]) :: (a ++ [2]) :: (a ++ [3]) :: (a ++ [4]) :: longer (b :: l) := rfl
    have h2 : ∃ t, longer (b :: l) = (b ++ [0]) :: t := ⟨_, rfl⟩
    obtain ⟨t, h2⟩ := h2
    rw [h1]
    rw [h2] at ih ⊢
    refine ⟨inc_lt (by omega), inc_lt (by omega), inc_lt (by omega), inc_lt (by omega), ?_, ih⟩
    rw [inc_ge (by omega), h.1]
theorem ch_wl : ∀ t, Ch (wl t)
  | 0 => rfl
  | t + 1 => ch_longer (ch_wl t)
theorem wl_head : ∀ t, ∃ l, wl t = zer t :: l
  | 0 => ⟨_, rfl⟩
  | t + 1 => by
    obtain ⟨l, h⟩ := wl_head t
    rw [wl, h]
    refine ⟨?_, ?_⟩
    · exact (zer t ++ [1]) :: (zer t ++ [2]) :: (zer t ++ [3]) :: (zer t ++ [4]) :: longer l
    · rw [← zer_s]; rfl
/-- All words in a row: each one's next is there; the last has none. -/
def Good (most : Nat) : List (List Int) → Prop
  | [] => False
  | [a] => ((inc a).2 = true ∧ ¬ a.length < most)
  | a :: b :: l => nxt a = b ∧ ((inc a).2 = true → a.length < most) ∧ Good most (b :: l)
theorem good_app {most t : Nat} {r : List (List Int)} : ∀ {l : List (List Int)}, Ch l → (∀ a ∈ l, a.length = t) → t < most → Good most (zer (t + 1) :: r) → Good most (l ++ zer (t + 1) :: r)
  | [], h, _, _, _ => h.elim
  | [a], h, ha, ht, hr => by
    have h1 := ha a (by simp)
    refine ⟨?_, fun _ => by omega, hr⟩
    simp only [nxt, show inc a = _ from h, if_true, h1, zer_s]
  | a :: b :: l, h, ha, ht, hr => ⟨by simp [nxt, h.1], fun q => by rw [h.1] at q; simp at q, good_app h.2 (fun x hx => ha x (by simp [hx])) ht hr⟩
theorem good_last {most : Nat} : ∀ {l : List (List Int)}, Ch l → (∀ a ∈ l, a.length = most) → Good most l
  | [], h, _ => h.elim
  | [a], h, ha => ⟨by rw [show inc a = _ from h], by rw [ha a (by simp)]; omega⟩
  | a :: b :: l, h, ha => ⟨by simp [nxt, h.1], fun q => by rw [h.1] at q; simp at q, good_last h.2 fun x hx => ha x (by simp [hx])⟩
theorem good_all : ∀ (d t : Nat), ∃ r, ((List.range' t (d + 1)).flatMap wl) = zer t :: r ∧ Good (t + d) (zer t :: r)
  | 0, t => by
    obtain ⟨l, h⟩ := wl_head t
    refine ⟨l, by simp [List.range'_one, h], ?_⟩
    rw [← h]
    exact good_last (ch_wl t) fun a ha => (wl_mem.1 ha).1
  | d + 1, t => by
    obtain ⟨l, h⟩ := wl_head t
    obtain ⟨r, h1, h2⟩ := good_all d (t + 1)
    refine ⟨l ++ zer (t + 1) :: r, ?_, ?_⟩
    · rw [List.range'_succ, List.flatMap_cons, h1, h]; rfl
    · have := good_app (most := t + (d + 1)) (ch_wl t) (fun a ha => (wl_mem.1 ha).1) (by omega) (show Good (t + (d + 1)) _ by rw [show t + (d + 1) = t + 1 + d by omega]; exact h2)
      rw [h] at this
      exact this
theorem good_words (most : Nat) : ∃ r, ((List.range (most + 1)).flatMap wl) = [] :: r ∧ Good most ([] :: r) := by
  obtain ⟨r, h1, h2⟩ := good_all most 0
  rw [← List.range_eq_range', Nat.zero_add] at *
  exact ⟨r, h1, h2⟩
theorem words_rng {most : Nat} {w : List Int} (h : w ∈ (List.range (most + 1)).flatMap wl) : w.length ≤ most ∧ ∀ c ∈ w, 0 ≤ c ∧ c < 5 := by
  simp only [List.mem_flatMap, List.mem_range] at h
  obtain ⟨t, h1, h2⟩ := h
  have := wl_mem.1 h2
  exact ⟨by omega, this.2⟩
end Go.Gm

set_option linter.unusedVariables false
set_option linter.unusedSimpArgs false
namespace Go.Gm


/-! ### Languages. Plain Lean. -/
theorem In_eps {w : List Int} : In .eps w ↔ w = [] := by
  simp only [In, R]
  constructor
  · intro h; exact List.eq_nil_of_length_eq_zero h.symm
  · rintro rfl; rfl
theorem In_emp {w : List Int} : ¬ In .emp w := by simp [In, R]
theorem In_set {s : Nat} {w : List Int} : In (.set s) w ↔ ∃ c, w = [c] ∧ 0 ≤ c ∧ c < 5 ∧ s.testBit c.toNat = true := by
  simp only [In, R, hit]
  constructor
  · rintro ⟨⟨c, h1, h2⟩, h3⟩
    match w, h1, h3 with
    | [x], h1, _ => simp at h1; subst h1; exact ⟨x, rfl, h2⟩
  · rintro ⟨c, rfl, h⟩
    exact ⟨⟨c, rfl, h⟩, rfl⟩
theorem Star.iff {r : Nat → Nat → Prop} {i j : Nat} : Star r i j ↔ i = j ∨ ∃ m, r i m ∧ Star r m j := by
  constructor
  · intro h
    induction h with
    | refl => exact .inl rfl
    | tail a b ih =>
      rcases ih with rfl | ⟨m, u1, u2⟩
      · exact .inr ⟨_, b, .refl _⟩
      · exact .inr ⟨m, u1, .tail u2 b⟩
  · rintro (rfl | ⟨m, h1, h2⟩)
    · exact .refl _
    · exact .head h1 h2

section
variable {k L : Nat} {r r' : Nat → Nat → Prop}
theorem Star.up (h : ∀ i j, r' i j → r (k + i) (k + j)) {i j : Nat} (a : Star r' i j) : Star r (k + i) (k + j) := by
  induction a with
  | refl => exact .refl _
  | tail _ b ih => exact .tail ih (h _ _ b)
theorem Pow.up (h : ∀ i j, r' i j → r (k + i) (k + j)) : ∀ {t i j : Nat}, Pow r' t i j → Pow r t (k + i) (k + j)
  | 0, i, j, a => by cases a; exact rfl
  | t + 1, i, j, ⟨m, a, b⟩ => ⟨k + m, Pow.up h a, h _ _ b⟩
theorem Star.dn (hm : ∀ i j, r i j → i ≤ j) (h : ∀ i y, r (k + i) y → y ≤ k + L → ∃ j, y = k + j ∧ r' i j) {x y : Nat} (a : Star r x y) : ∀ i, x = k + i → y ≤ k + L → ∃ j, y = k + j ∧ Star r' i j := by
  induction a with
  | refl => intro i hi _; exact ⟨i, hi, .refl _⟩
  | tail _ b ih =>
    intro i hi hy
    obtain ⟨j, rfl, h1⟩ := ih i hi (Nat.le_trans (hm _ _ b) hy)
    obtain ⟨j', rfl, h2⟩ := h _ _ b hy
    exact ⟨j', rfl, .tail h1 h2⟩
theorem Pow.dn (hm : ∀ i j, r i j → i ≤ j) (h : ∀ i y, r (k + i) y → y ≤ k + L → ∃ j, y = k + j ∧ r' i j) : ∀ {t i y : Nat}, Pow r t (k + i) y → y ≤ k + L → ∃ j, y = k + j ∧ Pow r' t i j
  | 0, i, y, a, _ => ⟨i, (show k + i = y from a).symm, rfl⟩
  | t + 1, i, y, ⟨m, a, b⟩, hy => by
    obtain ⟨j, rfl, h1⟩ := Pow.dn hm h a (Nat.le_trans (hm _ _ b) hy)
    obtain ⟨j', rfl, h2⟩ := h _ _ b hy
    exact ⟨j', rfl, j, h1, h2⟩
end
section
variable (u v z : List Int)
theorem hit_mid {s i : Nat} (hi : i < v.length) : hit (u ++ v ++ z) s (u.length + i) ↔ hit v s i := by
  have : (u ++ v ++ z)[u.length + i]? = v[i]? := by
    rw [List.append_assoc, List.getElem?_append_right (by omega), Nat.add_sub_cancel_left, List.getElem?_append_left hi]
  simp only [hit, this]
theorem hit_lt {w : List Int} {s i : Nat} (h : hit w s i) : i < w.length := by
  obtain ⟨c, h1, _⟩ := h
  exact (List.getElem?_eq_some_iff.1 h1).1
/-- A part of a word, within the word. -/
theorem R_up (n : Nd) : ∀ i j, R v n i j → R (u ++ v ++ z) n (u.length + i) (u.length + j) := by
  refine Nd.ind (p := fun n => ∀ i j, R v n i j → R (u ++ v ++ z) n (u.length + i) (u.length + j)) ?_ n
  intro n ih i j h
  cases n with
  | set s =>
    simp only [R] at h ⊢
    exact ⟨(hit_mid u v z (hit_lt h.1)).2 h.1, by omega⟩
  | emp => simp only [R] at h
  | eps => simp only [R] at h ⊢; omega
  | join l =>
    simp only [R] at h ⊢
    have : ∀ (l : List Nd), (∀ c ∈ l, ∀ i j, R v c i j → R (u ++ v ++ z) c (u.length + i) (u.length + j)) → ∀ i j, RJ v l i j → RJ (u ++ v ++ z) l (u.length + i) (u.length + j) := by
      intro l
      induction l with
      | nil => intro _ i j h; simp only [RJ] at h ⊢; omega
      | cons c l ihl =>
        rintro hl i j ⟨m, h1, h2⟩
        exact ⟨_, hl c (by simp) _ _ h1, ihl (fun c hc => hl c (by simp [hc])) _ _ h2⟩
    exact this l (fun c hc => ih c hc) i j h
  | uni l =>
    simp only [R] at h ⊢
    obtain ⟨c, hc, h⟩ := RU_iff.1 h
    exact RU_iff.2 ⟨c, hc, ih c hc _ _ h⟩
  | star c => simp only [R] at h ⊢; exact h.up (ih c (by simp [Nd.kids]))
  | plus c =>
    simp only [R] at h ⊢
    obtain ⟨m, h1, h2⟩ := h
    exact ⟨_, ih c (by simp [Nd.kids]) _ _ h1, h2.up (ih c (by simp [Nd.kids]))⟩
  | opt c =>
    simp only [R] at h ⊢
    rcases h with rfl | h
    · exact .inl rfl
    · exact .inr (ih c (by simp [Nd.kids]) _ _ h)
  | rep a b c =>
    simp only [R] at h ⊢
    obtain ⟨t, h1, h2, h⟩ := h
    exact ⟨t, h1, h2, Pow.up (ih c (by simp [Nd.kids])) h⟩
theorem R_mono {w : List Int} (n : Nd) (i j : Nat) (h : R w n i j) : i ≤ j := (R_le n i j h).1
theorem R_dn (n : Nd) : ∀ i y, R (u ++ v ++ z) n (u.length + i) y → y ≤ u.length + v.length → ∃ j, y = u.length + j ∧ R v n i j := by
  refine Nd.ind (p := fun n => ∀ i y, R (u ++ v ++ z) n (u.length + i) y → y ≤ u.length + v.length → ∃ j, y = u.length + j ∧ R v n i j) ?_ n
  intro n ih i y h hy
  cases n with
  | set s =>
    simp only [R] at h ⊢
    obtain ⟨h1, h2⟩ := h
    exact ⟨i + 1, by omega, (hit_mid u v z (by omega)).1 h1, rfl⟩
  | emp => simp only [R] at h
  | eps => simp only [R] at h ⊢; exact ⟨i, by omega, rfl⟩
  | join l =>
    simp only [R] at h ⊢
    have : ∀ (l : List Nd), (∀ c ∈ l, ∀ i y, R (u ++ v ++ z) c (u.length + i) y → y ≤ u.length + v.length → ∃ j, y = u.length + j ∧ R v c i j) → ∀ i y, RJ (u ++ v ++ z) l (u.length + i) y → y ≤ u.length + v.length → ∃ j, y = u.length + j ∧ RJ v l i j := by
      intro l
      induction l with
      | nil => intro _ i y h _; simp only [RJ] at h ⊢; exact ⟨i, by omega, rfl⟩
      | cons c l ihl =>
        rintro hl i y ⟨m, h1, h2⟩ hy
        have hm := (RJ_le (fun c _ => R_le c) h2).1
        obtain ⟨j, rfl, k1⟩ := hl c (by simp) _ _ h1 (by omega)
        obtain ⟨j', rfl, k2⟩ := ihl (fun c hc => hl c (by simp [hc])) _ _ h2 hy
        exact ⟨j', rfl, j, k1, k2⟩
    exact this l (fun c hc => ih c hc) i y h hy
  | uni l =>
    simp only [R] at h ⊢
    obtain ⟨c, hc, h⟩ := RU_iff.1 h
    obtain ⟨j, h1, h2⟩ := ih c hc _ _ h hy
    exact ⟨j, h1, RU_iff.2 ⟨c, hc, h2⟩⟩
  | star c => simp only [R] at h ⊢; exact Star.dn (L := v.length) (fun i j h => R_mono c i j h) (ih c (by simp [Nd.kids])) h i rfl hy
  | plus c =>
    simp only [R] at h ⊢
    obtain ⟨m, h1, h2⟩ := h
    have hle : m ≤ y := by
      have := h2.inv (P := fun j => m ≤ j) (fun a b q1 q2 => Nat.le_trans q1 (R_mono c a b q2)) (Nat.le_refl _)
      exact this
    obtain ⟨j, rfl, k1⟩ := ih c (by simp [Nd.kids]) _ _ h1 (by omega)
    obtain ⟨j', e, k2⟩ := Star.dn (L := v.length) (fun i j h => R_mono c i j h) (ih c (by simp [Nd.kids])) h2 j rfl hy
    exact ⟨j', e, j, k1, k2⟩
  | opt c =>
    simp only [R] at h ⊢
    rcases h with rfl | h
    · exact ⟨i, rfl, .inl rfl⟩
    · obtain ⟨j, h1, h2⟩ := ih c (by simp [Nd.kids]) _ _ h hy
      exact ⟨j, h1, .inr h2⟩
  | rep a b c =>
    simp only [R] at h ⊢
    obtain ⟨t, h1, h2, h⟩ := h
    obtain ⟨j, e, k⟩ := Pow.dn (L := v.length) (fun i j h => R_mono c i j h) (ih c (by simp [Nd.kids])) h hy
    exact ⟨j, e, t, h1, h2, k⟩
end
theorem R_take {w : List Int} {n : Nd} {m : Nat} (hm : m ≤ w.length) : R w n 0 m ↔ In n (w.take m) := by
  have h1 : (w.take m).length = m := by rw [List.length_take]; omega
  have h2 : [] ++ w.take m ++ w.drop m = w := by simp
  constructor
  · intro h
    obtain ⟨j, e, k⟩ := R_dn [] (w.take m) (w.drop m) n 0 m (by rw [h2]; simpa using h) (by simp; omega)
    simp only [List.length_nil, Nat.zero_add] at e
    subst e
    rw [In, h1]; exact k
  · intro h
    have := R_up [] (w.take m) (w.drop m) n _ _ h
    rw [h2, h1] at this
    simpa using this
theorem R_drop {w : List Int} {n : Nd} {m : Nat} (hm : m ≤ w.length) : R w n m w.length ↔ In n (w.drop m) := by
  have h1 : (w.take m).length = m := by rw [List.length_take]; omega
  have h2 : w.take m ++ w.drop m ++ [] = w := by simp
  have h3 : m + (w.drop m).length = w.length := by rw [List.length_drop]; omega
  constructor
  · intro h
    obtain ⟨j, e, k⟩ := R_dn (w.take m) (w.drop m) [] n 0 w.length (by rw [h2, h1]; simpa using h) (by rw [h1]; omega)
    rw [h1] at e
    rw [In, show (w.drop m).length = j by omega]; exact k
  · intro h
    have := R_up (w.take m) (w.drop m) [] n _ _ h
    rw [h2, h1, h3] at this
    simpa using this
theorem In_join {a b : Nd} {w : List Int} : In (.join [a, b]) w ↔ ∃ i, i ≤ w.length ∧ In a (w.take i) ∧ In b (w.drop i) := by
  simp only [In, R, RJ]
  constructor
  · rintro ⟨m, h1, m', h2, rfl⟩
    have hm := R_mono b _ _ h2
    exact ⟨m, hm, (R_take hm).1 h1, (R_drop hm).1 h2⟩
  · rintro ⟨m, hm, h1, h2⟩
    exact ⟨m, (R_take hm).2 h1, _, (R_drop hm).2 h2, rfl⟩
theorem In_join_app {a b : Nd} {u v : List Int} (h1 : In a u) (h2 : In b v) : In (.join [a, b]) (u ++ v) := In_join.2 ⟨u.length, by simp, by simpa using h1, by simpa using h2⟩
theorem In_uni {a b : Nd} {w : List Int} : In (.uni [a, b]) w ↔ In a w ∨ In b w := by simp [In, R, RU]
theorem In_opt {a : Nd} {w : List Int} : In (.opt a) w ↔ w = [] ∨ In a w := by
  simp only [In, R]
  refine or_congr ⟨fun h => List.eq_nil_of_length_eq_zero h.symm, fun h => by rw [h]; rfl⟩ Iff.rfl
theorem In_star {a : Nd} {w : List Int} : In (.star a) w ↔ w = [] ∨ In (.plus a) w := by
  simp only [In, R]
  rw [Star.iff]
  exact or_congr ⟨fun h => List.eq_nil_of_length_eq_zero h.symm, fun h => by rw [h]; rfl⟩ Iff.rfl
theorem In_star_app {a : Nd} {u v : List Int} (h1 : In (.star a) u) (h2 : In (.star a) v) : In (.star a) (u ++ v) := by
  have k1 := R_up [] u v (.star a) _ _ h1
  have k2 := R_up u v [] (.star a) _ _ h2
  simp only [List.nil_append, List.length_nil, Nat.zero_add, List.append_nil, Nat.add_zero, R] at k1 k2
  simp only [In, R, List.length_append]
  exact k1.trans k2
theorem In_star_nil {a : Nd} : In (.star a) [] := In_star.2 (.inl rfl)
/-- A word's numbers are modes. -/
theorem R_modes {w : List Int} (n : Nd) : ∀ i j, R w n i j → ∀ p, i ≤ p → p < j → ∃ c, w[p]? = some c ∧ 0 ≤ c ∧ c < 5 := by
  refine Nd.ind (p := fun n => ∀ i j, R w n i j → ∀ p, i ≤ p → p < j → ∃ c, w[p]? = some c ∧ 0 ≤ c ∧ c < 5) ?_ n
  intro n ih i j h p hp hj
  have star : ∀ c, (∀ i j, R w c i j → ∀ p, i ≤ p → p < j → ∃ c, w[p]? = some c ∧ 0 ≤ c ∧ c < 5) → ∀ i j, Star (R w c) i j → ∀ p, i ≤ p → p < j → ∃ c, w[p]? = some c ∧ 0 ≤ c ∧ c < 5 := by
    intro c hc i j hs
    induction hs with
    | refl => intro p _ _; omega
    | @tail m j a b ih =>
      intro p h1 h2
      by_cases h : p < m
      · exact ih p h1 h
      · exact hc _ _ b p (by omega) h2
  cases n with
  | set s =>
    simp only [R] at h
    obtain ⟨⟨c, h1, h2, h3, _⟩, rfl⟩ := h
    obtain rfl : p = i := by omega
    exact ⟨c, h1, h2, h3⟩
  | emp => simp only [R] at h
  | eps => simp only [R] at h; omega
  | join l =>
    simp only [R] at h
    have : ∀ (l : List Nd), (∀ c ∈ l, ∀ i j, R w c i j → ∀ p, i ≤ p → p < j → ∃ c, w[p]? = some c ∧ 0 ≤ c ∧ c < 5) → ∀ i j, RJ w l i j → ∀ p, i ≤ p → p < j → ∃ c, w[p]? = some c ∧ 0 ≤ c ∧ c < 5 := by
      intro l
      induction l with
      | nil => intro _ i j h p _ _; simp only [RJ] at h; omega
      | cons c l ihl =>
        rintro hl i j ⟨m, h1, h2⟩ p q1 q2
        by_cases hpm : p < m
        · exact hl c (by simp) _ _ h1 p q1 hpm
        · exact ihl (fun c hc => hl c (by simp [hc])) _ _ h2 p (by omega) q2
    exact this l (fun c hc => ih c hc) i j h p hp hj
  | uni l =>
    simp only [R] at h
    obtain ⟨c, hc, h⟩ := RU_iff.1 h
    exact ih c hc _ _ h p hp hj
  | star c => simp only [R] at h; exact star c (ih c (by simp [Nd.kids])) i j h p hp hj
  | plus c =>
    simp only [R] at h
    obtain ⟨m, h1, h2⟩ := h
    exact star c (ih c (by simp [Nd.kids])) i j (.head h1 h2) p hp hj
  | opt c =>
    simp only [R] at h
    rcases h with rfl | h
    · omega
    · exact ih c (by simp [Nd.kids]) _ _ h p hp hj
  | rep a b c =>
    simp only [R] at h
    obtain ⟨t, _, _, h⟩ := h
    exact star c (ih c (by simp [Nd.kids])) i j h.star p hp hj
theorem In_modes {n : Nd} {w : List Int} (h : In n w) : ∀ c ∈ w, 0 ≤ c ∧ c < 5 := by
  intro c hc
  obtain ⟨p, hp⟩ := List.getElem?_of_mem hc
  obtain ⟨c', h1, h2⟩ := R_modes n 0 _ h p (Nat.zero_le _) (List.getElem?_eq_some_iff.1 hp).1
  rw [hp] at h1; injection h1 with h1; subst h1; exact h2
theorem In_all {w : List Int} (h : ∀ c ∈ w, 0 ≤ c ∧ c < 5) : In (.star (.set 31)) w := by
  have : ∀ t, t ≤ w.length → Star (R w (.set 31)) 0 t := by
    intro t
    induction t with
    | zero => intro _; exact .refl _
    | succ t ih =>
      intro ht
      refine .tail (ih (by omega)) ?_
      have hc := h w[t] (List.getElem_mem (by omega))
      refine ⟨⟨w[t], List.getElem?_eq_getElem (by omega), hc.1, hc.2, ?_⟩, rfl⟩
      obtain ⟨m, hm⟩ : ∃ m : Nat, w[t] = m := ⟨w[t].toNat, by omega⟩
      rw [hm] at hc ⊢
      have : m = 0 ∨ m = 1 ∨ m = 2 ∨ m = 3 ∨ m = 4 := by omega
      rcases this with rfl | rfl | rfl | rfl | rfl <;> decide
  simp only [In, R]
  exact this _ (Nat.le_refl _)
end Go.Gm

set_option linter.unusedVariables false
set_option linter.unusedSimpArgs false
namespace Go.Gm
/- Languages: so many times, turned about, with more modes, how many words. Plain Lean. -/

theorem Pow.head {r : Nat → Nat → Prop} : ∀ {t i j : Nat}, Pow r (t + 1) i j ↔ ∃ m, r i m ∧ Pow r t m j
  | 0, i, j => by
    constructor
    · rintro ⟨m, h, k⟩; cases h; exact ⟨j, k, rfl⟩
    · rintro ⟨m, h, k⟩; cases k; exact ⟨i, rfl, h⟩
  | t + 1, i, j => by
    constructor
    · rintro ⟨m, h, k⟩
      obtain ⟨p, h1, h2⟩ := (Pow.head (t := t)).1 h
      exact ⟨p, h1, m, h2, k⟩
    · rintro ⟨p, h1, m, h2, k⟩
      exact ⟨m, (Pow.head (t := t)).2 ⟨p, h1, h2⟩, k⟩
theorem RJ_rep {w : List Int} {a : Nd} : ∀ {k i j : Nat}, RJ w (List.replicate k a) i j ↔ Pow (R w a) k i j
  | 0, i, j => Iff.rfl
  | k + 1, i, j => by
    rw [Pow.head]
    show (∃ m, R w a i m ∧ RJ w (List.replicate k a) m j) ↔ _
    exact exists_congr fun m => and_congr_right fun _ => RJ_rep
theorem In_rep {p q : Nat} {a : Nd} {w : List Int} : In (.rep p q a) w ↔ ∃ k, p ≤ k ∧ k ≤ q ∧ In (.join (.eps :: .eps :: List.replicate k a)) w := by
  simp only [In, R]
  refine exists_congr fun k => and_congr_right fun _ => and_congr_right fun _ => ?_
  rw [← RJ_rep]
  constructor
  · intro h; exact ⟨0, by simp only [R], 0, by simp only [R], h⟩
  · rintro ⟨m, h1, m', h2, h3⟩
    simp only [R] at h1 h2
    subst h1 h2; exact h3

/-! ### Turned about -/
mutual
def tur : Nd → Nd
  | .set s => .set s
  | .emp => .emp
  | .eps => .eps
  | .join l => .join (turs l).reverse
  | .uni l => .uni (turs l)
  | .star n => .star (tur n)
  | .plus n => .plus (tur n)
  | .opt n => .opt (tur n)
  | .rep a b n => .rep a b (tur n)
def turs : List Nd → List Nd
  | [] => []
  | n :: l => tur n :: turs l
end
theorem turs_map : ∀ l : List Nd, turs l = l.map tur
  | [] => rfl
  | n :: l => by rw [turs, turs_map l]; rfl
theorem tur_tur (n : Nd) : tur (tur n) = n := by
  refine Nd.ind (p := fun n => tur (tur n) = n) ?_ n
  intro n ih
  have hl : ∀ l : List Nd, (∀ c ∈ l, tur (tur c) = c) → l.map (fun c => tur (tur c)) = l := fun l h => by
    conv => rhs; rw [← List.map_id l]
    exact List.map_congr_left h
  cases n with
  | join l =>
    simp only [tur, turs_map, List.map_reverse, List.reverse_reverse, List.map_map]
    rw [show (tur ∘ tur) = fun c => tur (tur c) from rfl, hl l fun c hc => ih c hc]
  | uni l =>
    simp only [tur, turs_map, List.map_map]
    rw [show (tur ∘ tur) = fun c => tur (tur c) from rfl, hl l fun c hc => ih c hc]
  | star c => simp only [tur, ih c (by simp [Nd.kids])]
  | plus c => simp only [tur, ih c (by simp [Nd.kids])]
  | opt c => simp only [tur, ih c (by simp [Nd.kids])]
  | rep a b c => simp only [tur, ih c (by simp [Nd.kids])]
  | _ => rfl
theorem R_rev {w : List Int} (n : Nd) : ∀ i j, R w n i j → j ≤ w.length → R w.reverse (tur n) (w.length - j) (w.length - i) := by
  refine Nd.ind (p := fun n => ∀ i j, R w n i j → j ≤ w.length → R w.reverse (tur n) (w.length - j) (w.length - i)) ?_ n
  intro n ih i j h hj
  have star : ∀ c, (∀ i j, R w c i j → j ≤ w.length → R w.reverse (tur c) (w.length - j) (w.length - i)) → ∀ i j, Star (R w c) i j → j ≤ w.length → Star (R w.reverse (tur c)) (w.length - j) (w.length - i) := by
    intro c hc i j hs
    induction hs with
    | refl => intro _; exact .refl _
    | @tail m j a b ih =>
      intro hj
      exact .head (hc _ _ b hj) (ih (Nat.le_trans (R_mono c _ _ b) hj))
  have pow : ∀ c, (∀ i j, R w c i j → j ≤ w.length → R w.reverse (tur c) (w.length - j) (w.length - i)) → ∀ t i j, Pow (R w c) t i j → j ≤ w.length → Pow (R w.reverse (tur c)) t (w.length - j) (w.length - i) := by
    intro c hc t
    induction t with
    | zero => intro i j h _; cases h; exact rfl
    | succ t ih =>
      rintro i j ⟨m, a, b⟩ hj
      exact Pow.head.2 ⟨_, hc _ _ b hj, ih _ _ a (Nat.le_trans (R_mono c _ _ b) hj)⟩
  cases n with
  | set s =>
    simp only [R, tur] at h ⊢
    obtain ⟨h1, rfl⟩ := h
    have hi := hit_lt h1
    refine ⟨?_, by omega⟩
    have : w.reverse[w.length - (i + 1)]? = w[i]? := by
      rw [List.getElem?_reverse (by omega)]
      congr 1; omega
    simpa only [hit, this] using h1
  | emp => simp only [R] at h
  | eps => simp only [R, tur] at h ⊢; omega
  | join l =>
    simp only [R, tur] at h ⊢
    have : ∀ (l : List Nd), (∀ c ∈ l, ∀ i j, R w c i j → j ≤ w.length → R w.reverse (tur c) (w.length - j) (w.length - i)) → ∀ i j, RJ w l i j → j ≤ w.length → RJ w.reverse (turs l).reverse (w.length - j) (w.length - i) := by
      intro l
      induction l with
      | nil => intro _ i j h _; simp only [RJ, turs, List.reverse_nil] at h ⊢; omega
      | cons c l ihl =>
        rintro hl i j ⟨m, h1, h2⟩ hj
        have hm := (RJ_le (fun c _ => R_le c) h2).1
        rw [turs, List.reverse_cons]
        exact RJ_snoc.2 ⟨_, ihl (fun c hc => hl c (by simp [hc])) _ _ h2 hj, hl c (by simp) _ _ h1 (by omega)⟩
    exact this l (fun c hc => ih c hc) i j h hj
  | uni l =>
    simp only [R, tur] at h ⊢
    obtain ⟨c, hc, h⟩ := RU_iff.1 h
    exact RU_iff.2 ⟨tur c, by rw [turs_map]; exact List.mem_map_of_mem hc, ih c hc _ _ h hj⟩
  | star c => simp only [R, tur] at h ⊢; exact star c (ih c (by simp [Nd.kids])) i j h hj
  | plus c =>
    simp only [R, tur] at h ⊢
    obtain ⟨m, h1, h2⟩ := h
    have hle : m ≤ j := h2.inv (P := fun j => m ≤ j) (fun a b q1 q2 => Nat.le_trans q1 (R_mono c a b q2)) (Nat.le_refl _)
    have k1 := star c (ih c (by simp [Nd.kids])) m j h2 hj
    have k2 := ih c (by simp [Nd.kids]) _ _ h1 (by omega)
    -- last comes first
    have : ∀ {r : Nat → Nat → Prop} {a b d : Nat}, Star r a b → r b d → ∃ m, r a m ∧ Star r m d := by
      intro r a b d h1 h2
      rcases Star.iff.1 h1 with rfl | ⟨m, q1, q2⟩
      · exact ⟨d, h2, .refl _⟩
      · exact ⟨m, q1, .tail q2 h2⟩
    exact this k1 k2
  | opt c =>
    simp only [R, tur] at h ⊢
    rcases h with rfl | h
    · exact .inl rfl
    · exact .inr (ih c (by simp [Nd.kids]) _ _ h hj)
  | rep a b c =>
    simp only [R, tur] at h ⊢
    obtain ⟨t, h1, h2, h⟩ := h
    exact ⟨t, h1, h2, pow c (ih c (by simp [Nd.kids])) t i j h hj⟩
theorem In_tur {n : Nd} {w : List Int} : In (tur n) w.reverse ↔ In n w := by
  have f : ∀ {n : Nd} {w : List Int}, In n w → In (tur n) w.reverse := by
    intro n w h
    have := R_rev n _ _ h (Nat.le_refl _)
    simpa [In] using this
  refine ⟨fun h => ?_, f⟩
  have := f h
  rwa [tur_tur, List.reverse_reverse] at this

/-! ### With more modes -/
mutual
def wid (b : Nat) : Nd → Nd
  | .set s => .set (s ||| b)
  | .emp => .emp
  | .eps => .eps
  | .join l => .join (wids b l)
  | .uni l => .uni (wids b l)
  | .star n => .star (wid b n)
  | .plus n => .plus (wid b n)
  | .opt n => .opt (wid b n)
  | .rep x y n => .rep x y (wid b n)
def wids (b : Nat) : List Nd → List Nd
  | [] => []
  | n :: l => wid b n :: wids b l
end
theorem wids_map (b : Nat) : ∀ l : List Nd, wids b l = l.map (wid b)
  | [] => rfl
  | n :: l => by rw [wids, wids_map b l]; rfl
theorem Star.imp {r r' : Nat → Nat → Prop} (h : ∀ i j, r i j → r' i j) {i j : Nat} (a : Star r i j) : Star r' i j := by
  induction a with
  | refl => exact .refl _
  | tail _ b ih => exact .tail ih (h _ _ b)
theorem Pow.imp {r r' : Nat → Nat → Prop} (h : ∀ i j, r i j → r' i j) : ∀ {t i j : Nat}, Pow r t i j → Pow r' t i j
  | 0, _, _, a => a
  | t + 1, _, _, ⟨m, a, b⟩ => ⟨m, Pow.imp h a, h _ _ b⟩
theorem R_wid {w : List Int} {b : Nat} (n : Nd) : ∀ i j, R w n i j → R w (wid b n) i j := by
  refine Nd.ind (p := fun n => ∀ i j, R w n i j → R w (wid b n) i j) ?_ n
  intro n ih i j h
  cases n with
  | set s =>
    simp only [R, wid] at h ⊢
    obtain ⟨⟨c, h1, h2, h3, h4⟩, h5⟩ := h
    exact ⟨⟨c, h1, h2, h3, by rw [Nat.testBit_or, h4]; rfl⟩, h5⟩
  | emp => simp only [R] at h
  | eps => exact h
  | join l =>
    simp only [R, wid] at h ⊢
    have : ∀ (l : List Nd), (∀ c ∈ l, ∀ i j, R w c i j → R w (wid b c) i j) → ∀ i j, RJ w l i j → RJ w (wids b l) i j := by
      intro l
      induction l with
      | nil => intro _ i j h; exact h
      | cons c l ihl =>
        rintro hl i j ⟨m, h1, h2⟩
        exact ⟨m, hl c (by simp) _ _ h1, ihl (fun c hc => hl c (by simp [hc])) _ _ h2⟩
    exact this l (fun c hc => ih c hc) i j h
  | uni l =>
    simp only [R, wid] at h ⊢
    obtain ⟨c, hc, h⟩ := RU_iff.1 h
    exact RU_iff.2 ⟨wid b c, by rw [wids_map]; exact List.mem_map_of_mem hc, ih c hc _ _ h⟩
  | star c => simp only [R, wid] at h ⊢; exact h.imp (ih c (by simp [Nd.kids]))
  | plus c =>
    simp only [R, wid] at h ⊢
    obtain ⟨m, h1, h2⟩ := h
    exact ⟨m, ih c (by simp [Nd.kids]) _ _ h1, h2.imp (ih c (by simp [Nd.kids]))⟩
  | opt c =>
    simp only [R, wid] at h ⊢
    exact h.imp id (ih c (by simp [Nd.kids]) _ _)
  | rep x y c =>
    simp only [R, wid] at h ⊢
    obtain ⟨t, h1, h2, h⟩ := h
    exact ⟨t, h1, h2, Pow.imp (ih c (by simp [Nd.kids])) h⟩
theorem In_wid {n : Nd} {b : Nat} {w : List Int} (h : In n w) : In (wid b n) w := R_wid n _ _ h
theorem R_wid0 {b : Nat} (n : Nd) : R [] (wid b n) = R [] n := by
  refine Nd.ind (p := fun n => R [] (wid b n) = R [] n) ?_ n
  intro n ih
  cases n with
  | set s =>
    funext i j
    simp [R, wid, hit]
  | join l =>
    simp only [R, wid]
    have : ∀ (l : List Nd), (∀ c ∈ l, R [] (wid b c) = R [] c) → RJ [] (wids b l) = RJ [] l := by
      intro l
      induction l with
      | nil => intro _; rfl
      | cons c l ihl =>
        intro hl
        funext i j
        simp only [wids, RJ, hl c (by simp), ihl fun c hc => hl c (by simp [hc])]
    exact this l fun c hc => ih c hc
  | uni l =>
    simp only [R, wid]
    have : ∀ (l : List Nd), (∀ c ∈ l, R [] (wid b c) = R [] c) → RU [] (wids b l) = RU [] l := by
      intro l
      induction l with
      | nil => intro _; rfl
      | cons c l ihl =>
        intro hl
        funext i j
        simp only [wids, RU, hl c (by simp), ihl fun c hc => hl c (by simp [hc])]
    exact this l fun c hc => ih c hc
  | star c => simp only [R, wid, ih c (by simp [Nd.kids])]
  | plus c => simp only [R, wid, ih c (by simp [Nd.kids])]
  | opt c => simp only [R, wid, ih c (by simp [Nd.kids])]
  | rep x y c => simp only [R, wid, ih c (by simp [Nd.kids])]
  | _ => rfl
theorem In_wid0 {n : Nd} {b : Nat} : In (wid b n) [] ↔ In n [] := by simp only [In, R_wid0]

/-! ### How many words -/
theorem words_cong {n : Nd} {most : Nat} {p : List Int → Bool} (h : ∀ t, t ≤ most → ∀ w ∈ wl t, (In n w ↔ p w = true)) : wordsN n most = ((List.range (most + 1)).flatMap wl).filter p := by
  refine List.filter_congr fun w hw => ?_
  simp only [List.mem_flatMap, List.mem_range] at hw
  obtain ⟨t, h1, h2⟩ := hw
  have := h t (by omega) w h2
  cases hp : p w with
  | true => simp [this.2 hp]
  | false => simp [show ¬ In n w from fun q => by rw [this.1 q] at hp; cases hp]
theorem filter_flatMap {α : Type} (l : List Nat) (f : Nat → List α) (p : α → Bool) : (l.flatMap f).filter p = l.flatMap fun t => (f t).filter p := by
  induction l with
  | nil => rfl
  | cons a l ih => simp [ih]
def bN (b : Bool) : Nat := if b then 1 else 0
/-- How many modes a set has. -/
def manyN (s : Nat) : Nat := bN (s.testBit 0) + bN (s.testBit 1) + bN (s.testBit 2) + bN (s.testBit 3) + bN (s.testBit 4)
def sel (p0 p1 p2 p3 p4 : Bool) (c : Int) : Bool := if c = 0 then p0 else if c = 1 then p1 else if c = 2 then p2 else if c = 3 then p3 else p4
def selS (s : Nat) (c : Int) : Bool := sel (s.testBit 0) (s.testBit 1) (s.testBit 2) (s.testBit 3) (s.testBit 4) c
theorem selS_eq {s : Nat} {c : Int} (h0 : 0 ≤ c) (h5 : c < 5) : selS s c = s.testBit c.toNat := by
  have : c = 0 ∨ c = 1 ∨ c = 2 ∨ c = 3 ∨ c = 4 := by omega
  rcases this with rfl | rfl | rfl | rfl | rfl <;> rfl
def p1 (f : Int → Bool) : List Int → Bool
  | [c] => f c
  | _ => false
def p2 (f g : Int → Bool) : List Int → Bool
  | [c, d] => f c && g d
  | _ => false
theorem c1 : ∀ p0 p1' p2' p3 p4 : Bool, ((wl 1).filter (p1 (sel p0 p1' p2' p3 p4))).length = bN p0 + bN p1' + bN p2' + bN p3 + bN p4 := by decide +kernel
theorem c2 : ∀ p0 p1' p2' p3 p4 q0 q1 q2 q3 q4 : Bool, ((wl 2).filter (p2 (sel p0 p1' p2' p3 p4) (sel q0 q1 q2 q3 q4))).length = (bN p0 + bN p1' + bN p2' + bN p3 + bN p4) * (bN q0 + bN q1 + bN q2 + bN q3 + bN q4) := by decide +kernel
theorem filter_none {t : Nat} {p : List Int → Bool} (h : ∀ w : List Int, w.length = t → p w = false) : (wl t).filter p = [] := by
  rw [List.filter_eq_nil_iff]
  intro w hw
  rw [h w (wl_mem.1 hw).1]; simp
theorem p1_ne {f : Int → Bool} {t : Nat} (ht : t ≠ 1) (w : List Int) (h : w.length = t) : p1 f w = false := by
  match w, h with
  | [], _ => rfl
  | [c], h => simp at h; omega
  | _ :: _ :: _, _ => rfl
theorem p2_ne {f g : Int → Bool} {t : Nat} (ht : t ≠ 2) (w : List Int) (h : w.length = t) : p2 f g w = false := by
  match w, h with
  | [], _ => rfl
  | [c], _ => rfl
  | [c, d], h => simp at h; omega
  | _ :: _ :: _ :: _, _ => rfl
theorem In_p1 {s : Nat} {w : List Int} (hw : ∀ c ∈ w, 0 ≤ c ∧ c < 5) : In (.set s) w ↔ p1 (selS s) w = true := by
  rw [In_set]
  constructor
  · rintro ⟨c, rfl, h0, h5, hb⟩
    show selS s c = true
    rw [selS_eq h0 h5, hb]
  · intro h
    match w, hw, h with
    | [c], hw, h =>
      have hc := hw c (by simp)
      exact ⟨c, rfl, hc.1, hc.2, by rw [← selS_eq hc.1 hc.2]; exact h⟩
theorem In_p2 {x y : Nat} {w : List Int} (hw : ∀ c ∈ w, 0 ≤ c ∧ c < 5) : In (.join [.set x, .set y]) w ↔ p2 (selS x) (selS y) w = true := by
  rw [In_join]
  constructor
  · rintro ⟨i, hi, h1, h2⟩
    obtain ⟨c, e1, c0, c5, cb⟩ := In_set.1 h1
    obtain ⟨d, e2, d0, d5, db⟩ := In_set.1 h2
    have : w = [c, d] := by rw [← List.take_append_drop i w, e1, e2]; rfl
    subst this
    show (selS x c && selS y d) = true
    rw [selS_eq c0 c5, selS_eq d0 d5, cb, db]; rfl
  · intro h
    match w, hw, h with
    | [c, d], hw, h =>
      have hc := hw c (by simp)
      have hd := hw d (by simp)
      have h' : (selS x c && selS y d) = true := h
      rw [Bool.and_eq_true, selS_eq hc.1 hc.2, selS_eq hd.1 hd.2] at h'
      exact ⟨1, by simp, In_set.2 ⟨c, rfl, hc.1, hc.2, h'.1⟩, In_set.2 ⟨d, rfl, hd.1, hd.2, h'.2⟩⟩
theorem count_set {s most : Nat} (hm : most ≤ 3) : (wordsN (.set s) most).length = if most < 1 then 0 else manyN s := by
  rw [words_cong (p := p1 (selS s)) fun t _ w hw => In_p1 (wl_mem.1 hw).2, filter_flatMap]
  have h1 : ((wl 1).filter (p1 (selS s))).length = manyN s := c1 ..
  have hn : ∀ t, t ≠ 1 → (wl t).filter (p1 (selS s)) = [] := fun t ht => filter_none (p1_ne ht)
  have : most = 0 ∨ most = 1 ∨ most = 2 ∨ most = 3 := by omega
  rcases this with rfl | rfl | rfl | rfl <;> simp [List.range_succ, hn, h1]
theorem count_join {x y most : Nat} (hm : most ≤ 3) : (wordsN (.join [.set x, .set y]) most).length = if most < 2 then 0 else manyN x * manyN y := by
  rw [words_cong (p := p2 (selS x) (selS y)) fun t _ w hw => In_p2 (wl_mem.1 hw).2, filter_flatMap]
  have h1 : ((wl 2).filter (p2 (selS x) (selS y))).length = manyN x * manyN y := c2 ..
  have hn : ∀ t, t ≠ 2 → (wl t).filter (p2 (selS x) (selS y)) = [] := fun t ht => filter_none (p2_ne ht)
  have : most = 0 ∨ most = 1 ∨ most = 2 ∨ most = 3 := by omega
  rcases this with rfl | rfl | rfl | rfl <;> simp [List.range_succ, hn, h1]
theorem count_all {most : Nat} : wordsN (.star (.set 31)) most = (List.range (most + 1)).flatMap wl := by
  rw [words_cong (p := fun _ => true) fun t _ w hw => ⟨fun _ => rfl, fun _ => In_all (wl_mem.1 hw).2⟩]
  simp
end Go.Gm

set_option linter.unusedVariables false
set_option linter.unusedSimpArgs false
namespace Go.Gm
/- Raw expressions: trees of two numbers, and how they lie in a heap. -/

inductive Rw where
  | mk (k n : Int) (l : List Rw)
  deriving Inhabited
def Rw.kids : Rw → List Rw
  | .mk _ _ l => l
theorem Rw.kid_lt {c r : Rw} (h : c ∈ r.kids) : SizeOf.sizeOf c < SizeOf.sizeOf r := by
  cases r with
  | mk k n l => have := List.sizeOf_lt_of_mem (show c ∈ l from h); simp only [Rw.mk.sizeOf_spec]; omega
theorem Rw.ind {p : Rw → Prop} (h : ∀ r, (∀ c ∈ r.kids, p c) → p r) (r : Rw) : p r := by
  have : ∀ (N : Nat) (r : Rw), SizeOf.sizeOf r ≤ N → p r := by
    intro N
    induction N with
    | zero => intro r hr; exact h r fun c hc => by have := Rw.kid_lt hc; omega
    | succ N ih => intro r hr; exact h r fun c hc => ih c (by have := Rw.kid_lt hc; omega)
  exact this _ r (Nat.le_refl _)
mutual
inductive RV (h : Heap) : Rw → List AV → Prop
  | mk {k n : Int} {l : List Rw} {s : AV} {css : List (List AV)} : Sl h 3 s css → RVs h l css → RV h (.mk k n l) [I k, I n, s]
inductive RVs (h : Heap) : List Rw → List (List AV) → Prop
  | nil : RVs h [] []
  | cons {r : Rw} {cs : List AV} {l : List Rw} {css : List (List AV)} : RV h r cs → RVs h l css → RVs h (r :: l) (cs :: css)
end
mutual
theorem RV.ext {h h' : Heap} (e : Ext h h') : ∀ {r : Rw} {cs : List AV}, RV h r cs → RV h' r cs
  | _, _, .mk a b => .mk (a.ext e) (RVs.ext e b)
theorem RVs.ext {h h' : Heap} (e : Ext h h') : ∀ {l : List Rw} {css : List (List AV)}, RVs h l css → RVs h' l css
  | _, _, .nil => .nil
  | _, _, .cons a b => .cons (RV.ext e a) (RVs.ext e b)
end
theorem RVs.len {h : Heap} : ∀ {l : List Rw} {css : List (List AV)}, RVs h l css → l.length = css.length
  | _, _, .nil => rfl
  | _, _, .cons _ b => by simp [RVs.len b]
theorem RVs.get {h : Heap} : ∀ {l : List Rw} {css : List (List AV)}, RVs h l css → ∀ {i : Nat} {r : Rw}, l[i]? = some r → ∃ cs, css[i]? = some cs ∧ RV h r cs
  | _, _, .nil, i, r, q => by simp at q
  | _, _, .cons a b, 0, r, q => by
    simp only [List.getElem?_cons_zero, Option.some.injEq] at q
    subst q; exact ⟨_, rfl, a⟩
  | _, _, .cons a b, i + 1, r, q => by
    obtain ⟨cs, h1, h2⟩ := RVs.get b (i := i) (by simpa using q)
    exact ⟨cs, by simpa using h1, h2⟩
theorem RV.len {h : Heap} {r : Rw} {cs : List AV} (a : RV h r cs) : cs.length = 3 := by cases a; rfl
theorem RV.one {h : Heap} {r : Rw} {cs : List AV} (a : RV h r cs) : cs.all AV.one = true := by
  cases a with
  | mk a b => simp only [List.all_cons, List.all_nil, one_int, a.one, Bool.and_self]

end Go.Gm

set_option linter.unusedVariables false
set_option linter.unusedSimpArgs false
namespace Go.Gm
/- How a statement's call begins: rows of raw expressions that came in. -/

structure RawTy (P : Program) (T E I3 : TypeId) : Prop where
  t : P.underlying T = some (.slice E)
  e : ∃ f0 f1 f2 : Field, P.underlying E = some (.struct #[f0, f1, f2]) ∧ f0.type = I3 ∧ f0.offset = 0 ∧ f1.type = I3 ∧ f1.offset = 1 ∧ f2.type = T ∧ f2.offset = 2
  i : P.underlying I3 = some (.int .i64)
  ce : P.cellsOf E = 3
  ci : P.cellsOf I3 = 1
  ct : P.cellsOf T = 1
/-- These lie in L, from o on. -/
def Emb (F : List (List AV × Option Loc)) (o : Nat) (L : List (List AV × Option Loc)) : Prop := ∀ (i : Nat) p, F[i]? = some p → L[o + i]? = some p
theorem Emb.head {p : List AV × Option Loc} {F L : List (List AV × Option Loc)} {o : Nat} (e : Emb (p :: F) o L) : L[o]? = some p := e 0 p rfl
theorem Emb.tail {p : List AV × Option Loc} {F L : List (List AV × Option Loc)} {o : Nat} (e : Emb (p :: F) o L) : Emb F (o + 1) L := fun i q h => by
  have := e (i + 1) q (by simpa using h)
  rwa [show o + (i + 1) = o + 1 + i by omega] at this
theorem Emb.left {F G L : List (List AV × Option Loc)} {o : Nat} (e : Emb (F ++ G) o L) : Emb F o L := fun i q h => e i q (by rw [List.getElem?_append_left (List.getElem?_eq_some_iff.1 h).1]; exact h)
theorem Emb.right {F G L : List (List AV × Option Loc)} {o : Nat} (e : Emb (F ++ G) o L) : Emb G (o + F.length) L := fun i q h => by
  have := e (F.length + i) q (by rw [List.getElem?_append_right (by omega), Nat.add_sub_cancel_left]; exact h)
  rwa [show o + (F.length + i) = o + F.length + i by omega] at this

section
variable {H : Type} {enc : TypeId × Value → H} {P : Program} {T E I3 : TypeId} {W : World}
/-- What a row that came in comes to. -/
def Came (W : World) (a : Option Addr) (len cap : Nat) (o : Nat) (F : List (List AV × Option Loc)) (v : AV) (rs : List Rw) (css : List (List AV)) : Prop :=
  ∀ L, Emb F o L → (∀ p ∈ F, EntOk W (initR L) p) ∧ VR (initR L) v (.slice a len cap) ∧ Sl (initH L) 3 v css ∧ RVs (initH L) rs css
theorem RVs.snoc {h : Heap} {r : Rw} {cs : List AV} (a : RV h r cs) : ∀ {l : List Rw} {css : List (List AV)}, RVs h l css → RVs h (l ++ [r]) (css ++ [cs])
  | _, _, .nil => .cons a .nil
  | _, _, .cons x y => .cons x (RVs.snoc a y)
theorem rawsArg (ty : RawTy P T E I3) : ∀ (fuel : Nat) (cs : List Value) (x : DataW H × List MemPlace), DataW.trod enc P W 0 (fun _ => true) true fuel T cs = some x →
    ∃ (a : Option Addr) (len cap : Nat), cs = [.slice a len cap] ∧ ∀ o, ∃ F v rs css, Came W a len cap o F v rs css := by
  intro fuel
  induction fuel using Nat.strongRecOn with
  | _ fuel ih =>
  intro cs x hx
  rcases DataW.trod_slice ty.t hx with ⟨rfl, _⟩ | ⟨a, len, cap, elems, rest, n, rfl, rfl, _, _, hl, hm, hel, hE, hR, _⟩
  · exact ⟨none, 0, 0, rfl, fun o => ⟨[], .nils, [], [], fun L _ => ⟨fun p hp => by simp at hp, .nils, .inl ⟨rfl, rfl⟩, .nil⟩⟩⟩
  · refine ⟨some a, len, cap, rfl, fun o => ?_⟩
    obtain ⟨hrl, hR⟩ := hR rfl
    by_cases hc : cap = 0
    · subst hc
      obtain rfl : len = 0 := by omega
      refine ⟨[([], none)], .sl o 0 0 3 (some 0) 0, [], [], fun L hL => ⟨fun p hp l q => ?_, .sl0 (fun q => by cases q) (fun c q => by injection q with q; exact q.symm), ?_, .nil⟩⟩
      · rw [List.mem_singleton.1 hp] at q; cases q
      · exact .inr ⟨o, 0, some 0, 0, ⟨[], 0, 0, true⟩, rfl, by simp [initH, hL.head, roObj], Nat.le_refl _, rfl, fun x hx => by simp at hx⟩
    · -- each element's three cells
      have each : ∀ i, i < cap → ∃ c3 y, W.cells? 0 (a.add (i * 3)) 3 = some c3 ∧ DataW.trod enc P W 0 (fun _ => true) true n E c3 = some y := by
        intro i hi
        by_cases hil : i < len
        · have h1 := hE i hil
          rw [List.getElem?_eq_getElem (by omega), Option.bind_eq_some_iff, ty.ce] at h1
          obtain ⟨c3, h2, h3⟩ := h1
          exact ⟨c3, _, h2, h3⟩
        · have h1 := hR (i - len) (by omega)
          rw [List.getElem?_eq_getElem (by omega), Option.bind_eq_some_iff, ty.ce, show len + (i - len) = i by omega] at h1
          obtain ⟨c3, h2, h3⟩ := h1
          exact ⟨c3, _, h2, h3⟩
      obtain ⟨b, off, spot⟩ := a
      have hspot : spot = none := by
        obtain ⟨c3, y, h1, _⟩ := each 0 (by omega)
        obtain ⟨_, h2, h3⟩ := World.cells?_some h1
        have h4 := h3 0 (by omega)
        rw [List.getElem?_eq_getElem (by omega)] at h4
        have := World.cell?_spot h4
        simpa [Addr.add] using this
      subst hspot
      -- the cells, one by one
      have cell : ∀ i, i < cap → ∃ (k m : Int) (s : Value) (y : DataW H × List MemPlace) (n' : Nat), n' < n + 1 ∧ W.cell? ⟨b, off + i * 3, none⟩ = some (.int .i64 k) ∧ W.cell? ⟨b, off + i * 3 + 1, none⟩ = some (.int .i64 m) ∧ W.cell? ⟨b, off + i * 3 + 2, none⟩ = some s ∧
          DataW.trod enc P W 0 (fun _ => true) true n' T [s] = some y := by
        intro i hi
        obtain ⟨c3, y, h1, h2⟩ := each i hi
        obtain ⟨_, h3, h4⟩ := World.cells?_some h1
        obtain ⟨f0, f1, f2, e0, t0, o0, t1, o1, t2, o2⟩ := ty.e
        obtain ⟨xs, n', rfl, _, _, hxl, hf⟩ := DataW.trod_struct e0 h2
        match c3, h3 with
        | [v0, v1, v2], _ =>
        have g0 := hf 0 f0 rfl
        have g1 := hf 1 f1 rfl
        have g2 := hf 2 f2 rfl
        simp only [List.size_toArray, List.length_cons, List.length_nil] at hxl
        rw [t0, o0, ty.ci] at g0
        rw [t1, o1, ty.ci] at g1
        rw [t2, o2, ty.ct] at g2
        simp only [List.drop_zero, List.drop_succ_cons, List.take_succ_cons, List.take_zero] at g0 g1 g2
        rw [List.getElem?_eq_getElem (by omega)] at g0 g1 g2
        obtain ⟨k, q0, _, _⟩ := DataW.trod_int ty.i g0
        obtain ⟨m, q1, _, _⟩ := DataW.trod_int ty.i g1
        have c0 := h4 0 (by omega)
        have c1 := h4 1 (by omega)
        have c2 := h4 2 (by omega)
        rw [Go.WideShapes.add_plain, Go.WideShapes.add_plain] at c0 c1 c2
        simp only [List.cons.injEq, and_true] at q0 q1
        subst q0 q1
        exact ⟨k, m, v2, _, n', by omega, by simpa using c0, by simpa using c1, by simpa using c2, g2⟩
      obtain ⟨C, e, fr, hb⟩ : ∃ C e fr, W.heap[b]? = some (.cells C e fr) := by
        obtain ⟨k, m, s, y, n', _, h1, _⟩ := cell 0 (by omega)
        simp only [World.cell?] at h1
        cases hh : W.heap[b]? with
        | none => rw [hh] at h1; cases h1
        | some ob =>
          cases ob with
          | cells C e fr => exact ⟨C, e, fr, rfl⟩
          | _ => rw [hh] at h1; cases h1
      have cellC : ∀ j v, W.cell? ⟨b, j, none⟩ = some v → C[j]? = some v := fun j v h => by simpa [World.cell?, hb] using h
      have hN : off + cap * 3 ≤ C.size := by
        obtain ⟨k, m, s, y, n', _, _, _, h1, _⟩ := cell (cap - 1) (by omega)
        have := (Array.getElem?_eq_some_iff.1 (cellC _ _ h1)).1
        omega
      have rec_ : ∀ m, m ≤ len → ∀ o', ∃ (F : List (List AV × Option Loc)) (rs : List Rw) (css : List (List AV)), css.length = m ∧ (∀ c ∈ css, c.length = 3) ∧
          ∀ L, Emb F o' L → (∀ p ∈ F, EntOk W (initR L) p) ∧ RVs (initH L) rs css ∧ ∀ j, j < m * 3 → ∃ x v, css.flatten[j]? = some x ∧ C[off + j]? = some v ∧ VR (initR L) x v ∧ x.one = true := by
        intro m
        induction m with
        | zero => intro _ o'; exact ⟨[], [], [], rfl, fun c hc => by simp at hc, fun L _ => ⟨fun p hp => by simp at hp, .nil, fun j hj => by omega⟩⟩
        | succ m ihm =>
          intro hml o'
          obtain ⟨F, rs, css, h1, h2, h3⟩ := ihm (by omega) o'
          obtain ⟨k, mm, s, y, n', hn', c0, c1, c2, ht⟩ := cell m (by omega)
          obtain ⟨a', len', cap', es, hin⟩ := ih n' hn' [s] y ht
          obtain ⟨G, v, rs', css', hcame⟩ := hin (o' + F.length)
          simp only [List.cons.injEq, and_true] at es
          subst es
          refine ⟨F ++ G, rs ++ [.mk k mm rs'], css ++ [[I k, I mm, v]], by simp [h1], fun c hc => ?_, fun L hL => ?_⟩
          · rcases List.mem_append.1 hc with hc | hc
            · exact h2 c hc
            · rw [List.mem_singleton.1 hc]; rfl
          · obtain ⟨k1, k2, k3⟩ := h3 L hL.left
            obtain ⟨k4, k5, k6, k7⟩ := hcame L hL.right
            have hfl := flatten_len h2
            rw [h1] at hfl
            refine ⟨fun p hp => (List.mem_append.1 hp).elim (k1 p) (k4 p), k2.snoc (.mk k6 k7), fun j hj => ?_⟩
            rw [List.flatten_append]
            by_cases hjm : j < m * 3
            · obtain ⟨x, v', q1, q2⟩ := k3 j hjm
              exact ⟨x, v', by rw [List.getElem?_append_left (by omega)]; exact q1, q2⟩
            · rw [List.getElem?_append_right (by omega), hfl]
              have hj3 : j - m * 3 = 0 ∨ j - m * 3 = 1 ∨ j - m * 3 = 2 := by omega
              rcases hj3 with hj3 | hj3 | hj3
              · rw [hj3]
                exact ⟨I k, _, rfl, by rw [show off + j = off + m * 3 by omega]; exact cellC _ _ c0, .int _ _, rfl⟩
              · rw [hj3]
                exact ⟨I mm, _, rfl, by rw [show off + j = off + m * 3 + 1 by omega]; exact cellC _ _ c1, .int _ _, rfl⟩
              · rw [hj3]
                exact ⟨v, _, rfl, by rw [show off + j = off + m * 3 + 2 by omega]; exact cellC _ _ c2, k5, k6.one⟩
      obtain ⟨F, rs, css, h1, h2, h3⟩ := rec_ len (Nat.le_refl _) (o + 1)
      have hfl := flatten_len h2
      rw [h1] at hfl
      refine ⟨(css.flatten, some ⟨b, off, C.size, len * 3⟩) :: F, .sl o 0 len 3 (some cap) 0, rs, css, fun L hL => ?_⟩
      obtain ⟨k1, k2, k3⟩ := h3 L hL.tail
      have hLo := hL.head
      refine ⟨fun p hp => ?_, ?_, ?_, k2⟩
      · rcases List.mem_cons.1 hp with rfl | hp
        · intro l hl'
          injection hl' with hl'
          subst hl'
          exact ⟨C, e, fr, hb, rfl, by simp [hfl], by simp [hfl], by simp; omega, fun i hi => k3 i hi⟩
        · exact k1 p hp
      · refine VR.sl (l := ⟨b, off, C.size, len * 3⟩) ?_ (by simp) hl hm (by simp; exact hN) (fun c q => by injection q)
        simp [initR, hLo]
      · refine .inr ⟨o, 0, some cap, 0, ⟨css.flatten, 0, 0, true⟩, by rw [h1], by simp [initH, hLo, roObj], Nat.le_refl _, ?_, h2⟩
        rw [List.drop_zero, h1]
        exact List.take_of_length_le (by rw [hfl]; exact Nat.le_refl _)
end
end Go.Gm
