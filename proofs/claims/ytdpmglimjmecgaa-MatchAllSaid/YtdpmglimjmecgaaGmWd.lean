/- A part of the proof: GmWd: an abstract machine, what it does, and what the functions of the program come to on it. -/
import Derived.Test.YtdpmglimjmecgaaGmN
set_option linter.unusedVariables false
set_option linter.unusedSimpArgs false
namespace Go.Gm
/- All words of so many modes, in order. Plain Lean. -/

/-- One mode more behind each. -/
def longer (l : List (List Int)) : List (List Int) := l.flatMap fun w => [w ++ [0], w ++ [1], w ++ [2], w ++ [3], w ++ [4]]
/-- All of just so many. -/
def wl : Nat → List (List Int)
  | 0 => [[]]
  | t + 1 => longer (wl t)
theorem longer_append (a b : List (List Int)) : longer (a ++ b) = longer a ++ longer b := by simp [longer]
theorem longer_len : ∀ l : List (List Int), (longer l).length = 5 * l.length
  | [] => rfl
  | a :: l => by
    have := longer_len l
    simp only [longer, List.flatMap_cons, List.length_append, List.length_cons, List.length_nil] at this ⊢
    omega
theorem wl_len : ∀ t, (wl t).length = 5 ^ t
  | 0 => rfl
  | t + 1 => by rw [wl, longer_len, wl_len t, Nat.pow_succ]; omega
theorem wl_mem : ∀ {t : Nat} {w : List Int}, w ∈ wl t ↔ w.length = t ∧ ∀ c ∈ w, 0 ≤ c ∧ c < 5
  | 0, w => by
    simp only [wl, List.mem_singleton]
    constructor
    · rintro rfl; simp
    · rintro ⟨h, _⟩; exact List.eq_nil_of_length_eq_zero h
  | t + 1, w => by
    simp only [wl, longer, List.mem_flatMap, wl_mem (t := t), List.mem_cons, List.not_mem_nil, or_false]
    constructor
    · rintro ⟨v, ⟨h1, h2⟩, h⟩
      have hc : ∀ k : Int, 0 ≤ k → k < 5 → (v ++ [k]).length = t + 1 ∧ ∀ c ∈ v ++ [k], 0 ≤ c ∧ c < 5 := by
        intro k k0 k1
        refine ⟨by simp [h1], fun c hc => ?_⟩
        rcases List.mem_append.1 hc with hc | hc
        · exact h2 c hc
        · rw [List.mem_singleton.1 hc]; exact ⟨k0, k1⟩
      rcases h with rfl | rfl | rfl | rfl | rfl
      · exact hc 0 (by omega) (by omega)
      · exact hc 1 (by omega) (by omega)
      · exact hc 2 (by omega) (by omega)
      · exact hc 3 (by omega) (by omega)
      · exact hc 4 (by omega) (by omega)
    · rintro ⟨h1, h2⟩
      have hne : w ≠ [] := by rintro rfl; simp at h1
      refine ⟨w.dropLast, ⟨by simp [h1], fun c hc => h2 c (List.dropLast_subset _ hc)⟩, ?_⟩
      have hl := h2 (w.getLast hne) (List.getLast_mem hne)
      have he : w.dropLast ++ [w.getLast hne] = w := List.dropLast_concat_getLast hne
      obtain ⟨k, hk⟩ : ∃ k, w.getLast hne = k := ⟨_, rfl⟩
      rw [hk] at hl he
      have : k = 0 ∨ k = 1 ∨ k = 2 ∨ k = 3 ∨ k = 4 := by omega
      rcases this with q | q | q | q | q <;> subst q <;> simp [he]
open Classical in
/-- A language's words, of no more than so many modes. -/
noncomputable def wordsN (n : Nd) (most : Nat) : List (List Int) := ((List.range (most + 1)).flatMap wl).filter fun w => decide (In n w)

/-! ### The word behind one -/
def incR : List Int → List Int × Bool
  | [] => ([], true)
  | c :: r => if c + 1 < 5 then ((c + 1) :: r, false) else (0 :: (incR r).1, (incR r).2)
/-- The word behind one, of as many modes; whether there was none. -/
def inc (w : List Int) : List Int × Bool := ((incR w.reverse).1.reverse, (incR w.reverse).2)
theorem inc_lt {w : List Int} {k : Int} (h : k + 1 < 5) : inc (w ++ [k]) = (w ++ [k + 1], false) := by simp [inc, incR, h]
theorem inc_ge {w : List Int} {k : Int} (h : ¬ k + 1 < 5) : inc (w ++ [k]) = ((inc w).1 ++ [0], (inc w).2) := by simp [inc, incR, h]
theorem inc_len (w : List Int) : (inc w).1.length = w.length := by
  have : ∀ r : List Int, (incR r).1.length = r.length := by
    intro r
    induction r with
    | nil => rfl
    | cons c r ih => simp only [incR]; split <;> simp [ih]
  simp [inc, this]
def zer (t : Nat) : List Int := List.replicate t 0
theorem zer_s (t : Nat) : zer t ++ [0] = zer (t + 1) := by simp [zer, List.replicate_succ']
/-- The next of all words. -/
def nxt (w : List Int) : List Int := if (inc w).2 then (inc w).1 ++ [0] else (inc w).1
/-- Each one's next is the one behind it; the last is the last of its length. -/
def Ch : List (List Int) → Prop
  | [] => False
  | [a] => inc a = (zer a.length, true)
  | a :: b :: l => inc a = (b, false) ∧ Ch (b :: l)
theorem ch_longer : ∀ {l : List (List Int)}, Ch l → Ch (longer l)
  | [], h => h.elim
  | [a], h => by
    have h1 : longer [a] = [a ++ [0], a ++ [1], a ++ [2], a ++ [3], a ++ [4]] := rfl
    rw [h1]
    refine ⟨inc_lt (by omega), inc_lt (by omega), inc_lt (by omega), inc_lt (by omega), ?_⟩
    show inc (a ++ [4]) = _
    rw [inc_ge (by omega), show inc a = _ from h, List.length_append, List.length_singleton, zer_s]
  | a :: b :: l, h => by
    have ih := ch_longer h.2
    have h1 : longer (a :: b :: l) = (a ++ [0]) :: (a ++ [1]) :: (a ++ [2]) :: (a ++ [3]) :: (a ++ [4]) :: longer (b :: l) := rfl
    have h2 : ∃ t, longer (b :: l) = (b ++ [0]) :: t := ⟨_, rfl⟩
    obtain ⟨t, h2⟩ := h2
    rw [h1]
    rw [h2] at ih ⊢
    refine ⟨inc_lt (by omega), inc_lt (by omega), inc_lt (by omega), inc_lt (by omega), ?_, ih⟩
    rw [inc_ge (by omega), h.1]
theorem ch_wl : ∀ t, Ch (wl t)
  | 0 => rfl
  | t + 1 => ch_longer (ch_wl t)
theorem wl_head : ∀ t, ∃ l, wl t = zer t :: l
  | 0 => ⟨_, rfl⟩
  | t + 1 => by
    obtain ⟨l, h⟩ := wl_head t
    rw [wl, h]
    refine ⟨?_, ?_⟩
    · exact (zer t ++ [1]) :: (zer t ++ [2]) :: (zer t ++ [3]) :: (zer t ++ [4]) :: longer l
    · rw [← zer_s]; rfl
/-- All words in a row: each one's next is there; the last has none. -/
def Good (most : Nat) : List (List Int) → Prop
  | [] => False
  | [a] => ((inc a).2 = true ∧ ¬ a.length < most)
  | a :: b :: l => nxt a = b ∧ ((inc a).2 = true → a.length < most) ∧ Good most (b :: l)
theorem good_app {most t : Nat} {r : List (List Int)} : ∀ {l : List (List Int)}, Ch l → (∀ a ∈ l, a.length = t) → t < most → Good most (zer (t + 1) :: r) → Good most (l ++ zer (t + 1) :: r)
  | [], h, _, _, _ => h.elim
  | [a], h, ha, ht, hr => by
    have h1 := ha a (by simp)
    refine ⟨?_, fun _ => by omega, hr⟩
    simp only [nxt, show inc a = _ from h, if_true, h1, zer_s]
  | a :: b :: l, h, ha, ht, hr => ⟨by simp [nxt, h.1], fun q => by rw [h.1] at q; simp at q, good_app h.2 (fun x hx => ha x (by simp [hx])) ht hr⟩
theorem good_last {most : Nat} : ∀ {l : List (List Int)}, Ch l → (∀ a ∈ l, a.length = most) → Good most l
  | [], h, _ => h.elim
  | [a], h, ha => ⟨by rw [show inc a = _ from h], by rw [ha a (by simp)]; omega⟩
  | a :: b :: l, h, ha => ⟨by simp [nxt, h.1], fun q => by rw [h.1] at q; simp at q, good_last h.2 fun x hx => ha x (by simp [hx])⟩
theorem good_all : ∀ (d t : Nat), ∃ r, ((List.range' t (d + 1)).flatMap wl) = zer t :: r ∧ Good (t + d) (zer t :: r)
  | 0, t => by
    obtain ⟨l, h⟩ := wl_head t
    refine ⟨l, by simp [List.range'_one, h], ?_⟩
    rw [← h]
    exact good_last (ch_wl t) fun a ha => (wl_mem.1 ha).1
  | d + 1, t => by
    obtain ⟨l, h⟩ := wl_head t
    obtain ⟨r, h1, h2⟩ := good_all d (t + 1)
    refine ⟨l ++ zer (t + 1) :: r, ?_, ?_⟩
    · rw [List.range'_succ, List.flatMap_cons, h1, h]; rfl
    · have := good_app (most := t + (d + 1)) (ch_wl t) (fun a ha => (wl_mem.1 ha).1) (by omega) (show Good (t + (d + 1)) _ by rw [show t + (d + 1) = t + 1 + d by omega]; exact h2)
      rw [h] at this
      exact this
theorem good_words (most : Nat) : ∃ r, ((List.range (most + 1)).flatMap wl) = [] :: r ∧ Good most ([] :: r) := by
  obtain ⟨r, h1, h2⟩ := good_all most 0
  rw [← List.range_eq_range', Nat.zero_add] at *
  exact ⟨r, h1, h2⟩
theorem words_rng {most : Nat} {w : List Int} (h : w ∈ (List.range (most + 1)).flatMap wl) : w.length ≤ most ∧ ∀ c ∈ w, 0 ≤ c ∧ c < 5 := by
  simp only [List.mem_flatMap, List.mem_range] at h
  obtain ⟨t, h1, h2⟩ := h
  have := wl_mem.1 h2
  exact ⟨by omega, this.2⟩
end Go.Gm
