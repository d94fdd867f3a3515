/- A part of the proof: GmLg: an abstract machine, what it does, and what the functions of the program come to on it. -/
import Derived.Test.YtdpmglimjmecgaaGmWd
set_option linter.unusedVariables false
set_option linter.unusedSimpArgs false
namespace Go.Gm


/-! ### Languages. Plain Lean. -/
theorem In_eps {w : List Int} : In .eps w ↔ w = [] := by
  simp only [In, R]
  constructor
  · intro h; exact List.eq_nil_of_length_eq_zero h.symm
  · rintro rfl; rfl
theorem In_emp {w : List Int} : ¬ In .emp w := by simp [In, R]
theorem In_set {s : Nat} {w : List Int} : In (.set s) w ↔ ∃ c, w = [c] ∧ 0 ≤ c ∧ c < 5 ∧ s.testBit c.toNat = true := by
  simp only [In, R, hit]
  constructor
  · rintro ⟨⟨c, h1, h2⟩, h3⟩
    match w, h1, h3 with
    | [x], h1, _ => simp at h1; subst h1; exact ⟨x, rfl, h2⟩
  · rintro ⟨c, rfl, h⟩
    exact ⟨⟨c, rfl, h⟩, rfl⟩
theorem Star.iff {r : Nat → Nat → Prop} {i j : Nat} : Star r i j ↔ i = j ∨ ∃ m, r i m ∧ Star r m j := by
  constructor
  · intro h
    induction h with
    | refl => exact .inl rfl
    | tail a b ih =>
      rcases ih with rfl | ⟨m, u1, u2⟩
      · exact .inr ⟨_, b, .refl _⟩
      · exact .inr ⟨m, u1, .tail u2 b⟩
  · rintro (rfl | ⟨m, h1, h2⟩)
    · exact .refl _
    · exact .head h1 h2

section
variable {k L : Nat} {r r' : Nat → Nat → Prop}
theorem Star.up (h : ∀ i j, r' i j → r (k + i) (k + j)) {i j : Nat} (a : Star r' i j) : Star r (k + i) (k + j) := by
  induction a with
  | refl => exact .refl _
  | tail _ b ih => exact .tail ih (h _ _ b)
theorem Pow.up (h : ∀ i j, r' i j → r (k + i) (k + j)) : ∀ {t i j : Nat}, Pow r' t i j → Pow r t (k + i) (k + j)
  | 0, i, j, a => by cases a; exact rfl
  | t + 1, i, j, ⟨m, a, b⟩ => ⟨k + m, Pow.up h a, h _ _ b⟩
theorem Star.dn (hm : ∀ i j, r i j → i ≤ j) (h : ∀ i y, r (k + i) y → y ≤ k + L → ∃ j, y = k + j ∧ r' i j) {x y : Nat} (a : Star r x y) : ∀ i, x = k + i → y ≤ k + L → ∃ j, y = k + j ∧ Star r' i j := by
  induction a with
  | refl => intro i hi _; exact ⟨i, hi, .refl _⟩
  | tail _ b ih =>
    intro i hi hy
    obtain ⟨j, rfl, h1⟩ := ih i hi (Nat.le_trans (hm _ _ b) hy)
    obtain ⟨j', rfl, h2⟩ := h _ _ b hy
    exact ⟨j', rfl, .tail h1 h2⟩
theorem Pow.dn (hm : ∀ i j, r i j → i ≤ j) (h : ∀ i y, r (k + i) y → y ≤ k + L → ∃ j, y = k + j ∧ r' i j) : ∀ {t i y : Nat}, Pow r t (k + i) y → y ≤ k + L → ∃ j, y = k + j ∧ Pow r' t i j
  | 0, i, y, a, _ => ⟨i, (show k + i = y from a).symm, rfl⟩
  | t + 1, i, y, ⟨m, a, b⟩, hy => by
    obtain ⟨j, rfl, h1⟩ := Pow.dn hm h a (Nat.le_trans (hm _ _ b) hy)
    obtain ⟨j', rfl, h2⟩ := h _ _ b hy
    exact ⟨j', rfl, j, h1, h2⟩
end
section
variable (u v z : List Int)
theorem hit_mid {s i : Nat} (hi : i < v.length) : hit (u ++ v ++ z) s (u.length + i) ↔ hit v s i := by
  have : (u ++ v ++ z)[u.length + i]? = v[i]? := by
    rw [List.append_assoc, List.getElem?_append_right (by omega), Nat.add_sub_cancel_left, List.getElem?_append_left hi]
  simp only [hit, this]
theorem hit_lt {w : List Int} {s i : Nat} (h : hit w s i) : i < w.length := by
  obtain ⟨c, h1, _⟩ := h
  exact (List.getElem?_eq_some_iff.1 h1).1
/-- A part of a word, within the word. -/
theorem R_up (n : Nd) : ∀ i j, R v n i j → R (u ++ v ++ z) n (u.length + i) (u.length + j) := by
  refine Nd.ind (p := fun n => ∀ i j, R v n i j → R (u ++ v ++ z) n (u.length + i) (u.length + j)) ?_ n
  intro n ih i j h
  cases n with
  | set s =>
    simp only [R] at h ⊢
    exact ⟨(hit_mid u v z (hit_lt h.1)).2 h.1, by omega⟩
  | emp => simp only [R] at h
  | eps => simp only [R] at h ⊢; omega
  | join l =>
    simp only [R] at h ⊢
    have : ∀ (l : List Nd), (∀ c ∈ l, ∀ i j, R v c i j → R (u ++ v ++ z) c (u.length + i) (u.length + j)) → ∀ i j, RJ v l i j → RJ (u ++ v ++ z) l (u.length + i) (u.length + j) := by
      intro l
      induction l with
      | nil => intro _ i j h; simp only [RJ] at h ⊢; omega
      | cons c l ihl =>
        rintro hl i j ⟨m, h1, h2⟩
        exact ⟨_, hl c (by simp) _ _ h1, ihl (fun c hc => hl c (by simp [hc])) _ _ h2⟩
    exact this l (fun c hc => ih c hc) i j h
  | uni l =>
    simp only [R] at h ⊢
    obtain ⟨c, hc, h⟩ := RU_iff.1 h
    exact RU_iff.2 ⟨c, hc, ih c hc _ _ h⟩
  | star c => simp only [R] at h ⊢; exact h.up (ih c (by simp [Nd.kids]))
  | plus c =>
    simp only [R] at h ⊢
    obtain ⟨m, h1, h2⟩ := h
    exact ⟨_, ih c (by simp [Nd.kids]) _ _ h1, h2.up (ih c (by simp [Nd.kids]))⟩
  | opt c =>
    simp only [R] at h ⊢
    rcases h with rfl | h
    · exact .inl rfl
    · exact .inr (ih c (by simp [Nd.kids]) _ _ h)
  | rep a b c =>
    simp only [R] at h ⊢
    obtain ⟨t, h1, h2, h⟩ := h
    exact ⟨t, h1, h2, Pow.up (ih c (by simp [Nd.kids])) h⟩
theorem R_mono {w : List Int} (n : Nd) (i j : Nat) (h : R w n i j) : i ≤ j := (R_le n i j h).1
theorem R_dn (n : Nd) : ∀ i y, R (u ++ v ++ z) n (u.length + i) y → y ≤ u.length + v.length → ∃ j, y = u.length + j ∧ R v n i j := by
  refine Nd.ind (p := fun n => ∀ i y, R (u ++ v ++ z) n (u.length + i) y → y ≤ u.length + v.length → ∃ j, y = u.length + j ∧ R v n i j) ?_ n
  intro n ih i y h hy
  cases n with
  | set s =>
    simp only [R] at h ⊢
    obtain ⟨h1, h2⟩ := h
    exact ⟨i + 1, by omega, (hit_mid u v z (by omega)).1 h1, rfl⟩
  | emp => simp only [R] at h
  | eps => simp only [R] at h ⊢; exact ⟨i, by omega, rfl⟩
  | join l =>
    simp only [R] at h ⊢
    have : ∀ (l : List Nd), (∀ c ∈ l, ∀ i y, R (u ++ v ++ z) c (u.length + i) y → y ≤ u.length + v.length → ∃ j, y = u.length + j ∧ R v c i j) → ∀ i y, RJ (u ++ v ++ z) l (u.length + i) y → y ≤ u.length + v.length → ∃ j, y = u.length + j ∧ RJ v l i j := by
      intro l
      induction l with
      | nil => intro _ i y h _; simp only [RJ] at h ⊢; exact ⟨i, by omega, rfl⟩
      | cons c l ihl =>
        rintro hl i y ⟨m, h1, h2⟩ hy
        have hm := (RJ_le (fun c _ => R_le c) h2).1
        obtain ⟨j, rfl, k1⟩ := hl c (by simp) _ _ h1 (by omega)
        obtain ⟨j', rfl, k2⟩ := ihl (fun c hc => hl c (by simp [hc])) _ _ h2 hy
        exact ⟨j', rfl, j, k1, k2⟩
    exact this l (fun c hc => ih c hc) i y h hy
  | uni l =>
    simp only [R] at h ⊢
    obtain ⟨c, hc, h⟩ := RU_iff.1 h
    obtain ⟨j, h1, h2⟩ := ih c hc _ _ h hy
    exact ⟨j, h1, RU_iff.2 ⟨c, hc, h2⟩⟩
  | star c => simp only [R] at h ⊢; exact Star.dn (L := v.length) (fun i j h => R_mono c i j h) (ih c (by simp [Nd.kids])) h i rfl hy
  | plus c =>
    simp only [R] at h ⊢
    obtain ⟨m, h1, h2⟩ := h
    have hle : m ≤ y := by
      have := h2.inv (P := fun j => m ≤ j) (fun a b q1 q2 => Nat.le_trans q1 (R_mono c a b q2)) (Nat.le_refl _)
      exact this
    obtain ⟨j, rfl, k1⟩ := ih c (by simp [Nd.kids]) _ _ h1 (by omega)
    obtain ⟨j', e, k2⟩ := Star.dn (L := v.length) (fun i j h => R_mono c i j h) (ih c (by simp [Nd.kids])) h2 j rfl hy
    exact ⟨j', e, j, k1, k2⟩
  | opt c =>
    simp only [R] at h ⊢
    rcases h with rfl | h
    · exact ⟨i, rfl, .inl rfl⟩
    · obtain ⟨j, h1, h2⟩ := ih c (by simp [Nd.kids]) _ _ h hy
      exact ⟨j, h1, .inr h2⟩
  | rep a b c =>
    simp only [R] at h ⊢
    obtain ⟨t, h1, h2, h⟩ := h
    obtain ⟨j, e, k⟩ := Pow.dn (L := v.length) (fun i j h => R_mono c i j h) (ih c (by simp [Nd.kids])) h hy
    exact ⟨j, e, t, h1, h2, k⟩
end
theorem R_take {w : List Int} {n : Nd} {m : Nat} (hm : m ≤ w.length) : R w n 0 m ↔ In n (w.take m) := by
  have h1 : (w.take m).length = m := by rw [List.length_take]; omega
  have h2 : [] ++ w.take m ++ w.drop m = w := by simp
  constructor
  · intro h
    obtain ⟨j, e, k⟩ := R_dn [] (w.take m) (w.drop m) n 0 m (by rw [h2]; simpa using h) (by simp; omega)
    simp only [List.length_nil, Nat.zero_add] at e
    subst e
    rw [In, h1]; exact k
  · intro h
    have := R_up [] (w.take m) (w.drop m) n _ _ h
    rw [h2, h1] at this
    simpa using this
theorem R_drop {w : List Int} {n : Nd} {m : Nat} (hm : m ≤ w.length) : R w n m w.length ↔ In n (w.drop m) := by
  have h1 : (w.take m).length = m := by rw [List.length_take]; omega
  have h2 : w.take m ++ w.drop m ++ [] = w := by simp
  have h3 : m + (w.drop m).length = w.length := by rw [List.length_drop]; omega
  constructor
  · intro h
    obtain ⟨j, e, k⟩ := R_dn (w.take m) (w.drop m) [] n 0 w.length (by rw [h2, h1]; simpa using h) (by rw [h1]; omega)
    rw [h1] at e
    rw [In, show (w.drop m).length = j by omega]; exact k
  · intro h
    have := R_up (w.take m) (w.drop m) [] n _ _ h
    rw [h2, h1, h3] at this
    simpa using this
theorem In_join {a b : Nd} {w : List Int} : In (.join [a, b]) w ↔ ∃ i, i ≤ w.length ∧ In a (w.take i) ∧ In b (w.drop i) := by
  simp only [In, R, RJ]
  constructor
  · rintro ⟨m, h1, m', h2, rfl⟩
    have hm := R_mono b _ _ h2
    exact ⟨m, hm, (R_take hm).1 h1, (R_drop hm).1 h2⟩
  · rintro ⟨m, hm, h1, h2⟩
    exact ⟨m, (R_take hm).2 h1, _, (R_drop hm).2 h2, rfl⟩
theorem In_join_app {a b : Nd} {u v : List Int} (h1 : In a u) (h2 : In b v) : In (.join [a, b]) (u ++ v) := In_join.2 ⟨u.length, by simp, by simpa using h1, by simpa using h2⟩
theorem In_uni {a b : Nd} {w : List Int} : In (.uni [a, b]) w ↔ In a w ∨ In b w := by simp [In, R, RU]
theorem In_opt {a : Nd} {w : List Int} : In (.opt a) w ↔ w = [] ∨ In a w := by
  simp only [In, R]
  refine or_congr ⟨fun h => List.eq_nil_of_length_eq_zero h.symm, fun h => by rw [h]; rfl⟩ Iff.rfl
theorem In_star {a : Nd} {w : List Int} : In (.star a) w ↔ w = [] ∨ In (.plus a) w := by
  simp only [In, R]
  rw [Star.iff]
  exact or_congr ⟨fun h => List.eq_nil_of_length_eq_zero h.symm, fun h => by rw [h]; rfl⟩ Iff.rfl
theorem In_star_app {a : Nd} {u v : List Int} (h1 : In (.star a) u) (h2 : In (.star a) v) : In (.star a) (u ++ v) := by
  have k1 := R_up [] u v (.star a) _ _ h1
  have k2 := R_up u v [] (.star a) _ _ h2
  simp only [List.nil_append, List.length_nil, Nat.zero_add, List.append_nil, Nat.add_zero, R] at k1 k2
  simp only [In, R, List.length_append]
  exact k1.trans k2
theorem In_star_nil {a : Nd} : In (.star a) [] := In_star.2 (.inl rfl)
/-- A word's numbers are modes. -/
theorem R_modes {w : List Int} (n : Nd) : ∀ i j, R w n i j → ∀ p, i ≤ p → p < j → ∃ c, w[p]? = some c ∧ 0 ≤ c ∧ c < 5 := by
  refine Nd.ind (p := fun n => ∀ i j, R w n i j → ∀ p, i ≤ p → p < j → ∃ c, w[p]? = some c ∧ 0 ≤ c ∧ c < 5) ?_ n
  intro n ih i j h p hp hj
  have star : ∀ c, (∀ i j, R w c i j → ∀ p, i ≤ p → p < j → ∃ c, w[p]? = some c ∧ 0 ≤ c ∧ c < 5) → ∀ i j, Star (R w c) i j → ∀ p, i ≤ p → p < j → ∃ c, w[p]? = some c ∧ 0 ≤ c ∧ c < 5 := by
    intro c hc i j hs
    induction hs with
    | refl => intro p _ _; omega
    | @tail m j a b ih =>
      intro p h1 h2
      by_cases h : p < m
      · exact ih p h1 h
      · exact hc _ _ b p (by omega) h2
  cases n with
  | set s =>
    simp only [R] at h
    obtain ⟨⟨c, h1, h2, h3, _⟩, rfl⟩ := h
    obtain rfl : p = i := by omega
    exact ⟨c, h1, h2, h3⟩
  | emp => simp only [R] at h
  | eps => simp only [R] at h; omega
  | join l =>
    simp only [R] at h
    have : ∀ (l : List Nd), (∀ c ∈ l, ∀ i j, R w c i j → ∀ p, i ≤ p → p < j → ∃ c, w[p]? = some c ∧ 0 ≤ c ∧ c < 5) → ∀ i j, RJ w l i j → ∀ p, i ≤ p → p < j → ∃ c, w[p]? = some c ∧ 0 ≤ c ∧ c < 5 := by
      intro l
      induction l with
      | nil => intro _ i j h p _ _; simp only [RJ] at h; omega
      | cons c l ihl =>
        rintro hl i j ⟨m, h1, h2⟩ p q1 q2
        by_cases hpm : p < m
        · exact hl c (by simp) _ _ h1 p q1 hpm
        · exact ihl (fun c hc => hl c (by simp [hc])) _ _ h2 p (by omega) q2
    exact this l (fun c hc => ih c hc) i j h p hp hj
  | uni l =>
    simp only [R] at h
    obtain ⟨c, hc, h⟩ := RU_iff.1 h
    exact ih c hc _ _ h p hp hj
  | star c => simp only [R] at h; exact star c (ih c (by simp [Nd.kids])) i j h p hp hj
  | plus c =>
    simp only [R] at h
    obtain ⟨m, h1, h2⟩ := h
    exact star c (ih c (by simp [Nd.kids])) i j (.head h1 h2) p hp hj
  | opt c =>
    simp only [R] at h
    rcases h with rfl | h
    · omega
    · exact ih c (by simp [Nd.kids]) _ _ h p hp hj
  | rep a b c =>
    simp only [R] at h
    obtain ⟨t, _, _, h⟩ := h
    exact star c (ih c (by simp [Nd.kids])) i j h.star p hp hj
theorem In_modes {n : Nd} {w : List Int} (h : In n w) : ∀ c ∈ w, 0 ≤ c ∧ c < 5 := by
  intro c hc
  obtain ⟨p, hp⟩ := List.getElem?_of_mem hc
  obtain ⟨c', h1, h2⟩ := R_modes n 0 _ h p (Nat.zero_le _) (List.getElem?_eq_some_iff.1 hp).1
  rw [hp] at h1; injection h1 with h1; subst h1; exact h2
theorem In_all {w : List Int} (h : ∀ c ∈ w, 0 ≤ c ∧ c < 5) : In (.star (.set 31)) w := by
  have : ∀ t, t ≤ w.length → Star (R w (.set 31)) 0 t := by
    intro t
    induction t with
    | zero => intro _; exact .refl _
    | succ t ih =>
      intro ht
      refine .tail (ih (by omega)) ?_
      have hc := h w[t] (List.getElem_mem (by omega))
      refine ⟨⟨w[t], List.getElem?_eq_getElem (by omega), hc.1, hc.2, ?_⟩, rfl⟩
      obtain ⟨m, hm⟩ : ∃ m : Nat, w[t] = m := ⟨w[t].toNat, by omega⟩
      rw [hm] at hc ⊢
      have : m = 0 ∨ m = 1 ∨ m = 2 ∨ m = 3 ∨ m = 4 := by omega
      rcases this with rfl | rfl | rfl | rfl | rfl <;> decide
  simp only [In, R]
  exact this _ (Nat.le_refl _)
end Go.Gm
