/- A part of the proof (GmEv): an abstract machine, what it does, and what the functions of the program come to on it. -/
import Derived.Test.YtdpmglimjmecgaaGmP5
set_option linter.unusedVariables false
set_option linter.unusedSimpArgs false
namespace Go.Gm
/- Words that are in a language, by reckoning. Plain Lean. -/

def hitB (w : List Int) (s i : Nat) : Bool := match w[i]? with
  | some c => decide (0 ≤ c) && decide (c < 5) && s.testBit c.toNat
  | none => false
theorem hitB_iff {w : List Int} {s i : Nat} (h : hitB w s i = true) : hit w s i := by
  simp only [hitB] at h
  split at h
  · rename_i c hc
    simp only [Bool.and_eq_true, decide_eq_true_eq] at h
    exact ⟨c, hc, h.1.1, h.1.2, h.2⟩
  · cases h
/-- From a place to a place: true only where it is so. -/
def evT (w : List Int) : Nat → Nd → Nat → Nat → Bool
  | 0, _, _, _ => false
  | f + 1, .set s, i, j => hitB w s i && (j == i + 1)
  | f + 1, .emp, _, _ => false
  | f + 1, .eps, i, j => i == j
  | f + 1, .join [], i, j => i == j
  | f + 1, .join (n :: r), i, j => (List.range (j + 1)).any fun m => evT w f n i m && evT w f (.join r) m j
  | f + 1, .uni l, i, j => l.any fun n => evT w f n i j
  | f + 1, .star n, i, j => (i == j) || (List.range (j + 1)).any fun m => evT w f n i m && evT w f (.star n) m j
  | f + 1, .plus n, i, j => (List.range (j + 1)).any fun m => evT w f n i m && evT w f (.star n) m j
  | f + 1, .opt n, i, j => (i == j) || evT w f n i j
  | f + 1, .rep a b n, i, j => ((a == 0) && (i == j)) || (decide (0 < b) && (List.range (j + 1)).any fun m => evT w f n i m && evT w f (.rep (a - 1) (b - 1) n) m j)
theorem evT_R {w : List Int} : ∀ (f : Nat) (n : Nd) (i j : Nat), evT w f n i j = true → R w n i j := by
  intro f
  induction f with
  | zero => intro n i j h; simp [evT] at h
  | succ f ih =>
    intro n i j h
    cases n with
    | set s =>
      simp only [evT, Bool.and_eq_true, beq_iff_eq] at h
      simp only [R]
      exact ⟨hitB_iff h.1, h.2⟩
    | emp => simp [evT] at h
    | eps => simpa [evT, R] using h
    | join l =>
      cases l with
      | nil => simpa [evT, R, RJ] using h
      | cons n r =>
        simp only [evT, List.any_eq_true, Bool.and_eq_true] at h
        obtain ⟨m, _, h1, h2⟩ := h
        have := ih _ _ _ h2
        simp only [R] at this ⊢
        exact ⟨m, ih _ _ _ h1, this⟩
    | uni l =>
      simp only [evT, List.any_eq_true] at h
      obtain ⟨n, hn, h⟩ := h
      simp only [R]
      exact RU_iff.2 ⟨n, hn, ih _ _ _ h⟩
    | star n =>
      simp only [evT, Bool.or_eq_true, beq_iff_eq, List.any_eq_true, Bool.and_eq_true] at h
      simp only [R]
      rcases h with rfl | ⟨m, _, h1, h2⟩
      · exact .refl _
      · have := ih _ _ _ h2
        simp only [R] at this
        exact .head (ih _ _ _ h1) this
    | plus n =>
      simp only [evT, List.any_eq_true, Bool.and_eq_true] at h
      simp only [R]
      obtain ⟨m, _, h1, h2⟩ := h
      have := ih _ _ _ h2
      simp only [R] at this
      exact ⟨m, ih _ _ _ h1, this⟩
    | opt n =>
      simp only [evT, Bool.or_eq_true, beq_iff_eq] at h
      simp only [R]
      exact h.imp id (ih _ _ _)
    | rep a b n =>
      simp only [evT, Bool.or_eq_true, Bool.and_eq_true, beq_iff_eq, decide_eq_true_eq, List.any_eq_true] at h
      simp only [R]
      rcases h with ⟨rfl, rfl⟩ | ⟨hb, m, _, h1, h2⟩
      · exact ⟨0, Nat.le_refl _, Nat.zero_le _, rfl⟩
      · have := ih _ _ _ h2
        simp only [R] at this
        obtain ⟨t, t1, t2, t3⟩ := this
        exact ⟨t + 1, by omega, by omega, Pow.head.2 ⟨m, ih _ _ _ h1, t3⟩⟩
theorem In_ev {n : Nd} {w : List Int} (f : Nat) (h : evT w f n 0 w.length = true) : In n w := evT_R f n _ _ h
theorem pow_set {w : List Int} {s : Nat} : ∀ {k i j : Nat}, Pow (R w (.set s)) k i j → j = i + k
  | 0, i, j, h => by cases h; rfl
  | k + 1, i, j, ⟨m, h1, h2⟩ => by
    have := pow_set h1
    simp only [R] at h2
    omega
end Go.Gm
