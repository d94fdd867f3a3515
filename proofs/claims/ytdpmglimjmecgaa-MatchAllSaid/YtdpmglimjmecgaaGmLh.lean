/- A part of the proof: GmLh: an abstract machine, what it does, and what the functions of the program come to on it. -/
import Derived.Test.YtdpmglimjmecgaaGmLg
set_option linter.unusedVariables false
set_option linter.unusedSimpArgs false
namespace Go.Gm
/- Languages: so many times, turned about, with more modes, how many words. Plain Lean. -/

theorem Pow.head {r : Nat → Nat → Prop} : ∀ {t i j : Nat}, Pow r (t + 1) i j ↔ ∃ m, r i m ∧ Pow r t m j
  | 0, i, j => by
    constructor
    · rintro ⟨m, h, k⟩; cases h; exact ⟨j, k, rfl⟩
    · rintro ⟨m, h, k⟩; cases k; exact ⟨i, rfl, h⟩
  | t + 1, i, j => by
    constructor
    · rintro ⟨m, h, k⟩
      obtain ⟨p, h1, h2⟩ := (Pow.head (t := t)).1 h
      exact ⟨p, h1, m, h2, k⟩
    · rintro ⟨p, h1, m, h2, k⟩
      exact ⟨m, (Pow.head (t := t)).2 ⟨p, h1, h2⟩, k⟩
theorem RJ_rep {w : List Int} {a : Nd} : ∀ {k i j : Nat}, RJ w (List.replicate k a) i j ↔ Pow (R w a) k i j
  | 0, i, j => Iff.rfl
  | k + 1, i, j => by
    rw [Pow.head]
    show (∃ m, R w a i m ∧ RJ w (List.replicate k a) m j) ↔ _
    exact exists_congr fun m => and_congr_right fun _ => RJ_rep
theorem In_rep {p q : Nat} {a : Nd} {w : List Int} : In (.rep p q a) w ↔ ∃ k, p ≤ k ∧ k ≤ q ∧ In (.join (.eps :: .eps :: List.replicate k a)) w := by
  simp only [In, R]
  refine exists_congr fun k => and_congr_right fun _ => and_congr_right fun _ => ?_
  rw [← RJ_rep]
  constructor
  · intro h; exact ⟨0, by simp only [R], 0, by simp only [R], h⟩
  · rintro ⟨m, h1, m', h2, h3⟩
    simp only [R] at h1 h2
    subst h1 h2; exact h3

/-! ### Turned about -/
mutual
def tur : Nd → Nd
  | .set s => .set s
  | .emp => .emp
  | .eps => .eps
  | .join l => .join (turs l).reverse
  | .uni l => .uni (turs l)
  | .star n => .star (tur n)
  | .plus n => .plus (tur n)
  | .opt n => .opt (tur n)
  | .rep a b n => .rep a b (tur n)
def turs : List Nd → List Nd
  | [] => []
  | n :: l => tur n :: turs l
end
theorem turs_map : ∀ l : List Nd, turs l = l.map tur
  | [] => rfl
  | n :: l => by rw [turs, turs_map l]; rfl
theorem tur_tur (n : Nd) : tur (tur n) = n := by
  refine Nd.ind (p := fun n => tur (tur n) = n) ?_ n
  intro n ih
  have hl : ∀ l : List Nd, (∀ c ∈ l, tur (tur c) = c) → l.map (fun c => tur (tur c)) = l := fun l h => by
    conv => rhs; rw [← List.map_id l]
    exact List.map_congr_left h
  cases n with
  | join l =>
    simp only [tur, turs_map, List.map_reverse, List.reverse_reverse, List.map_map]
    rw [show (tur ∘ tur) = fun c => tur (tur c) from rfl, hl l fun c hc => ih c hc]
  | uni l =>
    simp only [tur, turs_map, List.map_map]
    rw [show (tur ∘ tur) = fun c => tur (tur c) from rfl, hl l fun c hc => ih c hc]
  | star c => simp only [tur, ih c (by simp [Nd.kids])]
  | plus c => simp only [tur, ih c (by simp [Nd.kids])]
  | opt c => simp only [tur, ih c (by simp [Nd.kids])]
  | rep a b c => simp only [tur, ih c (by simp [Nd.kids])]
  | _ => rfl
theorem R_rev {w : List Int} (n : Nd) : ∀ i j, R w n i j → j ≤ w.length → R w.reverse (tur n) (w.length - j) (w.length - i) := by
  refine Nd.ind (p := fun n => ∀ i j, R w n i j → j ≤ w.length → R w.reverse (tur n) (w.length - j) (w.length - i)) ?_ n
  intro n ih i j h hj
  have star : ∀ c, (∀ i j, R w c i j → j ≤ w.length → R w.reverse (tur c) (w.length - j) (w.length - i)) → ∀ i j, Star (R w c) i j → j ≤ w.length → Star (R w.reverse (tur c)) (w.length - j) (w.length - i) := by
    intro c hc i j hs
    induction hs with
    | refl => intro _; exact .refl _
    | @tail m j a b ih =>
      intro hj
      exact .head (hc _ _ b hj) (ih (Nat.le_trans (R_mono c _ _ b) hj))
  have pow : ∀ c, (∀ i j, R w c i j → j ≤ w.length → R w.reverse (tur c) (w.length - j) (w.length - i)) → ∀ t i j, Pow (R w c) t i j → j ≤ w.length → Pow (R w.reverse (tur c)) t (w.length - j) (w.length - i) := by
    intro c hc t
    induction t with
    | zero => intro i j h _; cases h; exact rfl
    | succ t ih =>
      rintro i j ⟨m, a, b⟩ hj
      exact Pow.head.2 ⟨_, hc _ _ b hj, ih _ _ a (Nat.le_trans (R_mono c _ _ b) hj)⟩
  cases n with
  | set s =>
    simp only [R, tur] at h ⊢
    obtain ⟨h1, rfl⟩ := h
    have hi := hit_lt h1
    refine ⟨?_, by omega⟩
    have : w.reverse[w.length - (i + 1)]? = w[i]? := by
      rw [List.getElem?_reverse (by omega)]
      congr 1; omega
    simpa only [hit, this] using h1
  | emp => simp only [R] at h
  | eps => simp only [R, tur] at h ⊢; omega
  | join l =>
    simp only [R, tur] at h ⊢
    have : ∀ (l : List Nd), (∀ c ∈ l, ∀ i j, R w c i j → j ≤ w.length → R w.reverse (tur c) (w.length - j) (w.length - i)) → ∀ i j, RJ w l i j → j ≤ w.length → RJ w.reverse (turs l).reverse (w.length - j) (w.length - i) := by
      intro l
      induction l with
      | nil => intro _ i j h _; simp only [RJ, turs, List.reverse_nil] at h ⊢; omega
      | cons c l ihl =>
        rintro hl i j ⟨m, h1, h2⟩ hj
        have hm := (RJ_le (fun c _ => R_le c) h2).1
        rw [turs, List.reverse_cons]
        exact RJ_snoc.2 ⟨_, ihl (fun c hc => hl c (by simp [hc])) _ _ h2 hj, hl c (by simp) _ _ h1 (by omega)⟩
    exact this l (fun c hc => ih c hc) i j h hj
  | uni l =>
    simp only [R, tur] at h ⊢
    obtain ⟨c, hc, h⟩ := RU_iff.1 h
    exact RU_iff.2 ⟨tur c, by rw [turs_map]; exact List.mem_map_of_mem hc, ih c hc _ _ h hj⟩
  | star c => simp only [R, tur] at h ⊢; exact star c (ih c (by simp [Nd.kids])) i j h hj
  | plus c =>
    simp only [R, tur] at h ⊢
    obtain ⟨m, h1, h2⟩ := h
    have hle : m ≤ j := h2.inv (P := fun j => m ≤ j) (fun a b q1 q2 => Nat.le_trans q1 (R_mono c a b q2)) (Nat.le_refl _)
    have k1 := star c (ih c (by simp [Nd.kids])) m j h2 hj
    have k2 := ih c (by simp [Nd.kids]) _ _ h1 (by omega)
    -- last comes first
    have : ∀ {r : Nat → Nat → Prop} {a b d : Nat}, Star r a b → r b d → ∃ m, r a m ∧ Star r m d := by
      intro r a b d h1 h2
      rcases Star.iff.1 h1 with rfl | ⟨m, q1, q2⟩
      · exact ⟨d, h2, .refl _⟩
      · exact ⟨m, q1, .tail q2 h2⟩
    exact this k1 k2
  | opt c =>
    simp only [R, tur] at h ⊢
    rcases h with rfl | h
    · exact .inl rfl
    · exact .inr (ih c (by simp [Nd.kids]) _ _ h hj)
  | rep a b c =>
    simp only [R, tur] at h ⊢
    obtain ⟨t, h1, h2, h⟩ := h
    exact ⟨t, h1, h2, pow c (ih c (by simp [Nd.kids])) t i j h hj⟩
theorem In_tur {n : Nd} {w : List Int} : In (tur n) w.reverse ↔ In n w := by
  have f : ∀ {n : Nd} {w : List Int}, In n w → In (tur n) w.reverse := by
    intro n w h
    have := R_rev n _ _ h (Nat.le_refl _)
    simpa [In] using this
  refine ⟨fun h => ?_, f⟩
  have := f h
  rwa [tur_tur, List.reverse_reverse] at this

/-! ### With more modes -/
mutual
def wid (b : Nat) : Nd → Nd
  | .set s => .set (s ||| b)
  | .emp => .emp
  | .eps => .eps
  | .join l => .join (wids b l)
  | .uni l => .uni (wids b l)
  | .star n => .star (wid b n)
  | .plus n => .plus (wid b n)
  | .opt n => .opt (wid b n)
  | .rep x y n => .rep x y (wid b n)
def wids (b : Nat) : List Nd → List Nd
  | [] => []
  | n :: l => wid b n :: wids b l
end
theorem wids_map (b : Nat) : ∀ l : List Nd, wids b l = l.map (wid b)
  | [] => rfl
  | n :: l => by rw [wids, wids_map b l]; rfl
theorem Star.imp {r r' : Nat → Nat → Prop} (h : ∀ i j, r i j → r' i j) {i j : Nat} (a : Star r i j) : Star r' i j := by
  induction a with
  | refl => exact .refl _
  | tail _ b ih => exact .tail ih (h _ _ b)
theorem Pow.imp {r r' : Nat → Nat → Prop} (h : ∀ i j, r i j → r' i j) : ∀ {t i j : Nat}, Pow r t i j → Pow r' t i j
  | 0, _, _, a => a
  | t + 1, _, _, ⟨m, a, b⟩ => ⟨m, Pow.imp h a, h _ _ b⟩
theorem R_wid {w : List Int} {b : Nat} (n : Nd) : ∀ i j, R w n i j → R w (wid b n) i j := by
  refine Nd.ind (p := fun n => ∀ i j, R w n i j → R w (wid b n) i j) ?_ n
  intro n ih i j h
  cases n with
  | set s =>
    simp only [R, wid] at h ⊢
    obtain ⟨⟨c, h1, h2, h3, h4⟩, h5⟩ := h
    exact ⟨⟨c, h1, h2, h3, by rw [Nat.testBit_or, h4]; rfl⟩, h5⟩
  | emp => simp only [R] at h
  | eps => exact h
  | join l =>
    simp only [R, wid] at h ⊢
    have : ∀ (l : List Nd), (∀ c ∈ l, ∀ i j, R w c i j → R w (wid b c) i j) → ∀ i j, RJ w l i j → RJ w (wids b l) i j := by
      intro l
      induction l with
      | nil => intro _ i j h; exact h
      | cons c l ihl =>
        rintro hl i j ⟨m, h1, h2⟩
        exact ⟨m, hl c (by simp) _ _ h1, ihl (fun c hc => hl c (by simp [hc])) _ _ h2⟩
    exact this l (fun c hc => ih c hc) i j h
  | uni l =>
    simp only [R, wid] at h ⊢
    obtain ⟨c, hc, h⟩ := RU_iff.1 h
    exact RU_iff.2 ⟨wid b c, by rw [wids_map]; exact List.mem_map_of_mem hc, ih c hc _ _ h⟩
  | star c => simp only [R, wid] at h ⊢; exact h.imp (ih c (by simp [Nd.kids]))
  | plus c =>
    simp only [R, wid] at h ⊢
    obtain ⟨m, h1, h2⟩ := h
    exact ⟨m, ih c (by simp [Nd.kids]) _ _ h1, h2.imp (ih c (by simp [Nd.kids]))⟩
  | opt c =>
    simp only [R, wid] at h ⊢
    exact h.imp id (ih c (by simp [Nd.kids]) _ _)
  | rep x y c =>
    simp only [R, wid] at h ⊢
    obtain ⟨t, h1, h2, h⟩ := h
    exact ⟨t, h1, h2, Pow.imp (ih c (by simp [Nd.kids])) h⟩
theorem In_wid {n : Nd} {b : Nat} {w : List Int} (h : In n w) : In (wid b n) w := R_wid n _ _ h
theorem R_wid0 {b : Nat} (n : Nd) : R [] (wid b n) = R [] n := by
  refine Nd.ind (p := fun n => R [] (wid b n) = R [] n) ?_ n
  intro n ih
  cases n with
  | set s =>
    funext i j
    simp [R, wid, hit]
  | join l =>
    simp only [R, wid]
    have : ∀ (l : List Nd), (∀ c ∈ l, R [] (wid b c) = R [] c) → RJ [] (wids b l) = RJ [] l := by
      intro l
      induction l with
      | nil => intro _; rfl
      | cons c l ihl =>
        intro hl
        funext i j
        simp only [wids, RJ, hl c (by simp), ihl fun c hc => hl c (by simp [hc])]
    exact this l fun c hc => ih c hc
  | uni l =>
    simp only [R, wid]
    have : ∀ (l : List Nd), (∀ c ∈ l, R [] (wid b c) = R [] c) → RU [] (wids b l) = RU [] l := by
      intro l
      induction l with
      | nil => intro _; rfl
      | cons c l ihl =>
        intro hl
        funext i j
        simp only [wids, RU, hl c (by simp), ihl fun c hc => hl c (by simp [hc])]
    exact this l fun c hc => ih c hc
  | star c => simp only [R, wid, ih c (by simp [Nd.kids])]
  | plus c => simp only [R, wid, ih c (by simp [Nd.kids])]
  | opt c => simp only [R, wid, ih c (by simp [Nd.kids])]
  | rep x y c => simp only [R, wid, ih c (by simp [Nd.kids])]
  | _ => rfl
theorem In_wid0 {n : Nd} {b : Nat} : In (wid b n) [] ↔ In n [] := by simp only [In, R_wid0]

/-! ### How many words -/
theorem words_cong {n : Nd} {most : Nat} {p : List Int → Bool} (h : ∀ t, t ≤ most → ∀ w ∈ wl t, (In n w ↔ p w = true)) : wordsN n most = ((List.range (most + 1)).flatMap wl).filter p := by
  refine List.filter_congr fun w hw => ?_
  simp only [List.mem_flatMap, List.mem_range] at hw
  obtain ⟨t, h1, h2⟩ := hw
  have := h t (by omega) w h2
  cases hp : p w with
  | true => simp [this.2 hp]
  | false => simp [show ¬ In n w from fun q => by rw [this.1 q] at hp; cases hp]
theorem filter_flatMap {α : Type} (l : List Nat) (f : Nat → List α) (p : α → Bool) : (l.flatMap f).filter p = l.flatMap fun t => (f t).filter p := by
  induction l with
  | nil => rfl
  | cons a l ih => simp [ih]
def bN (b : Bool) : Nat := if b then 1 else 0
/-- How many modes a set has. -/
def manyN (s : Nat) : Nat := bN (s.testBit 0) + bN (s.testBit 1) + bN (s.testBit 2) + bN (s.testBit 3) + bN (s.testBit 4)
def sel (p0 p1 p2 p3 p4 : Bool) (c : Int) : Bool := if c = 0 then p0 else if c = 1 then p1 else if c = 2 then p2 else if c = 3 then p3 else p4
def selS (s : Nat) (c : Int) : Bool := sel (s.testBit 0) (s.testBit 1) (s.testBit 2) (s.testBit 3) (s.testBit 4) c
theorem selS_eq {s : Nat} {c : Int} (h0 : 0 ≤ c) (h5 : c < 5) : selS s c = s.testBit c.toNat := by
  have : c = 0 ∨ c = 1 ∨ c = 2 ∨ c = 3 ∨ c = 4 := by omega
  rcases this with rfl | rfl | rfl | rfl | rfl <;> rfl
def p1 (f : Int → Bool) : List Int → Bool
  | [c] => f c
  | _ => false
def p2 (f g : Int → Bool) : List Int → Bool
  | [c, d] => f c && g d
  | _ => false
theorem c1 : ∀ p0 p1' p2' p3 p4 : Bool, ((wl 1).filter (p1 (sel p0 p1' p2' p3 p4))).length = bN p0 + bN p1' + bN p2' + bN p3 + bN p4 := by decide +kernel
theorem c2 : ∀ p0 p1' p2' p3 p4 q0 q1 q2 q3 q4 : Bool, ((wl 2).filter (p2 (sel p0 p1' p2' p3 p4) (sel q0 q1 q2 q3 q4))).length = (bN p0 + bN p1' + bN p2' + bN p3 + bN p4) * (bN q0 + bN q1 + bN q2 + bN q3 + bN q4) := by decide +kernel
theorem filter_none {t : Nat} {p : List Int → Bool} (h : ∀ w : List Int, w.length = t → p w = false) : (wl t).filter p = [] := by
  rw [List.filter_eq_nil_iff]
  intro w hw
  rw [h w (wl_mem.1 hw).1]; simp
theorem p1_ne {f : Int → Bool} {t : Nat} (ht : t ≠ 1) (w : List Int) (h : w.length = t) : p1 f w = false := by
  match w, h with
  | [], _ => rfl
  | [c], h => simp at h; omega
  | _ :: _ :: _, _ => rfl
theorem p2_ne {f g : Int → Bool} {t : Nat} (ht : t ≠ 2) (w : List Int) (h : w.length = t) : p2 f g w = false := by
  match w, h with
  | [], _ => rfl
  | [c], _ => rfl
  | [c, d], h => simp at h; omega
  | _ :: _ :: _ :: _, _ => rfl
theorem In_p1 {s : Nat} {w : List Int} (hw : ∀ c ∈ w, 0 ≤ c ∧ c < 5) : In (.set s) w ↔ p1 (selS s) w = true := by
  rw [In_set]
  constructor
  · rintro ⟨c, rfl, h0, h5, hb⟩
    show selS s c = true
    rw [selS_eq h0 h5, hb]
  · intro h
    match w, hw, h with
    | [c], hw, h =>
      have hc := hw c (by simp)
      exact ⟨c, rfl, hc.1, hc.2, by rw [← selS_eq hc.1 hc.2]; exact h⟩
theorem In_p2 {x y : Nat} {w : List Int} (hw : ∀ c ∈ w, 0 ≤ c ∧ c < 5) : In (.join [.set x, .set y]) w ↔ p2 (selS x) (selS y) w = true := by
  rw [In_join]
  constructor
  · rintro ⟨i, hi, h1, h2⟩
    obtain ⟨c, e1, c0, c5, cb⟩ := In_set.1 h1
    obtain ⟨d, e2, d0, d5, db⟩ := In_set.1 h2
    have : w = [c, d] := by rw [← List.take_append_drop i w, e1, e2]; rfl
    subst this
    show (selS x c && selS y d) = true
    rw [selS_eq c0 c5, selS_eq d0 d5, cb, db]; rfl
  · intro h
    match w, hw, h with
    | [c, d], hw, h =>
      have hc := hw c (by simp)
      have hd := hw d (by simp)
      have h' : (selS x c && selS y d) = true := h
      rw [Bool.and_eq_true, selS_eq hc.1 hc.2, selS_eq hd.1 hd.2] at h'
      exact ⟨1, by simp, In_set.2 ⟨c, rfl, hc.1, hc.2, h'.1⟩, In_set.2 ⟨d, rfl, hd.1, hd.2, h'.2⟩⟩
theorem count_set {s most : Nat} (hm : most ≤ 3) : (wordsN (.set s) most).length = if most < 1 then 0 else manyN s := by
  rw [words_cong (p := p1 (selS s)) fun t _ w hw => In_p1 (wl_mem.1 hw).2, filter_flatMap]
  have h1 : ((wl 1).filter (p1 (selS s))).length = manyN s := c1 ..
  have hn : ∀ t, t ≠ 1 → (wl t).filter (p1 (selS s)) = [] := fun t ht => filter_none (p1_ne ht)
  have : most = 0 ∨ most = 1 ∨ most = 2 ∨ most = 3 := by omega
  rcases this with rfl | rfl | rfl | rfl <;> simp [List.range_succ, hn, h1]
theorem count_join {x y most : Nat} (hm : most ≤ 3) : (wordsN (.join [.set x, .set y]) most).length = if most < 2 then 0 else manyN x * manyN y := by
  rw [words_cong (p := p2 (selS x) (selS y)) fun t _ w hw => In_p2 (wl_mem.1 hw).2, filter_flatMap]
  have h1 : ((wl 2).filter (p2 (selS x) (selS y))).length = manyN x * manyN y := c2 ..
  have hn : ∀ t, t ≠ 2 → (wl t).filter (p2 (selS x) (selS y)) = [] := fun t ht => filter_none (p2_ne ht)
  have : most = 0 ∨ most = 1 ∨ most = 2 ∨ most = 3 := by omega
  rcases this with rfl | rfl | rfl | rfl <;> simp [List.range_succ, hn, h1]
theorem count_all {most : Nat} : wordsN (.star (.set 31)) most = (List.range (most + 1)).flatMap wl := by
  rw [words_cong (p := fun _ => true) fun t _ w hw => ⟨fun _ => rfl, fun _ => In_all (wl_mem.1 hw).2⟩]
  simp
end Go.Gm
