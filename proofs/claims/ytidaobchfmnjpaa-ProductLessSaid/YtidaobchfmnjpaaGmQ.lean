/- A part of the proof (GmQ): an abstract machine, what it does, and what the functions of the program come to on it. -/
import Derived.Test.YtidaobchfmnjpaaGmP4
set_option linter.unusedVariables false
set_option linter.unusedSimpArgs false
namespace Go.Gm
/- Heaps of numbers by their keys: plain lists. -/

def ltI (x y : Int × Int) : Prop := x.2 < y.2 ∨ (x.2 = y.2 ∧ x.1 < y.1)
instance (x y : Int × Int) : Decidable (ltI x y) := by unfold ltI; exact inferInstance
def par (i : Int) : Int := (i - 1) / 2
def sw (xs : List (Int × Int)) (i j : Int) : List (Int × Int) := (xs.set i.toNat (gi xs j)).set j.toNat (gi xs i)
theorem gi_set' {α : Type} [Inhabited α] {xs : List α} {i j : Int} (h0 : 0 ≤ i) (h1 : i < xs.length) (hj : 0 ≤ j) (x : α) : gi (xs.set i.toNat x) j = if j = i then x else gi xs j := by
  simp only [gi, List.getD_eq_getElem?_getD]
  by_cases h : j = i
  · subst h
    rw [if_pos rfl, List.getElem?_set_self (by omega)]; rfl
  · rw [if_neg h, List.getElem?_set_ne (by omega)]
theorem sw_len (xs : List (Int × Int)) (i j : Int) : (sw xs i j).length = xs.length := by simp [sw]
theorem gi_sw {xs : List (Int × Int)} {i j : Int} (i0 : 0 ≤ i) (i1 : i < xs.length) (j0 : 0 ≤ j) (j1 : j < xs.length) {p : Int} (hp : 0 ≤ p) :
    gi (sw xs i j) p = if p = j then gi xs i else if p = i then gi xs j else gi xs p := by
  rw [sw, gi_set' j0 (by simp; exact j1) hp, gi_set' i0 i1 hp]

/-- In order, so many. -/
def Hp (n : Int) (xs : List (Int × Int)) : Prop := ∀ i : Int, 0 < i → i < n → ¬ ltI (gi xs i) (gi xs (par i))
structure UpI (n : Int) (xs : List (Int × Int)) (j : Int) : Prop where
  a : ∀ i, 0 < i → i < n → i ≠ j → ¬ ltI (gi xs i) (gi xs (par i))
  b : ∀ c, 0 < c → c < n → par c = j → 0 < j → ¬ ltI (gi xs c) (gi xs (par j))
structure DnI (n : Int) (xs : List (Int × Int)) (i : Int) : Prop where
  a : ∀ c, 0 < c → c < n → par c ≠ i → ¬ ltI (gi xs c) (gi xs (par c))
  b : ∀ c, 0 < c → c < n → par c = i → 0 < i → ¬ ltI (gi xs c) (gi xs (par i))
theorem par_lt {i : Int} (h : 0 < i) : 0 ≤ par i ∧ par i < i := by unfold par; omega
theorem UpI.done {n : Int} {xs : List (Int × Int)} {j : Int} (u : UpI n xs j) (h : j = 0 ∨ ¬ ltI (gi xs j) (gi xs (par j))) : Hp n xs := by
  intro i i0 i1
  by_cases hij : i = j
  · subst hij
    rcases h with h | h
    · omega
    · exact h
  · exact u.a i i0 i1 hij
theorem UpI.swap {n : Int} {xs : List (Int × Int)} {j : Int} (u : UpI n xs j) (j0 : 0 < j) (j1 : j < n) (hn : n ≤ xs.length) (h : ltI (gi xs j) (gi xs (par j))) : UpI n (sw xs (par j) j) (par j) := by
  have hp := par_lt j0
  have g : ∀ p, 0 ≤ p → gi (sw xs (par j) j) p = if p = j then gi xs (par j) else if p = par j then gi xs j else gi xs p := fun p hp' => gi_sw hp.1 (by omega) (by omega) (by omega) hp'
  constructor
  · intro p p0 p1 hpi
    have hpp := par_lt p0
    rw [g p (by omega), g (par p) hpp.1]
    by_cases e1 : p = j
    · subst e1
      rw [if_pos rfl, if_neg (by omega), if_pos rfl]
      unfold ltI at *; omega
    · rw [if_neg e1, if_neg hpi]
      have ha := u.a p p0 p1 e1
      by_cases e2 : par p = j
      · rw [if_pos e2]
        exact u.b p p0 p1 e2 j0
      · rw [if_neg e2]
        by_cases e3 : par p = par j
        · rw [if_pos e3]
          rw [e3] at ha
          unfold ltI at *; omega
        · rw [if_neg e3]; exact ha
  · intro c c0 c1 hc hpj
    have hpp := par_lt hpj
    have hcp := par_lt c0
    rw [g c (by omega), g (par (par j)) hpp.1, if_neg (show ¬ par (par j) = j by omega), if_neg (show ¬ par (par j) = par j by omega)]
    have hi := u.a (par j) hpj (by omega) (by omega)
    by_cases e1 : c = j
    · rw [if_pos e1]; exact hi
    · rw [if_neg e1, if_neg (by omega)]
      have ha := u.a c c0 c1 e1
      rw [hc] at ha
      unfold ltI at *; omega
theorem DnI.done {n : Int} {xs : List (Int × Int)} {i : Int} (u : DnI n xs i) (h : ∀ c, 0 < c → c < n → par c = i → ¬ ltI (gi xs c) (gi xs i)) : Hp n xs := by
  intro c c0 c1
  by_cases hci : par c = i
  · rw [hci]; exact h c c0 c1 hci
  · exact u.a c c0 c1 hci
theorem DnI.swap {n : Int} {xs : List (Int × Int)} {i j : Int} (u : DnI n xs i) (i0 : 0 ≤ i) (hj : par j = i) (j0 : 0 < j) (j1 : j < n) (hn : n ≤ xs.length) (h : ltI (gi xs j) (gi xs i)) (hs : ∀ c, 0 < c → c < n → par c = i → ¬ ltI (gi xs c) (gi xs j)) : DnI n (sw xs i j) j := by
  have hp := par_lt j0
  have g : ∀ p, 0 ≤ p → gi (sw xs i j) p = if p = j then gi xs i else if p = i then gi xs j else gi xs p := fun p hp' => gi_sw i0 (by omega) (by omega) (by omega) hp'
  constructor
  · intro c c0 c1 hc
    have hcp := par_lt c0
    rw [g c (by omega), g (par c) hcp.1, if_neg hc]
    by_cases e1 : par c = i
    · rw [if_pos e1]
      by_cases e2 : c = j
      · rw [if_pos e2]; unfold ltI at *; omega
      · rw [if_neg e2, if_neg (by omega)]
        exact hs c c0 c1 e1
    · rw [if_neg e1]
      by_cases e2 : c = j
      · subst e2; exact absurd hj e1
      · rw [if_neg e2]
        by_cases e3 : c = i
        · rw [if_pos e3]; subst e3
          exact u.b j j0 j1 hj c0
        · rw [if_neg e3]; exact u.a c c0 c1 e1
  · intro c c0 c1 hc hj0
    have hcp := par_lt c0
    rw [hj, g c (by omega), g i i0, if_neg (show ¬ i = j by omega), if_pos rfl, if_neg (by omega), if_neg (by omega)]
    have := u.a c c0 c1 (by omega)
    rw [hc] at this; exact this
theorem Hp.root {n : Int} {xs : List (Int × Int)} (h : Hp n xs) : ∀ (d : Nat) (i : Int), i ≤ d → 0 ≤ i → i < n → ¬ ltI (gi xs i) (gi xs 0)
  | 0, i, hd, i0, i1 => by
    rw [show i = 0 by omega]; unfold ltI; omega
  | d + 1, i, hd, i0, i1 => by
    by_cases hi : i = 0
    · rw [hi]; unfold ltI; omega
    · have hp := par_lt (i := i) (by omega)
      have h1 := h.root d (par i) (by omega) hp.1 (by omega)
      have h2 := h i (by omega) i1
      unfold ltI at *; omega

/-- Items, where each stands, and what is told: of each number its key, or none. -/
structure Rep (N : Nat) (xs : List (Int × Int)) (at' : List Int) (M : List (Option Int)) : Prop where
  la : at'.length = N
  lm : M.length = N
  a : ∀ i : Int, 0 ≤ i → i < xs.length → 0 ≤ (gi xs i).1 ∧ (gi xs i).1 < N ∧ gi at' (gi xs i).1 = i
  b : ∀ id : Int, 0 ≤ id → id < N → (gi at' id = -1 ∧ gi M id = none) ∨ (0 ≤ gi at' id ∧ gi at' id < xs.length ∧ (gi xs (gi at' id)).1 = id ∧ gi M id = some (gi xs (gi at' id)).2)
theorem Rep.inj {N : Nat} {xs : List (Int × Int)} {at' : List Int} {M : List (Option Int)} (r : Rep N xs at' M) {i j : Int} (i0 : 0 ≤ i) (i1 : i < xs.length) (j0 : 0 ≤ j) (j1 : j < xs.length) (h : (gi xs i).1 = (gi xs j).1) : i = j := by
  have h1 := (r.a i i0 i1).2.2
  have h2 := (r.a j j0 j1).2.2
  rw [h] at h1
  omega
theorem Rep.swap {N : Nat} {xs : List (Int × Int)} {at' : List Int} {M : List (Option Int)} (r : Rep N xs at' M) {i j : Int} (i0 : 0 ≤ i) (i1 : i < xs.length) (j0 : 0 ≤ j) (j1 : j < xs.length) :
    Rep N (sw xs i j) ((at'.set (gi xs j).1.toNat i).set (gi xs i).1.toNat j) M := by
  have ai := r.a i i0 i1
  have aj := r.a j j0 j1
  have la := r.la
  have ga : ∀ id, 0 ≤ id → gi ((at'.set (gi xs j).1.toNat i).set (gi xs i).1.toNat j) id = if id = (gi xs i).1 then j else if id = (gi xs j).1 then i else gi at' id := fun id h => by
    rw [gi_set' ai.1 (by simp; omega) h, gi_set' aj.1 (by omega) h]
  have gx : ∀ p, 0 ≤ p → gi (sw xs i j) p = if p = j then gi xs i else if p = i then gi xs j else gi xs p := fun p hp' => gi_sw i0 i1 j0 j1 hp'
  refine ⟨by simp; exact la, r.lm, fun p p0 p1 => ?_, fun id h0 h1 => ?_⟩
  · rw [sw_len] at p1
    have ap := r.a p p0 p1
    rw [gx p p0]
    by_cases e1 : p = j
    · rw [if_pos e1]
      refine ⟨ai.1, ai.2.1, ?_⟩
      rw [ga _ ai.1, if_pos rfl, e1]
    · rw [if_neg e1]
      by_cases e2 : p = i
      · rw [if_pos e2]
        refine ⟨aj.1, aj.2.1, ?_⟩
        rw [ga _ aj.1]
        by_cases e3 : (gi xs j).1 = (gi xs i).1
        · have := r.inj j0 j1 i0 i1 e3; omega
        · rw [if_neg e3, if_pos rfl, e2]
      · rw [if_neg e2]
        refine ⟨ap.1, ap.2.1, ?_⟩
        rw [ga _ ap.1, if_neg (fun q => e2 (r.inj p0 p1 i0 i1 q)), if_neg (fun q => e1 (r.inj p0 p1 j0 j1 q))]
        exact ap.2.2
  · rw [ga id h0, sw_len]
    rcases r.b id h0 h1 with ⟨h2, h3⟩ | ⟨h2, h3, h4, h5⟩
    · left
      rw [if_neg (fun q => by rw [q] at h2; omega), if_neg (fun q => by rw [q] at h2; omega)]
      exact ⟨h2, h3⟩
    · right
      by_cases e1 : id = (gi xs i).1
      · rw [if_pos e1, gx j j0, if_pos rfl]
        refine ⟨j0, j1, e1.symm, ?_⟩
        rw [h5]
        have : gi at' id = i := by rw [e1]; exact ai.2.2
        rw [this]
      · rw [if_neg e1]
        by_cases e2 : id = (gi xs j).1
        · have hij : i ≠ j := fun q => e1 (by rw [q]; exact e2)
          rw [if_pos e2, gx i i0, if_neg hij, if_pos rfl]
          refine ⟨i0, i1, e2.symm, ?_⟩
          rw [h5]
          have : gi at' id = j := by rw [e2]; exact aj.2.2
          rw [this]
        · rw [if_neg e2, gx _ h2]
          have hni : gi at' id ≠ i := fun q => by rw [q] at h4; exact e1 h4.symm
          have hnj : gi at' id ≠ j := fun q => by rw [q] at h4; exact e2 h4.symm
          rw [if_neg hnj, if_neg hni]
          exact ⟨h2, h3, h4, h5⟩
theorem gi_app' {α : Type} [Inhabited α] {xs : List α} {y : α} {i : Int} (h0 : 0 ≤ i) (h1 : i < xs.length) : gi (xs ++ [y]) i = gi xs i := by
  simp only [gi, List.getD_eq_getElem?_getD]
  rw [List.getElem?_append_left (by omega)]
theorem gi_last' {α : Type} [Inhabited α] (xs : List α) (y : α) : gi (xs ++ [y]) xs.length = y := by
  simp [gi, List.getD_eq_getElem?_getD]
theorem gi_take' {α : Type} [Inhabited α] {xs : List α} {n : Nat} {i : Int} (h0 : 0 ≤ i) (h1 : i < n) : gi (xs.take n) i = gi xs i := by
  simp only [gi, List.getD_eq_getElem?_getD]
  rw [List.getElem?_take, if_pos (by omega)]
theorem Rep.push {N : Nat} {xs : List (Int × Int)} {at' : List Int} {M : List (Option Int)} (r : Rep N xs at' M) {id key : Int} (h0 : 0 ≤ id) (h1 : id < N) (hn : gi at' id = -1) :
    Rep N (xs ++ [(id, key)]) (at'.set id.toNat xs.length) (M.set id.toNat (some key)) := by
  have la := r.la
  have lm := r.lm
  have ga : ∀ p, 0 ≤ p → gi (at'.set id.toNat (xs.length : Int)) p = if p = id then (xs.length : Int) else gi at' p := fun p hp => gi_set' h0 (by omega) hp _
  have gm : ∀ p, 0 ≤ p → gi (M.set id.toNat (some key)) p = if p = id then some key else gi M p := fun p hp => gi_set' h0 (by omega) hp _
  refine ⟨by simp; exact la, by simp; exact lm, fun i i0 i1 => ?_, fun p p0 p1 => ?_⟩
  · simp only [List.length_append, List.length_cons, List.length_nil] at i1
    by_cases hi : i = xs.length
    · rw [hi, gi_last']
      refine ⟨h0, h1, ?_⟩
      rw [ga _ h0, if_pos rfl]
    · rw [gi_app' i0 (by omega)]
      have h := r.a i i0 (by omega)
      refine ⟨h.1, h.2.1, ?_⟩
      rw [ga _ h.1, if_neg (fun q => by rw [q] at h; omega)]
      exact h.2.2
  · rw [ga p p0, gm p p0]
    by_cases hp : p = id
    · right
      rw [if_pos hp, if_pos hp, gi_last']
      exact ⟨by omega, by simp; omega, hp.symm, rfl⟩
    · rw [if_neg hp, if_neg hp]
      rcases r.b p p0 p1 with h | ⟨h2, h3, h4, h5⟩
      · exact .inl h
      · right
        rw [gi_app' h2 h3]
        exact ⟨h2, by simp; omega, h4, h5⟩
theorem Rep.pop {N : Nat} {xs : List (Int × Int)} {at' : List Int} {M : List (Option Int)} (r : Rep N xs at' M) {n : Nat} (hn : xs.length = n + 1) :
    Rep N (xs.take n) (at'.set (gi xs n).1.toNat (-1)) (M.set (gi xs n).1.toNat none) := by
  have la := r.la
  have lm := r.lm
  have an := r.a n (by omega) (by omega)
  have ga : ∀ p, 0 ≤ p → gi (at'.set (gi xs n).1.toNat (-1)) p = if p = (gi xs n).1 then -1 else gi at' p := fun p hp => gi_set' an.1 (by omega) hp _
  have gm : ∀ p, 0 ≤ p → gi (M.set (gi xs n).1.toNat none) p = if p = (gi xs n).1 then none else gi M p := fun p hp => gi_set' an.1 (by omega) hp _
  have hl : (xs.take n).length = n := by simp; omega
  refine ⟨by simp; exact la, by simp; exact lm, fun i i0 i1 => ?_, fun p p0 p1 => ?_⟩
  · rw [hl] at i1
    rw [gi_take' i0 i1]
    have h := r.a i i0 (by omega)
    refine ⟨h.1, h.2.1, ?_⟩
    rw [ga _ h.1, if_neg (fun q => by have := r.inj i0 (by omega) (show (0:Int) ≤ n by omega) (by omega) q; omega)]
    exact h.2.2
  · rw [ga p p0, gm p p0, hl]
    by_cases hp : p = (gi xs n).1
    · rw [if_pos hp, if_pos hp]; exact .inl ⟨rfl, rfl⟩
    · rw [if_neg hp, if_neg hp]
      rcases r.b p p0 p1 with h | ⟨h2, h3, h4, h5⟩
      · exact .inl h
      · right
        have : gi at' p ≠ n := fun q => by rw [q] at h4; exact hp h4.symm
        rw [gi_take' h2 (by omega)]
        exact ⟨h2, by omega, h4, h5⟩
theorem Rep.lower {N : Nat} {xs : List (Int × Int)} {at' : List Int} {M : List (Option Int)} (r : Rep N xs at' M) {id key : Int} (h0 : 0 ≤ id) (h1 : id < N) (hn : 0 ≤ gi at' id) :
    Rep N (xs.set (gi at' id).toNat (id, key)) at' (M.set id.toNat (some key)) := by
  have la := r.la
  have lm := r.lm
  obtain ⟨h2, h3, h4, h5⟩ : 0 ≤ gi at' id ∧ gi at' id < xs.length ∧ (gi xs (gi at' id)).1 = id ∧ gi M id = some (gi xs (gi at' id)).2 := (r.b id h0 h1).resolve_left (fun q => by omega)
  have gx : ∀ p, 0 ≤ p → gi (xs.set (gi at' id).toNat (id, key)) p = if p = gi at' id then (id, key) else gi xs p := fun p hp => gi_set' h2 h3 hp _
  have gm : ∀ p, 0 ≤ p → gi (M.set id.toNat (some key)) p = if p = id then some key else gi M p := fun p hp => gi_set' h0 (by omega) hp _
  refine ⟨la, by simp; exact lm, fun i i0 i1 => ?_, fun p p0 p1 => ?_⟩
  · simp only [List.length_set] at i1
    rw [gx i i0]
    by_cases hi : i = gi at' id
    · rw [if_pos hi]; exact ⟨h0, h1, hi.symm⟩
    · rw [if_neg hi]; exact r.a i i0 i1
  · rw [gm p p0, List.length_set]
    by_cases hp : p = id
    · right
      rw [if_pos hp, hp, gx _ h2, if_pos rfl]
      exact ⟨h2, h3, rfl, rfl⟩
    · rw [if_neg hp]
      rcases r.b p p0 p1 with h | ⟨k2, k3, k4, k5⟩
      · exact .inl h
      · right
        have : gi at' p ≠ gi at' id := fun q => by rw [q, h4] at k4; exact hp k4.symm
        rw [gx _ k2, if_neg this]
        exact ⟨k2, k3, k4, k5⟩
/-- A key made less. -/
theorem Hp.lower {n : Int} {xs : List (Int × Int)} (h : Hp n xs) {p : Int} (p0 : 0 ≤ p) (p1 : p < n) (hn : n ≤ xs.length) {x : Int × Int} (hx : ltI x (gi xs p)) : UpI n (xs.set p.toNat x) p ∧ ∀ c, 0 < c → c < n → par c = p → ¬ ltI (gi (xs.set p.toNat x) c) (gi (xs.set p.toNat x) p) := by
  have gx : ∀ q, 0 ≤ q → gi (xs.set p.toNat x) q = if q = p then x else gi xs q := fun q hq => gi_set' p0 (by omega) hq _
  refine ⟨⟨fun i i0 i1 hi => ?_, fun c c0 c1 hc hp => ?_⟩, fun c c0 c1 hc => ?_⟩
  · have hp := par_lt i0
    rw [gx i (by omega), if_neg hi, gx _ hp.1]
    have := h i i0 i1
    split
    · rename_i hq
      rw [hq] at this
      unfold ltI at *; omega
    · exact this
  · have hcp := par_lt c0
    have hpp := par_lt hp
    rw [gx c (by omega), if_neg (by omega), gx _ hpp.1, if_neg (by omega)]
    have h1 := h c c0 c1
    have h2 := h p hp p1
    rw [hc] at h1
    unfold ltI at *; omega
  · have hcp := par_lt c0
    rw [gx c (by omega), if_neg (by omega), gx p p0, if_pos rfl]
    have h1 := h c c0 c1
    rw [hc] at h1
    unfold ltI at *; omega
theorem Hp.push {n : Nat} {xs : List (Int × Int)} (h : Hp n xs) (hn : xs.length = n) (x : Int × Int) : UpI (n + 1 : Nat) (xs ++ [x]) n := by
  refine ⟨fun i i0 i1 hi => ?_, fun c c0 c1 hc hp => ?_⟩
  · have hp := par_lt i0
    rw [gi_app' (by omega) (by omega), gi_app' hp.1 (by omega)]
    exact h i i0 (by omega)
  · have := par_lt c0
    omega
/-- The first taken away, the last in its place. -/
theorem Hp.begin {n : Nat} {xs : List (Int × Int)} (h : Hp (n + 1 : Nat) xs) (hn : xs.length = n + 1) : DnI n (sw xs 0 n) 0 := by
  have g : ∀ p, 0 ≤ p → gi (sw xs 0 n) p = if p = (n : Int) then gi xs 0 else if p = 0 then gi xs n else gi xs p := fun p hp' => gi_sw (by omega) (by omega) (by omega) (by omega) hp'
  refine ⟨fun c c0 c1 hc => ?_, fun c c0 c1 hc hp => by omega⟩
  have hcp := par_lt c0
  rw [g c (by omega), if_neg (by omega), if_neg (by omega), g _ hcp.1, if_neg (by omega), if_neg hc]
  exact h c c0 (by omega)
end Go.Gm
