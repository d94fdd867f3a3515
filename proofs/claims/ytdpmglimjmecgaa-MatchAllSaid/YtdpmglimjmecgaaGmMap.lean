/- A part of the proof: GmMap: an abstract machine, what it does, and what the functions of the program come to on it. -/
import Derived.Test.YtdpmglimjmecgaaGmOps4
set_option linter.unusedVariables false
set_option linter.unusedSimpArgs false
namespace Go.Gm
open Go.RowKit Go.Maps

theorem mapM_some {α β : Type} {f : α → Option β} : ∀ (l : List α), (∀ x ∈ l, ∃ y, f x = some y) → ∃ ys, l.mapM f = some ys
  | [], _ => ⟨[], rfl⟩
  | x :: r, h => by
    obtain ⟨y, hy⟩ := h x (by simp)
    obtain ⟨ys, hys⟩ := mapM_some r (fun z hz => h z (by simp [hz]))
    exact ⟨y :: ys, by rw [List.mapM_cons, hy, hys]; rfl⟩

section
variable {φ : Ren} {P : Program}

theorem fitL_len : ∀ {cs : List KC} {vs : List AV}, fitL cs vs = true → cs.length = vs.length
  | [], [], _ => rfl
  | c :: cs, v :: vs, h => by simp only [fitL, Bool.and_eq_true] at h; simp [fitL_len h.2]
  | [], _ :: _, h => by cases h
  | _ :: _, [], h => by cases h
theorem fitL_get : ∀ {cs : List KC} {vs : List AV}, fitL cs vs = true → ∀ {i : Nat} {c : KC} {v : AV}, cs[i]? = some c → vs[i]? = some v → fitC c v = true
  | [], [], _, i, c, v, h, _ => by simp at h
  | c :: cs, v :: vs, h, 0, c', v', h1, h2 => by
    simp only [fitL, Bool.and_eq_true] at h
    simp only [List.getElem?_cons_zero, Option.some.injEq] at h1 h2
    subst h1 h2; exact h.1
  | c :: cs, v :: vs, h, i + 1, c', v', h1, h2 => by
    simp only [fitL, Bool.and_eq_true] at h
    exact fitL_get h.2 (by simpa using h1) (by simpa using h2)
  | [], _ :: _, h, _, _, _, _, _ => by cases h
  | _ :: _, [], h, _, _, _, _, _ => by cases h

/-- A cell that fits: three kinds. -/
theorem fitC_cases {c : KC} {x : AV} (h : fitC c x = true) : (∃ q n, c = .i q ∧ x = .int q n ∧ q.min ≤ n ∧ n ≤ q.max) ∨ (∃ s, c = .s ∧ x = .str s ∧ s.size ≤ maxLen) ∨ ∃ b, c = .b ∧ x = .bool b := by
  unfold fitC at h
  split at h
  · simp only [Bool.and_eq_true, decide_eq_true_eq] at h
    obtain ⟨rfl, h1, h2⟩ := h
    exact .inl ⟨_, _, rfl, rfl, h1, h2⟩
  · simp only [decide_eq_true_eq] at h
    exact .inr (.inl ⟨_, rfl, rfl, Nat.le_trans h (by decide)⟩)
  · exact .inr (.inr ⟨_, rfl, rfl⟩)
  · cases h
theorem fitC_beq {c d : KC} {x y : AV} (h : fitC c x = true) (k : fitC d y = true) : AV.beq x y = true ↔ x = y := by
  rcases fitC_cases h with ⟨q, n, _, rfl, _⟩ | ⟨s, _, rfl, _⟩ | ⟨b, _, rfl⟩ <;> rcases fitC_cases k with ⟨q', n', _, rfl, _⟩ | ⟨s', _, rfl, _⟩ | ⟨b', _, rfl⟩ <;> simp [AV.beq]
theorem fitL_beq : ∀ {cs ds : List KC} {x y : List AV}, fitL cs x = true → fitL ds y = true → (AV.beqs x y = true ↔ x = y)
  | [], [], [], [], _, _ => by simp [AV.beqs]
  | [], d :: ds, [], y :: ys, _, _ => by simp [AV.beqs]
  | c :: cs, [], x :: xs, [], _, _ => by simp [AV.beqs]
  | c :: cs, d :: ds, x :: xs, y :: ys, h, k => by
    simp only [fitL, Bool.and_eq_true] at h k
    simp [AV.beqs, fitC_beq h.1 k.1, fitL_beq h.2 k.2]
  | [], _, _ :: _, _, h, _ => by cases h
  | _ :: _, _, [], _, h, _ => by cases h
  | _, [], _, _ :: _, _, h => by cases h
  | _, _ :: _, _, [], _, h => by cases h
theorem fitK_beq {ks : KS} {x y : AV} (h : fitK ks x = true) (k : fitK ks y = true) : AV.beq x y = true ↔ x = y := by
  cases ks with
  | one c => exact fitC_beq (by simpa [fitK] using h) (by simpa [fitK] using k)
  | row cs =>
    cases x <;> simp only [fitK] at h <;> try (cases h; done)
    cases y <;> simp only [fitK] at k <;> try (cases k; done)
    simp [AV.beq, fitL_beq h k]
theorem fitC_det {c d : KC} {x y : AV} {u v : Value} (h : fitC c x = true) (k : fitC d y = true) (hu : VR φ x u) (hv : VR φ y v) : u = v ↔ x = y := by
  rcases fitC_cases h with ⟨q, n, _, rfl, _⟩ | ⟨s, _, rfl, _⟩ | ⟨b, _, rfl⟩ <;> rcases fitC_cases k with ⟨q', n', _, rfl, _⟩ | ⟨s', _, rfl, _⟩ | ⟨b', _, rfl⟩ <;> cases hu <;> cases hv <;> simp
theorem fitL_det : ∀ {cs ds : List KC} {x y : List AV} {u v : List Value}, fitL cs x = true → fitL ds y = true → VRs φ x u → VRs φ y v → (u = v ↔ x = y)
  | [], [], [], [], _, _, _, _, .nil, .nil => by simp
  | [], d :: ds, [], y :: ys, _, _, _, _, .nil, .cons _ _ => by simp
  | c :: cs, [], x :: xs, [], _, _, _, _, .cons _ _, .nil => by simp
  | c :: cs, d :: ds, x :: xs, y :: ys, _, _, h, k, .cons a b, .cons a' b' => by
    simp only [fitL, Bool.and_eq_true] at h k
    simp [fitC_det h.1 k.1 a a', fitL_det h.2 k.2 b b']
  | [], _, _ :: _, _, _, _, h, _, _, _ => by cases h
  | _ :: _, _, [], _, _, _, h, _, _, _ => by cases h
  | _, [], _, _ :: _, _, _, _, h, _, _ => by cases h
  | _, _ :: _, _, [], _, _, _, h, _, _ => by cases h
theorem fitK_det {ks : KS} {x y : AV} {u v : Value} (h : fitK ks x = true) (k : fitK ks y = true) (hu : VR φ x u) (hv : VR φ y v) : u = v ↔ x = y := by
  cases ks with
  | one c => exact fitC_det (by simpa [fitK] using h) (by simpa [fitK] using k) hu hv
  | row cs =>
    cases x <;> simp only [fitK] at h <;> try (cases h; done)
    cases y <;> simp only [fitK] at k <;> try (cases k; done)
    cases hu with
    | agg a =>
      cases hv with
      | agg b => simp [fitL_det h k a b]

theorem plainLit {c : KC} {t : TypeId} {x : AV} {v : Value} (hc : keyC P t = some c) (hf : fitC c x = true) (hv : VR φ x v) (d : Nat) : ∃ l, P.keyLits (d + 1) t [v] = some l := by
  unfold keyC at hc
  rcases fitC_cases hf with ⟨q, n, rfl, rfl, h1, h2⟩ | ⟨s, rfl, rfl, h1⟩ | ⟨b, rfl, rfl⟩ <;> cases hv <;> split at hc <;> simp only [Option.some.injEq, KC.i.injEq, reduceCtorEq] at hc
  · subst hc
    rename_i hu
    exact ⟨_, by simp [Program.keyLits, hu, Lit.wf, h1, h2]; rfl⟩
  · rename_i hu
    exact ⟨_, by simp [Program.keyLits, hu, h1]; rfl⟩
  · rename_i hu
    exact ⟨_, by simp [Program.keyLits, hu]; rfl⟩
theorem plainKeyed {c : KC} {t : TypeId} (hc : keyC P t = some c) : Keyed P t ∧ ∀ {x : AV} {v : Value}, fitC c x = true → VR φ x v → ∃ l, keyOf P t v = some l := by
  unfold keyC at hc
  split at hc <;> simp only [Option.some.injEq, reduceCtorEq] at hc <;> subst hc <;> rename_i hu
  · refine ⟨int_keyed hu, fun hf hv => ?_⟩
    rcases fitC_cases hf with ⟨q, n, e, rfl, h1, h2⟩ | ⟨s, e, rfl, h1⟩ | ⟨b, e, rfl⟩ <;> cases e
    cases hv
    exact ⟨_, keyOf_int_mk hu (by simp [Lit.wf, h1, h2])⟩
  · refine ⟨string_keyed hu, fun hf hv => ?_⟩
    rcases fitC_cases hf with ⟨q, n, e, rfl, h1, h2⟩ | ⟨s, e, rfl, h1⟩ | ⟨b, e, rfl⟩ <;> cases e
    cases hv
    exact ⟨_, WideMaps.keyOf_string_mk hu h1⟩
  · refine ⟨bool_keyed hu, fun hf hv => ?_⟩
    rcases fitC_cases hf with ⟨q, n, e, rfl, h1, h2⟩ | ⟨s, e, rfl, h1⟩ | ⟨b, e, rfl⟩ <;> cases e
    cases hv
    exact ⟨_, keyOf_bool_mk hu _⟩
theorem keyFs_get : ∀ {fs : List Field} {i : Nat} {cs : List KC}, keyFs P i fs = some cs → cs.length = fs.length ∧ ∀ j f, fs[j]? = some f → ∃ c, cs[j]? = some c ∧ keyC P f.type = some c ∧ f.offset = i + j ∧ P.cellsOf f.type = 1 ∧ (f.name != "_") = true
  | [], i, cs, h => by injection h with h; subst h; exact ⟨rfl, fun j f q => by simp at q⟩
  | f :: r, i, cs, h => by
    simp only [keyFs, Option.bind_eq_some_iff] at h
    obtain ⟨c, h1, h2⟩ := h
    split at h2
    · rename_i hc
      simp only [Option.map_eq_some_iff] at h2
      obtain ⟨cs', h3, rfl⟩ := h2
      obtain ⟨k1, k2⟩ := keyFs_get h3
      refine ⟨by simp [k1], fun j g hg => ?_⟩
      cases j with
      | zero =>
        simp only [List.getElem?_cons_zero, Option.some.injEq] at hg
        subst hg
        exact ⟨c, by simp, h1, by simpa using hc.1, hc.2.1, hc.2.2⟩
      | succ j =>
        obtain ⟨c', m1, m2, m3, m4⟩ := k2 j g (by simpa using hg)
        exact ⟨c', by simpa using m1, m2, by omega, m4⟩
    · cases h2
theorem cell_at {us : List Value} {i : Nat} {u : Value} (h : us[i]? = some u) : (us.drop i).take 1 = [u] := by
  obtain ⟨hi, e⟩ := List.getElem?_eq_some_iff.1 h
  rw [List.drop_eq_getElem_cons hi]
  simp [e]
theorem wideKeyed {t : TypeId} (hw : keyWide P t = true) (hd : (match P.underlying t with | some (.array _ _) | some (.struct _) => true | _ => false) = true) : Keyed P t := by
  simp only [keyWide, Bool.and_eq_true, decide_eq_true_eq] at hw
  exact Keyed.of_law (deep_law (m := P.types.size + 1) (by omega) hw.1.2 hw.2 hd)
theorem keyShape_ok {t : TypeId} {ks : KS} (h : keyShape P t = some ks) : Keyed P t ∧ ∀ {x : AV} {v : Value}, fitK ks x = true → VR φ x v → ∃ l, keyOf P t v = some l := by
  unfold keyShape at h
  split at h
  · rename_i n e hu
    split at h
    · rename_i hc
      obtain ⟨hw, hn, he⟩ := hc
      simp only [Option.map_eq_some_iff] at h
      obtain ⟨c, hkc, rfl⟩ := h
      refine ⟨wideKeyed hw (by simp [hu]), fun {x v} hf hv => ?_⟩
      simp only [keyWide, Bool.and_eq_true, decide_eq_true_eq] at hw
      obtain ⟨⟨⟨h1, h2⟩, h3⟩, h4⟩ := hw
      obtain ⟨d, hd⟩ : ∃ d, P.types.size = d + 1 := ⟨P.types.size - 1, by omega⟩
      cases x <;> simp only [fitK] at hf <;> try (cases hf; done)
      rename_i cs
      cases hv
      rename_i us hus
      have hl := fitL_len hf
      rw [List.length_replicate] at hl
      have hl2 := hus.length
      have hm : ∃ ls, P.keyLits (P.types.size + 1) t us = some ls := by
        obtain ⟨ys, hys⟩ := mapM_some (f := fun i => P.keyLits (d + 1) e ((us.drop (i * P.cellsOf e)).take (P.cellsOf e))) (List.range n) (fun i hi => by
          have hi' := List.mem_range.1 hi
          obtain ⟨u, hu1, hu2⟩ := hus.get (i := i) (x := cs[i]'(by omega)) (List.getElem?_eq_getElem (by omega))
          rw [he, Nat.mul_one, cell_at hu1]
          exact plainLit hkc (fitL_get hf (i := i) (c := c) (by rw [List.getElem?_replicate, if_pos hi']) (List.getElem?_eq_getElem (by omega))) hu2 d)
        refine ⟨ys.flatten, ?_⟩
        rw [hd]
        unfold Program.keyLits
        simp only [hu]
        rw [if_pos (by rw [hn]; omega)]
        simp only [hys, Option.map_some]
      obtain ⟨ls, hls⟩ := hm
      refine ⟨.string (keyBytes ls), ?_⟩
      · unfold keyOf
        simp only [hu, Program.keyType, h3, Value.formed, Value.cells, hls, Option.map_some, hn, Bool.true_and, List.size_toArray]
        rw [if_pos (by simp; omega)]
    · cases h
  · rename_i fs hu
    split at h
    · rename_i hc
      obtain ⟨hw, hn⟩ := hc
      simp only [Option.map_eq_some_iff] at h
      obtain ⟨cc, hkc, rfl⟩ := h
      obtain ⟨g1, g2⟩ := keyFs_get hkc
      refine ⟨wideKeyed hw (by simp [hu]), fun {x v} hf hv => ?_⟩
      simp only [keyWide, Bool.and_eq_true, decide_eq_true_eq] at hw
      obtain ⟨⟨⟨h1, h2⟩, h3⟩, h4⟩ := hw
      obtain ⟨d, hd⟩ : ∃ d, P.types.size = d + 1 := ⟨P.types.size - 1, by omega⟩
      cases x <;> simp only [fitK] at hf <;> try (cases hf; done)
      rename_i cs
      cases hv
      rename_i us hus
      have hl := fitL_len hf
      have hl2 := hus.length
      have hsz : fs.toList.length = fs.size := by simp
      have hm : ∃ ls, P.keyLits (P.types.size + 1) t us = some ls := by
        obtain ⟨ys, hys⟩ := mapM_some (f := fun f : Field => P.keyLits (d + 1) f.type ((us.drop f.offset).take (P.cellsOf f.type))) fs.toList (fun f hi => by
          obtain ⟨j, hj⟩ := List.mem_iff_getElem?.1 hi
          obtain ⟨c, m1, m2, m3, m4, m5⟩ := g2 j f hj
          have hjl := (List.getElem?_eq_some_iff.1 hj).1
          obtain ⟨u, hu1, hu2⟩ := hus.get (i := j) (x := cs[j]'(by omega)) (List.getElem?_eq_getElem (by omega))
          rw [m4, m3, Nat.zero_add, cell_at hu1]
          exact plainLit m2 (fitL_get hf m1 (List.getElem?_eq_getElem (by omega))) hu2 d)
        refine ⟨ys.flatten, ?_⟩
        rw [hd]
        unfold Program.keyLits
        simp only [hu]
        rw [if_pos ⟨by rw [hn]; omega, by
          rw [← Array.all_toList, List.all_eq_true]
          intro f hi
          obtain ⟨j, hj⟩ := List.mem_iff_getElem?.1 hi
          obtain ⟨c, m1, m2, m3, m4, m5⟩ := g2 j f hj
          exact m5⟩]
        simp only [hys, Option.map_some]
      obtain ⟨ls, hls⟩ := hm
      refine ⟨.string (keyBytes ls), ?_⟩
      · unfold keyOf
        simp only [hu, Program.keyType, h3, Value.formed, Value.cells, hls, Option.map_some, hn, Bool.true_and, List.size_toArray]
        rw [if_pos (by simp; omega)]
    · cases h
  · simp only [Option.map_eq_some_iff] at h
    obtain ⟨c, hkc, rfl⟩ := h
    obtain ⟨k1, k2⟩ := plainKeyed (φ := φ) hkc
    exact ⟨k1, fun hf hv => k2 (by simpa [fitK] using hf) hv⟩

theorem ERs.length {ks : KS} : ∀ {es : List (AV × AV)} {es' : List MapEntry}, ERs φ ks es es' → es.length = es'.length
  | _, _, .nil => rfl
  | _, _, .cons _ _ _ _ r => by simp [r.length]
theorem ERs.get {ks : KS} : ∀ {es : List (AV × AV)} {es' : List MapEntry}, ERs φ ks es es' → ∀ {j : Nat} {e : MapEntry}, es'[j]? = some e → ∃ k v, es[j]? = some (k, v) ∧ fitK ks k = true ∧ VR φ k e.key ∧ VR φ v e.val
  | _, _, .nil, j, e, h => by simp at h
  | _, _, .cons f n a b r, 0, e, h => by
    simp only [List.getElem?_cons_zero, Option.some.injEq] at h
    subst h
    exact ⟨_, _, rfl, f, a, b⟩
  | _, _, .cons f n a b r, j + 1, e, h => by
    obtain ⟨k, v, h1, h2⟩ := r.get (j := j) (by simpa using h)
    exact ⟨k, v, by simpa using h1, h2⟩
theorem ERs.get' {ks : KS} {es : List (AV × AV)} {es' : List MapEntry} (h : ERs φ ks es es') {p : AV × AV} (hp : p ∈ es) : ∃ (j : Nat) (e : MapEntry), es'[j]? = some e ∧ es[j]? = some p ∧ fitK ks p.1 = true ∧ VR φ p.1 e.key := by
  obtain ⟨j, hj⟩ := List.mem_iff_getElem?.1 hp
  have hjl := (List.getElem?_eq_some_iff.1 hj).1
  have hl := h.length
  obtain ⟨k, v, h1, h2, h3, _⟩ := h.get (j := j) (e := es'[j]'(by omega)) (List.getElem?_eq_getElem (by omega))
  rw [hj] at h1
  injection h1 with h1
  subst h1
  exact ⟨j, _, List.getElem?_eq_getElem (by omega), hj, h2, h3⟩
theorem ERs.push {ks : KS} {k v : AV} {e : MapEntry} (hk : fitK ks k = true) (h1 : VR φ k e.key) (h2 : VR φ v e.val) : ∀ {es : List (AV × AV)} {es' : List MapEntry}, ERs φ ks es es' → (∀ p ∈ es, p.1 ≠ k) → ERs φ ks (es ++ [(k, v)]) (es' ++ [e])
  | _, _, .nil, _ => .cons hk (by simp) h1 h2 .nil
  | _, _, .cons f n a b r, h => .cons f (fun p hp => by
      rcases List.mem_append.1 hp with hp | hp
      · exact n p hp
      · have := List.mem_singleton.1 hp
        subst this
        exact fun q => h _ (List.mem_cons_self ..) q.symm) a b (r.push hk h1 h2 fun p hp => h p (by simp [hp]))
theorem ERs.set {ks : KS} {k v : AV} {e : MapEntry} (h1 : VR φ k e.key) (h2 : VR φ v e.val) : ∀ {es : List (AV × AV)} {es' : List MapEntry}, ERs φ ks es es' → ∀ {j : Nat} {v0 : AV}, es[j]? = some (k, v0) → ERs φ ks (es.set j (k, v)) (es'.set j e)
  | _, _, .nil, j, v0, h => by simp at h
  | _, _, .cons f n a b r, 0, v0, h => by
    simp only [List.getElem?_cons_zero, Option.some.injEq, Prod.mk.injEq] at h
    obtain ⟨rfl, rfl⟩ := h
    exact .cons f n h1 h2 r
  | _, _, .cons f n a b r, j + 1, v0, h => by
    have h' := (List.getElem?_cons_succ ▸ h)
    refine .cons f (fun p hp => ?_) a b (r.set h1 h2 h')
    rcases List.mem_or_eq_of_mem_set hp with hp | rfl
    · exact n p hp
    · exact n (k, v0) (List.mem_of_getElem? h')

theorem findV_none {ks : KS} {k : AV} (hk : fitK ks k = true) : ∀ {es : List (AV × AV)}, (∀ p ∈ es, fitK ks p.1 = true) → (∀ p ∈ es, p.1 ≠ k) → findV k es = none ∧ ∀ v, putE k v es = es ++ [(k, v)]
  | [], _, _ => ⟨rfl, fun _ => rfl⟩
  | (k', v') :: r, h1, h2 => by
    obtain ⟨i1, i2⟩ := findV_none hk (es := r) (fun p hp => h1 p (by simp [hp])) (fun p hp => h2 p (by simp [hp]))
    have hb : AV.beq k k' = false := by
      cases hq : AV.beq k k' with
      | false => rfl
      | true => exact absurd ((fitK_beq hk (h1 (k', v') (by simp))).1 hq).symm (h2 (k', v') (by simp))
    exact ⟨by simp [findV, hb, i1], fun v => by simp [putE, hb, i2]⟩
theorem findV_at {ks : KS} {k : AV} (hk : fitK ks k = true) : ∀ {es : List (AV × AV)} {es' : List MapEntry}, ERs φ ks es es' → ∀ {j : Nat} {v : AV}, es[j]? = some (k, v) → findV k es = some v ∧ ∀ u, putE k u es = es.set j (k, u)
  | _, _, .nil, j, v, h => by simp at h
  | _, _, .cons f n a b r, 0, v, h => by
    simp only [List.getElem?_cons_zero, Option.some.injEq, Prod.mk.injEq] at h
    obtain ⟨rfl, rfl⟩ := h
    have hb := (fitK_beq hk hk).2 rfl
    exact ⟨by simp [findV, hb], fun u => by simp [putE, hb]⟩
  | _, _, .cons (k := k') f n a b r, j + 1, v, h => by
    have h' := (List.getElem?_cons_succ ▸ h)
    obtain ⟨i1, i2⟩ := findV_at hk r h'
    have hb : AV.beq k k' = false := by
      cases hq : AV.beq k k' with
      | false => rfl
      | true => exact absurd ((fitK_beq hk f).1 hq) (n _ (List.mem_of_getElem? h'))
    exact ⟨by simp [findV, hb, i1], fun u => by simp [putE, hb, i2]⟩

/-- Whether the key is there. -/
theorem find_ok {t : TypeId} {ks : KS} (hks : keyShape P t = some ks) {es : List (AV × AV)} {es' : List MapEntry} (hE : ERs φ ks es es') {k : AV} {kv : Value} (hk : fitK ks k = true) (hv : VR φ k kv) (w : World) :
    ((Instr.findKey t kv es').run P w = .ok none w ∧ findV k es = none ∧ (∀ p ∈ es, p.1 ≠ k) ∧ ∀ u, putE k u es = es ++ [(k, u)]) ∨
    ∃ j e v, (Instr.findKey t kv es').run P w = .ok (some (j, e.val)) w ∧ es'[j]? = some e ∧ e.key = kv ∧ es[j]? = some (k, v) ∧ VR φ v e.val ∧ findV k es = some v ∧ ∀ u, putE k u es = es.set j (k, u) := by
  obtain ⟨K, hread⟩ := keyShape_ok (φ := φ) hks
  obtain ⟨l, hl⟩ := hread hk hv
  have hall : ∀ e ∈ es', ∃ l, keyOf P t e.key = some l := fun e he => by
    obtain ⟨j, hj⟩ := List.mem_iff_getElem?.1 he
    obtain ⟨k', v', _, h2, h3, _⟩ := hE.get hj
    exact hread h2 h3
  rcases K.find w hl es' hall with ⟨h1, h2⟩ | ⟨j, e, h1, h2, h3⟩
  · have hne : ∀ p ∈ es, p.1 ≠ k := fun p hp q => by
      obtain ⟨j, e, m1, m2, m3, m4⟩ := hE.get' hp
      exact h2 e (List.mem_of_getElem? m1) ((fitK_det m3 hk m4 hv).2 q)
    obtain ⟨i1, i2⟩ := findV_none hk (es := es) (fun p hp => by obtain ⟨_, _, _, _, m3, _⟩ := hE.get' hp; exact m3) hne
    exact .inl ⟨h1, i1, hne, i2⟩
  · obtain ⟨k', v', m1, m2, m3, m4⟩ := hE.get h2
    have hkk : k' = k := (fitK_det m2 hk m3 hv).1 h3
    subst hkk
    obtain ⟨i1, i2⟩ := findV_at hk hE m1
    exact .inr ⟨j, e, v', h1, h2, h3, m1, m4, i1, i2⟩

variable {B : Nat} {w0 : World} {h h' : Heap} {w : World}
/-- v, ok := m[k]. -/
theorem lookM_ok (hs : S B w0 φ h w) {t kt et : TypeId} (hu : P.underlying t = some (.map kt et)) {ks : KS} (hks : keyShape P kt = some ks) {z : AV} {zv : Value} (hz : ∀ w, (zeroValue et).run P w = .ok zv w) (hzr : VR φ z zv)
    {x k : AV} {x' k' : Value} (hx : VR φ x x') (hk : VR φ k k') {ok : Bool} {v : AV} (hv : lookM ks z ok h x k = some v) : ∃ v', (Instr.lookup t x' k' ok).run P w = .ok v' w ∧ VR φ v v' := by
  obtain ⟨K, hread⟩ := keyShape_ok (φ := φ) hks
  have tell0 : VR φ (told ok z none) (if ok then .tuple #[zv, .bool false] else zv) := by
    cases ok
    · exact hzr
    · exact .tup (cs' := [_, _]) (.cons hzr (.cons (.bool _) .nil))
  unfold lookM at hv
  split at hv
  · rename_i hf
    obtain ⟨l, hl⟩ := hread hf hk
    split at hv
    · injection hv with hv
      subst hv
      cases hx
      refine ⟨_, ?_, tell0⟩
      have hfd := K.find w hl [] (by simp)
      rcases hfd with ⟨h1, _⟩ | ⟨j, e, _, h2, _⟩
      · simp [Instr.lookup, run_underlying hu, K.check w _ hl, h1, hz, Result.andThen]
      · simp at h2
    · rename_i o
      cases hx
      rename_i b hb
      obtain ⟨ks0, es, g1, g2, es', clk, g3, g4⟩ := hs.wr.map _ _ hb
      rw [g1] at hv
      simp only at hv
      split at hv
      · rename_i hkk
        subst hkk
        injection hv with hv
        subst hv
        rcases find_ok hks g4 hf hk w with ⟨h1, h2, _⟩ | ⟨j, e, v', h1, h2, h3, h4, h5, h6, _⟩
        · refine ⟨_, ?_, by rw [h2]; exact tell0⟩
          simp [Instr.lookup, run_underlying hu, MapKept.run_getObj_map g3, K.check w _ hl, h1, hz, Result.andThen]
        · refine ⟨if ok then .tuple #[e.val, .bool true] else e.val, ?_, ?_⟩
          · simp [Instr.lookup, run_underlying hu, MapKept.run_getObj_map g3, K.check w _ hl, h1, Result.andThen]
          · rw [h6]
            cases ok
            · exact h5
            · exact .tup (cs' := [_, _]) (.cons h5 (.cons (.bool _) .nil))
      · cases hv
    · cases hv
  · cases hv

theorem S.setMap (hs : S B w0 φ h w) {o b : Nat} (hm : φ.m o = some b) {ks ks' : KS} {es es2 : List (AV × AV)} (ho : h[o]? = some (.map ks es)) {es' es2' : Array MapEntry} {clk clk2 : Nat} (hb : w.heap[b]? = some (.map es' clk)) (hBb : B ≤ b) (hE : ERs φ ks' es2 es2'.toList) :
    S B w0 φ (h.set o (.map ks' es2)) { w with heap := w.heap.setIfInBounds b (.map es2' clk2) } ∧ Kept φ h φ (h.set o (.map ks' es2)) := by
  have hol := (List.getElem?_eq_some_iff.1 ho).1
  have hbl := heap_lt hb
  have heapSet : ∀ o', o' ≠ o → (h.set o (.map ks' es2))[o']? = h[o']? := fun o' hne => by rw [List.getElem?_set_ne (Ne.symm hne)]
  have heapO : (h.set o (.map ks' es2))[o]? = some (.map ks' es2) := by rw [List.getElem?_set_self hol]
  have blk : ∀ k, k ≠ b → (w.heap.setIfInBounds b (.map es2' clk2))[k]? = w.heap[k]? := fun k hk => by
    rw [Array.getElem?_setIfInBounds_ne (Ne.symm hk)]
  have here : (w.heap.setIfInBounds b (.map es2' clk2))[b]? = some (.map es2' clk2) := by
    rw [Array.getElem?_setIfInBounds_self_of_lt hbl]
  have ro1 : ∀ o', isRo (h.set o (.map ks' es2)) o' = isRo h o' := fun o' => by
    by_cases hoo : o' = o
    · subst hoo; simp [isRo, heapO, ho]
    · simp [isRo, heapSet _ hoo]
  refine ⟨⟨⟨fun o' g' l' hl' => ?_, fun o' b' hb' => ?_, fun o1 g1 l1 o2 g2 l2 e1 e2 e3 => ?_, hs.wr.msep⟩, hs.below.trans ⟨rfl, rfl, rfl, by simp, fun k hk => blk k (by omega)⟩, by simpa using hs.base⟩, .refl _, by simp, fun o' ho' hc hm' => ⟨hc, hm', heapSet _ (by rintro rfl; rw [hm] at hm'; cases hm')⟩⟩
  · obtain ⟨c, h2, h3⟩ := hs.wr.cell o' g' l' hl'
    have hne : o' ≠ o := by rintro rfl; rw [ho] at h2; cases h2
    have hbb : l'.b ≠ b := by
      intro q
      obtain ⟨C, e, fr, a, _⟩ := h3.blk
      rw [q, hb] at a; cases a
    exact ⟨c, (heapSet _ hne).trans h2, h3.move (blk _ hbb)⟩
  · by_cases hoo : o' = o
    · subst hoo
      rw [hm] at hb'
      injection hb' with hb'
      subst hb'
      exact ⟨ks', es2, heapO, hBb, es2', clk2, here, hE⟩
    · obtain ⟨k0, e0, h2, h3, e0', c0, h4, h5⟩ := hs.wr.map o' b' hb'
      have hbb : b' ≠ b := fun q => hoo (hs.wr.msep _ _ _ _ hb' hm q)
      exact ⟨k0, e0, (heapSet _ hoo).trans h2, h3, e0', c0, (blk _ hbb).trans h4, h5⟩
  · rw [ro1, ro1]
    exact hs.wr.sep _ _ _ _ _ _ e1 e2 e3

/-- m[k] = v. -/
theorem updM_ok (hs : S B w0 φ h w) {t kt et : TypeId} (hu : P.underlying t = some (.map kt et)) {ks : KS} (hks : keyShape P kt = some ks)
    {x k v : AV} {x' k' v' : Value} (hx : VR φ x x') (hk : VR φ k k') (hv : VR φ v v') (he : updM ks h x k v = some h') : ∃ w', (Instr.mapUpdate t x' k' v').run P w = .ok () w' ∧ S B w0 φ h' w' ∧ Kept φ h φ h' := by
  obtain ⟨K, hread⟩ := keyShape_ok (φ := φ) hks
  unfold updM at he
  split at he
  · rename_i hf
    obtain ⟨l, hl⟩ := hread hf hk
    split at he
    · rename_i o
      cases hx
      rename_i b hb
      obtain ⟨ks0, es, g1, g2, es', clk, g3, g4⟩ := hs.wr.map _ _ hb
      rw [g1] at he
      simp only at he
      split at he
      · rename_i hkk
        subst hkk
        injection he with he
        subst he
        rcases find_ok hks g4 hf hk w with ⟨h1, h2, hne, hput⟩ | ⟨j, e, v0, h1, h2, h3, h4, h5, h6, hput⟩
        · rw [hput]
          have hE : ERs φ ks0 (es ++ [(k, v)]) (es'.push ⟨k', v', clk⟩).toList := by
            rw [Array.toList_push]
            exact g4.push (e := ⟨k', v', clk⟩) hf hk hv hne
          obtain ⟨s1, s2⟩ := hs.setMap (clk2 := clk + 1) hb g1 g3 g2 hE
          refine ⟨_, ?_, s1, s2⟩
          simp [Instr.mapUpdate, run_underlying hu, MapKept.run_getObj_map g3, K.check w false hl, h1, MapKept.run_setObj_map _ g3, Result.andThen]
        · rw [hput]
          have hj : es'[j]? = some e := by simpa using h2
          have hE : ERs φ ks0 (es.set j (k, v)) (es'.modify j (fun e' => { e' with key := k', val := v' })).toList := by
            rw [Array.toList_modify, ChangeMaps.modify_eq_set _ _ _ _ h2]
            exact g4.set (e := { e with key := k', val := v' }) hk hv h4
          obtain ⟨s1, s2⟩ := hs.setMap (clk2 := clk) hb g1 g3 g2 hE
          refine ⟨_, ?_, s1, s2⟩
          simp [Instr.mapUpdate, run_underlying hu, MapKept.run_getObj_map g3, K.check w false hl, h1, hj, h3, K.stays w hl, MapKept.run_setObj_map _ g3, Result.andThen]
      · cases he
    · cases he
  · cases he
end
end Go.Gm
