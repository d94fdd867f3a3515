/- A part of the proof: GmE: an abstract machine, what it does, and what the functions of the program come to on it. -/
import Derived.Test.YtdpmglimjmecgaaGmZ
import Derived.Test.YtdpmglimjmecgaaGmLay
set_option linter.unusedVariables false
set_option linter.unusedSimpArgs false
namespace Go.Gm
/- A heap of which one map changes. -/

theorem AV.beq_iff {a b : AV} : AV.beq a b = true ↔ a = b := ⟨AV.beq_eq, fun h => h ▸ AV.beq_refl a⟩
instance : DecidableEq AV := fun a b => if h : AV.beq a b = true then isTrue (AV.beq_iff.1 h) else isFalse fun q => h (AV.beq_iff.2 q)
theorem findV_put {k k' v : AV} : ∀ (es : List (AV × AV)), findV k (putE k' v es) = if k = k' then some v else findV k es
  | [] => by
    simp only [putE, findV]
    by_cases h : k = k'
    · rw [if_pos (AV.beq_iff.2 h), if_pos h]
    · rw [if_neg (fun q => h (AV.beq_iff.1 q)), if_neg h]
  | (a, b) :: r => by
    simp only [putE]
    by_cases h1 : AV.beq k' a = true
    · have e1 := AV.beq_iff.1 h1
      subst e1
      rw [if_pos h1]
      simp only [findV]
      by_cases h : k = k'
      · rw [if_pos (AV.beq_iff.2 h), if_pos h]
      · rw [if_neg (fun q => h (AV.beq_iff.1 q)), if_neg h, if_neg (fun q => h (AV.beq_iff.1 q))]
    · rw [if_neg h1]
      simp only [findV, findV_put r]
      by_cases h : k = k'
      · subst h
        rw [if_neg h1, if_pos rfl]; simp
      · rw [if_neg h, if_neg h]
theorem lookM_i {ks : KS} {z k : AV} {ok : Bool} {h : Heap} {o : Nat} {es : List (AV × AV)} (ho : h[o]? = some (.map ks es)) (hf : fitK ks k = true) : lookM ks z ok h (.map o) k = some (told ok z (findV k es)) := by
  simp [lookM, hf, ho]
theorem updM_i {ks : KS} {k v : AV} {h : Heap} {o : Nat} {es : List (AV × AV)} (ho : h[o]? = some (.map ks es)) (hf : fitK ks k = true) : updM ks h (.map o) k v = some (h.set o (.map ks (putE k v es))) := by
  simp [updM, hf, ho]
theorem fit_i {n : Int} (h0 : -9223372036854775808 ≤ n) (h1 : n ≤ 9223372036854775807) : fitC (.i .i64) (I n) = true := by
  simp [fitC, IntKind.min, IntKind.max, IntKind.bits, IntKind.signed]; omega
theorem extr_tup (i : Nat) (vs : List AV) : extr i (.tup vs) = vs[i]? := rfl

/-- All but map k is as it was. -/
structure ExM (k : Nat) (h h' : Heap) : Prop where
  len : h.length ≤ h'.length
  get : ∀ o, o ≠ k → o < h.length → h'[o]? = h[o]?
  isM : ∃ ks es es', h[k]? = some (.map ks es) ∧ h'[k]? = some (.map ks es')
section
variable {k : Nat} {h h' h'' : Heap}
theorem ExM.lt (a : ExM k h h') : k < h.length := by
  obtain ⟨_, _, _, e, _⟩ := a.isM
  exact (List.getElem?_eq_some_iff.1 e).1
theorem ExM.refl {ks : KS} {es : List (AV × AV)} (e : h[k]? = some (.map ks es)) : ExM k h h := ⟨Nat.le_refl _, fun _ _ _ => rfl, ks, es, es, e, e⟩
theorem ExM.trans (a : ExM k h h') (b : ExM k h' h'') : ExM k h h'' := by
  refine ⟨Nat.le_trans a.len b.len, fun o h1 h2 => (b.get o h1 (Nat.lt_of_lt_of_le h2 a.len)).trans (a.get o h1 h2), ?_⟩
  obtain ⟨ks, es, es', e1, e2⟩ := a.isM
  obtain ⟨ks2, es2, es3, e3, e4⟩ := b.isM
  rw [e2] at e3
  injection e3 with e3
  injection e3 with e3 e5
  subst e3 e5
  exact ⟨ks, es, es3, e1, e4⟩
theorem ExM.ofExt {ks : KS} {es : List (AV × AV)} (e : h[k]? = some (.map ks es)) (x : Ext h h') : ExM k h h' :=
  ⟨x.len, fun o _ h2 => (ext_iff.1 x).2 o h2, ks, es, es, e, x.get e⟩
theorem ExM.ext (a : ExM k h h') (x : Ext h' h'') : ExM k h h'' := by
  obtain ⟨ks, es, es', e1, e2⟩ := a.isM
  exact a.trans (ExM.ofExt e2 x)
theorem ExM.fr (a : ExM k h h') {lo hi : Nat} (f : Fr lo hi h' h'') (hl : h.length ≤ lo) : ExM k h h'' := by
  have hk := a.lt
  have hlen := a.len
  refine ⟨Nat.le_trans a.len f.len, fun o h1 h2 => (f.get (by omega) (by omega)).trans (a.get o h1 h2), ?_⟩
  obtain ⟨ks, es, es', e1, e2⟩ := a.isM
  exact ⟨ks, es, es', e1, (f.get (by omega) (by omega)).trans e2⟩
theorem ExM.put {ks : KS} {es : List (AV × AV)} (e : h[k]? = some (.map ks es)) (es' : List (AV × AV)) : ExM k h (h.set k (.map ks es')) := by
  refine ⟨by simp, fun o h1 h2 => List.getElem?_set_ne (Ne.symm h1), ks, es, es', e, ?_⟩
  rw [List.getElem?_set_self (List.getElem?_eq_some_iff.1 e).1]
theorem ExM.cells (a : ExM k h h') {o : Nat} {c : CObj} (e : h[o]? = some (.cells c)) : h'[o]? = some (.cells c) := by
  have : o ≠ k := by
    rintro rfl
    obtain ⟨_, _, _, e1, _⟩ := a.isM
    rw [e] at e1; cases e1
  exact (a.get o this (List.getElem?_eq_some_iff.1 e).1).trans e
theorem Sl.exm {sz : Nat} {s : AV} {xs : List (List AV)} (a : Sl h sz s xs) (x : ExM k h h') : Sl h' sz s xs := by
  rcases a with a | ⟨o, off, lim, g, c, h1, h2, h3⟩
  · exact .inl a
  · exact .inr ⟨o, off, lim, g, c, h1, x.cells h2, h3⟩
theorem At.exm {p : AV} {cs : List AV} (a : At h p cs) (x : ExM k h h') : At h' p cs := by
  obtain ⟨o, off, hi, g, c, h1, h2, h3, h4⟩ := a
  exact ⟨o, off, hi, g, c, h1, h2, x.cells h3, h4⟩
theorem Gr.exm {lo hi sz : Nat} {s : AV} {xs : List (List AV)} (a : Gr lo hi h sz s xs) (x : ExM k h h') : Gr lo hi h' sz s xs := by
  rcases a with a | ⟨o, g, wg, cs, h1, h2, h3, h4, h5⟩
  · exact .inl a
  · exact .inr ⟨o, g, wg, cs, h1, h2, h3, x.cells h4, h5⟩
end
/-- What lies elsewhere stays. -/
theorem Sl.fr {lo hi : Nat} {h h' : Heap} {sz : Nat} {s : AV} {xs : List (List AV)} (a : Sl h sz s xs) (f : Fr lo hi h h') (hd : s ≠ .nils → s.obj < lo ∨ hi ≤ s.obj) : Sl h' sz s xs := by
  rcases a with a | ⟨o, off, lim, g, c, rfl, h2, h3⟩
  · exact .inl a
  · exact .inr ⟨o, off, lim, g, c, rfl, (f.get (hd (by simp)) (List.getElem?_eq_some_iff.1 h2).1).trans h2, h3⟩
theorem Sl.objLt {h : Heap} {sz : Nat} {s : AV} {xs : List (List AV)} (a : Sl h sz s xs) (hs : s ≠ .nils) : s.obj < h.length := by
  rcases a with a | ⟨o, off, lim, g, c, rfl, h2, h3⟩
  · exact absurd a.1 hs
  · exact (List.getElem?_eq_some_iff.1 h2).1
theorem Sl.nnil {h : Heap} {sz : Nat} {s : AV} {xs : List (List AV)} (a : Sl h sz s xs) (hx : xs ≠ []) : s ≠ .nils := by
  rcases a with a | ⟨o, off, lim, g, c, rfl, h2, h3⟩
  · exact absurd a.2 hx
  · simp
theorem Gr.objIn {lo hi : Nat} {h : Heap} {sz : Nat} {s : AV} {xs : List (List AV)} (a : Gr lo hi h sz s xs) (hs : s ≠ .nils) : lo ≤ s.obj ∧ s.obj < hi := by
  rcases a with a | ⟨o, g, wg, cs, h1, h2, rfl, _⟩
  · exact absurd a.1 hs
  · exact ⟨h1, h2⟩
end Go.Gm
