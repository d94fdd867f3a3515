/- A part of the proof (GmA9C): an abstract machine, what it does, and what the functions of the program come to on it. -/
import Derived.Test.YtidaobchfmnjpaaGmA9B
set_option linter.unusedVariables false
set_option linter.unusedSimpArgs false
set_option linter.unusedSectionVars false
namespace Go.Gm.A9
open Go Go.Gm

def cnt (M : List (Option Int)) : Nat := M.countP (·.isSome)
theorem cnt_le (M : List (Option Int)) : cnt M ≤ M.length := List.countP_le_length
theorem gi_elem {α : Type} [Inhabited α] {xs : List α} {i : Int} (h0 : 0 ≤ i) (h1 : i < xs.length) : xs[i.toNat]? = some (gi xs i) := gi_some h0 h1
theorem cnt_set {M : List (Option Int)} {i : Int} (h0 : 0 ≤ i) (h1 : i < M.length) (x : Option Int) : cnt (M.set i.toNat x) + (if (gi M i).isSome then 1 else 0) = cnt M + (if x.isSome then 1 else 0) := by
  have hi : i.toNat < M.length := by omega
  have hx : M[i.toNat] = gi M i := by
    have := gi_some h0 h1
    rw [List.getElem?_eq_getElem hi] at this
    injection this
  have h2 := List.countP_set (p := fun y : Option Int => y.isSome) (a := x) hi
  rw [hx] at h2
  have h3 : (gi M i).isSome = true → 0 < cnt M := fun q => List.countP_pos_iff.2 ⟨gi M i, gi_mem h0 h1, q⟩
  unfold cnt at *
  rw [h2]
  by_cases h4 : (gi M i).isSome = true
  · have := h3 h4
    simp only [h4, if_true]
    omega
  · simp only [if_neg h4]
    omega

def putM (N : Nat) (M : List (Option Int)) (id key : Int) : List (Option Int) × Bool :=
  if 0 ≤ id ∧ id < N then match gi M id with
    | none => (M.set id.toNat (some key), true)
    | some k => if k ≤ key then (M, false) else (M.set id.toNat (some key), true)
  else (M, false)
def keyM (N : Nat) (M : List (Option Int)) (id : Int) : Option Int := if 0 ≤ id ∧ id < N then gi M id else none
structure IsMin (N : Nat) (M : List (Option Int)) (id key : Int) : Prop where
  i0 : 0 ≤ id
  i1 : id < N
  k : gi M id = some key
  m : ∀ id' k' : Int, 0 ≤ id' → id' < N → gi M id' = some k' → ¬ ltI (id', k') (id, key)
theorem IsMin.uniq {N : Nat} {M : List (Option Int)} {a b c d : Int} (h : IsMin N M a b) (k : IsMin N M c d) : a = c ∧ b = d := by
  have h1 := h.m c d k.i0 k.i1 k.k
  have h2 := k.m a b h.i0 h.i1 h.k
  simp only [ltI] at h1 h2
  omega
theorem putM_len {N : Nat} {M : List (Option Int)} (id key : Int) : (putM N M id key).1.length = M.length := by
  unfold putM
  split
  · split
    · simp
    · split <;> simp
  · rfl

def QV (W : Nat → Prop) (h : Heap) (q : AV) (N : Nat) (M : List (Option Int)) : Prop :=
  ∃ oq xs at', q = .ptr oq 0 2 0 ∧ QS W h oq xs at' ∧ Rep N xs at' M ∧ Hp xs.length xs ∧ xs.length = cnt M
section
variable {W : Nat → Prop} {h h' : Heap} {q : AV} {N : Nat} {M : List (Option Int)}
theorem QV.ext (v : QV W h q N M) (e : Ext h h') : QV W h' q N M := let ⟨oq, xs, a, h1, h2, h3⟩ := v; ⟨oq, xs, a, h1, h2.ext e, h3⟩
theorem QV.mono {W' : Nat → Prop} (v : QV W h q N M) (hw : ∀ o, o < h.length → W o → W' o) : QV W' h q N M := let ⟨oq, xs, a, h1, h2, h3⟩ := v; ⟨oq, xs, a, h1, h2.mono hw, h3⟩
theorem QV.frs {D : Nat → Prop} (v : QV W h q N M) (f : FrS D h h') (hd : ∀ o, o < h.length → W o → ¬ D o) : QV W h' q N M := let ⟨oq, xs, a, h1, h2, h3⟩ := v; ⟨oq, xs, a, h1, h2.frs f hd, h3⟩
theorem QV.lm (v : QV W h q N M) : M.length = N := let ⟨oq, xs, a, h1, h2, h3, _⟩ := v; h3.lm
theorem QV.notNil (v : QV W h q N M) : binV .eql .ptr q .nilp = some (.bool false) := by
  obtain ⟨oq, xs, a, rfl, _⟩ := v; rfl

theorem line_spec (oq : Nat) (h : Heap) : Tot tab f_queue_Queue_line [.ptr oq 0 2 0] h fun r h' => r = .ifc tyHp (.ptr oq 0 2 0) ∧ h = h' := by
  refine WP.tot (fun k => (call_queue_Queue_line k _ h).trans (queue_Queue_line_eq tab k _ h)) ?_
  simp -implicitDefEqProofs (disch := first | assumption | omega | (simp only [gL] <;> omega) | ((repeat (first | exact Ext.refl _ | assumption | apply Ext.app | apply Ext.mk | (refine Ext.setr ?_ (by (first | omega | (simp only [gL] <;> omega))) _))); done) | (simp only [gL, gA] <;> omega) | fail) only [gB, setAll, partL, fldV, reduceIte, Nat.reduceAdd, Nat.reduceMul]
  exact WP.ret ⟨rfl, rfl⟩
theorem qLen_spec (v : QV W h q N M) : Tot tab f_queue_Queue_Len [q] h fun r h' => r = I (cnt M) ∧ h = h' := by
  obtain ⟨oq, xs, a, rfl, qs, r, hp, hc⟩ := v
  refine WP.tot (fun k => (call_queue_Queue_Len k _ h).trans (queue_Queue_Len_eq tab k _ h)) ?_
  simp -implicitDefEqProofs (disch := first | assumption | omega | (simp only [gL] <;> omega) | ((repeat (first | exact Ext.refl _ | assumption | apply Ext.app | apply Ext.mk | (refine Ext.setr ?_ (by (first | omega | (simp only [gL] <;> omega))) _))); done) | (simp only [gL, gA] <;> omega) | fail) only [gB, setAll, partL, fldV, reduceIte, Nat.reduceAdd, Nat.reduceMul]
  refine WP.call (Len_spec qs) ?_
  rintro _ _ ⟨rfl, rfl⟩
  exact WP.ret ⟨by rw [hc], rfl⟩
theorem qKey_spec (v : QV W h q N M) (id : Int) : Tot tab f_queue_Queue_Key [q, I id] h fun r h' => (r = match keyM N M id with | some k => .tup [I k, .bool true] | none => .tup [I 0, .bool false]) ∧ h = h' := by
  obtain ⟨oq, xs, a, rfl, qs, r, hp, hc⟩ := v
  refine WP.tot (fun k => (call_queue_Queue_Key k _ _ h).trans (queue_Queue_Key_eq tab k _ _ h)) ?_
  refine WP.call (line_spec oq h) ?_
  rintro _ _ ⟨rfl, rfl⟩
  simp -implicitDefEqProofs (disch := first | assumption | omega | (simp only [gL] <;> omega) | ((repeat (first | exact Ext.refl _ | assumption | apply Ext.app | apply Ext.mk | (refine Ext.setr ?_ (by (first | omega | (simp only [gL] <;> omega))) _))); done) | (simp only [gL, gA, meth_place] <;> omega) | fail) only [gB, setAll, partL, fldV, reduceIte, Nat.reduceAdd, Nat.reduceMul, meth_place]
  refine WP.call (place_spec qs id) ?_
  rintro _ _ ⟨rfl, rfl⟩
  have la := r.la
  by_cases hid : 0 ≤ id ∧ id < N
  · rw [if_pos (by omega), keyM, if_pos hid]
    rcases r.b id hid.1 hid.2 with ⟨h1, h2⟩ | ⟨h1, h2, h3, h4⟩
    · rw [h1, h2]
      simp -implicitDefEqProofs (disch := first | assumption | omega | (simp only [gL] <;> omega) | ((repeat (first | exact Ext.refl _ | assumption | apply Ext.app | apply Ext.mk | (refine Ext.setr ?_ (by (first | omega | (simp only [gL] <;> omega))) _))); done) | (simp only [gL, gA] <;> omega) | fail) only [gB, setAll, partL, fldV, reduceIte, Nat.reduceAdd, Nat.reduceMul]
      exact WP.ret ⟨rfl, rfl⟩
    · rw [h4]
      obtain ⟨s1, s2, o1, o2, qs⟩ := qs
      simp -implicitDefEqProofs (disch := first | assumption | omega | (simp only [gL] <;> omega) | ((repeat (first | exact Ext.refl _ | assumption | apply Ext.app | apply Ext.mk | (refine Ext.setr ?_ (by (first | omega | (simp only [gL] <;> omega))) _))); done) | (simp only [gL, gA, qs.row, qs.g1.sl.idxG, qs.g1.sl.ldf, encIt] <;> omega) | fail) only [gB, setAll, partL, fldV, reduceIte, Nat.reduceAdd, Nat.reduceMul, qs.row, qs.g1.sl.idxG, qs.g1.sl.ldf, encIt]
      exact WP.ret ⟨rfl, rfl⟩
  · rw [if_neg (by omega), keyM, if_neg hid]
    simp -implicitDefEqProofs (disch := first | assumption | omega | (simp only [gL] <;> omega) | ((repeat (first | exact Ext.refl _ | assumption | apply Ext.app | apply Ext.mk | (refine Ext.setr ?_ (by (first | omega | (simp only [gL] <;> omega))) _))); done) | (simp only [gL, gA] <;> omega) | fail) only [gB, setAll, partL, fldV, reduceIte, Nat.reduceAdd, Nat.reduceMul]
    exact WP.ret ⟨rfl, rfl⟩
theorem hPush_spec {oq : Nat} {xs : List (Int × Int)} {at' : List Int} (qs : QS W h oq xs at') (r : Rep N xs at' M) (hp : Hp xs.length xs) {id key : Int} (h0 : 0 ≤ id) (h1 : id < N) (hn : gi at' id = -1) (hlen : xs.length + 1 ≤ 10000000) :
    Tot tab f_container_heap_Push [.ifc tyHp (.ptr oq 0 2 0), .ifc tyIt (.agg (encIt (id, key)))] h fun _ h' => ∃ xs2 at2, QS (fun o => W o ∨ h.length ≤ o) h' oq xs2 at2 ∧ Rep N xs2 at2 (M.set id.toNat (some key)) ∧ Hp xs2.length xs2 ∧ xs2.length = xs.length + 1 ∧ FrS W h h' := by
  refine WP.tot (fun k => (call_container_heap_Push k _ _ h).trans (container_heap_Push_eq tab k _ _ h)) ?_
  have la := r.la
  simp -implicitDefEqProofs (disch := first | assumption | omega | (simp only [gL] <;> omega) | ((repeat (first | exact Ext.refl _ | assumption | apply Ext.app | apply Ext.mk | (refine Ext.setr ?_ (by (first | omega | (simp only [gL] <;> omega))) _))); done) | (simp only [gL, gA, meth_Push] <;> omega) | fail) only [gB, setAll, partL, fldV, reduceIte, Nat.reduceAdd, Nat.reduceMul, meth_Push]
  refine WP.call (Push_spec qs h0 (by omega) hlen) ?_
  rintro _ h2 ⟨q2, f2⟩
  simp -implicitDefEqProofs (disch := first | assumption | omega | (simp only [gL] <;> omega) | ((repeat (first | exact Ext.refl _ | assumption | apply Ext.app | apply Ext.mk | (refine Ext.setr ?_ (by (first | omega | (simp only [gL] <;> omega))) _))); done) | (simp only [gL, gA, meth_Len] <;> omega) | fail) only [gB, setAll, partL, fldV, reduceIte, Nat.reduceAdd, Nat.reduceMul, meth_Len]
  refine WP.call (Len_spec q2) ?_
  rintro _ _ ⟨rfl, rfl⟩
  have hl : (xs ++ [(id, key)]).length = xs.length + 1 := by simp
  have r2 := r.push (key := key) h0 h1 hn
  have hj : ((xs ++ [(id, key)]).length : Int) - 1 = xs.length := by omega
  simp only [hl] at hj ⊢
  simp -implicitDefEqProofs (disch := first | assumption | omega | (simp only [gL] <;> omega) | ((repeat (first | exact Ext.refl _ | assumption | apply Ext.app | apply Ext.mk | (refine Ext.setr ?_ (by (first | omega | (simp only [gL] <;> omega))) _))); done) | (simp only [gL, gA, hj] <;> omega) | fail) only [gB, setAll, partL, fldV, reduceIte, Nat.reduceAdd, Nat.reduceMul, hj]
  refine WP.call (up_spec (j := xs.length) (by omega) (by omega) q2 r2 (by rw [hl]; exact hp.push rfl _)) ?_
  rintro _ h3 ⟨xs2, at2, q3, r3, hp3, hl3, f3⟩
  rw [hl] at hl3 hp3
  refine WP.ret ⟨xs2, at2, q3, r3, by rw [hl3]; exact hp3, hl3, ⟨by have := f2.len; have := f3.len; omega, fun o k1 k2 => ?_⟩⟩
  have := f2.len
  rw [f3.get (fun z => by rcases z with z | z; exact k1 z; omega) (by omega), f2.get k1 k2]
theorem hPop_spec {oq : Nat} {xs : List (Int × Int)} {at' : List Int} {n : Nat} (qs : QS W h oq xs at') (r : Rep N xs at' M) (hp : Hp xs.length xs) (hn : xs.length = n + 1) :
    Tot tab f_container_heap_Pop [.ifc tyHp (.ptr oq 0 2 0)] h fun v h' => v = .ifc tyIt (.agg (encIt (gi xs 0))) ∧ ∃ xs2 at2, QS W h' oq xs2 at2 ∧ Rep N xs2 at2 (M.set (gi xs 0).1.toNat none) ∧ Hp xs2.length xs2 ∧ xs2.length = n ∧ FrS W h h' := by
  refine WP.tot (fun k => (call_container_heap_Pop k _ h).trans (container_heap_Pop_eq tab k _ h)) ?_
  have hlen := qs.len
  simp -implicitDefEqProofs (disch := first | assumption | omega | (simp only [gL] <;> omega) | ((repeat (first | exact Ext.refl _ | assumption | apply Ext.app | apply Ext.mk | (refine Ext.setr ?_ (by (first | omega | (simp only [gL] <;> omega))) _))); done) | (simp only [gL, gA, meth_Len] <;> omega) | fail) only [gB, setAll, partL, fldV, reduceIte, Nat.reduceAdd, Nat.reduceMul, meth_Len]
  refine WP.call (Len_spec qs) ?_
  rintro _ _ ⟨rfl, rfl⟩
  have hj : (xs.length : Int) - 1 = n := by omega
  simp -implicitDefEqProofs (disch := first | assumption | omega | (simp only [gL] <;> omega) | ((repeat (first | exact Ext.refl _ | assumption | apply Ext.app | apply Ext.mk | (refine Ext.setr ?_ (by (first | omega | (simp only [gL] <;> omega))) _))); done) | (simp only [gL, gA, hj, meth_Swap] <;> omega) | fail) only [gB, setAll, partL, fldV, reduceIte, Nat.reduceAdd, Nat.reduceMul, hj, meth_Swap]
  refine WP.call (swapR qs r (i := 0) (j := (n : Int)) (by omega) (by omega) (by omega) (by omega)) ?_
  rintro _ h2 ⟨at2, q2, r2, f2⟩
  rw [hn] at hp
  refine WP.call (down_spec (n := n) (i := 0) (rt := gi xs 0) (by rw [sw_len]; omega) (by omega) (by omega) q2 r2 (hp.begin hn) (fun p p0 p1 => ?_)) ?_
  · rw [sw_len] at p1
    rw [gi_sw (by omega) (by omega) (by omega) (by omega) (by omega), if_pos (by omega)]
  rintro _ h3 ⟨⟨b, rfl⟩, xs3, at3, q3, r3, hp3, hl3, hr3, f3⟩
  rw [sw_len] at hl3 hr3
  have hr3n := hr3 n (Int.le_refl _) (by omega)
  have an := r3.a n (by omega) (by omega)
  have la3 := r3.la
  simp -implicitDefEqProofs (disch := first | assumption | omega | (simp only [gL] <;> omega) | ((repeat (first | exact Ext.refl _ | assumption | apply Ext.app | apply Ext.mk | (refine Ext.setr ?_ (by (first | omega | (simp only [gL] <;> omega))) _))); done) | (simp only [gL, gA, meth_Pop] <;> omega) | fail) only [gB, setAll, partL, fldV, reduceIte, Nat.reduceAdd, Nat.reduceMul, meth_Pop]
  refine WP.call (HPop_spec q3 (n := n) (by omega) ⟨an.1, by omega⟩) ?_
  rintro _ h4 ⟨rfl, q4, f4⟩
  have r4 := r3.pop (n := n) (by omega)
  rw [hr3n] at q4 r4 ⊢
  have hl4 : (xs3.take n).length = n := by simp; omega
  refine WP.ret ⟨rfl, xs3.take n, _, q4, r4, ?_, hl4, (f2.trans f3).trans f4⟩
  rw [hl4]
  intro i i0 i1
  have := par_lt i0
  rw [gi_take' (by omega) (by omega), gi_take' (by omega) (by omega)]
  exact hp3 i i0 i1
theorem hFix_spec {oq : Nat} {xs : List (Int × Int)} {at' : List Int} {i : Int} (qs : QS W h oq xs at') (r : Rep N xs at' M) (i0 : 0 ≤ i) (i1 : i < xs.length) (u : UpI xs.length xs i) (hc : ∀ c, 0 < c → c < (xs.length : Int) → par c = i → ¬ ltI (gi xs c) (gi xs i)) :
    Tot tab f_container_heap_Fix [.ifc tyHp (.ptr oq 0 2 0), I i] h fun v h' => ∃ xs2 at2, QS W h' oq xs2 at2 ∧ Rep N xs2 at2 M ∧ Hp xs2.length xs2 ∧ xs2.length = xs.length ∧ FrS W h h' := by
  refine WP.tot (fun k => (call_container_heap_Fix k _ _ h).trans (container_heap_Fix_eq tab k _ _ h)) ?_
  simp -implicitDefEqProofs (disch := first | assumption | omega | (simp only [gL] <;> omega) | ((repeat (first | exact Ext.refl _ | assumption | apply Ext.app | apply Ext.mk | (refine Ext.setr ?_ (by (first | omega | (simp only [gL] <;> omega))) _))); done) | (simp only [gL, gA, meth_Len] <;> omega) | fail) only [gB, setAll, partL, fldV, reduceIte, Nat.reduceAdd, Nat.reduceMul, meth_Len]
  refine WP.call (Len_spec qs) ?_
  rintro _ _ ⟨rfl, rfl⟩
  refine WP.call (down_stay i0 i1 qs hc) ?_
  rintro _ h2 ⟨rfl, e2⟩
  simp -implicitDefEqProofs (disch := first | assumption | omega | (simp only [gL] <;> omega) | ((repeat (first | exact Ext.refl _ | assumption | apply Ext.app | apply Ext.mk | (refine Ext.setr ?_ (by (first | omega | (simp only [gL] <;> omega))) _))); done) | (simp only [gL, gA] <;> omega) | fail) only [gB, setAll, partL, fldV, reduceIte, Nat.reduceAdd, Nat.reduceMul]
  refine WP.call (up_spec i0 i1 (qs.ext e2) r u) ?_
  rintro _ h3 ⟨xs3, at3, q3, r3, hp3, hl3, f3⟩
  exact WP.ret ⟨xs3, at3, q3, r3, by rw [hl3]; exact hp3, hl3, (FrS.ofExt e2).trans f3⟩
theorem qPut_spec (v : QV W h q N M) (hN : N ≤ 1000000) (id key : Int) : Tot tab f_queue_Queue_Put [q, I id, I key] h fun r h' => r = .bool (putM N M id key).2 ∧ QV (fun o => W o ∨ h.length ≤ o) h' q N (putM N M id key).1 ∧ FrS W h h' := by
  have vv := v
  obtain ⟨oq, xs, a, rfl, qs, r, hp, hc⟩ := v
  refine WP.tot (fun k => (call_queue_Queue_Put k _ _ _ h).trans (queue_Queue_Put_eq tab k _ _ _ h)) ?_
  have la := r.la
  have lm := r.lm
  have hcl := cnt_le M
  have hmono : ∀ o, o < h.length → W o → W o ∨ h.length ≤ o := fun o _ z => .inl z
  by_cases h0 : 0 ≤ id
  · by_cases h1 : id < N
    · have hif : 0 ≤ id ∧ id < (N : Int) := ⟨h0, h1⟩
      have hgo : WP (fun k : Nat => ob (evalFn tab k f_queue_Queue_line [.ptr oq 0 2 0] h) fun t22_19 h_20 =>
          ob (callMeth tab (evalFn tab k) "milestone/queue.place" t22_19 [I id] h_20) fun t25_21 h_22 =>
          oa (binV .lss .scalar t25_21 (.int .i64 0)) fun t27_23 =>
          cond2 t27_23
            (oa (buildV [.int .i64 0, .int .i64 0] [(0, 1, I id), (1, 1, I key)]) fun t31_24 =>
              ob (evalFn tab k f_container_heap_Push [t22_19, (.ifc tyIt t31_24)] h_22) fun t33_25 h_26 => some ((.bool true), h_26))
            (oa (nilCk (.ptr oq 0 2 0)) fun t35_27 => oa (fldA 0 t35_27) fun t36_28 => oa (fldA 0 t36_28) fun t37_29 => oa (ld1 h_22 t37_29) fun t38_30 => oa (idxS 2 t38_30 t25_21) fun t40_31 => oa (fldA 1 t40_31) fun t41_32 => oa (ld1 h_22 t41_32) fun t42_33 =>
              oa (binV .leq .scalar t42_33 (I key)) fun t44_34 =>
              cond2 t44_34 (some ((.bool false), h_22))
                (oa (nilCk (.ptr oq 0 2 0)) fun t46_35 => oa (fldA 0 t46_35) fun t47_36 => oa (fldA 0 t47_36) fun t48_37 => oa (ld1 h_22 t48_37) fun t49_38 => oa (idxS 2 t49_38 t25_21) fun t52_39 => oa (fldA 1 t52_39) fun t53_40 =>
                  oh (stN 1 h_22 t53_40 (I key)) fun h_41 => ob (evalFn tab k f_container_heap_Fix [t22_19, t25_21] h_41) fun t56_42 h_43 => some ((.bool true), h_43))))
          fun r h' => r = .bool (putM N M id key).2 ∧ QV (fun o => W o ∨ h.length ≤ o) h' (.ptr oq 0 2 0) N (putM N M id key).1 ∧ FrS W h h' := by
        refine WP.call (line_spec oq h) ?_
        rintro _ _ ⟨rfl, rfl⟩
        simp -implicitDefEqProofs (disch := first | assumption | omega | (simp only [gL] <;> omega) | ((repeat (first | exact Ext.refl _ | assumption | apply Ext.app | apply Ext.mk | (refine Ext.setr ?_ (by (first | omega | (simp only [gL] <;> omega))) _))); done) | (simp only [gL, gA, meth_place] <;> omega) | fail) only [gB, setAll, partL, fldV, reduceIte, Nat.reduceAdd, Nat.reduceMul, meth_place]
        refine WP.call (place_spec qs id) ?_
        rintro _ _ ⟨rfl, rfl⟩
        rw [if_pos (by omega)]
        rcases r.b id h0 h1 with ⟨k1, k2⟩ | ⟨k1, k2, k3, k4⟩
        · have hpm : putM N M id key = (M.set id.toNat (some key), true) := by simp only [putM, if_pos hif, k2]
          have hcs := cnt_set (M := M) (i := id) h0 (by omega) (some key)
          rw [k2] at hcs
          simp at hcs
          rw [hpm, k1]
          simp -implicitDefEqProofs (disch := first | assumption | omega | (simp only [gL] <;> omega) | ((repeat (first | exact Ext.refl _ | assumption | apply Ext.app | apply Ext.mk | (refine Ext.setr ?_ (by (first | omega | (simp only [gL] <;> omega))) _))); done) | (simp only [gL, gA] <;> omega) | fail) only [gB, setAll, partL, fldV, reduceIte, Nat.reduceAdd, Nat.reduceMul]
          refine WP.call (hPush_spec qs r hp (key := key) h0 h1 k1 (by omega)) ?_
          rintro _ h3 ⟨xs3, at3, q3, r3, hp3, hl3, f3⟩
          exact WP.ret ⟨rfl, ⟨oq, xs3, at3, rfl, q3, r3, hp3, by omega⟩, f3⟩
        · obtain ⟨s1, s2, o1, o2, qw⟩ := qs
          by_cases hle : (gi xs (gi a id)).2 ≤ key
          · have hpm : putM N M id key = (M, false) := by simp only [putM, if_pos hif, k4, if_pos hle]
            rw [hpm]
            simp -implicitDefEqProofs (disch := first | assumption | omega | (simp only [gL] <;> omega) | ((repeat (first | exact Ext.refl _ | assumption | apply Ext.app | apply Ext.mk | (refine Ext.setr ?_ (by (first | omega | (simp only [gL] <;> omega))) _))); done) | (simp only [gL, gA, qw.row, qw.g1.sl.idxG, qw.g1.sl.ldf, encIt] <;> omega) | fail) only [gB, setAll, partL, fldV, reduceIte, Nat.reduceAdd, Nat.reduceMul, qw.row, qw.g1.sl.idxG, qw.g1.sl.ldf, encIt]
            exact WP.ret ⟨rfl, vv.mono hmono, FrS.refl _ _⟩
          · have hpm : putM N M id key = (M.set id.toNat (some key), true) := by simp only [putM, if_pos hif, k4, if_neg hle]
            have hcs := cnt_set (M := M) (i := id) h0 (by omega) (some key)
            rw [k4] at hcs
            simp at hcs
            rw [hpm]
            have hn : s1 ≠ .nils := qw.g1.nnil (by intro hx; rw [List.map_eq_nil_iff] at hx; rw [hx] at k2; simp at k2; omega)
            obtain ⟨w1, d1, d12, l1⟩ := qw.n1 hn
            have hq := (List.getElem?_eq_some_iff.1 qw.row).1
            obtain ⟨hA, m1, m2, m3, m4⟩ := qw.g1.write (i := gi a id) k1 (x := encIt (gi xs (gi a id))) (by simp [gi_some k1 k2]) 1 1 (v := I key) rfl (by omega) rfl
            have hset : (xs.map encIt).set (gi a id).toNat (setAll (encIt (gi xs (gi a id))) 1 (I key).cells) = (xs.set (gi a id).toNat (id, key)).map encIt := by
              rw [List.map_set]
              congr 1
              simp only [encIt, cells_int, setAll, List.set_cons_succ, List.set_cons_zero, k3]
            rw [hset] at m2
            have d2 := qw.d2
            have l2 := qw.l2
            have qA : QS W hA oq (xs.set (gi a id).toNat (id, key)) a := ⟨s1, s2, o1, o2, by rw [m3.get (by omega) hq]; exact qw.row, m2, fun _ => ⟨w1, d1, d12, by omega⟩, qw.g2.fr m3 (by omega), qw.w2, qw.d2, by omega, qw.wq, by simp; exact qw.len, qw.lat⟩
            have rA := r.lower (key := key) h0 h1 k1
            have hlow := hp.lower (p := gi a id) (x := (id, key)) k1 k2 (Int.le_refl _) (by unfold ltI; omega)
            have hls : (xs.set (gi a id).toNat (id, key)).length = xs.length := by simp
            simp -implicitDefEqProofs (disch := first | assumption | omega | (simp only [gL] <;> omega) | ((repeat (first | exact Ext.refl _ | assumption | apply Ext.app | apply Ext.mk | (refine Ext.setr ?_ (by (first | omega | (simp only [gL] <;> omega))) _))); done) | (simp only [gL, gA, qw.row, qw.g1.sl.idxG, qw.g1.sl.ldf, encIt, m1] <;> omega) | fail) only [gB, setAll, partL, fldV, reduceIte, Nat.reduceAdd, Nat.reduceMul, qw.row, qw.g1.sl.idxG, qw.g1.sl.ldf, encIt, m1]
            refine WP.call (hFix_spec (i := gi a id) qA rA k1 (by rw [hls]; exact k2) (by rw [hls]; exact hlow.1) (by rw [hls]; exact hlow.2)) ?_
            rintro _ h3 ⟨xs3, at3, q3, r3, hp3, hl3, f3⟩
            refine WP.ret ⟨rfl, QV.mono (W := W) ⟨oq, xs3, at3, rfl, q3, r3, hp3, by omega⟩ (fun o _ z => .inl z), ?_⟩
            exact (m3.s.mono fun o _ z => by
              obtain rfl : o = o1 := by omega
              exact w1).trans f3
      obtain ⟨s1, s2, o1, o2, qw⟩ := qs
      simp -implicitDefEqProofs (disch := first | assumption | omega | (simp only [gL] <;> omega) | ((repeat (first | exact Ext.refl _ | assumption | apply Ext.app | apply Ext.mk | (refine Ext.setr ?_ (by (first | omega | (simp only [gL] <;> omega))) _))); done) | (simp only [gL, gA, qw.row, qw.g2.sl.lenG] <;> omega) | fail) only [gB, setAll, partL, fldV, reduceIte, Nat.reduceAdd, Nat.reduceMul, qw.row, qw.g2.sl.lenG]
      exact hgo
    · have hpm : putM N M id key = (M, false) := by simp only [putM, if_neg (show ¬ (0 ≤ id ∧ id < (N : Int)) by omega)]
      rw [hpm]
      obtain ⟨s1, s2, o1, o2, qw⟩ := qs
      simp -implicitDefEqProofs (disch := first | assumption | omega | (simp only [gL] <;> omega) | ((repeat (first | exact Ext.refl _ | assumption | apply Ext.app | apply Ext.mk | (refine Ext.setr ?_ (by (first | omega | (simp only [gL] <;> omega))) _))); done) | (simp only [gL, gA, qw.row, qw.g2.sl.lenG] <;> omega) | fail) only [gB, setAll, partL, fldV, reduceIte, Nat.reduceAdd, Nat.reduceMul, qw.row, qw.g2.sl.lenG]
      exact WP.ret ⟨rfl, vv.mono hmono, FrS.refl _ _⟩
  · have hpm : putM N M id key = (M, false) := by simp only [putM, if_neg (show ¬ (0 ≤ id ∧ id < (N : Int)) by omega)]
    rw [hpm]
    simp -implicitDefEqProofs (disch := first | assumption | omega | (simp only [gL] <;> omega) | ((repeat (first | exact Ext.refl _ | assumption | apply Ext.app | apply Ext.mk | (refine Ext.setr ?_ (by (first | omega | (simp only [gL] <;> omega))) _))); done) | (simp only [gL, gA] <;> omega) | fail) only [gB, setAll, partL, fldV, reduceIte, Nat.reduceAdd, Nat.reduceMul]
    exact WP.ret ⟨rfl, vv.mono hmono, FrS.refl _ _⟩
end
end Go.Gm.A9
