/- A part of the proof (GmA9J): an abstract machine, what it does, and what the functions of the program come to on it. -/
import Derived.Test.YtidaobchfmnjpaaGmA9I
set_option linter.unusedVariables false
set_option linter.unusedSimpArgs false
set_option linter.unusedSectionVars false
namespace Go.Gm.A9
open Go Go.Gm
section
variable {h0 h : Heap} {g : AV} {N : Nat} {es : List E} {D : List (List Int)} {acc : List Bool}
/-- A function that tells where a spot leads. -/
structure HopsOk (h0 : Heap) (g : AV) (N : Nat) (es : List E) (D : List (List Int)) (fh : FuncId) (L : Int → Int → List Tr) : Prop where
  call : ∀ h, Ext h0 h → ∀ v s : Int, 0 ≤ v → v < N → 0 ≤ s → s < D.length → Tot tab fh [g, .agg [I v, I s]] h fun r h' => Ext h h' ∧ Gr h.length h'.length h' 3 r ((L v s).map encT)
  tr : ∀ v s : Int, 0 ≤ v → v < N → 0 ≤ s → s < D.length → ∀ t ∈ L v s, TrOk N es D t
  len : ∀ v s : Int, 0 ≤ v → v < N → 0 ≤ s → s < D.length → (L v s).length ≤ 10000000
theorem dm {N S x : Nat} (hx : x < N * S) : x / S < N ∧ x % S < S := by
  have h1 : 0 < S := by
    rcases Nat.eq_zero_or_pos S with q | q
    · subst q; simp at hx
    · exact q
  exact ⟨(Nat.div_lt_iff_lt_mul h1).2 hx, Nat.mod_lt _ h1⟩
theorem HopsOk.gok {fh : FuncId} {L : Int → Int → List Tr} (hh : HopsOk h0 g N es D fh L) (co : COk es) : GOk (N * D.length) 2147483647 (hopA es D.length L) := by
  refine ⟨by omega, fun x hx y e w hm => ?_⟩
  obtain ⟨q1, q2⟩ := dm hx
  obtain ⟨t, ht, h1⟩ := List.mem_map.1 hm
  obtain ⟨t1, t2, t3, t4, t5, t6⟩ := hh.tr _ _ (Int.natCast_nonneg _) (Int.ofNat_lt.2 q1) (Int.natCast_nonneg _) (Int.ofNat_lt.2 q2) t ht
  have hs := spot_lt (S := D.length) t1 t2 t3 t4
  have hc := co.c _ (gi_mem (xs := es) t5 t6)
  simp only [hopOf] at h1
  cases h1
  exact ⟨by omega, hc.1, hc.2⟩
theorem un_pos {n : Nat} {c : Nat → Int} {y : Nat} (hy : y < n) (hc : c y < 0) : 1 ≤ un n c := by
  have h1 := un_nonneg n (up c y 0)
  rw [un_up hy (Int.le_refl 0), if_pos hc] at h1
  omega
theorem step_spec {W : Nat → Prop} {os oc oe ov : Nat} {q sc se sf : AV} {n : Nat} {fh : FuncId} {L : Int → Int → List Tr} {st : Nat → Prop} {id0 k : Nat} {ls : Int} {rk : Nat → Nat} {cs ds fs : List Int} {M : List (Option Int)}
    (e0 : Ext h0 h) (hW : ∀ o, W o → h0.length ≤ o) (gv : GV h0 g N es D acc) (ok : DOk D acc) (co : COk es) (hN : N ≤ 100000) (hn : n = N * D.length) (hn2 : n ≤ 1000000) (hh : HopsOk h0 g N es D fh L) (hst : ∀ x, st x → x < n)
    (w : SW W h os g (.fn fh [] []) q sc se sf oc oe ov n cs ds fs M ls) (di : DI n 2147483647 (hopA es D.length L) st id0 [] (gf cs) (gf M) (gf ds) (gf fs) rk k) (hk : un n (gf cs) + k = n) :
    Tot tab f_product_search_step [.ptr os 0 7 0] h fun r h' => FrS W h h' ∧
      ((r = .tup [I 0, .bool false] ∧ (∀ x : Nat, x < n → gf M x = none) ∧ SW (fun o => W o ∨ h.length ≤ o) h' os g (.fn fh [] []) q sc se sf oc oe ov n cs ds fs M ls) ∨
       ∃ id key ds2 fs2 M2 rk2, id < n ∧ gf M id = some key ∧ (∀ z : Nat, z < n → ∀ u, gf M z = some u → key ≤ u) ∧ r = .tup [I id, .bool true] ∧ SW (fun o => W o ∨ h.length ≤ o) h' os g (.fn fh [] []) q sc se sf oc oe ov n (cs.set id key) ds2 fs2 M2 key ∧
         DI n 2147483647 (hopA es D.length L) st id [] (gf (cs.set id key)) (gf M2) (gf ds2) (gf fs2) rk2 (k + 1) ∧ un n (gf (cs.set id key)) + ((k + 1 : Nat) : Int) = n) := by
  have hg := hh.gok co
  rw [← hn] at hg
  have hml := w.qv.lm
  have wa : SW (fun o => W o ∧ o < h.length) h os g (.fn fh [] []) q sc se sf oc oe ov n cs ds fs M ls := w.mono fun o z1 z2 => ⟨z2, z1⟩
  refine WP.tot (fun k => (call_product_search_step k _ h).trans (product_search_step_eq tab k _ h)) ?_
  have ro := w.row
  simp -implicitDefEqProofs (maxSteps := 1000000) (disch := first | assumption | omega | (simp only [gL] <;> omega) | ((repeat (first | exact Ext.refl _ | assumption | apply Ext.app | apply Ext.mk | (refine Ext.setr ?_ (by (first | omega | (simp only [gL] <;> omega))) _))); done) | (simp only [gL, gA, ro] <;> omega) | fail) only [gB, setAll, partL, fldV, reduceIte, Nat.reduceAdd, Nat.reduceMul, ro]
  refine WP.call (wa.qv.pop hn2) ?_
  rintro r h1 ⟨M2, pq, v1, f1⟩
  have w1 := wa.q' f1 (fun o z => z.2) v1
  have ro1 := w1.row
  have f1W : FrS W h h1 := f1.mono fun o _ z => z.1.1
  rcases pq with ⟨p1, rfl, rfl⟩ | ⟨idI, key, p1, rfl, rfl⟩
  · simp -implicitDefEqProofs (maxSteps := 1000000) (disch := first | assumption | omega | (simp only [gL] <;> omega) | ((repeat (first | exact Ext.refl _ | assumption | apply Ext.app | apply Ext.mk | (refine Ext.setr ?_ (by (first | omega | (simp only [gL] <;> omega))) _))); done) | (simp only [gL, gA, extr_0, extr_1, extr_2] <;> omega) | fail) only [gB, setAll, partL, fldV, reduceIte, Nat.reduceAdd, Nat.reduceMul, extr_0, extr_1, extr_2]
    refine WP.ret ⟨f1W, .inl ⟨rfl, fun x hx => cnt_zero p1 (by omega) (by omega), w1.mono fun o _ z => .inl z.1⟩⟩
  · obtain ⟨id, rfl⟩ : ∃ id : Nat, idI = id := ⟨idI.toNat, by have := p1.i0; omega⟩
    have hid : id < n := by have := p1.i1; omega
    have hmin : ∀ z : Nat, z < n → ∀ u, gf M z = some u → key ≤ u := by
      intro z hz u hu
      have := p1.m z u (by omega) (by omega) hu
      simp only [ltI] at this
      omega
    have di2 := di.pop hg hst hid p1.k hmin
    obtain ⟨q1, q2, q3⟩ := di.que id hid key p1.k
    have hk1 := di.bnd id hid key (.inr p1.k)
    have hup := un_pos (c := gf cs) hid (by omega)
    have hkn : k < n := by omega
    rw [show (id : Int).toNat = id by omega] at w1
    obtain ⟨h2, s2, w2, f2⟩ := w1.setC hid key
    have ro2 := w2.row
    obtain ⟨w3, f3⟩ := w2.setL key
    obtain ⟨h3, hh3⟩ : ∃ h3, h3 = h2.set os (.cells ⟨[g, .fn fh [] [], q, sc, se, sf, I key], 0, 0, false⟩) := ⟨_, rfl⟩
    rw [← hh3] at w3 f3
    have ro3 := w3.row
    have f3W : FrS W h h3 := (f1W.trans (f2.mono fun o _ z => z ▸ w.wc)).trans (f3.mono fun o _ z => z ▸ w.ws)
    have ex3 : Ext h0 h3 := f3W.ext e0 fun o z1 z2 => by have := hW o z2; omega
    have gr1 : Gr oc (oc + 1) h1 1 sc (cs.map encI) := w1.gc
    simp -implicitDefEqProofs (maxSteps := 1000000) (disch := first | assumption | omega | (simp only [gL] <;> omega) | ((repeat (first | exact Ext.refl _ | assumption | apply Ext.app | apply Ext.mk | (refine Ext.setr ?_ (by (first | omega | (simp only [gL] <;> omega))) _))); done) | (simp only [gL, gA, extr_0, extr_1, extr_2, ro1, gr1.sl.idxG, w.lc, s2, ro2] <;> omega) | fail) only [gB, setAll, partL, fldV, reduceIte, Nat.reduceAdd, Nat.reduceMul, extr_0, extr_1, extr_2, ro1, gr1.sl.idxG, w.lc, s2, ro2]
    rw [← hh3]
    simp -implicitDefEqProofs (maxSteps := 1000000) (disch := first | assumption | omega | (simp only [gL] <;> omega) | ((repeat (first | exact Ext.refl _ | assumption | apply Ext.app | apply Ext.mk | (refine Ext.setr ?_ (by (first | omega | (simp only [gL] <;> omega))) _))); done) | (simp only [gL, gA, ro3] <;> omega) | fail) only [gB, setAll, partL, fldV, reduceIte, Nat.reduceAdd, Nat.reduceMul, ro3]
    refine WP.call (spot_spec (gv.ext ex3) ok (by omega)) ?_
    rintro _ h4 ⟨rfl, e4⟩
    have w4 := w3.ext e4
    have ro4 := w4.row
    obtain ⟨d1, d2⟩ := dm (N := N) (S := D.length) (hn ▸ hid)
    simp -implicitDefEqProofs (maxSteps := 1000000) (disch := first | assumption | omega | (simp only [gL] <;> omega) | ((repeat (first | exact Ext.refl _ | assumption | apply Ext.app | apply Ext.mk | (refine Ext.setr ?_ (by (first | omega | (simp only [gL] <;> omega))) _))); done) | (simp only [gL, gA, ro4] <;> omega) | fail) only [gB, setAll, partL, fldV, reduceIte, Nat.reduceAdd, Nat.reduceMul, ro4]
    refine WP.call (hh.call h4 (ex3.trans e4) _ _ (Int.natCast_nonneg _) (Int.ofNat_lt.2 d1) (Int.natCast_nonneg _) (Int.ofNat_lt.2 d2)) ?_
    rintro t46 h5 ⟨e5, g5⟩
    have w5 := w4.ext e5
    simp -implicitDefEqProofs (maxSteps := 1000000) (disch := first | assumption | omega | (simp only [gL] <;> omega) | ((repeat (first | exact Ext.refl _ | assumption | apply Ext.app | apply Ext.mk | (refine Ext.setr ?_ (by (first | omega | (simp only [gL] <;> omega))) _))); done) | (simp only [gL, gA, g5.sl.lenG] <;> omega) | fail) only [gB, setAll, partL, fldV, reduceIte, Nat.reduceAdd, Nat.reduceMul, g5.sl.lenG]
    have hl5 : h.length ≤ h5.length := by have := f3W.len; have := e4.len; have := e5.len; omega
    have hl4 : h.length ≤ h4.length := by have := f3W.len; have := e4.len; omega
    have w6 := w5.mono (W' := fun o => (W o ∧ o < h.length) ∨ h5.length ≤ o) fun o _ z => .inl z
    have hcid : gi (cs.set id key) (id : Int) = key := by
      rw [show (id : Int) = ((id : Nat) : Int) from rfl]
      have := congrFun (gset (xs := cs) (y := id) (by rw [w.lc]; exact hid) key) id
      rw [if_pos rfl] at this
      exact this
    have hA : ∀ t ∈ L ((id / D.length : Nat) : Int) ((id % D.length : Nat) : Int), hopOf es D.length t ∈ hopA es D.length L id := fun t z => List.mem_map_of_mem z
    refine WP.ent ((step_l1 (W := fun o => (W o ∧ o < h.length) ∨ h5.length ≤ o) (hb := h5) (st := st) (A := hopA es D.length L) (rk := fun x => if x = id then k else rk x) (k := k) ((ex3.trans e4).trans e5)
      (fun o z => ?_) (fun o z => .inr z) gv ok co hN hn hn2 hg (hh.tr _ _ (Int.natCast_nonneg _) (Int.ofNat_lt.2 d1) (Int.natCast_nonneg _) (Int.ofNat_lt.2 d2)) hA (fun h' fr => ?_) hid (hh.len _ _ (Int.natCast_nonneg _) (Int.ofNat_lt.2 d1) (Int.natCast_nonneg _) (Int.ofNat_lt.2 d2)) hcid q2 hk1 hkn _ 0 h5 _ _ _ (Nat.zero_add _) (FrS.refl _ _) w6 ?_).mono ?_) fun i => rfl
    · rcases z with z | z
      · exact hW o z.1
      · have := (((ex3.trans e4).trans e5)).len; omega
    · exact (g5.frs fr fun o z1 z2 z3 => by rcases z3 with z3 | z3 <;> omega).sl
    · rw [List.drop_zero, show gf (cs.set id key) = _ from gset (by rw [w.lc]; exact hid) _, show gf (M.set id none) = _ from gset (by omega) _]
      exact di2
    · rintro r h6 ⟨rfl, f6, ds2, fs2, M3, w7, d7⟩
      have f5W : FrS W h h5 := (f3W.trans (FrS.ofExt e4)).trans (FrS.ofExt e5)
      refine ⟨f5W.trans (f6.mono fun o z1 z2 => ?_), .inr ⟨id, key, ds2, fs2, M3, _, hid, p1.k, hmin, rfl, w7.mono fun o z1 z2 => ?_, d7, ?_⟩⟩
      · rcases z2 with z2 | z2
        · exact z2.1
        · omega
      · rcases z2 with z2 | z2
        · exact .inl z2.1
        · exact .inr (by omega)
      · have : gf (cs.set id key) = up (gf cs) id key := gset (by rw [w.lc]; exact hid) _
        rw [this, un_up hid q2, if_pos (by show gf cs id < 0; omega)]
        omega
end
end Go.Gm.A9
