/- A part of the proof: GmA5V: an abstract machine, what it does, and what the functions of the program come to on it. -/
import Derived.Test.YtdpmglimjmecgaaGmA5U
set_option linter.unusedVariables false
set_option linter.unusedSimpArgs false
namespace Go.Gm.A5
open Go Go.Gm

section
variable {m sp sw : AV} {kk : Nat} {pt : List (Nd × List Int)} {w : List Int}
theorem told_s (v z : AV) : told true z (some v) = .tup [v, .bool true] := rfl
theorem told_n (z : AV) : told true z none = .tup [z, .bool false] := rfl
theorem gi_map {α : Type} [Inhabited α] {xs : List α} {i : Nat} {x : α} (h : xs[i]? = some x) : gi xs (i : Int) = x := by
  simp [gi, List.getD_eq_getElem?_getD, h]

theorem ends_spec (hw : w.length ≤ 900000) (n : Nd) : Ok n → EndsS m sp sw kk pt w n := by
  refine Nd.ind (p := fun n => Ok n → EndsS m sp sw kk pt w n) ?_ n
  intro n ih ok k i h X mv kv hX hf hi
  have hf' := hf
  have hlw := mv.lw
  have hlp := mv.lp
  refine WP.tot (fun k' => (call_match_matcher_ends k' _ _ _ h).trans (match_matcher_ends_eq tab k' _ _ _ h)) ?_
  obtain ⟨kids, hkids⟩ : ∃ l, n.kids = l := ⟨_, rfl⟩
  cases hf with
  | mk p1 p2 p3 p4 =>
  rename_i ks
  have hkl := (List.getElem?_eq_some_iff.1 p2).1
  cases ok with
  | mk o1 o2 o3 o4 o5 =>
  have hS : ∀ c ∈ n.kids, StepS m sp sw kk pt w c := fun c hc => step_spec (ih c hc (o5 c hc))
  have hA : ∀ c ∈ n.kids, AgainS m sp sw kk pt w c := fun c hc => again_spec (hS c hc)
  obtain ⟨cs, c1, c2, c3⟩ := mv.pv
  obtain ⟨sl, sk, r1, r2, r3⟩ := c3 _ _ _ p2
  have hcs : Sl h 6 sp (cs.map fun x => x) := by rw [List.map_id']; exact c1
  have hg : gi cs k = [I n.kind, I n.st, I n.lo, I n.hi, sl, sk] := by
    have := gi_map r1
    rw [show ((k.toNat : Nat) : Int) = k by omega] at this
    exact this
  have kv0 := kv
  obtain ⟨es, hes, hkv⟩ := kv
  have hfit : fitK KS2 (.agg [I k, I i]) = true := by
    simp only [fitK, fitL, fit_i (n := k) (by omega) (by omega), fit_i (n := (i : Int)) (by omega) (by omega), Bool.and_self]
  have e0 := Ext.refl h
  cases hfd : findV (.agg [I k, I i]) es with
  | some s =>
    simp -implicitDefEqProofs (disch := first | assumption | omega | (simp -implicitDefEqProofs only [gL] <;> omega) | ((repeat (first | exact Ext.refl _ | assumption | apply Ext.app | apply Ext.mk | (refine Ext.setr ?_ (by (first | omega | (simp -implicitDefEqProofs only [gL] <;> omega))) _))); done) | (simp -implicitDefEqProofs only [gL, gA, mv.at_.nil, mv.at_.fldA0, mv.at_.ldfE, lookM_i hes hfit, hfd, told_s, extr_tup] <;> omega) | fail) only [gB, setAll, partL, fldV, reduceIte, Nat.reduceAdd, Nat.reduceMul, mv.at_.nil, mv.at_.fldA0, mv.at_.ldfE, lookM_i hes hfit, hfd, told_s, extr_tup]
    obtain ⟨g0, g1, bs, g2, g3⟩ := hkv _ _ _ hfd
    exact WP.ret ⟨ExM.refl hes, kv0, g0, g1, bs, g2, g3 n hf' (by omega)⟩
  | none =>
    simp -implicitDefEqProofs (disch := first | assumption | omega | (simp -implicitDefEqProofs only [gL] <;> omega) | ((repeat (first | exact Ext.refl _ | assumption | apply Ext.app | apply Ext.mk | (refine Ext.setr ?_ (by (first | omega | (simp -implicitDefEqProofs only [gL] <;> omega))) _))); done) | (simp -implicitDefEqProofs only [gL, gA, mv.at_.nil, mv.at_.fldA0, mv.at_.ldfE, lookM_i hes hfit, hfd, told_n, extr_tup, hcs.idxG, hcs.ldN, hg, r3, r2.one] <;> omega) | fail) only [gB, setAll, partL, fldV, reduceIte, Nat.reduceAdd, Nat.reduceMul, mv.at_.nil, mv.at_.fldA0, mv.at_.ldfE, lookM_i hes hfit, hfd, told_n, extr_tup, hcs.idxG, hcs.ldN, hg, r3, r2.one]
    obtain ⟨h3, hh3⟩ : ∃ h3, h3 = (h ++ [AObj.cells ⟨[I 0, I 0, I 0, I 0, .nils, .nils], 0, 0, false⟩]).set h.length (.cells ⟨[I n.kind, I n.st, I n.lo, I n.hi, sl, sk], 0, 0, false⟩) := ⟨_, rfl⟩
    have e3 : Ext h h3 := by rw [hh3]; ((repeat (first | exact Ext.refl _ | assumption | apply Ext.app | apply Ext.mk | (refine Ext.setr ?_ (by (first | omega | (simp -implicitDefEqProofs only [gL] <;> omega))) _))))
    have hx3 : h3[h.length]? = some (.cells ⟨[I n.kind, I n.st, I n.lo, I n.hi, sl, sk], 0, 0, false⟩) := by rw [hh3]; exact get_set_eq (by simp)
    have hl3 : h3.length = h.length + 1 := by rw [hh3]; simp
    rw [show AV.int .i64 0 = I 0 from rfl, ← hh3]
    refine WP.call (none_spec (mv.at_.ext e3) (mv.wd.ext e3) (by omega)) ?_
    rintro out H1 ⟨e1, o0, g1⟩
    refine WP.call (none_spec ((mv.at_.ext e3).ext e1) ((mv.wd.ext e3).ext e1) (by omega)) ?_
    rintro here H2 ⟨e2, q0, g2⟩
    have le1 := e1.len
    have le2 := e2.len
    obtain ⟨H, k1, k2, k3, k4⟩ := g2.write0 (i := (i : Int)) (by omega) (by simp; omega) (v := .bool true) rfl rfl
    obtain ⟨X', hX'⟩ : ∃ X' : Nat → Prop, ∀ o, X' o ↔ X o ∨ (h.length ≤ o ∧ o < H2.length) := ⟨_, fun _ => Iff.rfl⟩
    have eH2 : Ext h H2 := (e3.trans e1).trans e2
    have ex : ExM kk h H := (ExM.ofExt hes eH2).fr k3 (by omega)
    have kv : KV H kk pt w X' := ((kv0.more (Y := X') (fun o q => by
      rcases (hX' o).1 q with q | q
      · exact .inl q
      · exact .inr q.1)).ext eH2).fr k3 (fun o q1 q2 => (hX' o).2 (.inr ⟨by omega, q2⟩)) (.inl (by have := ex.lt; omega))
    have hXX : ∀ o, X o → X' o := fun o q => (hX' o).2 (.inl q)
    have hb' : ∀ o, X' o → o < H.length := fun o q => by
      rcases (hX' o).1 q with q | q
      · have := hX o q; omega
      · omega
    have hx : H[h.length]? = some (.cells ⟨[I n.kind, I n.st, I n.lo, I n.hi, sl, sk], 0, 0, false⟩) := (k3.get (.inl (by omega)) (by omega)).trans ((e1.trans e2).get hx3)
    have g1' : Gr h3.length H1.length H 1 out ((List.replicate (w.length + 1) false).map encB) := (g1.ext e2).fr k3 (.inl (Nat.le_refl _))
    have isH : Is w ((List.replicate (w.length + 1) false).set i true) (fun j => j = i) := (Is.none.set hi).cong fun j => by simp
    have k2' : Gr H1.length H2.length H 1 here (((List.replicate (w.length + 1) false).set i true).map encB) := k2.cong (by rw [List.map_set]; rfl)
    have hoo := g1'.objIn o0
    have hho := k2'.objIn q0
    have mvH := mv.exm ex
    have hm := mvH.at_
    have hwd := mvH.wd
    have hskH := r2.exm ex
    have eH := Ext.refl H
    have hnX : ∀ o, h.length ≤ o → ¬ X o := fun o q1 q2 => by have := hX o q2; omega
    have hg2 := g2.sl
    cases n with
    | emp =>
      simp only [Nd.kind, Nd.st, Nd.lo, Nd.hi] at hx
      simp -implicitDefEqProofs (disch := first | assumption | omega | (simp -implicitDefEqProofs only [gL] <;> omega) | ((repeat (first | exact Ext.refl _ | assumption | apply Ext.app | apply Ext.mk | (refine Ext.setr ?_ (by (first | omega | (simp -implicitDefEqProofs only [gL] <;> omega))) _))); done) | (simp -implicitDefEqProofs only [gL, gA, hg2.idxG, k1, hx] <;> omega) | fail) only [gB, setAll, partL, fldV, reduceIte, Nat.reduceAdd, Nat.reduceMul, hg2.idxG, k1, hx]
      exact b1_spec mv ex (kv.more fun o q => .inl (hXX o q)) hf' hi g1'.sl (Is.none.cong fun j => by simp [R]) o0 (hnX _ (by omega))
    | eps =>
      simp only [Nd.kind, Nd.st, Nd.lo, Nd.hi] at hx
      simp -implicitDefEqProofs (disch := first | assumption | omega | (simp -implicitDefEqProofs only [gL] <;> omega) | ((repeat (first | exact Ext.refl _ | assumption | apply Ext.app | apply Ext.mk | (refine Ext.setr ?_ (by (first | omega | (simp -implicitDefEqProofs only [gL] <;> omega))) _))); done) | (simp -implicitDefEqProofs only [gL, gA, hg2.idxG, k1, hx] <;> omega) | fail) only [gB, setAll, partL, fldV, reduceIte, Nat.reduceAdd, Nat.reduceMul, hg2.idxG, k1, hx]
      exact b1_spec mv ex (kv.more fun o q => .inl (hXX o q)) hf' hi k2'.sl (isH.cong fun j => by simp only [R]; exact eq_comm) q0 (hnX _ (by omega))
    | join l =>
      simp only [Nd.kind, Nd.st, Nd.lo, Nd.hi] at hx
      simp only [Nd.kids] at p3 p4 o4 hS
      simp -implicitDefEqProofs (disch := first | assumption | omega | (simp -implicitDefEqProofs only [gL] <;> omega) | ((repeat (first | exact Ext.refl _ | assumption | apply Ext.app | apply Ext.mk | (refine Ext.setr ?_ (by (first | omega | (simp -implicitDefEqProofs only [gL] <;> omega))) _))); done) | (simp -implicitDefEqProofs only [gL, gA, hg2.idxG, k1, hx, hskH.lenG, p3] <;> omega) | fail) only [gB, setAll, partL, fldV, reduceIte, Nat.reduceAdd, Nat.reduceMul, hg2.idxG, k1, hx, hskH.lenG, p3]
      rw [show I 0 = I ((0 : Nat) : Int) from rfl]
      refine WP.ent (join_l2 mv hX hXX hf' hi p3 o4 r2 p4 hS l.length 0 here _ H (by omega) ex kv hb' k2'.sl q0 (hnX _ (by omega)) (isH.cong fun j => by simp only [List.take_zero, RJ]; exact eq_comm)) fun i => rfl
    | uni l =>
      simp only [Nd.kind, Nd.st, Nd.lo, Nd.hi] at hx
      simp only [Nd.kids] at p3 p4 o4 hS
      simp -implicitDefEqProofs (disch := first | assumption | omega | (simp -implicitDefEqProofs only [gL] <;> omega) | ((repeat (first | exact Ext.refl _ | assumption | apply Ext.app | apply Ext.mk | (refine Ext.setr ?_ (by (first | omega | (simp -implicitDefEqProofs only [gL] <;> omega))) _))); done) | (simp -implicitDefEqProofs only [gL, gA, hg2.idxG, k1, hx, hskH.lenG, p3] <;> omega) | fail) only [gB, setAll, partL, fldV, reduceIte, Nat.reduceAdd, Nat.reduceMul, hg2.idxG, k1, hx, hskH.lenG, p3]
      rw [show I 0 = I ((0 : Nat) : Int) from rfl]
      refine WP.ent (uni_l3 (lo := h3.length) (hi := H1.length) mv hX hXX (by omega) (fun o q1 q2 => (hX' o).2 (.inr ⟨by omega, by omega⟩)) hf' hi p3 o4 r2 p4 hS o0 isH (fun _ => by omega) l.length 0 _ H (by omega) ex (by omega) kv hb' k2'.sl g1' (Is.none.cong fun j => by simp only [List.take_zero, RU])) fun i => rfl
    | star c =>
      simp only [Nd.kind, Nd.st, Nd.lo, Nd.hi] at hx
      simp only [Nd.kids, List.length_singleton] at p3 p4
      have pc := p4 0 c rfl
      simp -implicitDefEqProofs (disch := first | assumption | omega | (simp -implicitDefEqProofs only [gL] <;> omega) | ((repeat (first | exact Ext.refl _ | assumption | apply Ext.app | apply Ext.mk | (refine Ext.setr ?_ (by (first | omega | (simp -implicitDefEqProofs only [gL] <;> omega))) _))); done) | (simp -implicitDefEqProofs only [gL, gA, hg2.idxG, k1, hx, hskH.idxG, hskH.ld0, encI] <;> omega) | fail) only [gB, setAll, partL, fldV, reduceIte, Nat.reduceAdd, Nat.reduceMul, hg2.idxG, k1, hx, hskH.idxG, hskH.ld0, encI]
      refine WP.call (hA c (by simp [Nd.kids]) _ here _ _ H X' mvH kv hb' pc k2'.sl isH) ?_
      rintro r H3 ⟨x1, kv1, r0, bs, rs, ri⟩
      have hro := rs.objIn r0
      have := ex.len
      exact b1_spec mv (ex.trans x1) (kv1.more fun o q => .inl (hXX o q)) hf' hi rs.sl (ri.cong fun j => by simp [R]) r0 (hnX _ (by omega))
    | plus c =>
      simp only [Nd.kind, Nd.st, Nd.lo, Nd.hi] at hx
      simp only [Nd.kids, List.length_singleton] at p3 p4
      have pc := p4 0 c rfl
      simp -implicitDefEqProofs (disch := first | assumption | omega | (simp -implicitDefEqProofs only [gL] <;> omega) | ((repeat (first | exact Ext.refl _ | assumption | apply Ext.app | apply Ext.mk | (refine Ext.setr ?_ (by (first | omega | (simp -implicitDefEqProofs only [gL] <;> omega))) _))); done) | (simp -implicitDefEqProofs only [gL, gA, hg2.idxG, k1, hx, hskH.idxG, hskH.ld0, encI, List.cons_append] <;> omega) | fail) only [gB, setAll, partL, fldV, reduceIte, Nat.reduceAdd, Nat.reduceMul, hg2.idxG, k1, hx, hskH.idxG, hskH.ld0, encI, List.cons_append]
      refine WP.call (hS c (by simp [Nd.kids]) _ here _ _ H X' mvH kv hb' pc k2'.sl isH) ?_
      rintro r H3 ⟨x1, kv1, r0, bs, rs, ri⟩
      have hx' := x1.cells hx
      have hsk3 := hskH.exm x1
      have eH3 := Ext.refl H3
      have hl3 := x1.len
      have hro := rs.objIn r0
      simp -implicitDefEqProofs (disch := first | assumption | omega | (simp -implicitDefEqProofs only [gL] <;> omega) | ((repeat (first | exact Ext.refl _ | assumption | apply Ext.app | apply Ext.mk | (refine Ext.setr ?_ (by (first | omega | (simp -implicitDefEqProofs only [gL] <;> omega))) _))); done) | (simp -implicitDefEqProofs only [gL, gA, hx', hsk3.ld0, encI] <;> omega) | fail) only [gB, setAll, partL, fldV, reduceIte, Nat.reduceAdd, Nat.reduceMul, hx', hsk3.ld0, encI]
      refine WP.call (hA c (by simp [Nd.kids]) _ r _ _ H3 X' (mvH.exm x1) kv1 (fun o q => by have := hb' o q; omega) pc rs.sl ri) ?_
      rintro r' H4 ⟨x2, kv2, r0', bs', rs', ri'⟩
      have hro' := rs'.objIn r0'
      have := ex.len
      exact b1_spec mv ((ex.trans x1).trans x2) (kv2.more fun o q => .inl (hXX o q)) hf' hi rs'.sl (ri'.cong fun j => by simp [R]) r0' (hnX _ (by omega))
    | opt c =>
      simp only [Nd.kind, Nd.st, Nd.lo, Nd.hi] at hx
      simp only [Nd.kids, List.length_singleton] at p3 p4
      have pc := p4 0 c rfl
      simp -implicitDefEqProofs (disch := first | assumption | omega | (simp -implicitDefEqProofs only [gL] <;> omega) | ((repeat (first | exact Ext.refl _ | assumption | apply Ext.app | apply Ext.mk | (refine Ext.setr ?_ (by (first | omega | (simp -implicitDefEqProofs only [gL] <;> omega))) _))); done) | (simp -implicitDefEqProofs only [gL, gA, hg2.idxG, k1, hx, hskH.idxG, hskH.ld0, encI, List.cons_append] <;> omega) | fail) only [gB, setAll, partL, fldV, reduceIte, Nat.reduceAdd, Nat.reduceMul, hg2.idxG, k1, hx, hskH.idxG, hskH.ld0, encI, List.cons_append]
      refine WP.call (hS c (by simp [Nd.kids]) _ here _ _ H X' mvH kv hb' pc k2'.sl isH) ?_
      rintro r H3 ⟨x1, kv1, r0, bs, rs, ri⟩
      have hl4 := x1.len
      have hro := rs.objIn r0
      have hsl := (k2'.exm x1).sl
      simp -implicitDefEqProofs (disch := first | assumption | omega | (simp -implicitDefEqProofs only [gL] <;> omega) | ((repeat (first | exact Ext.refl _ | assumption | apply Ext.app | apply Ext.mk | (refine Ext.setr ?_ (by (first | omega | (simp -implicitDefEqProofs only [gL] <;> omega))) _))); done) | (simp -implicitDefEqProofs only [gL, gA, rs.sl.one, rs.sl.cells, hsl.one, hsl.cells] <;> omega) | fail) only [gB, setAll, partL, fldV, reduceIte, Nat.reduceAdd, Nat.reduceMul, rs.sl.one, rs.sl.cells, hsl.one, hsl.cells]
      rw [← mkObj_eq]
      have e4 : Ext H3 (mkObj H3 [here, r]) := Ext.push H3 _
      have hsm : Sl (mkObj H3 [here, r]) 1 (.sl H3.length 0 2 1 none 0) ([(here, (List.replicate (w.length + 1) false).set i true), (r, bs)].map fun p => enc1 p.1) := .inr ⟨H3.length, 0, none, 0, ⟨[here, r], 0, 0, false⟩, rfl, by simp [mkObj], Nat.le_refl _, rfl, by simp [enc1]⟩
      refine WP.call (together_spec (L := w.length + 1) (lo := h3.length) (hi := H1.length) (a0 := List.replicate (w.length + 1) false) (by omega) (by simp) (by simp) ((g1'.exm x1).ext e4) hsm (fun _ => .inr (show H1.length ≤ H3.length by omega)) (fun p hp => ?_)) ?_
      · rcases List.mem_cons.1 hp with rfl | hp
        · exact ⟨isH.1, hsl.ext e4, fun _ => .inr (show H1.length ≤ here.obj by omega)⟩
        · have := List.mem_singleton.1 hp
          subst this
          exact ⟨ri.1, rs.sl.ext e4, fun _ => .inr (show H1.length ≤ r.obj by omega)⟩
      · rintro _ H4 ⟨cur, fl, rfl, q1, q2, q3, q4, q5⟩
        have hkl2 := ex.lt
        refine b1_spec mv (((ex.trans x1).ext e4).fr q5 (by omega)) (((kv1.ext e4).fr q5 (fun o a1 a2 => (hX' o).2 (.inr ⟨by omega, by omega⟩)) (.inl (by omega))).more fun o q => .inl (hXX o q)) hf' hi q4.sl ⟨q1, fun j => ?_⟩ o0 (hnX _ (by omega))
        rw [q2 j]
        simp only [List.mem_cons, List.not_mem_nil, or_false, exists_eq_or_imp, exists_eq_left, isH.2 j, ri.2 j, R, (Is.none (w := w)).2 j]
        constructor
        · rintro (q | q | q)
          · exact q.elim
          · exact .inl q.symm
          · exact .inr q
        · rintro (q | q)
          · exact .inr (.inl q.symm)
          · exact .inr (.inr q)
    | rep a b c =>
      simp only [Nd.kind, Nd.st, Nd.lo, Nd.hi] at hx o2 o3
      simp only [Nd.kids, List.length_singleton] at p3 p4
      have pc := p4 0 c rfl
      simp -implicitDefEqProofs (disch := first | assumption | omega | (simp -implicitDefEqProofs only [gL] <;> omega) | ((repeat (first | exact Ext.refl _ | assumption | apply Ext.app | apply Ext.mk | (refine Ext.setr ?_ (by (first | omega | (simp -implicitDefEqProofs only [gL] <;> omega))) _))); done) | (simp -implicitDefEqProofs only [gL, gA, hg2.idxG, k1, hx] <;> omega) | fail) only [gB, setAll, partL, fldV, reduceIte, Nat.reduceAdd, Nat.reduceMul, hg2.idxG, k1, hx]
      rw [show ((b : Int) + 1) = ((b + 1 : Nat) : Int) by omega, show I 0 = I ((0 : Nat) : Int) from rfl]
      refine WP.ent (rep_l4 (lo := h3.length) (hi := H1.length) mv hX hXX (by omega) (by omega) (fun o q1 q2 => (hX' o).2 (.inr ⟨by omega, by omega⟩)) hf' hi o2 o3 p3 r2 pc (hS c (by simp [Nd.kids])) o0 (xo := h.length) (Nat.le_refl _) (by omega) (b + 1) 0 here _ _ H (by omega) ex (by omega) kv hb' hx k2'.sl (fun _ => by omega) g1' (Is.none.cong fun j => ⟨fun q => q.elim, fun ⟨t', q, _⟩ => by omega⟩) (fun _ => isH.cong fun j => by simp only [Pow]; exact eq_comm)) fun i => rfl
    | set s =>
      simp only [Nd.kind, Nd.st, Nd.lo, Nd.hi] at hx o1
      have kvX := kv.more (Y := X) fun o q => .inl (hXX o q)
      have no : ¬ hit w s i → WP (fun p : Nat => match_matcher_ends_b1 tab p m (I k) (I i) out H) (EQ kk pt w X (.set s) i h) := fun q =>
        b1_spec mv ex kvX hf' hi g1'.sl (Is.none.cong fun j => by simp [R, q]) o0 (hnX _ (by omega))
      by_cases hil : i < w.length
      · obtain ⟨c, hc⟩ : ∃ c, gi w i = c := ⟨_, rfl⟩
        have hwc : w[i]? = some c := by
          have := gi_some (xs := w) (i := (i : Int)) (by omega) (by omega)
          rw [hc] at this; exact this
        by_cases c0 : 0 ≤ c
        · by_cases c5 : c < 5
          · have hand : binV .and .scalar (I (s >>> c.toNat : Nat)) (I 1) = _ := and_i (a := s >>> c.toNat) (b := 1) (Nat.lt_of_le_of_lt (Nat.shiftRight_le ..) o1) (by omega)
            cases hb : s.testBit c.toNat with
            | true =>
              obtain ⟨H5, j1, j2, j3, j4⟩ := g1'.write0 (i := (i : Int) + 1) (by omega) (by simp; omega) (v := .bool true) rfl rfl
              have hg1 := g1'.sl
              simp -implicitDefEqProofs (disch := first | assumption | omega | (simp -implicitDefEqProofs only [gL] <;> omega) | ((repeat (first | exact Ext.refl _ | assumption | apply Ext.app | apply Ext.mk | (refine Ext.setr ?_ (by (first | omega | (simp -implicitDefEqProofs only [gL] <;> omega))) _))); done) | (simp -implicitDefEqProofs only [gL, gA, hg2.idxG, k1, hx, hm.nil, hm.fldA0, hm.ldfE, hwd.lenG, hwd.idxG, hwd.ld0, encI, hc, hand, hb, hg1.idxG, j1] <;> omega) | fail) only [gB, setAll, partL, fldV, reduceIte, Nat.reduceAdd, Nat.reduceMul, hg2.idxG, k1, hx, hm.nil, hm.fldA0, hm.ldfE, hwd.lenG, hwd.idxG, hwd.ld0, encI, hc, hand, hb, hg1.idxG, j1]
              have hkl2 := ex.lt
              refine b1_spec mv (ex.fr j3 (by omega)) ((kv.fr j3 (fun o a1 a2 => (hX' o).2 (.inr ⟨by omega, by omega⟩)) (.inl (by omega))).more fun o q => .inl (hXX o q)) hf' hi (bs := (List.replicate (w.length + 1) false).set (i + 1) true) (j2.cong (by rw [List.map_set]; rfl)).sl ((Is.none.set (by omega)).cong fun j => ?_) o0 (hnX _ (by omega))
              simp only [R, or_false]
              exact ⟨fun q => ⟨⟨c, hwc, c0, c5, hb⟩, q⟩, fun q => q.2⟩
            | false =>
              simp -implicitDefEqProofs (disch := first | assumption | omega | (simp -implicitDefEqProofs only [gL] <;> omega) | ((repeat (first | exact Ext.refl _ | assumption | apply Ext.app | apply Ext.mk | (refine Ext.setr ?_ (by (first | omega | (simp -implicitDefEqProofs only [gL] <;> omega))) _))); done) | (simp -implicitDefEqProofs only [gL, gA, hg2.idxG, k1, hx, hm.nil, hm.fldA0, hm.ldfE, hwd.lenG, hwd.idxG, hwd.ld0, encI, hc, hand, hb] <;> omega) | fail) only [gB, setAll, partL, fldV, reduceIte, Nat.reduceAdd, Nat.reduceMul, hg2.idxG, k1, hx, hm.nil, hm.fldA0, hm.ldfE, hwd.lenG, hwd.idxG, hwd.ld0, encI, hc, hand, hb]
              exact no fun ⟨c', q1, q2, q3, q4⟩ => by rw [hwc] at q1; injection q1 with q1; subst q1; rw [hb] at q4; cases q4
          · simp -implicitDefEqProofs (disch := first | assumption | omega | (simp -implicitDefEqProofs only [gL] <;> omega) | ((repeat (first | exact Ext.refl _ | assumption | apply Ext.app | apply Ext.mk | (refine Ext.setr ?_ (by (first | omega | (simp -implicitDefEqProofs only [gL] <;> omega))) _))); done) | (simp -implicitDefEqProofs only [gL, gA, hg2.idxG, k1, hx, hm.nil, hm.fldA0, hm.ldfE, hwd.lenG, hwd.idxG, hwd.ld0, encI, hc] <;> omega) | fail) only [gB, setAll, partL, fldV, reduceIte, Nat.reduceAdd, Nat.reduceMul, hg2.idxG, k1, hx, hm.nil, hm.fldA0, hm.ldfE, hwd.lenG, hwd.idxG, hwd.ld0, encI, hc]
            exact no fun ⟨c', q1, q2, q3, q4⟩ => by rw [hwc] at q1; injection q1 with q1; subst q1; omega
        · simp -implicitDefEqProofs (disch := first | assumption | omega | (simp -implicitDefEqProofs only [gL] <;> omega) | ((repeat (first | exact Ext.refl _ | assumption | apply Ext.app | apply Ext.mk | (refine Ext.setr ?_ (by (first | omega | (simp -implicitDefEqProofs only [gL] <;> omega))) _))); done) | (simp -implicitDefEqProofs only [gL, gA, hg2.idxG, k1, hx, hm.nil, hm.fldA0, hm.ldfE, hwd.lenG, hwd.idxG, hwd.ld0, encI, hc] <;> omega) | fail) only [gB, setAll, partL, fldV, reduceIte, Nat.reduceAdd, Nat.reduceMul, hg2.idxG, k1, hx, hm.nil, hm.fldA0, hm.ldfE, hwd.lenG, hwd.idxG, hwd.ld0, encI, hc]
          exact no fun ⟨c', q1, q2, q3, q4⟩ => by rw [hwc] at q1; injection q1 with q1; subst q1; omega
      · simp -implicitDefEqProofs (disch := first | assumption | omega | (simp -implicitDefEqProofs only [gL] <;> omega) | ((repeat (first | exact Ext.refl _ | assumption | apply Ext.app | apply Ext.mk | (refine Ext.setr ?_ (by (first | omega | (simp -implicitDefEqProofs only [gL] <;> omega))) _))); done) | (simp -implicitDefEqProofs only [gL, gA, hg2.idxG, k1, hx, hm.nil, hm.fldA0, hm.ldfE, hwd.lenG] <;> omega) | fail) only [gB, setAll, partL, fldV, reduceIte, Nat.reduceAdd, Nat.reduceMul, hg2.idxG, k1, hx, hm.nil, hm.fldA0, hm.ldfE, hwd.lenG]
        exact no fun ⟨c', q1, _⟩ => by rw [List.getElem?_eq_none (by omega)] at q1; cases q1
end
end Go.Gm.A5
