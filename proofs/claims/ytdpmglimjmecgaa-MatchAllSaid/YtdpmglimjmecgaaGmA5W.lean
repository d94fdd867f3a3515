/- A part of the proof: GmA5W: an abstract machine, what it does, and what the functions of the program come to on it. -/
import Derived.Test.YtdpmglimjmecgaaGmA5V
set_option linter.unusedVariables false
set_option linter.unusedSimpArgs false
namespace Go.Gm.A5
open Go Go.Gm

theorem Gr.appQ {o : Nat} {h : Heap} {sz bytes : Nat} {s x : AV} {xs ys : List (List AV)} (a : Gr o (o + 1) h sz s xs) (ho : s ≠ .nils → o < h.length) (b : Sl h sz x ys) (hsz : 0 < sz) (hb : 0 < bytes) (hl : (xs.length + ys.length) * bytes ≤ 140737488355328) :
    ∃ s' h' o', apnd sz bytes s x h = some (s', h') ∧ Gr o' (o' + 1) h' sz s' (xs ++ ys) ∧ (s' ≠ .nils → ((o' = o ∧ s ≠ .nils) ∨ h.length ≤ o') ∧ o' < h'.length) ∧ FrS (fun p => s ≠ .nils ∧ p = o) h h' ∧ (s ≠ .nils → o' = o) := by
  by_cases hn : s = .nils
  · obtain ⟨s', h', o', k1, k2, k3, k4⟩ := a.appP ho b hsz hb hl
    exact ⟨s', h', o', k1, k2, k3, k4, fun q => absurd hn q⟩
  · have ho' := ho hn
    obtain ⟨s', h', k1, k2, k3, k4⟩ := a.appendS b hsz hb hl (by omega) (by omega)
    have := k3.len
    exact ⟨s', h', o, k1, (k4 hn).1, fun q => ⟨.inl ⟨rfl, hn⟩, by omega⟩, k3.s.mono fun p _ q => ⟨hn, by omega⟩, fun _ => rfl⟩

mutual
/-- How many parts. -/
def cntN : Nd → Nat
  | .join l => 1 + cntL l
  | .uni l => 1 + cntL l
  | .star n => 1 + cntN n
  | .plus n => 1 + cntN n
  | .opt n => 1 + cntN n
  | .rep _ _ n => 1 + cntN n
  | .set _ => 1
  | .emp => 1
  | .eps => 1
def cntL : List Nd → Nat
  | [] => 0
  | n :: l => cntN n + cntL l
end
theorem cntN_kids (n : Nd) : cntN n = 1 + cntL n.kids := by cases n <;> simp [cntN, Nd.kids, cntL]
theorem cntL_take {l : List Nd} {t : Nat} {c : Nd} (h : l[t]? = some c) : cntL (l.take (t + 1)) = cntL (l.take t) + cntN c := by
  induction l generalizing t with
  | nil => simp at h
  | cons a l ih =>
    cases t with
    | zero => simp only [List.getElem?_cons_zero, Option.some.injEq] at h; subst h; simp [cntL]
    | succ t => simp only [List.take_succ_cons, cntL, ih (by simpa using h)]; omega
/-- As Fl, above some number. -/
inductive FlL (lo : Nat) (pt : List (Nd × List Int)) : Int → Nd → Prop
  | mk {k : Int} {n : Nd} {ks : List Int} : (lo : Int) ≤ k → pt[k.toNat]? = some (n, ks) → ks.length = n.kids.length → (∀ (j : Nat) (c : Nd), n.kids[j]? = some c → FlL lo pt (gi ks j) c) → FlL lo pt k n
theorem FlL.fl {lo : Nat} {pt : List (Nd × List Int)} {k : Int} {n : Nd} (a : FlL lo pt k n) : Fl pt k n := by
  induction a with
  | mk h1 h2 h3 _ ih => exact .mk (by omega) h2 h3 ih
theorem FlL.mono {lo lo' : Nat} {pt pt' : List (Nd × List Int)} {k : Int} {n : Nd} (a : FlL lo pt k n) (hl : lo' ≤ lo) (hp : ∀ (i : Nat) x, lo ≤ i → pt[i]? = some x → pt'[i]? = some x) : FlL lo' pt' k n := by
  induction a with
  | mk h1 h2 h3 _ ih => exact .mk (by omega) (hp _ _ (by omega) h2) h3 ih

/-- The matcher while its parts are laid. X: rows that others still write to. -/
structure FS (h0 h : Heap) (mo po : Nat) (sp sw : AV) (kk : Nat) (cs : List (List AV)) (pt : List (Nd × List Int)) (X : Nat → Prop) : Prop where
  ext : Ext h0 h
  mo0 : h0.length ≤ mo
  row : h[mo]? = some (.cells ⟨[sp, sw, .map kk], 0, 0, false⟩)
  gr : Gr po (po + 1) h 6 sp cs
  po0 : sp ≠ .nils → h0.length ≤ po ∧ po < h.length ∧ po ≠ mo
  len : cs.length = pt.length
  ent : ∀ (i : Nat) n ks, pt[i]? = some (n, ks) → ∃ sl sk, cs[i]? = some [I n.kind, I n.st, I n.lo, I n.hi, sl, sk] ∧ Sl h 1 sk (ks.map encI) ∧ sl.one = true ∧ (sk ≠ .nils → sk.obj ≠ mo ∧ sk.obj ≠ po ∧ ¬ X sk.obj)
theorem Sl.frs {D : Nat → Prop} {h h' : Heap} {sz : Nat} {s : AV} {xs : List (List AV)} (a : Sl h sz s xs) (f : FrS D h h') (hd : s ≠ .nils → ¬ D s.obj) : Sl h' sz s xs := by
  rcases a with a | ⟨o, off, lim, g, c, rfl, h2, h3⟩
  · exact .inl a
  · exact .inr ⟨o, off, lim, g, c, rfl, (f.get (hd (by simp)) (List.getElem?_eq_some_iff.1 h2).1).trans h2, h3⟩

theorem FS.frs {h0 H H' : Heap} {mo po : Nat} {sp sw : AV} {kk : Nat} {cs : List (List AV)} {pt : List (Nd × List Int)} {X X2 : Nat → Prop} (fs : FS h0 H mo po sp sw kk cs pt X) {D : Nat → Prop} (f : FrS D H H') (e : Ext h0 H') (hm : ¬ D mo) (hp : sp ≠ .nils → ¬ D po) (hD : ∀ o, D o → X o) (hX : ∀ o, o < H.length → X2 o → X o) : FS h0 H' mo po sp sw kk cs pt X2 := by
  refine ⟨e, fs.mo0, (f.get hm (List.getElem?_eq_some_iff.1 fs.row).1).trans fs.row, ?_, fun q => ?_, fs.len, fun i n ks q => ?_⟩
  · by_cases hs : sp = .nils
    · subst hs
      have := fs.gr.isNil
      subst this
      exact Gr.nil ..
    · exact fs.gr.frs f fun o q1 q2 => by
        have : o = po := by omega
        subst this; exact hp hs
  · have := fs.po0 q
    have := f.len
    omega
  · obtain ⟨sl, sk, k1, k2, k3, k4⟩ := fs.ent i n ks q
    refine ⟨sl, sk, k1, Sl.frs k2 f fun hs hd => (k4 hs).2.2 (hD _ hd), k3, fun hs => ⟨(k4 hs).1, (k4 hs).2.1, fun hx => (k4 hs).2.2 (hX _ (k2.objLt hs) hx)⟩⟩

theorem Gr.frs' {o : Nat} {h h' : Heap} {sz : Nat} {s : AV} {xs : List (List AV)} (a : Gr o (o + 1) h sz s xs) {D : Nat → Prop} (f : FrS D h h') (hd : s ≠ .nils → ¬ D o) : Gr o (o + 1) h' sz s xs := by
  by_cases hs : s = .nils
  · subst hs
    have := a.isNil
    subst this
    exact Gr.nil ..
  · exact a.frs f fun p q1 q2 => by
      have : p = o := by omega
      subst this; exact hd hs

/-- What laying out promises. -/
abbrev FQ (h0 : Heap) (mo : Nat) (sw : AV) (kk : Nat) (n : Nd) (h : Heap) (po : Nat) (sp : AV) (pt : List (Nd × List Int)) (X : Nat → Prop) (r : AV) (h' : Heap) : Prop :=
  r = I pt.length ∧ ∃ po' sp' cs' pt', FS h0 h' mo po' sp' sw kk cs' pt' X ∧ sp' ≠ .nils ∧ (sp ≠ .nils → po' = po) ∧ (sp = .nils → h.length ≤ po') ∧ FrS (fun o => o = mo ∨ (sp ≠ .nils ∧ o = po)) h h' ∧
    (∀ i : Nat, i < pt.length → pt'[i]? = pt[i]?) ∧ pt'.length ≤ pt.length + cntN n ∧ FlL pt.length pt' pt.length n

section
variable {h0 : Heap} {mo : Nat} {sw : AV} {kk : Nat}
def FlatS (h0 : Heap) (mo : Nat) (sw : AV) (kk : Nat) (n : Nd) : Prop :=
  ∀ (c5 : List AV) (h : Heap) (po : Nat) (sp : AV) (cs : List (List AV)) (pt : List (Nd × List Int)) (X : Nat → Prop), NV h0 n c5 → FS h0 h mo po sp sw kk cs pt X → (∀ o, X o → o < h.length) → pt.length + cntN n ≤ 800000 →
    Tot tab f_match_matcher_flat [.ptr mo 0 3 0, .agg c5] h (FQ h0 mo sw kk n h po sp pt X)

theorem flat_l1 {n : Nd} {css : List (List AV)} {ss : AV} (hcs : Sl h0 5 ss css) (hn : NVs h0 n.kids css) (hkl : n.kids.length ≤ 1000) (hS : ∀ c ∈ n.kids, FlatS h0 mo sw kk c) {h : Heap} {po0 : Nat} {sp0 : AV} {pt : List (Nd × List Int)} {X : Nat → Prop} (hX : ∀ o, X o → o < h.length) (hb : pt.length + cntN n ≤ 800000)
    {po : Nat} (hpo : sp0 ≠ .nils → po = po0) (hpo' : sp0 = .nils → h.length ≤ po) (hl0 : h0.length ≤ h.length) (hmoh : mo < h.length) (hmo : po ≠ mo) :
    ∀ (d t : Nat) (l sp : AV) (ll : Nat) (ks : List Int) (cs : List (List AV)) (pt' : List (Nd × List Int)) (H : Heap), t + d = n.kids.length → ks.length = t →
      FS h0 H mo po sp sw kk cs pt' (fun o => X o ∨ (l ≠ .nils ∧ o = ll)) → sp ≠ .nils → FrS (fun o => o = mo ∨ (sp0 ≠ .nils ∧ o = po0)) h H → Gr ll (ll + 1) H 1 l (ks.map encI) → (l ≠ .nils → h.length ≤ ll ∧ ll < H.length ∧ ll ≠ po) →
      (∀ i : Nat, i < pt.length → pt'[i]? = pt[i]?) → pt'[pt.length]? = some (n, []) → pt'.length ≤ pt.length + 1 + cntL (n.kids.take t) → (∀ (j : Nat) (c : Nd), j < t → n.kids[j]? = some c → FlL (pt.length + 1) pt' (gi ks j) c) →
      WP (fun p : Nat × Nat => match_matcher_flat_l1 tab p.1 p.2 (.ptr mo 0 3 0) (I pt.length) l ss (I n.kids.length) (I t) H) (FQ h0 mo sw kk n h po0 sp0 pt X) := by
  have hlen5 : css.length = n.kids.length := hn.length.symm
  have hcs' : Sl h0 5 ss (css.map fun x => x) := by rw [List.map_id']; exact hcs
  intro d
  induction d with
  | zero =>
    intro t l sp ll ks cs pt' H h1 hks fs hsp fr gl hll hpre hat hle hfl
    refine WP.rnd (fun i' j => match_matcher_flat_l1_eq tab i' j _ _ l ss _ _ H) ?_
    simp -implicitDefEqProofs (disch := first | assumption | omega | (simp -implicitDefEqProofs only [gL] <;> omega) | ((repeat (first | exact Ext.refl _ | assumption | apply Ext.app | apply Ext.mk | (refine Ext.setr ?_ (by (first | omega | (simp -implicitDefEqProofs only [gL] <;> omega))) _))); done) | (simp -implicitDefEqProofs only [gL, gA] <;> omega) | fail) only [gB, setAll, partL, fldV, reduceIte, Nat.reduceAdd, Nat.reduceMul]
    refine WP.lv (WP.congr (fun p => match_matcher_flat_b2_eq tab _ _ _ l H) ?_) fun i j => rfl
    have hrow := fs.row
    have hpl := (List.getElem?_eq_some_iff.1 hat).1
    have hgs := fs.gr.sl
    have hcl := fs.len
    obtain ⟨sl, sk, a1, a2, a3, a4⟩ := fs.ent _ _ _ hat
    obtain ⟨H', k1, k2, k3, k4⟩ := fs.gr.write (i := (pt.length : Int)) (by omega) (by simpa using a1) 5 1 (v := l) (by rw [gl.sl.cells]; rfl) (by omega) (by rw [gl.sl.cells]; simp [gl.sl.one])
    have hgs' : Sl H 6 sp (cs.map fun x => x) := by rw [List.map_id']; exact hgs
    simp -implicitDefEqProofs (disch := first | assumption | omega | (simp -implicitDefEqProofs only [gL] <;> omega) | ((repeat (first | exact Ext.refl _ | assumption | apply Ext.app | apply Ext.mk | (refine Ext.setr ?_ (by (first | omega | (simp -implicitDefEqProofs only [gL] <;> omega))) _))); done) | (simp -implicitDefEqProofs only [gL, gA, hrow, hgs'.idxG, k1] <;> omega) | fail) only [gB, setAll, partL, fldV, reduceIte, Nat.reduceAdd, Nat.reduceMul, hrow, hgs'.idxG, k1]
    have hpo2 := fs.po0 hsp
    have hmol := (List.getElem?_eq_some_iff.1 hrow).1
    have hsa : setAll [I n.kind, I n.st, I n.lo, I n.hi, sl, sk] 5 l.cells = [I n.kind, I n.st, I n.lo, I n.hi, sl, l] := by rw [gl.sl.cells]; rfl
    have k2' : Gr po (po + 1) H' 6 sp (cs.set pt.length [I n.kind, I n.st, I n.lo, I n.hi, sl, l]) := by rw [← hsa]; exact k2
    have hlo : l ≠ .nils → l.obj = ll := fun q => by have := gl.objIn q; omega
    refine WP.ret ⟨rfl, po, sp, _, pt'.set pt.length (n, ks), ⟨k3.ext fs.ext (by omega), fs.mo0, (k3.get (by omega) hmol).trans hrow, k2', fun _ => by omega, by simp [fs.len], fun i n' ks' q => ?_⟩, hsp, hpo, hpo', ⟨by have := fr.len; omega, fun o hD ho => (k3.get (by
      by_cases hsp0 : sp0 = .nils
      · have := hpo' hsp0; omega
      · have := hpo hsp0
        have : o ≠ po0 := fun q => hD (.inr ⟨hsp0, q⟩)
        omega) (by have := fr.len; omega)).trans (fr.get hD ho)⟩, fun i hi => ?_, by rw [List.length_set, cntN_kids]; rw [List.take_of_length_le (by omega)] at hle; omega, ?_⟩
    · by_cases hi : i = pt.length
      · subst hi
        rw [List.getElem?_set_self hpl] at q
        injection q with q
        injection q with q1 q2
        subst q1 q2
        refine ⟨sl, l, List.getElem?_set_self (by omega), gl.sl.fr k3 fun hs => ?_, a3, fun hs => ⟨?_, ?_, fun hx => ?_⟩⟩
        · have := hlo hs; have := hll hs; omega
        · have := hlo hs; have := hll hs; omega
        · have := hlo hs; have := hll hs; omega
        · have := hX _ hx; have := hlo hs; have := hll hs; omega
      · rw [List.getElem?_set_ne (Ne.symm hi)] at q
        obtain ⟨sl', sk', b1, b2, b3, b4⟩ := fs.ent _ _ _ q
        refine ⟨sl', sk', by rw [List.getElem?_set_ne (Ne.symm hi)]; exact b1, b2.fr k3 fun hs => ?_, b3, fun hs => ⟨(b4 hs).1, (b4 hs).2.1, fun hx => (b4 hs).2.2 (.inl hx)⟩⟩
        have := (b4 hs).2.1; omega
    · rw [List.getElem?_set_ne (by omega)]; exact hpre i hi
    · refine .mk (ks := ks) (Int.le_refl _) (by rw [show ((pt.length : Int)).toNat = pt.length from rfl, List.getElem?_set_self hpl]) (by omega) fun j c hj => ?_
      have hjl := (List.getElem?_eq_some_iff.1 hj).1
      exact (hfl j c (by omega) hj).mono (by omega) fun i x q1 q2 => by rw [List.getElem?_set_ne (by omega)]; exact q2
  | succ d ih =>
    intro t l sp ll ks cs pt' H h1 hks fs hsp fr gl hll hpre hat hle hfl
    refine WP.rnd (fun i' j => match_matcher_flat_l1_eq tab i' j _ _ l ss _ _ H) ?_
    have htl : t < n.kids.length := by omega
    have hlt : n.kids[t]? = some n.kids[t] := List.getElem?_eq_getElem htl
    obtain ⟨c5, q1, q2⟩ := hn.get hlt
    have hgc : gi css (t : Int) = c5 := gi_map q1
    obtain ⟨s5, css5, rfl, _, _⟩ := q2.inv
    have hcs'' := hcs'.ext fs.ext
    have e0 := Ext.refl H
    have ho5 := q2.one
    simp only [List.all_cons, List.all_nil, one_int, Bool.true_and, Bool.and_true] at ho5
    simp -implicitDefEqProofs (disch := first | assumption | omega | (simp -implicitDefEqProofs only [gL] <;> omega) | ((repeat (first | exact Ext.refl _ | assumption | apply Ext.app | apply Ext.mk | (refine Ext.setr ?_ (by (first | omega | (simp -implicitDefEqProofs only [gL] <;> omega))) _))); done) | (simp -implicitDefEqProofs only [gL, gA, hcs''.idxG, hcs''.ldN, hgc, ho5] <;> omega) | fail) only [gB, setAll, partL, fldV, reduceIte, Nat.reduceAdd, Nat.reduceMul, hcs''.idxG, hcs''.ldN, hgc, ho5]
    obtain ⟨H3, hh3⟩ : ∃ H3, H3 = (H ++ [AObj.cells ⟨[I 0, I 0, I 0, I 0, .nils], 0, 0, false⟩]).set H.length (.cells ⟨[I n.kids[t].kind, I n.kids[t].st, I n.kids[t].lo, I n.kids[t].hi, s5], 0, 0, false⟩) := ⟨_, rfl⟩
    have e3 : Ext H H3 := by rw [hh3]; ((repeat (first | exact Ext.refl _ | assumption | apply Ext.app | apply Ext.mk | (refine Ext.setr ?_ (by (first | omega | (simp -implicitDefEqProofs only [gL] <;> omega))) _))))
    rw [show AV.int .i64 0 = I 0 from rfl, ← hh3]
    have hl3 := e3.len
    have hfr := fr.len
    have hcn : cntL (n.kids.take (t + 1)) = cntL (n.kids.take t) + cntN n.kids[t] := cntL_take hlt
    have hcm : cntL (n.kids.take (t + 1)) ≤ cntL n.kids := by
      have : ∀ (l : List Nd) (t : Nat), cntL (l.take t) ≤ cntL l := by
        intro l
        induction l with
        | nil => intro t; simp
        | cons a l ih => intro t; cases t with
          | zero => simp [cntL]
          | succ t => simp only [List.take_succ_cons, cntL]; have := ih t; omega
      exact this _ _
    have hck := cntN_kids n
    have fs3 := fs.frs (X2 := fun o => X o ∨ (l ≠ .nils ∧ o = ll)) (D := fun _ => False) (FrS.ofExt e3) (fs.ext.trans e3) id (fun _ => id) (fun _ q => q.elim) (fun _ _ q => q)
    refine WP.call (hS n.kids[t] (List.getElem_mem htl) _ H3 po sp cs pt' _ q2 fs3 (fun o q => ?_) (by omega)) ?_
    · rcases q with q | q
      · have := hX o q; omega
      · have := hll q.1; omega
    rintro _ H4 ⟨rfl, po', sp', cs', pt2, fs4, hsp', hpo4, _, fr4, hpre4, hle4, hfl4⟩
    have hp4 := (hpo4 hsp).symm
    subst hp4
    have hl4 := fr4.len
    have gl4 := Gr.frs' (gl.ext e3) fr4 (fun hl q => by
      have := hll hl
      rcases q with q | q
      · omega
      · omega)
    simp -implicitDefEqProofs (disch := first | assumption | omega | (simp -implicitDefEqProofs only [gL] <;> omega) | ((repeat (first | exact Ext.refl _ | assumption | apply Ext.app | apply Ext.mk | (refine Ext.setr ?_ (by (first | omega | (simp -implicitDefEqProofs only [gL] <;> omega))) _))); done) | (simp -implicitDefEqProofs only [gL, gA] <;> omega) | fail) only [gB, setAll, partL, fldV, reduceIte, Nat.reduceAdd, Nat.reduceMul]
    rw [← mkObj_eq]
    have e5 : Ext H4 (mkObj H4 [I pt'.length]) := Ext.push H4 _
    have hl5 : (mkObj H4 [I pt'.length]).length = H4.length + 1 := by simp [mkObj]
    obtain ⟨s', H6, o', u1, u2, u3, u4⟩ := (gl4.ext e5).appP (bytes := 8) (fun hl => by have := hll hl; omega) (Gr.lit (sz := 1) (v := [I pt'.length]) rfl).sl (by omega) (by omega) (by simp; omega)
    have hl6 := u4.len
    have hmo6 := (List.getElem?_eq_some_iff.1 fs4.row).1
    have hp6 := fs4.po0 hsp'
    have fs5 := fs4.frs (X2 := fun o => X o ∨ (l ≠ .nils ∧ o = ll)) (D := fun _ => False) (FrS.ofExt e5) (fs4.ext.trans e5) id (fun _ => id) (fun _ q => q.elim) (fun _ _ q => q)
    have fs6 : FS h0 H6 mo po sp' sw kk cs' pt2 (fun o => X o ∨ (s' ≠ .nils ∧ o = o')) := by
      refine fs5.frs u4 (u4.ext fs5.ext fun o ho hD => ?_) (fun q => ?_) (fun _ q => ?_) (fun o q => .inr q) (fun o ho q => ?_)
      · have := hll hD.1; omega
      · have := hll q.1; omega
      · have := hll q.1; omega
      · rcases q with q | ⟨q1, q2⟩
        · exact .inl q
        · rcases (u3 q1).1 with ⟨q3, q4⟩ | q3
          · exact .inr ⟨q4, q2.trans q3⟩
          · omega
    simp only [u1, ob_some]
    have hnl : pt2[pt.length]? = some (n, []) := (hpre4 _ (List.getElem?_eq_some_iff.1 hat).1).trans hat
    refine ih (t + 1) s' sp' o' (ks ++ [(pt'.length : Int)]) cs' pt2 H6 (by omega) (by simp [hks]) fs6 hsp' ⟨by omega, fun o hD ho => ?_⟩ (u2.cong (by simp [encI])) (fun q => ?_) (fun i hi => ?_) hnl (by omega) (fun j c hj hc => ?_)
    · have d1 : o ≠ mo := fun q => hD (.inl q)
      have d2 : o ≠ po := fun q => by
        by_cases hs0 : sp0 = .nils
        · have := hpo' hs0; omega
        · exact hD (.inr ⟨hs0, q.trans (hpo hs0)⟩)
      rw [u4.get (fun q => by have := hll q.1; omega) (by omega), (ext_iff.1 e5).2 o (by omega), fr4.get (by rintro (q | q); exact d1 q; exact d2 q.2) (by omega), (ext_iff.1 e3).2 o (by omega), fr.get hD ho]
    · obtain ⟨q3, q4⟩ := u3 q
      rcases q3 with ⟨rfl, q5⟩ | q3
      · have := hll q5; omega
      · omega
    · rw [hpre4 i (by have := (List.getElem?_eq_some_iff.1 hat).1; omega)]; exact hpre i hi
    · have hpl := (List.getElem?_eq_some_iff.1 hat).1
      by_cases hjt : j = t
      · subst hjt
        rw [hlt] at hc
        injection hc with hc
        subst hc
        rw [gi_map (x := (pt'.length : Int)) (by rw [List.getElem?_append_right (by omega)]; simp [hks])]
        exact hfl4.mono (by omega) fun i x _ q => q
      · have hg1 : gi (ks ++ [(pt'.length : Int)]) (j : Int) = gi ks j := by
          simp only [gi, List.getD_eq_getElem?_getD, Int.toNat_natCast]
          rw [List.getElem?_append_left (by omega)]
        rw [hg1]
        exact (hfl j c (by omega) hc).mono (Nat.le_refl _) fun i x q1 q2 => by rw [hpre4 i (List.getElem?_eq_some_iff.1 q2).1]; exact q2
theorem flat_spec (n : Nd) : Ok n → FlatS h0 mo sw kk n := by
  refine Nd.ind (p := fun n => Ok n → FlatS h0 mo sw kk n) ?_ n
  intro n ih ok c5 h po sp cs pt X nv fs hX hb
  refine WP.tot (fun k' => (call_match_matcher_flat k' _ _ h).trans (match_matcher_flat_eq tab k' _ _ h)) ?_
  cases ok with
  | mk o1 o2 o3 o4 o5 =>
  have hS : ∀ c ∈ n.kids, FlatS h0 mo sw kk c := fun c hc => ih c hc (o5 c hc)
  obtain ⟨s5, css, rfl, sl5, nvs⟩ := nv.inv
  have hrow := fs.row
  have hmol := (List.getElem?_eq_some_iff.1 hrow).1
  have hgs' : Sl h 6 sp (cs.map fun x => x) := by rw [List.map_id']; exact fs.gr.sl
  have e0 := Ext.refl h
  have ho5 : s5.one = true := sl5.one
  obtain ⟨h1, hh1⟩ : ∃ h1, h1 = h ++ [AObj.cells ⟨[I n.kind, I n.st, I n.lo, I n.hi, s5], 0, 0, false⟩] := ⟨_, rfl⟩
  have e1 : Ext h h1 := by rw [hh1]; ((repeat (first | exact Ext.refl _ | assumption | apply Ext.app | apply Ext.mk | (refine Ext.setr ?_ (by (first | omega | (simp -implicitDefEqProofs only [gL] <;> omega))) _))))
  have hx1 : h1[h.length]? = some (.cells ⟨[I n.kind, I n.st, I n.lo, I n.hi, s5], 0, 0, false⟩) := by rw [hh1]; simp
  have hrow1 := e1.get hrow
  have hl1 : h1.length = h.length + 1 := by rw [hh1]; simp
  have e2 : Ext h1 (mkObj h1 [I n.kind, I n.st, I n.lo, I n.hi, s5, .nils]) := Ext.push h1 _
  have hcl := fs.len
  have hck := cntN_kids n
  obtain ⟨s', H6, o', u1, u2, u3, u4, u5⟩ := Gr.appQ (bytes := 80) ((fs.gr.ext e1).ext e2) (fun hl => by have := fs.po0 hl; simp [mkObj]; omega) (Gr.lit (sz := 6) (v := [I n.kind, I n.st, I n.lo, I n.hi, s5, .nils]) rfl).sl (by omega) (by omega) (by simp; omega)
  simp -implicitDefEqProofs (disch := first | assumption | omega | (simp -implicitDefEqProofs only [gL] <;> omega) | ((repeat (first | exact Ext.refl _ | assumption | apply Ext.app | apply Ext.mk | (refine Ext.setr ?_ (by (first | omega | (simp -implicitDefEqProofs only [gL] <;> omega))) _))); done) | (simp -implicitDefEqProofs only [gL, gA, ho5] <;> omega) | fail) only [gB, setAll, partL, fldV, reduceIte, Nat.reduceAdd, Nat.reduceMul, ho5]
  rw [show AV.int .i64 0 = I 0 from rfl, ← hh1]
  have hl2 : (mkObj h1 [I n.kind, I n.st, I n.lo, I n.hi, s5, .nils]).length = h.length + 2 := by simp [mkObj, hl1]
  have hl6 := u4.len
  have u1' := u1
  rw [hl1, mkObj_eq] at u1'
  have hpos := fs.po0
  have hnm : ¬ (sp ≠ .nils ∧ mo = po) := fun q => by have := hpos q.1; omega
  have hrow6 : H6[mo]? = some (.cells ⟨[sp, sw, .map kk], 0, 0, false⟩) := (u4.get hnm (by omega)).trans (e2.get hrow1)
  have hx6 : H6[h.length]? = some (.cells ⟨[I n.kind, I n.st, I n.lo, I n.hi, s5], 0, 0, false⟩) := (u4.get (fun q => by have := hpos q.1; omega) (by omega)).trans (e2.get hx1)
  have hmo6 : mo < H6.length := by omega
  have hmh : ¬ mo = h.length := by omega
  have hs' : s' ≠ .nils := u2.sl.nnil (by simp)
  have hu3 := u3 hs'
  have sl5' := sl5.ext fs.ext
  have hsl : lenS s5 = some (I n.kids.length) := by rw [sl5.len, nvs.length]
  simp -implicitDefEqProofs (disch := first | assumption | omega | (simp -implicitDefEqProofs only [gL] <;> omega) | ((repeat (first | exact Ext.refl _ | assumption | apply Ext.app | apply Ext.mk | (refine Ext.setr ?_ (by (first | omega | (simp -implicitDefEqProofs only [gL] <;> omega))) _))); done) | (simp -implicitDefEqProofs only [gL, gA, hrow, hgs'.lenG, u1', hrow6, u2.sl.one, u2.sl.cells, hx6, hsl] <;> omega) | fail) only [gB, setAll, partL, fldV, reduceIte, Nat.reduceAdd, Nat.reduceMul, hrow, hgs'.lenG, u1', hrow6, u2.sl.one, u2.sl.cells, hx6, hsl]
  obtain ⟨H7, hH7⟩ : ∃ H7, H7 = H6.set mo (.cells ⟨[s', sw, .map kk], 0, 0, false⟩) := ⟨_, rfl⟩
  have hl7 : H7.length = H6.length := by rw [hH7]; simp
  have hrow7 : H7[mo]? = some (.cells ⟨[s', sw, .map kk], 0, 0, false⟩) := by rw [hH7]; exact get_set_eq hmo6
  have hoth : ∀ o, o ≠ mo → H7[o]? = H6[o]? := fun o q => by rw [hH7]; exact get_set_ne (fun q2 => q q2.symm)
  rw [← hH7, hcl]
  have eA : Ext h (mkObj h1 [I n.kind, I n.st, I n.lo, I n.hi, s5, .nils]) := e1.trans e2
  have hoo : o' = po ∧ sp ≠ .nils ∨ h.length + 2 ≤ o' := by rcases hu3.1 with q | q; exact .inl q; exact .inr (by omega)
  have hom : o' ≠ mo := by rcases hoo with q | q; have := hpos q.2; omega; omega
  have frH : FrS (fun o => o = mo ∨ (sp ≠ .nils ∧ o = po)) h H7 := ⟨by omega, fun o hD ho => by
    rw [hoth o (fun q => hD (.inl q)), u4.get (fun q => hD (.inr q)) (by omega), (ext_iff.1 eA).2 o ho]⟩
  have extH : Ext h0 H7 := by
    refine frH.ext fs.ext fun o ho q => ?_
    rcases q with q | q
    · have := fs.mo0; omega
    · have := hpos q.1; omega
  have fs7 : FS h0 H7 mo o' s' sw kk (cs ++ [[I n.kind, I n.st, I n.lo, I n.hi, s5, .nils]]) (pt ++ [(n, [])]) (fun o => X o ∨ (AV.nils ≠ .nils ∧ o = 0)) := by
    refine ⟨extH, fs.mo0, hrow7, ?_, fun _ => ⟨?_, by omega, hom⟩, by simp [hcl], fun i n' ks q => ?_⟩
    · exact Gr.frs' u2 (D := fun o => o = mo) ⟨by omega, fun o q _ => hoth o q⟩ (fun _ => hom)
    · rcases hoo with q | q
      · have := hpos q.2; omega
      · have := fs.ext.len; omega
    · by_cases hi : i < pt.length
      · rw [List.getElem?_append_left hi] at q
        obtain ⟨sl, sk, a1, a2, a3, a4⟩ := fs.ent _ _ _ q
        refine ⟨sl, sk, by rw [List.getElem?_append_left (by omega)]; exact a1, Sl.frs a2 frH fun hs q => ?_, a3, fun hs => ⟨(a4 hs).1, ?_, fun q => ?_⟩⟩
        · rcases q with q | q
          · exact (a4 hs).1 q
          · exact (a4 hs).2.1 q.2
        · rcases hoo with q | q
          · rw [q.1]; exact (a4 hs).2.1
          · have := a2.objLt hs; omega
        · rcases q with q | q
          · exact (a4 hs).2.2 q
          · exact q.1 rfl
      · have hi2 : i = pt.length := by
          have := (List.getElem?_eq_some_iff.1 q).1
          simp at this; omega
        subst hi2
        rw [List.getElem?_append_right (Nat.le_refl _)] at q
        simp only [Nat.sub_self, List.getElem?_cons_zero, Option.some.injEq, Prod.mk.injEq] at q
        obtain ⟨rfl, rfl⟩ := q
        refine ⟨s5, .nils, by rw [← hcl, List.getElem?_append_right (Nat.le_refl _)]; simp, .inl ⟨rfl, rfl⟩, ho5, fun q => absurd rfl q⟩
  rw [show I 0 = I ((0 : Nat) : Int) from rfl]
  refine WP.ent (flat_l1 (po0 := po) (sp0 := sp) sl5 nvs o4 hS hX (by omega) (po := o') (fun q => ?_) (fun q => ?_) fs.ext.len (by omega) hom n.kids.length 0 .nils s' 0 [] _ _ H7 (by omega) rfl fs7 hs' frH (Gr.nil ..) (fun q => absurd rfl q) (fun i hi => List.getElem?_append_left hi) (by rw [List.getElem?_append_right (Nat.le_refl _)]; simp) (by simp [cntL]) (fun j c q => by omega)) fun i => rfl
  · rcases hoo with q2 | q2
    · exact q2.1
    · exact u5 q
  · rcases hoo with q2 | q2
    · exact absurd q q2.2
    · omega
end
end Go.Gm.A5
