/- A part of the proof: GmA5X: an abstract machine, what it does, and what the functions of the program come to on it. -/
import Derived.Test.YtdpmglimjmecgaaGmA5W
set_option linter.unusedVariables false
set_option linter.unusedSimpArgs false
namespace Go.Gm.A5
open Go Go.Gm

theorem ExM.base {k : Nat} {h0 h h' : Heap} (a : ExM k h h') (e : Ext h0 h) (hk : h0.length ≤ k) : Ext h0 h' := by
  rw [ext_iff] at *
  exact ⟨Nat.le_trans e.1 a.len, fun o ho => (a.get o (by omega) (by omega)).trans (e.2 o ho)⟩
/-- Whether a word is in a language. -/
theorem match_spec {n : Nd} {c5 : List AV} {h : Heap} {word : AV} {w : List Int} (nv : NV h n c5) (ok : Ok n) (hcn : cntN n ≤ 800000) (hw : Sl h 1 word (w.map encI)) (hlw : w.length ≤ 900000) :
    Tot tab f_match_Match [.agg c5, word] h fun r h' => Ext h h' ∧ ∃ b, r = .bool b ∧ (b = true ↔ In n w) := by
  refine WP.tot (fun k' => (call_match_Match k' _ _ h).trans (match_Match_eq tab k' _ _ h)) ?_
  have nv' := nv
  obtain ⟨s5, css, rfl, sl5, nvs⟩ := nv.inv
  have ho5 : s5.one = true := sl5.one
  simp -implicitDefEqProofs (disch := first | assumption | omega | (simp -implicitDefEqProofs only [gL] <;> omega) | ((repeat (first | exact Ext.refl _ | assumption | apply Ext.app | apply Ext.mk | (refine Ext.setr ?_ (by (first | omega | (simp -implicitDefEqProofs only [gL] <;> omega))) _))); done) | (simp -implicitDefEqProofs only [gL, gA, ho5, hw.one, hw.cells] <;> omega) | fail) only [gB, setAll, partL, fldV, reduceIte, Nat.reduceAdd, Nat.reduceMul, ho5, hw.one, hw.cells]
  obtain ⟨h3, hh3⟩ : ∃ h3, h3 = ((h ++ [AObj.cells ⟨[I n.kind, I n.st, I n.lo, I n.hi, s5], 0, 0, false⟩]) ++ [AObj.map KS2 []]) ++ [AObj.cells ⟨[.nils, word, .map (h.length + 1)], 0, 0, false⟩] := ⟨_, rfl⟩
  have e3 : Ext h h3 := by rw [hh3]; ((repeat (first | exact Ext.refl _ | assumption | apply Ext.app | apply Ext.mk | (refine Ext.setr ?_ (by (first | omega | (simp -implicitDefEqProofs only [gL] <;> omega))) _))))
  have hl3 : h3.length = h.length + 3 := by rw [hh3]; simp
  have hk3 : h3[h.length + 1]? = some (.map KS2 []) := by rw [hh3]; simp
  have hm3 : h3[h.length + 2]? = some (.cells ⟨[.nils, word, .map (h.length + 1)], 0, 0, false⟩) := by rw [hh3]; simp
  rw [← hh3]
  have fs : FS h h3 (h.length + 2) 0 .nils word (h.length + 1) [] [] (fun _ => False) := ⟨e3, by omega, hm3, Gr.nil .., fun q => absurd rfl q, rfl, fun i n ks q => by simp at q⟩
  refine WP.call (flat_spec n ok _ h3 0 .nils [] [] (fun _ => False) nv' fs (fun _ q => q.elim) (by simpa using hcn)) ?_
  rintro _ h4 ⟨rfl, po, sp, cs, pt, fs4, hsp, _, _, fr4, _, hle, hfl⟩
  have hl4 := fr4.len
  have hk4 : h4[h.length + 1]? = some (.map KS2 []) := (fr4.get (by
    rintro (q | q)
    · omega
    · exact q.1 rfl) (by omega)).trans hk3
  have hw4 := hw.ext fs4.ext
  have mv : MV h4 (.ptr (h.length + 2) 0 3 0) sp word (h.length + 1) pt w := ⟨At.row (wg := 0) (g := 0) (ro := false) fs4.row (Nat.le_refl _) rfl, ⟨cs, fs4.gr.sl, fs4.len, fun i n ks q => by
    obtain ⟨sl, sk, a1, a2, a3, _⟩ := fs4.ent i n ks q
    exact ⟨sl, sk, a1, a2, a3⟩⟩, hw4, hlw, by simp at hle; omega⟩
  have kv : KV h4 (h.length + 1) pt w (fun _ => False) := ⟨[], hk4, fun k i s q => by simp [findV] at q⟩
  rw [show AV.int .i64 0 = I ((0 : Nat) : Int) from rfl]
  refine WP.call (ends_spec hlw n ok _ 0 h4 (fun _ => False) mv kv (fun _ q => q.elim) hfl.fl (Nat.zero_le _)) ?_
  rintro r h5 ⟨x5, _, r0, _, bs, rs, ri⟩
  have hw5 := hw4.exm x5
  have hbl := ri.1
  have e0 := Ext.refl h5
  obtain ⟨b, hb⟩ : ∃ b, gi bs (w.length : Int) = b := ⟨_, rfl⟩
  simp -implicitDefEqProofs (disch := first | assumption | omega | (simp -implicitDefEqProofs only [gL] <;> omega) | ((repeat (first | exact Ext.refl _ | assumption | apply Ext.app | apply Ext.mk | (refine Ext.setr ?_ (by (first | omega | (simp -implicitDefEqProofs only [gL] <;> omega))) _))); done) | (simp -implicitDefEqProofs only [gL, gA, hw5.lenG, rs.idxG, rs.ld0, encB, hb] <;> omega) | fail) only [gB, setAll, partL, fldV, reduceIte, Nat.reduceAdd, Nat.reduceMul, hw5.lenG, rs.idxG, rs.ld0, encB, hb]
  exact WP.ret ⟨ExM.base x5 fs4.ext (by omega), b, rfl, by rw [← hb]; exact ri.2 w.length⟩
theorem null_spec {n : Nd} {c5 : List AV} {h : Heap} (nv : NV h n c5) (ok : Ok n) (hcn : cntN n ≤ 800000) :
    Tot tab f_match_Null [.agg c5] h fun r h' => Ext h h' ∧ ∃ b, r = .bool b ∧ (b = true ↔ In n []) := by
  refine WP.tot (fun k' => (call_match_Null k' _ h).trans (match_Null_eq tab k' _ h)) ?_
  have nv' := nv
  obtain ⟨s5, css, rfl, sl5, nvs⟩ := nv.inv
  have ho5 : s5.one = true := sl5.one
  simp -implicitDefEqProofs (disch := first | assumption | omega | (simp -implicitDefEqProofs only [gL] <;> omega) | ((repeat (first | exact Ext.refl _ | assumption | apply Ext.app | apply Ext.mk | (refine Ext.setr ?_ (by (first | omega | (simp -implicitDefEqProofs only [gL] <;> omega))) _))); done) | (simp -implicitDefEqProofs only [gL, gA, ho5] <;> omega) | fail) only [gB, setAll, partL, fldV, reduceIte, Nat.reduceAdd, Nat.reduceMul, ho5]
  refine WP.call (match_spec (nv'.keeps (.ofExt (Ext.push h _))) ok hcn (w := []) (.inl ⟨rfl, rfl⟩) (by simp)) ?_
  rintro _ h5 ⟨e5, b, rfl, hb⟩
  exact WP.ret ⟨(Ext.push h _).trans e5, b, rfl, hb⟩
end Go.Gm.A5
