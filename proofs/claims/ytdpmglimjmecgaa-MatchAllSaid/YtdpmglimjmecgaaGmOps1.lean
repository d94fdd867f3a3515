/- A part of the proof: GmOps1: an abstract machine, what it does, and what the functions of the program come to on it. -/
import Derived.Test.YtdpmglimjmecgaaGmApn
import Derived.Test.YtdpmglimjmecgaaGmComp
set_option linter.unusedVariables false
set_option linter.unusedSimpArgs false
namespace Go.Gm
open Go.RowKit

/-- The frames stand alike. -/
def FR (φ : Ren) (fr : Frm) (a : Act) : Prop := VRs φ fr a.tmps.toList
theorem FR.mono {φ ψ : Ren} {fr : Frm} {a : Act} (h : FR φ fr a) (hl : φ.le ψ) : FR ψ fr a := VRs.mono hl h

section
variable {φ : Ren}
theorem ofVal1_ok {v : Value} {x : AV} (h : ofVal1 v = some x) : VR φ x v ∧ x.one = true := by
  unfold ofVal1 at h
  split at h <;> first
    | (injection h with h; subst h; exact ⟨by constructor, rfl⟩)
    | cases h
theorem ofVals_ok : ∀ {vs : List Value} {xs : List AV}, ofVals vs = some xs → VRs φ xs vs ∧ xs.all AV.one = true
  | [], xs, h => by injection h with h; subst h; exact ⟨.nil, rfl⟩
  | v :: vs, xs, h => by
    simp only [ofVals] at h
    cases h1 : ofVal1 v with
    | none => rw [h1] at h; cases h
    | some x =>
      rw [h1] at h
      simp only [Option.bind_some] at h
      cases h2 : ofVals vs with
      | none => rw [h2] at h; cases h
      | some ys =>
        rw [h2] at h
        injection h with h
        subst h
        obtain ⟨a, b⟩ := ofVal1_ok (φ := φ) h1
        obtain ⟨c, d⟩ := ofVals_ok h2
        exact ⟨.cons a c, by simp [b, d]⟩
theorem ofVal_ok {v : Value} {x : AV} (h : ofVal v = some x) : VR φ x v := by
  unfold ofVal at h
  split at h
  · rename_i cs
    cases h2 : ofVals cs.toList with
    | none => rw [h2] at h; cases h
    | some ys =>
      rw [h2] at h
      injection h with h
      subst h
      exact .agg (ofVals_ok h2).1
  · exact (ofVal1_ok h).1
theorem ofVal_cells {v : Value} {x : AV} (h : ofVal v = some x) : VRs φ x.cells v.cells.toList ∧ x.cells.all AV.one = true := by
  unfold ofVal at h
  split at h
  · rename_i cs
    cases h2 : ofVals cs.toList with
    | none => rw [h2] at h; cases h
    | some ys =>
      rw [h2] at h
      injection h with h
      subst h
      exact ofVals_ok h2
  · rename_i h0
    obtain ⟨a, b⟩ := ofVal1_ok (φ := φ) h
    have e1 : v.cells = #[v] := by
      cases v <;> first | rfl | (rename_i cs; exact absurd rfl (h0 cs))
    have e2 : x.cells = [x] := by cases x <;> first | rfl | simp [AV.one] at b
    rw [e1, e2]
    exact ⟨.cons a .nil, by simp [b]⟩
theorem VR.cells_of {x : AV} {v : Value} (h : VR φ x v) (hu : x ≠ .undef) : VRs φ x.cells v.cells.toList := by
  cases h <;> first | exact absurd rfl hu | (simp only [AV.cells, Value.cells]; first | exact .cons (by first | constructor <;> assumption | constructor) .nil | assumption)

variable {fr : Frm} {a : Act}
theorem FR.getD (hf : FR φ fr a) (t : Nat) : VR φ (fr.getD t .undef) (a.tmps.getD t undef) := by
  have hl := VRs.length hf
  rw [List.getD_eq_getElem?_getD]
  cases hx : fr[t]? with
  | none => exact .undef _
  | some x =>
    obtain ⟨v, hv, hr⟩ := VRs.get hf hx
    rw [Array.getElem?_toList] at hv
    simp only [Option.getD_some, Array.getD_eq_getD_getElem?, hv]
    exact hr
theorem FR.ev (hf : FR φ fr a) {x : Operand} {y : Opd} (hc : compOpd x = some y) : VR φ (y.ev fr) (a.eval x) := by
  cases x with
  | tmp t => injection hc with hc; subst hc; exact hf.getD t
  | const v =>
    simp only [compOpd] at hc
    cases h : ofVal v with
    | none => rw [h] at hc; cases hc
    | some x => rw [h] at hc; injection hc with hc; subst hc; exact ofVal_ok h
  | global g => cases hc
  | func f => injection hc with hc; subst hc; exact .fn (xs' := []) (ys' := []) .nil .nil
/-- The operands stand alike, however they are found. -/
def EvOk (φ : Ren) (cmp : Operand → Option Opd) (fr : Frm) (ρ : Operand → Value) : Prop := ∀ x y, cmp x = some y → VR φ (y.ev fr) (ρ x)
theorem FR.evOk (hf : FR φ fr a) : EvOk φ compOpd fr a.eval := fun _ _ h => hf.ev h
theorem EvOk.ev {cmp : Operand → Option Opd} {ρ : Operand → Value} (hf : EvOk φ cmp fr ρ) {x : Operand} {y : Opd} (h : cmp x = some y) : VR φ (y.ev fr) (ρ x) := hf x y h
theorem EvOk.evs {cmp : Operand → Option Opd} {ρ : Operand → Value} (hf : EvOk φ cmp fr ρ) : ∀ {xs : List Operand} {ys : List Opd}, compOpds cmp xs = some ys → VRs φ (ys.map (·.ev fr)) (xs.map ρ)
  | [], ys, h => by injection h with h; subst h; exact .nil
  | x :: xs, ys, h => by
    simp only [compOpds] at h
    cases h1 : cmp x with
    | none => rw [h1] at h; cases h
    | some y =>
      rw [h1] at h
      simp only [Option.bind_some] at h
      cases h2 : compOpds cmp xs with
      | none => rw [h2] at h; cases h
      | some zs =>
        rw [h2] at h
        injection h with h
        subst h
        exact .cons (hf.ev h1) (EvOk.evs hf h2)
theorem FR.put (hf : FR φ fr a) {v : AV} {v' : Value} (hv : VR φ v v') (d : Option Nat) : FR φ (put fr d v) (a.put d v') := by
  cases d with
  | none => exact hf
  | some d =>
    have hl := VRs.length hf
    refine VRs.of_get (by simp [Gm.put, Act.put]; simpa using hl) (fun i x u hx hu => ?_)
    simp only [Gm.put, Act.put, Array.toList_setIfInBounds] at hx hu
    rw [List.getElem?_set] at hx hu
    split at hx
    · rename_i hid
      subst hid
      rw [if_pos rfl] at hu
      split at hx
      · split at hu
        · injection hx with hx; injection hu with hu; subst hx hu; exact hv
        · cases hu
      · cases hx
    · rename_i hid
      rw [if_neg hid] at hu
      obtain ⟨u', hu', hr⟩ := VRs.get hf hx
      rw [hu] at hu'
      injection hu' with hu'
      subst hu'
      exact hr
end

theorem szOf_info {P : Program} {t n : Nat} (h : szOf P t = some n) : ∃ i, P.info? t = some i ∧ i.size = n := by
  unfold szOf at h
  cases hi : P.info? t with
  | none => rw [hi] at h; cases h
  | some i => rw [hi] at h; injection h with h; exact ⟨i, rfl, h⟩
theorem run_sizeOf {P : Program} {t n : Nat} (h : szOf P t = some n) (w : World) : (sizeOf t).run P w = .ok n w := by
  obtain ⟨i, hi, rfl⟩ := szOf_info h
  simp [sizeOf, typeInfo, hi]
theorem sliceElem_under {P : Program} {t e : Nat} (h : sliceElem P t = some e) : P.underlying t = some (.slice e) := by
  unfold sliceElem at h
  split at h
  · rename_i hu; injection h with h; subst h; exact hu
  · cases h
theorem zeroOf_run {P : Program} {t : Nat} {x : AV} (h : zeroOf P t = some x) : ∃ z, (∀ w, (zeroValue t).run P w = .ok z w) ∧ ofVal z = some x := by
  unfold zeroOf at h
  cases hi : P.info? t with
  | none => rw [hi] at h; cases h
  | some i =>
    rw [hi] at h
    simp only [Option.bind_some] at h
    cases hz : i.zero with
    | none => rw [hz] at h; cases h
    | some z => rw [hz] at h; exact ⟨z, fun w => by simp [zeroValue, typeInfo, hi, hz], h⟩
theorem elemOf_ok {P : Program} {t e sz by_ : Nat} {x : List AV} (hu : P.underlying t = some (.slice e)) (h : elemOf? P e = some (sz, by_, x)) :
    ∃ i z, ElemOk P t e i z sz by_ ∧ ∃ y, ofVal z = some y ∧ y.cells = x ∧ x.length = sz := by
  unfold elemOf? at h
  cases hi : P.info? e with
  | none => rw [hi] at h; cases h
  | some i =>
    rw [hi] at h
    simp only [Option.bind_some] at h
    cases hz : i.zero with
    | none => rw [hz] at h; cases h
    | some z =>
      rw [hz] at h
      simp only [Option.bind_some] at h
      cases hx : ofVal z with
      | none => rw [hx] at h; cases h
      | some y =>
        rw [hx] at h
        simp only [Option.bind_some] at h
        split at h
        · rename_i hs
          injection h with h
          injection h with h1 h2
          injection h2 with h2 h3
          exact ⟨i, z, ⟨hu, hi, hz, h1, h2, by rw [← h1]; exact hs.1⟩, y, hx, h3, by rw [← h3, ← h1]; exact hs.2⟩
        · cases h
theorem run_isAgg {P : Program} {t : Nat} {n : Option Nat} (h : aggOf P t = some n) (w : World) : (isAgg t).run P w = .ok n.isSome w ∧ ∀ k, n = some k → szOf P t = some k := by
  unfold aggOf at h
  split at h
  · rename_i hu
    cases hs : szOf P t with
    | none => rw [hs] at h; cases h
    | some k => rw [hs] at h; injection h with h; subst h; exact ⟨by simp [isAgg, run_underlying hu], fun _ q => q⟩
  · rename_i hu
    cases hs : szOf P t with
    | none => rw [hs] at h; cases h
    | some k => rw [hs] at h; injection h with h; subst h; exact ⟨by simp [isAgg, run_underlying hu], fun _ q => q⟩
  · rename_i d h1 h2 hu
    injection h with h
    subst h
    refine ⟨?_, fun _ q => by cases q⟩
    simp only [isAgg, Sem.run_bind, run_underlying hu, Result.andThen_ok]
    cases d <;> first | rfl | exact absurd hu (by simp_all)
  · cases h

section
variable {B : Nat} {w0 : World} {φ : Ren} {h : Heap} {w : World} {P : Program}
/-- A variable read. -/
theorem S.loadVar (hs : S B w0 φ h w) {t : Nat} {n : Option Nat} (hn : aggOf P t = some n) {a x : AV} {p : Value} (hp : VR φ a p) (hx : (match n with | none => Gm.ld1 h a | some n => Gm.ldN n h a) = some x) :
    ∃ ad v, p = .pointer (some ad) ∧ (loadVar t ad).run P w = .ok v w ∧ VR φ x v := by
  obtain ⟨h1, h2⟩ := run_isAgg hn w
  cases n with
  | none =>
    obtain ⟨ad, v, rfl, hc, hr, _⟩ := hs.ld1 hp hx
    exact ⟨ad, v, rfl, by simp [Go.loadVar, h1, hc], hr⟩
  | some k =>
    obtain ⟨ad, cs, vs, rfl, rfl, hl, hr, hc⟩ := hs.ldN hp hx
    have := run_loadCells_list (P := P) w ad vs hc
    rw [hl] at this
    exact ⟨ad, _, rfl, by simp [Go.loadVar, h1, run_sizeOf (h2 k rfl), this], .agg hr⟩
/-- A variable written. -/
theorem S.storeVar (hs : S B w0 φ h w) {t n : Nat} (hn : szOf P t = some n) {a x : AV} {p v : Value} (hp : VR φ a p) (hv : VR φ x v) {h' : Heap} (hx : stN n h a x = some h') :
    ∃ ad w', p = .pointer (some ad) ∧ (storeVar t ad v).run P w = .ok () w' ∧ S B w0 φ h' w' ∧ Kept φ h φ h' := by
  unfold stN at hx
  split at hx
  · rename_i o off hi g
    split at hx
    · rename_i hlen
      cases hp with
      | @ptr _ _ _ _ l hl hhi =>
        have hu : x ≠ .undef := by
          rintro rfl
          unfold Gm.wrc at hx
          split at hx
          · split at hx
            · rename_i hc; simp [AV.cells, AV.one] at hc
            · cases hx
          · cases hx
        have hcs := hv.cells_of hu
        obtain ⟨w', hr, hs', hk⟩ := hs.wrc hl hhi hcs hx P
        refine ⟨_, w', rfl, ?_, hs', hk⟩
        have hl2 : v.cells.size = n := by have := hcs.length; simp at this; omega
        simp [Go.storeVar, run_sizeOf hn, hl2, hr]
    · cases hx
  · cases hx
end
end Go.Gm
