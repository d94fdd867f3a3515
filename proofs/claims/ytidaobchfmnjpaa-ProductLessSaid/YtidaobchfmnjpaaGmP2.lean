/- A part of the proof (GmOps1, GmOps2, GmOps3, GmOps4, GmMap, GmOps5): an abstract machine, what it does, and what the functions of the program come to on it. -/
import Derived.Laws.BytesString
import Derived.Laws.Cells
import Derived.Test.YtidaobchfmnjpaaGmP1
set_option linter.unusedVariables false
set_option linter.unusedSimpArgs false
namespace Go.Gm
open Go.RowKit

/-- The frames stand alike. -/
def FR (φ : Ren) (fr : Frm) (a : Act) : Prop := VRs φ fr a.tmps.toList
theorem FR.mono {φ ψ : Ren} {fr : Frm} {a : Act} (h : FR φ fr a) (hl : φ.le ψ) : FR ψ fr a := VRs.mono hl h

section
variable {φ : Ren}
theorem ofVal1_ok {v : Value} {x : AV} (h : ofVal1 v = some x) : VR φ x v ∧ x.one = true := by
  unfold ofVal1 at h
  split at h <;> first
    | (injection h with h; subst h; exact ⟨by constructor, rfl⟩)
    | cases h
theorem ofVals_ok : ∀ {vs : List Value} {xs : List AV}, ofVals vs = some xs → VRs φ xs vs ∧ xs.all AV.one = true
  | [], xs, h => by injection h with h; subst h; exact ⟨.nil, rfl⟩
  | v :: vs, xs, h => by
    simp only [ofVals] at h
    cases h1 : ofVal1 v with
    | none => rw [h1] at h; cases h
    | some x =>
      rw [h1] at h
      simp only [Option.bind_some] at h
      cases h2 : ofVals vs with
      | none => rw [h2] at h; cases h
      | some ys =>
        rw [h2] at h
        injection h with h
        subst h
        obtain ⟨a, b⟩ := ofVal1_ok (φ := φ) h1
        obtain ⟨c, d⟩ := ofVals_ok h2
        exact ⟨.cons a c, by simp [b, d]⟩
theorem ofVal_ok {v : Value} {x : AV} (h : ofVal v = some x) : VR φ x v := by
  unfold ofVal at h
  split at h
  · rename_i cs
    cases h2 : ofVals cs.toList with
    | none => rw [h2] at h; cases h
    | some ys =>
      rw [h2] at h
      injection h with h
      subst h
      exact .agg (ofVals_ok h2).1
  · exact (ofVal1_ok h).1
theorem ofVal_cells {v : Value} {x : AV} (h : ofVal v = some x) : VRs φ x.cells v.cells.toList ∧ x.cells.all AV.one = true := by
  unfold ofVal at h
  split at h
  · rename_i cs
    cases h2 : ofVals cs.toList with
    | none => rw [h2] at h; cases h
    | some ys =>
      rw [h2] at h
      injection h with h
      subst h
      exact ofVals_ok h2
  · rename_i h0
    obtain ⟨a, b⟩ := ofVal1_ok (φ := φ) h
    have e1 : v.cells = #[v] := by
      cases v <;> first | rfl | (rename_i cs; exact absurd rfl (h0 cs))
    have e2 : x.cells = [x] := by cases x <;> first | rfl | simp [AV.one] at b
    rw [e1, e2]
    exact ⟨.cons a .nil, by simp [b]⟩
theorem VR.cells_of {x : AV} {v : Value} (h : VR φ x v) (hu : x ≠ .undef) : VRs φ x.cells v.cells.toList := by
  cases h <;> first | exact absurd rfl hu | (simp only [AV.cells, Value.cells]; first | exact .cons (by first | constructor <;> assumption | constructor) .nil | assumption)

variable {fr : Frm} {a : Act}
theorem FR.getD (hf : FR φ fr a) (t : Nat) : VR φ (fr.getD t .undef) (a.tmps.getD t undef) := by
  have hl := VRs.length hf
  rw [List.getD_eq_getElem?_getD]
  cases hx : fr[t]? with
  | none => exact .undef _
  | some x =>
    obtain ⟨v, hv, hr⟩ := VRs.get hf hx
    rw [Array.getElem?_toList] at hv
    simp only [Option.getD_some, Array.getD_eq_getD_getElem?, hv]
    exact hr
theorem FR.ev (hf : FR φ fr a) {x : Operand} {y : Opd} (hc : compOpd x = some y) : VR φ (y.ev fr) (a.eval x) := by
  cases x with
  | tmp t => injection hc with hc; subst hc; exact hf.getD t
  | const v =>
    simp only [compOpd] at hc
    cases h : ofVal v with
    | none => rw [h] at hc; cases hc
    | some x => rw [h] at hc; injection hc with hc; subst hc; exact ofVal_ok h
  | global g => cases hc
  | func f => injection hc with hc; subst hc; exact .fn (xs' := []) (ys' := []) .nil .nil
/-- The operands stand alike, however they are found. -/
def EvOk (φ : Ren) (cmp : Operand → Option Opd) (fr : Frm) (ρ : Operand → Value) : Prop := ∀ x y, cmp x = some y → VR φ (y.ev fr) (ρ x)
theorem FR.evOk (hf : FR φ fr a) : EvOk φ compOpd fr a.eval := fun _ _ h => hf.ev h
theorem EvOk.ev {cmp : Operand → Option Opd} {ρ : Operand → Value} (hf : EvOk φ cmp fr ρ) {x : Operand} {y : Opd} (h : cmp x = some y) : VR φ (y.ev fr) (ρ x) := hf x y h
theorem EvOk.evs {cmp : Operand → Option Opd} {ρ : Operand → Value} (hf : EvOk φ cmp fr ρ) : ∀ {xs : List Operand} {ys : List Opd}, compOpds cmp xs = some ys → VRs φ (ys.map (·.ev fr)) (xs.map ρ)
  | [], ys, h => by injection h with h; subst h; exact .nil
  | x :: xs, ys, h => by
    simp only [compOpds] at h
    cases h1 : cmp x with
    | none => rw [h1] at h; cases h
    | some y =>
      rw [h1] at h
      simp only [Option.bind_some] at h
      cases h2 : compOpds cmp xs with
      | none => rw [h2] at h; cases h
      | some zs =>
        rw [h2] at h
        injection h with h
        subst h
        exact .cons (hf.ev h1) (EvOk.evs hf h2)
theorem FR.put (hf : FR φ fr a) {v : AV} {v' : Value} (hv : VR φ v v') (d : Option Nat) : FR φ (put fr d v) (a.put d v') := by
  cases d with
  | none => exact hf
  | some d =>
    have hl := VRs.length hf
    refine VRs.of_get (by simp [Gm.put, Act.put]; simpa using hl) (fun i x u hx hu => ?_)
    simp only [Gm.put, Act.put, Array.toList_setIfInBounds] at hx hu
    rw [List.getElem?_set] at hx hu
    split at hx
    · rename_i hid
      subst hid
      rw [if_pos rfl] at hu
      split at hx
      · split at hu
        · injection hx with hx; injection hu with hu; subst hx hu; exact hv
        · cases hu
      · cases hx
    · rename_i hid
      rw [if_neg hid] at hu
      obtain ⟨u', hu', hr⟩ := VRs.get hf hx
      rw [hu] at hu'
      injection hu' with hu'
      subst hu'
      exact hr
end

theorem szOf_info {P : Program} {t n : Nat} (h : szOf P t = some n) : ∃ i, P.info? t = some i ∧ i.size = n := by
  unfold szOf at h
  cases hi : P.info? t with
  | none => rw [hi] at h; cases h
  | some i => rw [hi] at h; injection h with h; exact ⟨i, rfl, h⟩
theorem run_sizeOf {P : Program} {t n : Nat} (h : szOf P t = some n) (w : World) : (sizeOf t).run P w = .ok n w := by
  obtain ⟨i, hi, rfl⟩ := szOf_info h
  simp [sizeOf, typeInfo, hi]
theorem sliceElem_under {P : Program} {t e : Nat} (h : sliceElem P t = some e) : P.underlying t = some (.slice e) := by
  unfold sliceElem at h
  split at h
  · rename_i hu; injection h with h; subst h; exact hu
  · cases h
theorem zeroOf_run {P : Program} {t : Nat} {x : AV} (h : zeroOf P t = some x) : ∃ z, (∀ w, (zeroValue t).run P w = .ok z w) ∧ ofVal z = some x := by
  unfold zeroOf at h
  cases hi : P.info? t with
  | none => rw [hi] at h; cases h
  | some i =>
    rw [hi] at h
    simp only [Option.bind_some] at h
    cases hz : i.zero with
    | none => rw [hz] at h; cases h
    | some z => rw [hz] at h; exact ⟨z, fun w => by simp [zeroValue, typeInfo, hi, hz], h⟩
theorem elemOf_ok {P : Program} {t e sz by_ : Nat} {x : List AV} (hu : P.underlying t = some (.slice e)) (h : elemOf? P e = some (sz, by_, x)) :
    ∃ i z, ElemOk P t e i z sz by_ ∧ ∃ y, ofVal z = some y ∧ y.cells = x ∧ x.length = sz := by
  unfold elemOf? at h
  cases hi : P.info? e with
  | none => rw [hi] at h; cases h
  | some i =>
    rw [hi] at h
    simp only [Option.bind_some] at h
    cases hz : i.zero with
    | none => rw [hz] at h; cases h
    | some z =>
      rw [hz] at h
      simp only [Option.bind_some] at h
      cases hx : ofVal z with
      | none => rw [hx] at h; cases h
      | some y =>
        rw [hx] at h
        simp only [Option.bind_some] at h
        split at h
        · rename_i hs
          injection h with h
          injection h with h1 h2
          injection h2 with h2 h3
          exact ⟨i, z, ⟨hu, hi, hz, h1, h2, by rw [← h1]; exact hs.1⟩, y, hx, h3, by rw [← h3, ← h1]; exact hs.2⟩
        · cases h
theorem run_isAgg {P : Program} {t : Nat} {n : Option Nat} (h : aggOf P t = some n) (w : World) : (isAgg t).run P w = .ok n.isSome w ∧ ∀ k, n = some k → szOf P t = some k := by
  unfold aggOf at h
  split at h
  · rename_i hu
    cases hs : szOf P t with
    | none => rw [hs] at h; cases h
    | some k => rw [hs] at h; injection h with h; subst h; exact ⟨by simp [isAgg, run_underlying hu], fun _ q => q⟩
  · rename_i hu
    cases hs : szOf P t with
    | none => rw [hs] at h; cases h
    | some k => rw [hs] at h; injection h with h; subst h; exact ⟨by simp [isAgg, run_underlying hu], fun _ q => q⟩
  · rename_i d h1 h2 hu
    injection h with h
    subst h
    refine ⟨?_, fun _ q => by cases q⟩
    simp only [isAgg, Sem.run_bind, run_underlying hu, Result.andThen_ok]
    cases d <;> first | rfl | exact absurd hu (by simp_all)
  · cases h

section
variable {B : Nat} {w0 : World} {φ : Ren} {h : Heap} {w : World} {P : Program}
/-- A variable read. -/
theorem S.loadVar (hs : S B w0 φ h w) {t : Nat} {n : Option Nat} (hn : aggOf P t = some n) {a x : AV} {p : Value} (hp : VR φ a p) (hx : (match n with | none => Gm.ld1 h a | some n => Gm.ldN n h a) = some x) :
    ∃ ad v, p = .pointer (some ad) ∧ (loadVar t ad).run P w = .ok v w ∧ VR φ x v := by
  obtain ⟨h1, h2⟩ := run_isAgg hn w
  cases n with
  | none =>
    obtain ⟨ad, v, rfl, hc, hr, _⟩ := hs.ld1 hp hx
    exact ⟨ad, v, rfl, by simp [Go.loadVar, h1, hc], hr⟩
  | some k =>
    obtain ⟨ad, cs, vs, rfl, rfl, hl, hr, hc⟩ := hs.ldN hp hx
    have := run_loadCells_list (P := P) w ad vs hc
    rw [hl] at this
    exact ⟨ad, _, rfl, by simp [Go.loadVar, h1, run_sizeOf (h2 k rfl), this], .agg hr⟩
/-- A variable written. -/
theorem S.storeVar (hs : S B w0 φ h w) {t n : Nat} (hn : szOf P t = some n) {a x : AV} {p v : Value} (hp : VR φ a p) (hv : VR φ x v) {h' : Heap} (hx : stN n h a x = some h') :
    ∃ ad w', p = .pointer (some ad) ∧ (storeVar t ad v).run P w = .ok () w' ∧ S B w0 φ h' w' ∧ Kept φ h φ h' := by
  unfold stN at hx
  split at hx
  · rename_i o off hi g
    split at hx
    · rename_i hlen
      cases hp with
      | @ptr _ _ _ _ l hl hhi =>
        have hu : x ≠ .undef := by
          rintro rfl
          unfold Gm.wrc at hx
          split at hx
          · split at hx
            · rename_i hc; simp [AV.cells, AV.one] at hc
            · cases hx
          · cases hx
        have hcs := hv.cells_of hu
        obtain ⟨w', hr, hs', hk⟩ := hs.wrc hl hhi hcs hx P
        refine ⟨_, w', rfl, ?_, hs', hk⟩
        have hl2 : v.cells.size = n := by have := hcs.length; simp at this; omega
        simp [Go.storeVar, run_sizeOf hn, hl2, hr]
    · cases hx
  · cases hx
end
end Go.Gm

set_option linter.unusedVariables false
set_option linter.unusedSimpArgs false
namespace Go.Gm
open Go.RowKit

/-- What an operation comes to: a value, or none. -/
def Gives (P : Program) (s : Sem Next) (w : World) (v : Value) (w' : World) : Prop :=
  s.run P w = .ok (.value v) w' ∨ (s.run P w = .ok .skip w' ∧ v = undef)

/-- A scalar as it stands. -/
def sv : AV → Value
  | .int k n => .int k n
  | .bool b => .bool b
  | .str s => .string s
  | _ => undef
def plainPair : Value → Value → Bool
  | .nilIface, .nilIface => false
  | .agg _, .agg _ => false
  | _, _ => true
section
variable {φ : Ren} {P : Program}

theorem eqGuard_plain {op : BinOp} {t : TypeId} {xo yo : Operand} {a b : Value} (h : plainPair a b = true) (w : World) : (eqGuard op t xo yo a b).run P w = .ok () w := by
  unfold eqGuard
  cases a <;> cases b <;> first | (simp [plainPair] at h; done) | (cases op <;> simp)
theorem int_run {op : BinOp} {t : TypeId} {k : IntKind} {a b : Int} {v : AV} (h : intI op k a b = some v) : binOp op t (.int k a) (.int k b) = pure (sv v) ∧ VR φ v (sv v) := by
  cases op <;> simp only [intI] at h <;> first
    | (injection h with h; subst h
       refine ⟨?_, by constructor⟩
       simp only [binOp_add, binOp_sub, binOp_mul, binOp_and, binOp_or, binOp_xor, binOp_andNot, binOp_eql, binOp_neq, binOp_lss, binOp_leq, binOp_gtr, binOp_geq, Op.intArith, sv]
       try rfl)
    | (split at h
       · cases h
       · rename_i hb
         injection h with h; subst h
         refine ⟨?_, by constructor⟩
         simp only [binOp_quo, binOp_rem, Op.intDiv, if_neg hb, sv])
    | cases h
theorem shift_run {op : BinOp} {t : TypeId} {k k' : IntKind} {a b : Int} {v : AV} (h : shiftI op k a b = some v) : binOp op t (.int k a) (.int k' b) = pure (sv v) ∧ VR φ v (sv v) := by
  unfold shiftI at h
  split at h
  · cases h
  · rename_i hb
    cases op <;> simp only at h <;> first
      | (injection h with h; subst h
         refine ⟨?_, by constructor⟩
         simp only [binOp_shl, binOp_shr, Op.shift, if_neg hb, sv])
      | cases h
theorem str_run {op : BinOp} {t : TypeId} {a b : ByteArray} {v : AV} (h : strS op a b = some v) : binOp op t (.string a) (.string b) = pure (sv v) ∧ VR φ v (sv v) := by
  cases op <;> simp only [strS] at h <;> first
    | (split at h
       · rename_i hb
         injection h with h; subst h
         refine ⟨?_, by constructor⟩
         have : ¬ (((a.size + b.size : Nat) : Int) > IntKind.i64.max) := by simp only [IntKind.max, IntKind.signed, IntKind.bits]; simp; omega
         simp only [binOp, Op.stringOp, this, if_false, sv]
       · cases h)
    | (injection h with h; subst h; exact ⟨by simp only [binOp, Op.stringOp, sv], by constructor⟩)
    | cases h
theorem eqOp_run {op : BinOp} {t : TypeId} {a b : Value} {r : Bool} {v : AV} (he : eqOp op r = some v) (h1 : binOp .eql t a b = (do pure (.bool (← Op.equal t a b)))) (h2 : binOp .neq t a b = (do pure (.bool (!(← Op.equal t a b)))))
    {w : World} (hr : (Op.equal t a b).run P w = .ok r w) : ∃ v', (binOp op t a b).run P w = .ok v' w ∧ VR φ v v' := by
  unfold eqOp at he
  split at he
  · injection he with he; subst he; exact ⟨.bool r, by rw [h1, Sem.run_bind, hr]; rfl, .bool _⟩
  · injection he with he; subst he; exact ⟨.bool (!r), by rw [h2, Sem.run_bind, hr]; rfl, .bool _⟩
  · cases he
def UnderOk (P : Program) (t : TypeId) : EK → Prop
  | .ptr => ∃ e, P.underlying t = some (.pointer e)
  | .slice => ∃ e, P.underlying t = some (.slice e)
  | .map => ∃ k e, P.underlying t = some (.map k e)
  | .bool => P.underlying t = some .bool
  | .scalar => True
theorem eqKind_under {t : TypeId} {k : EK} (h : eqKind P t = some k) : UnderOk P t k := by
  unfold eqKind at h
  split at h <;> first
    | (injection h with h; subst h; rename_i hu; first | exact ⟨_, hu⟩ | exact ⟨_, _, hu⟩ | exact hu | trivial)
    | cases h
theorem equal_step {t : TypeId} {x y : Value} {d : TypeDesc} (hu : P.underlying t = some d) {r : Bool} {w : World}
    (h : (match d, x, y with
      | .bool, .bool a, .bool b => a == b
      | .pointer _, .pointer none, .pointer none => true
      | .pointer _, .pointer none, .pointer (some _) => false
      | .pointer _, .pointer (some _), .pointer none => false
      | .slice _, .slice none _ _, .slice none _ _ => true
      | .slice _, .slice none _ _, .slice (some _) _ _ => false
      | .slice _, .slice (some _) _ _, .slice none _ _ => false
      | .map _ _, .map none, .map none => true
      | .map _ _, .map none, .map (some _) => false
      | .map _ _, .map (some _), .map none => false
      | _, _, _ => !r) = r) : (Op.equal t x y).run P w = .ok r w := by
  unfold Op.equal Op.maxDepth Op.equalIn
  rw [Sem.run_bind, run_underlying hu, Result.andThen_ok]
  split at h <;> first
    | (subst h; rfl)
    | (cases r <;> simp at h)

theorem binV_ok {op : BinOp} {t : TypeId} {k : EK} (hk : eqKind P t = some k) {x y v : AV} {x' y' : Value} (hx : VR φ x x') (hy : VR φ y y') (hv : binV op k x y = some v) (xo yo : Operand) (w : World) :
    ∃ v', (do eqGuard op t xo yo x' y'; binOp op t x' y' : Sem Value).run P w = .ok v' w ∧ VR φ v v' := by
  have hu := eqKind_under hk
  have guard : plainPair x' y' = true → (∃ v', (binOp op t x' y').run P w = .ok v' w ∧ VR φ v v') → ∃ v', (do eqGuard op t xo yo x' y'; binOp op t x' y' : Sem Value).run P w = .ok v' w ∧ VR φ v v' := by
    rintro h ⟨v', h1, h2⟩
    exact ⟨v', by rw [Sem.run_bind, eqGuard_plain h]; exact h1, h2⟩
  unfold binV at hv
  split at hv
  · cases hx; cases hy
    refine guard rfl ?_
    split at hv
    · obtain ⟨e, r⟩ := shift_run (φ := φ) (t := t) hv; exact ⟨_, by rw [e]; rfl, r⟩
    · obtain ⟨e, r⟩ := shift_run (φ := φ) (t := t) hv; exact ⟨_, by rw [e]; rfl, r⟩
    · split at hv
      · rename_i hkk; subst hkk; obtain ⟨e, r⟩ := int_run (φ := φ) (t := t) hv; exact ⟨_, by rw [e]; rfl, r⟩
      · cases hv
  · cases hx; cases hy; obtain ⟨e, r⟩ := str_run (φ := φ) (t := t) hv; exact guard rfl ⟨_, by rw [e]; rfl, r⟩
  · cases hx; cases hy
    split at hv
    · rename_i he; subst he
      have hu2 : P.underlying t = some .bool := hu
      exact guard rfl (eqOp_run hv rfl rfl (equal_step hu2 rfl))
    · cases hv
  · cases hx; cases hy
    split at hv
    · rename_i he; subst he; obtain ⟨e, hu2⟩ := hu
      exact guard rfl (eqOp_run hv rfl rfl (equal_step hu2 rfl))
    · cases hv
  · cases hx; cases hy
    split at hv
    · rename_i he; subst he; obtain ⟨e, hu2⟩ := hu
      exact guard rfl (eqOp_run hv rfl rfl (equal_step hu2 rfl))
    · cases hv
  · cases hx; cases hy
    split at hv
    · rename_i he; subst he; obtain ⟨e, hu2⟩ := hu
      exact guard rfl (eqOp_run hv rfl rfl (equal_step hu2 rfl))
    · cases hv
  · cases hx; cases hy
    split at hv
    · rename_i he; subst he; obtain ⟨e, hu2⟩ := hu
      exact guard rfl (eqOp_run hv rfl rfl (equal_step hu2 rfl))
    · cases hv
  · cases hy
    split at hv
    · rename_i he; subst he; obtain ⟨e, hu2⟩ := hu
      cases hx <;> exact guard rfl (eqOp_run hv rfl rfl (equal_step hu2 rfl))
    · cases hv
  · cases hx
    split at hv
    · rename_i he; subst he; obtain ⟨e, hu2⟩ := hu
      cases hy <;> exact guard rfl (eqOp_run hv rfl rfl (equal_step hu2 rfl))
    · cases hv
  · cases hx; cases hy
    split at hv
    · rename_i he; subst he; obtain ⟨k', e, hu2⟩ := hu
      exact guard rfl (eqOp_run hv rfl rfl (equal_step hu2 rfl))
    · cases hv
  · cases hx; cases hy
    split at hv
    · rename_i he; subst he; obtain ⟨k', e, hu2⟩ := hu
      exact guard rfl (eqOp_run hv rfl rfl (equal_step hu2 rfl))
    · cases hv
  · cases hx; cases hy
    split at hv
    · rename_i he; subst he; obtain ⟨k', e, hu2⟩ := hu
      exact guard rfl (eqOp_run hv rfl rfl (equal_step hu2 rfl))
    · cases hv
  · cases hv
theorem unV_ok {op : UnOp} {x v : AV} {x' : Value} (hx : VR φ x x') (hv : unV op x = some v) (w : World) : ∃ v', (Op.unary op x').run P w = .ok v' w ∧ VR φ v v' := by
  unfold unV at hv
  split at hv
  · injection hv with hv; subst hv; cases hx; exact ⟨_, rfl, .int _ _⟩
  · injection hv with hv; subst hv; cases hx; exact ⟨_, rfl, .bool _⟩
  · cases hv
end
end Go.Gm

set_option linter.unusedVariables false
set_option linter.unusedSimpArgs false
namespace Go.Gm
open Go.RowKit

section
variable {B : Nat} {w0 : World} {φ : Ren} {h : Heap} {w : World} {P : Program} {fr : Frm} {a : Act}

theorem S.newVar (hs : S B w0 φ h w) {cs : List AV} {vs : List Value} (hv : VRs φ cs vs) {v : AV} {h' : Heap} (hn : newVar h cs = some (v, h')) (e : TypeId) :
    ∃ ψ v', VR ψ v v' ∧ S B w0 ψ h' (w.alloc (.cells vs.toArray e)) ∧ Kept φ h ψ h' ∧ v' = .pointer (some ⟨w.heap.size, 0, none⟩) := by
  unfold Gm.newVar at hn
  split at hn
  · rename_i h1
    injection hn with hn
    injection hn with hn1 hn2
    subst hn1 hn2
    obtain ⟨ψ, p1, p2, p3⟩ := hs.make (cs := cs) (vs := vs) (rest := []) hv h1 e
    rw [List.append_nil] at p1
    exact ⟨ψ, _, VR.ptr p3 (Nat.le_refl _), p1, p2, by simp⟩
  · cases hn

theorem foldSet (off : Nat) : ∀ (l : List Value) (k : Nat) (arr : Array Value), off + k + l.length ≤ arr.size →
    ((l.zipIdx k).foldl (fun cs (p : Value × Nat) => cs.setIfInBounds (off + p.2) p.1) arr).size = arr.size ∧
    ∀ i, ((l.zipIdx k).foldl (fun cs (p : Value × Nat) => cs.setIfInBounds (off + p.2) p.1) arr)[i]? = if off + k ≤ i ∧ i < off + k + l.length then l[i - (off + k)]? else arr[i]?
  | [], k, arr, _ => ⟨rfl, fun i => by rw [if_neg (by simp)]; rfl⟩
  | v :: l, k, arr, hl => by
    simp only [List.length_cons] at hl
    obtain ⟨h1, h2⟩ := foldSet off l (k + 1) (arr.setIfInBounds (off + k) v) (by simp; omega)
    refine ⟨by simp only [List.zipIdx_cons, List.foldl_cons]; rw [h1]; simp, fun i => ?_⟩
    simp only [List.zipIdx_cons, List.foldl_cons]
    rw [h2]
    simp only [List.length_cons]
    by_cases h0 : i = off + k
    · subst h0
      rw [if_neg (by omega), if_pos (by omega), Array.getElem?_setIfInBounds_self_of_lt (by omega)]
      simp
    · by_cases h3 : off + (k + 1) ≤ i ∧ i < off + (k + 1) + l.length
      · rw [if_pos h3, if_pos (by omega), show i - (off + k) = (i - (off + (k + 1))) + 1 by omega, List.getElem?_cons_succ]
      · rw [if_neg h3, if_neg (by omega), Array.getElem?_setIfInBounds_ne (Ne.symm h0)]
/-- Cells filled part by part. -/
theorem fill_ok {place : Nat → Option (Nat × Nat)} : ∀ {qs : List (Nat × Nat × AV)} {ps : List (Nat × Value)} {cs : List AV} {us : List Value} {out : List AV}, VRs φ cs us → ps.length = qs.length →
    (∀ (i : Nat) p q, ps[i]? = some p → qs[i]? = some q → place p.1 = some (q.1, q.2.1) ∧ VR φ q.2.2 p.2) → fillP cs qs = some out →
    ∃ us', Instr.fill place us.toArray ps = some us'.toArray ∧ VRs φ out us' ∧ out.length = cs.length
  | [], ps, cs, us, out, hv, hl, _, hf => by
    have : ps = [] := List.eq_nil_of_length_eq_zero (by simpa using hl)
    subst this
    injection hf with hf
    subst hf
    exact ⟨us, rfl, hv, rfl⟩
  | q :: qs, [], cs, us, out, hv, hl, _, hf => by simp at hl
  | (off, size, x) :: qs, (i, u) :: ps, cs, us, out, hv, hl, hp, hf => by
    obtain ⟨hpl, hr⟩ := hp 0 _ _ rfl rfl
    simp only at hpl hr
    simp only [fillP] at hf
    split at hf
    · rename_i hc
      have hu : x ≠ .undef := by rintro rfl; have := hc.2.2; simp [AV.cells, AV.one] at this
      have hcu := hr.cells_of hu
      have hus := hv.length
      have hcl := hcu.length
      simp only [Array.length_toList] at hcl
      obtain ⟨k1, k2⟩ := setAll_get x.cells cs off (by omega)
      have hset : VRs φ (setAll cs off x.cells) (us.take off ++ u.cells.toList ++ us.drop (off + u.cells.size)) := by
        refine VRs.of_get (by simp [k1]; omega) (fun j y v hy hv' => ?_)
        rw [k2] at hy
        rw [List.append_assoc] at hv'
        by_cases h1 : j < off
        · rw [if_neg (by omega)] at hy
          rw [List.getElem?_append_left (by simp; omega), List.getElem?_take, if_pos h1] at hv'
          obtain ⟨v2, e2, r2⟩ := hv.get hy
          rw [hv'] at e2; injection e2 with e2; subst e2; exact r2
        · rw [List.getElem?_append_right (by simp; omega)] at hv'
          simp only [List.length_take, Nat.min_eq_left (show off ≤ us.length by omega)] at hv'
          by_cases h2 : j < off + x.cells.length
          · rw [if_pos (by omega)] at hy
            rw [List.getElem?_append_left (by simp; omega)] at hv'
            obtain ⟨v2, e2, r2⟩ := hcu.get hy
            rw [hv'] at e2; injection e2 with e2; subst e2; exact r2
          · rw [if_neg (by omega)] at hy
            rw [List.getElem?_append_right (by simp; omega), List.getElem?_drop] at hv'
            simp only [Array.length_toList] at hv'
            rw [show off + u.cells.size + (j - off - u.cells.size) = j by omega] at hv'
            obtain ⟨v2, e2, r2⟩ := hv.get hy
            rw [hv'] at e2; injection e2 with e2; subst e2; exact r2
      obtain ⟨us', e1, e2, e3⟩ := fill_ok (place := place) hset (by simpa using hl) (fun j p q h1 h2 => hp (j + 1) p q (by simpa using h1) (by simpa using h2)) hf
      refine ⟨us', ?_, e2, by rw [e3, k1]⟩
      have h2 := foldSet off u.cells.toList 0 us.toArray (by simp; omega)
      have e0 : (u.cells.zipIdx.foldl (fun cs (c, j) => cs.setIfInBounds (off + j) c) us.toArray) = (us.take off ++ u.cells.toList ++ us.drop (off + u.cells.size)).toArray := by
        rw [← Array.foldl_toList, Array.toList_zipIdx]
        apply Array.ext_getElem?
        intro j
        rw [show (fun (cs : Array Value) (x : Value × Nat) => match x with | (c, j) => cs.setIfInBounds (off + j) c) = (fun cs p => cs.setIfInBounds (off + p.2) p.1) from rfl, h2.2 j]
        simp only [Nat.add_zero, Array.length_toList, List.getElem?_toArray]
        rw [List.append_assoc]
        by_cases h1 : j < off
        · rw [if_neg (by omega), List.getElem?_append_left (by simp; omega), List.getElem?_take, if_pos h1]
        · rw [List.getElem?_append_right (by simp; omega)]
          simp only [List.length_take, Nat.min_eq_left (show off ≤ us.length by omega)]
          by_cases h3 : j < off + u.cells.size
          · rw [if_pos (by omega), List.getElem?_append_left (by simp; omega)]
          · rw [if_neg (by omega), List.getElem?_append_right (by simp; omega), List.getElem?_drop]
            simp only [Array.length_toList]
            rw [show off + u.cells.size + (j - off - u.cells.size) = j by omega]
      simp only [Instr.fill, hpl]
      have hnot : ((decide (u.cells.size ≠ size)) || decide (off + u.cells.size > us.toArray.size)) = false := by simp; omega
      simp only [hnot, Bool.false_eq_true, if_false]
      rw [e0]
      exact e1
    · cases hf
end
end Go.Gm

set_option linter.unusedVariables false
set_option linter.unusedSimpArgs false
namespace Go.Gm
open Go.RowKit

theorem pure1_some {h h' : Heap} {x : Option AV} {v : AV} (hp : pure1 h x = some (v, h')) : x = some v ∧ h' = h := by
  unfold pure1 at hp
  cases x with
  | none => cases hp
  | some y => injection hp with hp; injection hp with h1 h2; subst h1 h2; exact ⟨rfl, rfl⟩

section
variable {B : Nat} {w0 : World} {φ : Ren} {h : Heap} {w : World} {P : Program} {fr : Frm} {a : Act}

/-- The step of one operation, in short. -/
def OpOk (P : Program) (B : Nat) (w0 : World) (φ : Ren) (h : Heap) (w : World) (s : Sem Next) (v : AV) (h' : Heap) : Prop :=
  ∃ ψ v' w', Gives P s w v' w' ∧ VR ψ v v' ∧ S B w0 ψ h' w' ∧ Kept φ h ψ h'
theorem opOk_pure (hs : S B w0 φ h w) {s : Sem Value} {v : AV} {v' : Value} (hr : s.run P w = .ok v' w) (hv : VR φ v v') : OpOk P B w0 φ h w (do pure (.value (← s))) v h :=
  ⟨φ, v', w, .inl (by rw [Sem.run_bind, hr]; rfl), hv, hs, .refl _ _⟩
theorem opOk_value {s : Sem Value} {v : AV} {h' : Heap} (hr : ∃ ψ v' w', s.run P w = .ok v' w' ∧ VR ψ v v' ∧ S B w0 ψ h' w' ∧ Kept φ h ψ h') : OpOk P B w0 φ h w (do pure (.value (← s))) v h' := by
  obtain ⟨ψ, v', w', h1, h2, h3, h4⟩ := hr
  exact ⟨ψ, v', w', .inl (by rw [Sem.run_bind, h1]; rfl), h2, h3, h4⟩

theorem part_ok {t : TypeId} {n : Option Nat} (hn : aggOf P t = some n) {cs : List AV} {us : List Value} (hc : VRs φ cs us) {off : Nat} {v : AV} (hv : partL cs off n = some v) (w : World) :
    ∃ v', (part t us.toArray off).run P w = .ok v' w ∧ VR φ v v' := by
  obtain ⟨h1, h2⟩ := run_isAgg hn w
  cases n with
  | none =>
    obtain ⟨v', e, r⟩ := hc.get hv
    exact ⟨v', by simp [part, h1, e], r⟩
  | some k =>
    injection hv with hv
    subst hv
    refine ⟨_, by simp only [part, Sem.run_bind, h1, Result.andThen_ok, Option.isSome_some, if_true, run_sizeOf (h2 k rfl)]; rfl, ?_⟩
    have e : us.toArray.extract off (off + k) = ((us.drop off).take k).toArray := by
      simp [List.extract_eq_take_drop, Nat.add_sub_cancel_left]
    rw [e]
    exact .agg ((hc.drop off).take k)

theorem bound_ok {d n : Nat} {lo : Option AV} {lo' : Option Value} (hlo : ∀ y, lo = some y → ∃ z, lo' = some z ∧ VR φ y z) (hlon : lo = none → lo' = none) (hb : bnd d lo = some n) :
    (lo' = none ∧ n = d) ∨ ∃ k, lo' = some (.int k n) := by
  cases lo with
  | none => injection hb with hb; exact .inl ⟨hlon rfl, hb.symm⟩
  | some y =>
    obtain ⟨z, e, hr⟩ := hlo y rfl
    unfold bnd at hb
    split at hb
    · rename_i q; cases q
    · rename_i k m q
      injection q with q
      subst q
      split at hb
      · rename_i h0
        injection hb with hb
        subst hb
        cases hr
        exact .inr ⟨k, by rw [e, Int.toNat_of_nonneg h0]⟩
      · cases hb
    · cases hb
theorem sliceBound_run {k : IntKind} {n y : Nat} (h : n ≤ y) (code : BoundsCode) (w : World) : (Instr.sliceBound (.int k n) y code).run P w = .ok n w := by
  have : (0 : Int) ≤ n ∧ (n : Int) ≤ y := by omega
  simp [Instr.sliceBound, asIntOf, this]
theorem sliceBounds_run {isS : Bool} {len cap l h m : Nat} {lo hi mx : Option Value} (hlo : (lo = none ∧ l = 0) ∨ ∃ k, lo = some (.int k l)) (hhi : (hi = none ∧ h = len) ∨ ∃ k, hi = some (.int k h))
    (hmx : (mx = none ∧ m = cap) ∨ ((∃ k, mx = some (.int k m)) ∧ hi ≠ none)) (h1 : l ≤ h) (h2 : h ≤ m) (h3 : m ≤ cap) (w : World) : (Instr.sliceBounds isS len cap lo hi mx).run P w = .ok (l, h, m) w := by
  unfold Instr.sliceBounds
  rcases hmx with ⟨rfl, rfl⟩ | ⟨⟨km, rfl⟩, hne⟩
  · rcases hhi with ⟨rfl, rfl⟩ | ⟨kh, rfl⟩
    · rcases hlo with ⟨rfl, rfl⟩ | ⟨kl, rfl⟩
      · rfl
      · simp [sliceBound_run h1]
    · rcases hlo with ⟨rfl, rfl⟩ | ⟨kl, rfl⟩
      · simp [sliceBound_run h2]
      · simp [sliceBound_run h2, sliceBound_run h1]
  · rcases hhi with ⟨rfl, rfl⟩ | ⟨kh, rfl⟩
    · exact absurd rfl hne
    · rcases hlo with ⟨rfl, rfl⟩ | ⟨kl, rfl⟩
      · simp [sliceBound_run h3, sliceBound_run h2]
      · simp [sliceBound_run h3, sliceBound_run h2, sliceBound_run h1]
theorem slice_run_ok {t e sz : Nat} (hu : P.underlying t = some (.slice e)) (hsz : szOf P e = some sz) {x v : AV} {x' : Value} (hx : VR φ x x') {lo hi mx : Option AV} {lo' hi' mx' : Option Value}
    (hlo : ∀ y, lo = some y → ∃ z, lo' = some z ∧ VR φ y z) (hlon : lo = none → lo' = none) (hhi : ∀ y, hi = some y → ∃ z, hi' = some z ∧ VR φ y z) (hhin : hi = none → hi' = none)
    (hmx : ∀ y, mx = some y → ∃ z, mx' = some z ∧ VR φ y z) (hmxn : mx = none → mx' = none) (hmh : mx.isSome = true → hi.isSome = true) (hv : slSl sz x lo hi mx = some v) (w : World) :
    ∃ v', (Instr.sliceAt t x' lo' hi' mx').run P w = .ok v' w ∧ VR φ v v' := by
  have hine : mx.isSome = true → hi' ≠ none := fun q => by
    have := hmh q
    cases hi with
    | none => cases this
    | some y => obtain ⟨z, e, _⟩ := hhi y rfl; rw [e]; simp
  cases x with
  | sl o off len sz' lim g =>
    simp only [slSl] at hv
    cases hl : bnd 0 lo with
    | none => rw [hl] at hv; cases hv
    | some l =>
      cases hh : bnd len hi with
      | none => rw [hl, hh] at hv; cases hv
      | some hh' =>
        rw [hl, hh] at hv
        simp only at hv
        have L := bound_ok hlo hlon hl
        have H := bound_ok hhi hhin hh
        split at hv
        · rename_i hc
          obtain ⟨c1, c2, c3⟩ := hc
          subst c3
          have hform := hx.slice_form rfl
          have hls : l * sz' ≤ len * sz' := Nat.mul_le_mul_right _ (by omega)
          have hsub : ∀ m, l ≤ m → l * sz' + (m - l) * sz' = m * sz' := fun m hm => by rw [← Nat.add_mul, Nat.add_sub_cancel' hm]
          have fin : ∀ m (lim' : Option Nat), hh' ≤ m → (∀ q cap, x' = .slice q len cap → m ≤ cap ∧ ((mx' = none ∧ m = cap) ∨ ((∃ k, mx' = some (.int k m)) ∧ hi' ≠ none)) ∧ ∀ c, lim' = some c → c = m - l) → (lim' = none → lim = none) →
              ∃ v', (Instr.sliceAt t x' lo' hi' mx').run P w = .ok v' w ∧ VR φ (.sl o (off + l * sz') (hh' - l) sz' lim' g) v' := by
            intro m lim' hm hq hlm
            rcases hform with ⟨lc, hlc, hoff, cap, rfl, k1, k2, k3, k4, k5⟩ | ⟨hl0, ad, rfl, k5, k6⟩
            · obtain ⟨q1, q2, q3⟩ := hq _ cap rfl
              have hb := sliceBounds_run (P := P) (isS := true) (len := len) (cap := cap) L H q2 c1 hm q1 w
              refine ⟨.slice (if m = l then some ⟨lc.b, lc.d + off, none⟩ else some ⟨lc.b, lc.d + (off + l * sz'), none⟩) (hh' - l) (m - l), ?_, ?_⟩
              · simp only [Instr.sliceAt, Instr.slice, Sem.run_bind, run_underlying hu, Result.andThen_ok, hb, run_sizeOf hsz, Sem.run_pure, Option.map_some, add_at, Nat.add_assoc]
              · by_cases hml : m = l
                · rw [if_pos hml, show hh' - l = 0 by omega, show m - l = 0 by omega]
                  exact .sl0 (fun _ => ⟨lc, hlc, by omega⟩) (fun c q => by have := q3 c q; omega)
                · rw [if_neg hml]
                  have e1 := hsub hh' c1
                  have e2 := hsub m (by omega)
                  have e3 : hh' * sz' ≤ len * sz' := Nat.mul_le_mul_right _ c2
                  have e4 : m * sz' ≤ cap * sz' := Nat.mul_le_mul_right _ q1
                  exact .sl hlc (by omega) (by omega) (by omega) (by omega) (fun c q => (q3 c q).symm)
            · subst hl0
              obtain ⟨q1, q2, q3⟩ := hq _ 0 rfl
              have hb := sliceBounds_run (P := P) (isS := true) (len := 0) (cap := 0) L H q2 c1 hm q1 w
              have hm0 : m = 0 := by omega
              have hl0 : l = 0 := by omega
              have hh0 : hh' = 0 := by omega
              subst hm0 hl0 hh0
              refine ⟨.slice (some ad) 0 0, ?_, ?_⟩
              · simp only [Instr.sliceAt, Instr.slice, Sem.run_bind, run_underlying hu, Result.andThen_ok, hb, run_sizeOf hsz, Sem.run_pure, if_true, Nat.sub_self]
              · exact .sl0 (fun q => by
                  obtain ⟨lc, hlc, ho⟩ := k6 (hlm q)
                  exact ⟨lc, hlc, by omega⟩) (fun c q => by have := q3 c q; omega)
          cases mx with
          | none =>
            simp only at hv
            injection hv with hv
            subst hv
            rcases hform with ⟨lc, hlc, hoff, cap, rfl, k1, k2, k3, k4, k5⟩ | ⟨hl0, ad, rfl, k5, k6⟩
            · exact fin cap _ (by omega) (fun q cap' e => by
                injection e with _ _ e; subst e
                exact ⟨Nat.le_refl _, .inl ⟨hmxn rfl, rfl⟩, fun c q => by
                  cases lim with
                  | none => cases q
                  | some c0 => simp only [Option.map_some, Option.some.injEq] at q; rw [← k5 c0 rfl] at q; exact q.symm⟩) (fun q => by cases lim <;> first | rfl | cases q)
            · subst hl0
              exact fin 0 _ (by omega) (fun q cap' e => by
                injection e with _ _ e; subst e
                exact ⟨Nat.le_refl _, .inl ⟨hmxn rfl, rfl⟩, fun c q => by
                  cases lim with
                  | none => cases q
                  | some c0 => simp only [Option.map_some, Option.some.injEq] at q; have := k5 c0 rfl; omega⟩) (fun q => by cases lim <;> first | rfl | cases q)
          | some my =>
            simp only at hv
            cases hm : bnd 0 (some my) with
            | none => rw [hm] at hv; cases hv
            | some m =>
              rw [hm] at hv
              simp only at hv
              split at hv
              · rename_i hc2
                injection hv with hv
                subst hv
                have M := bound_ok hmx hmxn hm
                have M' : ∃ k, mx' = some (.int k m) := by
                  rcases M with ⟨e, _⟩ | q
                  · obtain ⟨z, e2, _⟩ := hmx my rfl; rw [e] at e2; cases e2
                  · exact q
                refine fin m _ hc2.1 (fun q cap' e => ?_) (fun q => by cases q)
                have hlen : len ≤ cap' := by
                  rcases hform with ⟨lc, hlc, hoff, cap, rfl, k1, k2, k3, k4, k5⟩ | ⟨hl0, ad, rfl, k5, k6⟩
                  · injection e with _ _ e; subst e; exact k2
                  · omega
                exact ⟨by omega, .inr ⟨M', hine rfl⟩, fun c q => by injection q with q; exact q.symm⟩
              · cases hv
        · cases hv
  | nils =>
    cases hx
    simp only [slSl] at hv
    split at hv
    · rename_i e1 e2 e3
      injection hv with hv
      subst hv
      have L := bound_ok hlo hlon e1
      have H := bound_ok hhi hhin e2
      have M := bound_ok hmx hmxn e3
      have hb := sliceBounds_run (P := P) (isS := true) (len := 0) (cap := 0) (lo := lo') (hi := hi') (mx := mx') L H (by
        rcases M with q | q
        · exact .inl q
        · refine .inr ⟨q, hine ?_⟩
          cases mx with
          | none => obtain ⟨k, q⟩ := q; rw [hmxn rfl] at q; cases q
          | some _ => rfl) (Nat.le_refl _) (Nat.le_refl _) (Nat.le_refl _) w
      exact ⟨.slice none 0 0, by simp only [Instr.sliceAt, Instr.slice, Sem.run_bind, run_underlying hu, Result.andThen_ok, hb, run_sizeOf hsz, Sem.run_pure, if_true, Nat.sub_self], .nils⟩
    · cases hv
  | _ => simp [slSl] at hv
theorem str_slice_ok {t : Nat} (hu : P.underlying t = some .string) {x v : AV} {x' : Value} (hx : VR φ x x') {lo hi : Option AV} {lo' hi' : Option Value}
    (hlo : ∀ y, lo = some y → ∃ z, lo' = some z ∧ VR φ y z) (hlon : lo = none → lo' = none) (hhi : ∀ y, hi = some y → ∃ z, hi' = some z ∧ VR φ y z) (hhin : hi = none → hi' = none)
    (hv : slStr x lo hi = some v) (w : World) : ∃ v', (Instr.sliceAt t x' lo' hi' none).run P w = .ok v' w ∧ VR φ v v' := by
  cases x with
  | str s =>
    cases hx
    simp only [slStr] at hv
    cases hl : bnd 0 lo with
    | none => rw [hl] at hv; cases hv
    | some l =>
      cases hh : bnd s.size hi with
      | none => rw [hl, hh] at hv; cases hv
      | some r =>
        rw [hl, hh] at hv
        simp only at hv
        split at hv
        · rename_i hc
          injection hv with hv
          subst hv
          have hb := sliceBounds_run (P := P) (isS := false) (len := s.size) (cap := s.size) (mx := none) (bound_ok hlo hlon hl) (bound_ok hhi hhin hh) (.inl ⟨rfl, rfl⟩) hc.1 hc.2 (Nat.le_refl _) w
          exact ⟨_, by simp only [Instr.sliceAt, Instr.slice, Sem.run_bind, run_underlying hu, Result.andThen_ok, hb, Option.isSome_none, Bool.false_eq_true, if_false, Sem.run_pure], .str _⟩
        · cases hv
  | _ => simp [slStr] at hv
end
end Go.Gm

set_option linter.unusedVariables false
set_option linter.unusedSimpArgs false
namespace Go.Gm
open Go.RowKit Go.Maps

theorem mapM_some {α β : Type} {f : α → Option β} : ∀ (l : List α), (∀ x ∈ l, ∃ y, f x = some y) → ∃ ys, l.mapM f = some ys
  | [], _ => ⟨[], rfl⟩
  | x :: r, h => by
    obtain ⟨y, hy⟩ := h x (by simp)
    obtain ⟨ys, hys⟩ := mapM_some r (fun z hz => h z (by simp [hz]))
    exact ⟨y :: ys, by rw [List.mapM_cons, hy, hys]; rfl⟩

section
variable {φ : Ren} {P : Program}

theorem fitL_len : ∀ {cs : List KC} {vs : List AV}, fitL cs vs = true → cs.length = vs.length
  | [], [], _ => rfl
  | c :: cs, v :: vs, h => by simp only [fitL, Bool.and_eq_true] at h; simp [fitL_len h.2]
  | [], _ :: _, h => by cases h
  | _ :: _, [], h => by cases h
theorem fitL_get : ∀ {cs : List KC} {vs : List AV}, fitL cs vs = true → ∀ {i : Nat} {c : KC} {v : AV}, cs[i]? = some c → vs[i]? = some v → fitC c v = true
  | [], [], _, i, c, v, h, _ => by simp at h
  | c :: cs, v :: vs, h, 0, c', v', h1, h2 => by
    simp only [fitL, Bool.and_eq_true] at h
    simp only [List.getElem?_cons_zero, Option.some.injEq] at h1 h2
    subst h1 h2; exact h.1
  | c :: cs, v :: vs, h, i + 1, c', v', h1, h2 => by
    simp only [fitL, Bool.and_eq_true] at h
    exact fitL_get h.2 (by simpa using h1) (by simpa using h2)
  | [], _ :: _, h, _, _, _, _, _ => by cases h
  | _ :: _, [], h, _, _, _, _, _ => by cases h

/-- A cell that fits: three kinds. -/
theorem fitC_cases {c : KC} {x : AV} (h : fitC c x = true) : (∃ q n, c = .i q ∧ x = .int q n ∧ q.min ≤ n ∧ n ≤ q.max) ∨ (∃ s, c = .s ∧ x = .str s ∧ s.size ≤ maxLen) ∨ ∃ b, c = .b ∧ x = .bool b := by
  unfold fitC at h
  split at h
  · simp only [Bool.and_eq_true, decide_eq_true_eq] at h
    obtain ⟨rfl, h1, h2⟩ := h
    exact .inl ⟨_, _, rfl, rfl, h1, h2⟩
  · simp only [decide_eq_true_eq] at h
    exact .inr (.inl ⟨_, rfl, rfl, Nat.le_trans h (by decide)⟩)
  · exact .inr (.inr ⟨_, rfl, rfl⟩)
  · cases h
theorem fitC_beq {c d : KC} {x y : AV} (h : fitC c x = true) (k : fitC d y = true) : AV.beq x y = true ↔ x = y := by
  rcases fitC_cases h with ⟨q, n, _, rfl, _⟩ | ⟨s, _, rfl, _⟩ | ⟨b, _, rfl⟩ <;> rcases fitC_cases k with ⟨q', n', _, rfl, _⟩ | ⟨s', _, rfl, _⟩ | ⟨b', _, rfl⟩ <;> simp [AV.beq]
theorem fitL_beq : ∀ {cs ds : List KC} {x y : List AV}, fitL cs x = true → fitL ds y = true → (AV.beqs x y = true ↔ x = y)
  | [], [], [], [], _, _ => by simp [AV.beqs]
  | [], d :: ds, [], y :: ys, _, _ => by simp [AV.beqs]
  | c :: cs, [], x :: xs, [], _, _ => by simp [AV.beqs]
  | c :: cs, d :: ds, x :: xs, y :: ys, h, k => by
    simp only [fitL, Bool.and_eq_true] at h k
    simp [AV.beqs, fitC_beq h.1 k.1, fitL_beq h.2 k.2]
  | [], _, _ :: _, _, h, _ => by cases h
  | _ :: _, _, [], _, h, _ => by cases h
  | _, [], _, _ :: _, _, h => by cases h
  | _, _ :: _, _, [], _, h => by cases h
theorem fitK_beq {ks : KS} {x y : AV} (h : fitK ks x = true) (k : fitK ks y = true) : AV.beq x y = true ↔ x = y := by
  cases ks with
  | one c => exact fitC_beq (by simpa [fitK] using h) (by simpa [fitK] using k)
  | row cs =>
    cases x <;> simp only [fitK] at h <;> try (cases h; done)
    cases y <;> simp only [fitK] at k <;> try (cases k; done)
    simp [AV.beq, fitL_beq h k]
theorem fitC_det {c d : KC} {x y : AV} {u v : Value} (h : fitC c x = true) (k : fitC d y = true) (hu : VR φ x u) (hv : VR φ y v) : u = v ↔ x = y := by
  rcases fitC_cases h with ⟨q, n, _, rfl, _⟩ | ⟨s, _, rfl, _⟩ | ⟨b, _, rfl⟩ <;> rcases fitC_cases k with ⟨q', n', _, rfl, _⟩ | ⟨s', _, rfl, _⟩ | ⟨b', _, rfl⟩ <;> cases hu <;> cases hv <;> simp
theorem fitL_det : ∀ {cs ds : List KC} {x y : List AV} {u v : List Value}, fitL cs x = true → fitL ds y = true → VRs φ x u → VRs φ y v → (u = v ↔ x = y)
  | [], [], [], [], _, _, _, _, .nil, .nil => by simp
  | [], d :: ds, [], y :: ys, _, _, _, _, .nil, .cons _ _ => by simp
  | c :: cs, [], x :: xs, [], _, _, _, _, .cons _ _, .nil => by simp
  | c :: cs, d :: ds, x :: xs, y :: ys, _, _, h, k, .cons a b, .cons a' b' => by
    simp only [fitL, Bool.and_eq_true] at h k
    simp [fitC_det h.1 k.1 a a', fitL_det h.2 k.2 b b']
  | [], _, _ :: _, _, _, _, h, _, _, _ => by cases h
  | _ :: _, _, [], _, _, _, h, _, _, _ => by cases h
  | _, [], _, _ :: _, _, _, _, h, _, _ => by cases h
  | _, _ :: _, _, [], _, _, _, h, _, _ => by cases h
theorem fitK_det {ks : KS} {x y : AV} {u v : Value} (h : fitK ks x = true) (k : fitK ks y = true) (hu : VR φ x u) (hv : VR φ y v) : u = v ↔ x = y := by
  cases ks with
  | one c => exact fitC_det (by simpa [fitK] using h) (by simpa [fitK] using k) hu hv
  | row cs =>
    cases x <;> simp only [fitK] at h <;> try (cases h; done)
    cases y <;> simp only [fitK] at k <;> try (cases k; done)
    cases hu with
    | agg a =>
      cases hv with
      | agg b => simp [fitL_det h k a b]

theorem plainLit {c : KC} {t : TypeId} {x : AV} {v : Value} (hc : keyC P t = some c) (hf : fitC c x = true) (hv : VR φ x v) (d : Nat) : ∃ l, P.keyLits (d + 1) t [v] = some l := by
  unfold keyC at hc
  rcases fitC_cases hf with ⟨q, n, rfl, rfl, h1, h2⟩ | ⟨s, rfl, rfl, h1⟩ | ⟨b, rfl, rfl⟩ <;> cases hv <;> split at hc <;> simp only [Option.some.injEq, KC.i.injEq, reduceCtorEq] at hc
  · subst hc
    rename_i hu
    exact ⟨_, by simp [Program.keyLits, hu, Lit.wf, h1, h2]; rfl⟩
  · rename_i hu
    exact ⟨_, by simp [Program.keyLits, hu, h1]; rfl⟩
  · rename_i hu
    exact ⟨_, by simp [Program.keyLits, hu]; rfl⟩
theorem plainKeyed {c : KC} {t : TypeId} (hc : keyC P t = some c) : Keyed P t ∧ ∀ {x : AV} {v : Value}, fitC c x = true → VR φ x v → ∃ l, keyOf P t v = some l := by
  unfold keyC at hc
  split at hc <;> simp only [Option.some.injEq, reduceCtorEq] at hc <;> subst hc <;> rename_i hu
  · refine ⟨int_keyed hu, fun hf hv => ?_⟩
    rcases fitC_cases hf with ⟨q, n, e, rfl, h1, h2⟩ | ⟨s, e, rfl, h1⟩ | ⟨b, e, rfl⟩ <;> cases e
    cases hv
    exact ⟨_, keyOf_int_mk hu (by simp [Lit.wf, h1, h2])⟩
  · refine ⟨string_keyed hu, fun hf hv => ?_⟩
    rcases fitC_cases hf with ⟨q, n, e, rfl, h1, h2⟩ | ⟨s, e, rfl, h1⟩ | ⟨b, e, rfl⟩ <;> cases e
    cases hv
    exact ⟨_, WideMaps.keyOf_string_mk hu h1⟩
  · refine ⟨bool_keyed hu, fun hf hv => ?_⟩
    rcases fitC_cases hf with ⟨q, n, e, rfl, h1, h2⟩ | ⟨s, e, rfl, h1⟩ | ⟨b, e, rfl⟩ <;> cases e
    cases hv
    exact ⟨_, keyOf_bool_mk hu _⟩
theorem keyFs_get : ∀ {fs : List Field} {i : Nat} {cs : List KC}, keyFs P i fs = some cs → cs.length = fs.length ∧ ∀ j f, fs[j]? = some f → ∃ c, cs[j]? = some c ∧ keyC P f.type = some c ∧ f.offset = i + j ∧ P.cellsOf f.type = 1 ∧ (f.name != "_") = true
  | [], i, cs, h => by injection h with h; subst h; exact ⟨rfl, fun j f q => by simp at q⟩
  | f :: r, i, cs, h => by
    simp only [keyFs, Option.bind_eq_some_iff] at h
    obtain ⟨c, h1, h2⟩ := h
    split at h2
    · rename_i hc
      simp only [Option.map_eq_some_iff] at h2
      obtain ⟨cs', h3, rfl⟩ := h2
      obtain ⟨k1, k2⟩ := keyFs_get h3
      refine ⟨by simp [k1], fun j g hg => ?_⟩
      cases j with
      | zero =>
        simp only [List.getElem?_cons_zero, Option.some.injEq] at hg
        subst hg
        exact ⟨c, by simp, h1, by simpa using hc.1, hc.2.1, hc.2.2⟩
      | succ j =>
        obtain ⟨c', m1, m2, m3, m4⟩ := k2 j g (by simpa using hg)
        exact ⟨c', by simpa using m1, m2, by omega, m4⟩
    · cases h2
theorem cell_at {us : List Value} {i : Nat} {u : Value} (h : us[i]? = some u) : (us.drop i).take 1 = [u] := by
  obtain ⟨hi, e⟩ := List.getElem?_eq_some_iff.1 h
  rw [List.drop_eq_getElem_cons hi]
  simp [e]
theorem wideKeyed {t : TypeId} (hw : keyWide P t = true) (hd : (match P.underlying t with | some (.array _ _) | some (.struct _) => true | _ => false) = true) : Keyed P t := by
  simp only [keyWide, Bool.and_eq_true, decide_eq_true_eq] at hw
  exact Keyed.of_law (deep_law (m := P.types.size + 1) (by omega) hw.1.2 hw.2 hd)
theorem keyShape_ok {t : TypeId} {ks : KS} (h : keyShape P t = some ks) : Keyed P t ∧ ∀ {x : AV} {v : Value}, fitK ks x = true → VR φ x v → ∃ l, keyOf P t v = some l := by
  unfold keyShape at h
  split at h
  · rename_i n e hu
    split at h
    · rename_i hc
      obtain ⟨hw, hn, he⟩ := hc
      simp only [Option.map_eq_some_iff] at h
      obtain ⟨c, hkc, rfl⟩ := h
      refine ⟨wideKeyed hw (by simp [hu]), fun {x v} hf hv => ?_⟩
      simp only [keyWide, Bool.and_eq_true, decide_eq_true_eq] at hw
      obtain ⟨⟨⟨h1, h2⟩, h3⟩, h4⟩ := hw
      obtain ⟨d, hd⟩ : ∃ d, P.types.size = d + 1 := ⟨P.types.size - 1, by omega⟩
      cases x <;> simp only [fitK] at hf <;> try (cases hf; done)
      rename_i cs
      cases hv
      rename_i us hus
      have hl := fitL_len hf
      rw [List.length_replicate] at hl
      have hl2 := hus.length
      have hm : ∃ ls, P.keyLits (P.types.size + 1) t us = some ls := by
        obtain ⟨ys, hys⟩ := mapM_some (f := fun i => P.keyLits (d + 1) e ((us.drop (i * P.cellsOf e)).take (P.cellsOf e))) (List.range n) (fun i hi => by
          have hi' := List.mem_range.1 hi
          obtain ⟨u, hu1, hu2⟩ := hus.get (i := i) (x := cs[i]'(by omega)) (List.getElem?_eq_getElem (by omega))
          rw [he, Nat.mul_one, cell_at hu1]
          exact plainLit hkc (fitL_get hf (i := i) (c := c) (by rw [List.getElem?_replicate, if_pos hi']) (List.getElem?_eq_getElem (by omega))) hu2 d)
        refine ⟨ys.flatten, ?_⟩
        rw [hd]
        unfold Program.keyLits
        simp only [hu]
        rw [if_pos (by rw [hn]; omega)]
        simp only [hys, Option.map_some]
      obtain ⟨ls, hls⟩ := hm
      refine ⟨.string (keyBytes ls), ?_⟩
      · unfold keyOf
        simp only [hu, Program.keyType, h3, Value.formed, Value.cells, hls, Option.map_some, hn, Bool.true_and, List.size_toArray]
        rw [if_pos (by simp; omega)]
    · cases h
  · rename_i fs hu
    split at h
    · rename_i hc
      obtain ⟨hw, hn⟩ := hc
      simp only [Option.map_eq_some_iff] at h
      obtain ⟨cc, hkc, rfl⟩ := h
      obtain ⟨g1, g2⟩ := keyFs_get hkc
      refine ⟨wideKeyed hw (by simp [hu]), fun {x v} hf hv => ?_⟩
      simp only [keyWide, Bool.and_eq_true, decide_eq_true_eq] at hw
      obtain ⟨⟨⟨h1, h2⟩, h3⟩, h4⟩ := hw
      obtain ⟨d, hd⟩ : ∃ d, P.types.size = d + 1 := ⟨P.types.size - 1, by omega⟩
      cases x <;> simp only [fitK] at hf <;> try (cases hf; done)
      rename_i cs
      cases hv
      rename_i us hus
      have hl := fitL_len hf
      have hl2 := hus.length
      have hsz : fs.toList.length = fs.size := by simp
      have hm : ∃ ls, P.keyLits (P.types.size + 1) t us = some ls := by
        obtain ⟨ys, hys⟩ := mapM_some (f := fun f : Field => P.keyLits (d + 1) f.type ((us.drop f.offset).take (P.cellsOf f.type))) fs.toList (fun f hi => by
          obtain ⟨j, hj⟩ := List.mem_iff_getElem?.1 hi
          obtain ⟨c, m1, m2, m3, m4, m5⟩ := g2 j f hj
          have hjl := (List.getElem?_eq_some_iff.1 hj).1
          obtain ⟨u, hu1, hu2⟩ := hus.get (i := j) (x := cs[j]'(by omega)) (List.getElem?_eq_getElem (by omega))
          rw [m4, m3, Nat.zero_add, cell_at hu1]
          exact plainLit m2 (fitL_get hf m1 (List.getElem?_eq_getElem (by omega))) hu2 d)
        refine ⟨ys.flatten, ?_⟩
        rw [hd]
        unfold Program.keyLits
        simp only [hu]
        rw [if_pos ⟨by rw [hn]; omega, by
          rw [← Array.all_toList, List.all_eq_true]
          intro f hi
          obtain ⟨j, hj⟩ := List.mem_iff_getElem?.1 hi
          obtain ⟨c, m1, m2, m3, m4, m5⟩ := g2 j f hj
          exact m5⟩]
        simp only [hys, Option.map_some]
      obtain ⟨ls, hls⟩ := hm
      refine ⟨.string (keyBytes ls), ?_⟩
      · unfold keyOf
        simp only [hu, Program.keyType, h3, Value.formed, Value.cells, hls, Option.map_some, hn, Bool.true_and, List.size_toArray]
        rw [if_pos (by simp; omega)]
    · cases h
  · simp only [Option.map_eq_some_iff] at h
    obtain ⟨c, hkc, rfl⟩ := h
    obtain ⟨k1, k2⟩ := plainKeyed (φ := φ) hkc
    exact ⟨k1, fun hf hv => k2 (by simpa [fitK] using hf) hv⟩

theorem ERs.length {ks : KS} : ∀ {es : List (AV × AV)} {es' : List MapEntry}, ERs φ ks es es' → es.length = es'.length
  | _, _, .nil => rfl
  | _, _, .cons _ _ _ _ r => by simp [r.length]
theorem ERs.get {ks : KS} : ∀ {es : List (AV × AV)} {es' : List MapEntry}, ERs φ ks es es' → ∀ {j : Nat} {e : MapEntry}, es'[j]? = some e → ∃ k v, es[j]? = some (k, v) ∧ fitK ks k = true ∧ VR φ k e.key ∧ VR φ v e.val
  | _, _, .nil, j, e, h => by simp at h
  | _, _, .cons f n a b r, 0, e, h => by
    simp only [List.getElem?_cons_zero, Option.some.injEq] at h
    subst h
    exact ⟨_, _, rfl, f, a, b⟩
  | _, _, .cons f n a b r, j + 1, e, h => by
    obtain ⟨k, v, h1, h2⟩ := r.get (j := j) (by simpa using h)
    exact ⟨k, v, by simpa using h1, h2⟩
theorem ERs.get' {ks : KS} {es : List (AV × AV)} {es' : List MapEntry} (h : ERs φ ks es es') {p : AV × AV} (hp : p ∈ es) : ∃ (j : Nat) (e : MapEntry), es'[j]? = some e ∧ es[j]? = some p ∧ fitK ks p.1 = true ∧ VR φ p.1 e.key := by
  obtain ⟨j, hj⟩ := List.mem_iff_getElem?.1 hp
  have hjl := (List.getElem?_eq_some_iff.1 hj).1
  have hl := h.length
  obtain ⟨k, v, h1, h2, h3, _⟩ := h.get (j := j) (e := es'[j]'(by omega)) (List.getElem?_eq_getElem (by omega))
  rw [hj] at h1
  injection h1 with h1
  subst h1
  exact ⟨j, _, List.getElem?_eq_getElem (by omega), hj, h2, h3⟩
theorem ERs.push {ks : KS} {k v : AV} {e : MapEntry} (hk : fitK ks k = true) (h1 : VR φ k e.key) (h2 : VR φ v e.val) : ∀ {es : List (AV × AV)} {es' : List MapEntry}, ERs φ ks es es' → (∀ p ∈ es, p.1 ≠ k) → ERs φ ks (es ++ [(k, v)]) (es' ++ [e])
  | _, _, .nil, _ => .cons hk (by simp) h1 h2 .nil
  | _, _, .cons f n a b r, h => .cons f (fun p hp => by
      rcases List.mem_append.1 hp with hp | hp
      · exact n p hp
      · have := List.mem_singleton.1 hp
        subst this
        exact fun q => h _ (List.mem_cons_self ..) q.symm) a b (r.push hk h1 h2 fun p hp => h p (by simp [hp]))
theorem ERs.set {ks : KS} {k v : AV} {e : MapEntry} (h1 : VR φ k e.key) (h2 : VR φ v e.val) : ∀ {es : List (AV × AV)} {es' : List MapEntry}, ERs φ ks es es' → ∀ {j : Nat} {v0 : AV}, es[j]? = some (k, v0) → ERs φ ks (es.set j (k, v)) (es'.set j e)
  | _, _, .nil, j, v0, h => by simp at h
  | _, _, .cons f n a b r, 0, v0, h => by
    simp only [List.getElem?_cons_zero, Option.some.injEq, Prod.mk.injEq] at h
    obtain ⟨rfl, rfl⟩ := h
    exact .cons f n h1 h2 r
  | _, _, .cons f n a b r, j + 1, v0, h => by
    have h' := (List.getElem?_cons_succ ▸ h)
    refine .cons f (fun p hp => ?_) a b (r.set h1 h2 h')
    rcases List.mem_or_eq_of_mem_set hp with hp | rfl
    · exact n p hp
    · exact n (k, v0) (List.mem_of_getElem? h')

theorem findV_none {ks : KS} {k : AV} (hk : fitK ks k = true) : ∀ {es : List (AV × AV)}, (∀ p ∈ es, fitK ks p.1 = true) → (∀ p ∈ es, p.1 ≠ k) → findV k es = none ∧ ∀ v, putE k v es = es ++ [(k, v)]
  | [], _, _ => ⟨rfl, fun _ => rfl⟩
  | (k', v') :: r, h1, h2 => by
    obtain ⟨i1, i2⟩ := findV_none hk (es := r) (fun p hp => h1 p (by simp [hp])) (fun p hp => h2 p (by simp [hp]))
    have hb : AV.beq k k' = false := by
      cases hq : AV.beq k k' with
      | false => rfl
      | true => exact absurd ((fitK_beq hk (h1 (k', v') (by simp))).1 hq).symm (h2 (k', v') (by simp))
    exact ⟨by simp [findV, hb, i1], fun v => by simp [putE, hb, i2]⟩
theorem findV_at {ks : KS} {k : AV} (hk : fitK ks k = true) : ∀ {es : List (AV × AV)} {es' : List MapEntry}, ERs φ ks es es' → ∀ {j : Nat} {v : AV}, es[j]? = some (k, v) → findV k es = some v ∧ ∀ u, putE k u es = es.set j (k, u)
  | _, _, .nil, j, v, h => by simp at h
  | _, _, .cons f n a b r, 0, v, h => by
    simp only [List.getElem?_cons_zero, Option.some.injEq, Prod.mk.injEq] at h
    obtain ⟨rfl, rfl⟩ := h
    have hb := (fitK_beq hk hk).2 rfl
    exact ⟨by simp [findV, hb], fun u => by simp [putE, hb]⟩
  | _, _, .cons (k := k') f n a b r, j + 1, v, h => by
    have h' := (List.getElem?_cons_succ ▸ h)
    obtain ⟨i1, i2⟩ := findV_at hk r h'
    have hb : AV.beq k k' = false := by
      cases hq : AV.beq k k' with
      | false => rfl
      | true => exact absurd ((fitK_beq hk f).1 hq) (n _ (List.mem_of_getElem? h'))
    exact ⟨by simp [findV, hb, i1], fun u => by simp [putE, hb, i2]⟩

/-- Whether the key is there. -/
theorem find_ok {t : TypeId} {ks : KS} (hks : keyShape P t = some ks) {es : List (AV × AV)} {es' : List MapEntry} (hE : ERs φ ks es es') {k : AV} {kv : Value} (hk : fitK ks k = true) (hv : VR φ k kv) (w : World) :
    ((Instr.findKey t kv es').run P w = .ok none w ∧ findV k es = none ∧ (∀ p ∈ es, p.1 ≠ k) ∧ ∀ u, putE k u es = es ++ [(k, u)]) ∨
    ∃ j e v, (Instr.findKey t kv es').run P w = .ok (some (j, e.val)) w ∧ es'[j]? = some e ∧ e.key = kv ∧ es[j]? = some (k, v) ∧ VR φ v e.val ∧ findV k es = some v ∧ ∀ u, putE k u es = es.set j (k, u) := by
  obtain ⟨K, hread⟩ := keyShape_ok (φ := φ) hks
  obtain ⟨l, hl⟩ := hread hk hv
  have hall : ∀ e ∈ es', ∃ l, keyOf P t e.key = some l := fun e he => by
    obtain ⟨j, hj⟩ := List.mem_iff_getElem?.1 he
    obtain ⟨k', v', _, h2, h3, _⟩ := hE.get hj
    exact hread h2 h3
  rcases K.find w hl es' hall with ⟨h1, h2⟩ | ⟨j, e, h1, h2, h3⟩
  · have hne : ∀ p ∈ es, p.1 ≠ k := fun p hp q => by
      obtain ⟨j, e, m1, m2, m3, m4⟩ := hE.get' hp
      exact h2 e (List.mem_of_getElem? m1) ((fitK_det m3 hk m4 hv).2 q)
    obtain ⟨i1, i2⟩ := findV_none hk (es := es) (fun p hp => by obtain ⟨_, _, _, _, m3, _⟩ := hE.get' hp; exact m3) hne
    exact .inl ⟨h1, i1, hne, i2⟩
  · obtain ⟨k', v', m1, m2, m3, m4⟩ := hE.get h2
    have hkk : k' = k := (fitK_det m2 hk m3 hv).1 h3
    subst hkk
    obtain ⟨i1, i2⟩ := findV_at hk hE m1
    exact .inr ⟨j, e, v', h1, h2, h3, m1, m4, i1, i2⟩

variable {B : Nat} {w0 : World} {h h' : Heap} {w : World}
/-- v, ok := m[k]. -/
theorem lookM_ok (hs : S B w0 φ h w) {t kt et : TypeId} (hu : P.underlying t = some (.map kt et)) {ks : KS} (hks : keyShape P kt = some ks) {z : AV} {zv : Value} (hz : ∀ w, (zeroValue et).run P w = .ok zv w) (hzr : VR φ z zv)
    {x k : AV} {x' k' : Value} (hx : VR φ x x') (hk : VR φ k k') {ok : Bool} {v : AV} (hv : lookM ks z ok h x k = some v) : ∃ v', (Instr.lookup t x' k' ok).run P w = .ok v' w ∧ VR φ v v' := by
  obtain ⟨K, hread⟩ := keyShape_ok (φ := φ) hks
  have tell0 : VR φ (told ok z none) (if ok then .tuple #[zv, .bool false] else zv) := by
    cases ok
    · exact hzr
    · exact .tup (cs' := [_, _]) (.cons hzr (.cons (.bool _) .nil))
  unfold lookM at hv
  split at hv
  · rename_i hf
    obtain ⟨l, hl⟩ := hread hf hk
    split at hv
    · injection hv with hv
      subst hv
      cases hx
      refine ⟨_, ?_, tell0⟩
      have hfd := K.find w hl [] (by simp)
      rcases hfd with ⟨h1, _⟩ | ⟨j, e, _, h2, _⟩
      · simp [Instr.lookup, run_underlying hu, K.check w _ hl, h1, hz, Result.andThen]
      · simp at h2
    · rename_i o
      cases hx
      rename_i b hb
      obtain ⟨ks0, es, g1, g2, es', clk, g3, g4⟩ := hs.wr.map _ _ hb
      rw [g1] at hv
      simp only at hv
      split at hv
      · rename_i hkk
        subst hkk
        injection hv with hv
        subst hv
        rcases find_ok hks g4 hf hk w with ⟨h1, h2, _⟩ | ⟨j, e, v', h1, h2, h3, h4, h5, h6, _⟩
        · refine ⟨_, ?_, by rw [h2]; exact tell0⟩
          simp [Instr.lookup, run_underlying hu, MapKept.run_getObj_map g3, K.check w _ hl, h1, hz, Result.andThen]
        · refine ⟨if ok then .tuple #[e.val, .bool true] else e.val, ?_, ?_⟩
          · simp [Instr.lookup, run_underlying hu, MapKept.run_getObj_map g3, K.check w _ hl, h1, Result.andThen]
          · rw [h6]
            cases ok
            · exact h5
            · exact .tup (cs' := [_, _]) (.cons h5 (.cons (.bool _) .nil))
      · cases hv
    · cases hv
  · cases hv

theorem S.setMap (hs : S B w0 φ h w) {o b : Nat} (hm : φ.m o = some b) {ks ks' : KS} {es es2 : List (AV × AV)} (ho : h[o]? = some (.map ks es)) {es' es2' : Array MapEntry} {clk clk2 : Nat} (hb : w.heap[b]? = some (.map es' clk)) (hBb : B ≤ b) (hE : ERs φ ks' es2 es2'.toList) :
    S B w0 φ (h.set o (.map ks' es2)) { w with heap := w.heap.setIfInBounds b (.map es2' clk2) } ∧ Kept φ h φ (h.set o (.map ks' es2)) := by
  have hol := (List.getElem?_eq_some_iff.1 ho).1
  have hbl := heap_lt hb
  have heapSet : ∀ o', o' ≠ o → (h.set o (.map ks' es2))[o']? = h[o']? := fun o' hne => by rw [List.getElem?_set_ne (Ne.symm hne)]
  have heapO : (h.set o (.map ks' es2))[o]? = some (.map ks' es2) := by rw [List.getElem?_set_self hol]
  have blk : ∀ k, k ≠ b → (w.heap.setIfInBounds b (.map es2' clk2))[k]? = w.heap[k]? := fun k hk => by
    rw [Array.getElem?_setIfInBounds_ne (Ne.symm hk)]
  have here : (w.heap.setIfInBounds b (.map es2' clk2))[b]? = some (.map es2' clk2) := by
    rw [Array.getElem?_setIfInBounds_self_of_lt hbl]
  have ro1 : ∀ o', isRo (h.set o (.map ks' es2)) o' = isRo h o' := fun o' => by
    by_cases hoo : o' = o
    · subst hoo; simp [isRo, heapO, ho]
    · simp [isRo, heapSet _ hoo]
  refine ⟨⟨⟨fun o' g' l' hl' => ?_, fun o' b' hb' => ?_, fun o1 g1 l1 o2 g2 l2 e1 e2 e3 => ?_, hs.wr.msep⟩, hs.below.trans ⟨rfl, rfl, rfl, by simp, fun k hk => blk k (by omega)⟩, by simpa using hs.base⟩, .refl _, by simp, fun o' ho' hc hm' => ⟨hc, hm', heapSet _ (by rintro rfl; rw [hm] at hm'; cases hm')⟩⟩
  · obtain ⟨c, h2, h3⟩ := hs.wr.cell o' g' l' hl'
    have hne : o' ≠ o := by rintro rfl; rw [ho] at h2; cases h2
    have hbb : l'.b ≠ b := by
      intro q
      obtain ⟨C, e, fr, a, _⟩ := h3.blk
      rw [q, hb] at a; cases a
    exact ⟨c, (heapSet _ hne).trans h2, h3.move (blk _ hbb)⟩
  · by_cases hoo : o' = o
    · subst hoo
      rw [hm] at hb'
      injection hb' with hb'
      subst hb'
      exact ⟨ks', es2, heapO, hBb, es2', clk2, here, hE⟩
    · obtain ⟨k0, e0, h2, h3, e0', c0, h4, h5⟩ := hs.wr.map o' b' hb'
      have hbb : b' ≠ b := fun q => hoo (hs.wr.msep _ _ _ _ hb' hm q)
      exact ⟨k0, e0, (heapSet _ hoo).trans h2, h3, e0', c0, (blk _ hbb).trans h4, h5⟩
  · rw [ro1, ro1]
    exact hs.wr.sep _ _ _ _ _ _ e1 e2 e3

/-- m[k] = v. -/
theorem updM_ok (hs : S B w0 φ h w) {t kt et : TypeId} (hu : P.underlying t = some (.map kt et)) {ks : KS} (hks : keyShape P kt = some ks)
    {x k v : AV} {x' k' v' : Value} (hx : VR φ x x') (hk : VR φ k k') (hv : VR φ v v') (he : updM ks h x k v = some h') : ∃ w', (Instr.mapUpdate t x' k' v').run P w = .ok () w' ∧ S B w0 φ h' w' ∧ Kept φ h φ h' := by
  obtain ⟨K, hread⟩ := keyShape_ok (φ := φ) hks
  unfold updM at he
  split at he
  · rename_i hf
    obtain ⟨l, hl⟩ := hread hf hk
    split at he
    · rename_i o
      cases hx
      rename_i b hb
      obtain ⟨ks0, es, g1, g2, es', clk, g3, g4⟩ := hs.wr.map _ _ hb
      rw [g1] at he
      simp only at he
      split at he
      · rename_i hkk
        subst hkk
        injection he with he
        subst he
        rcases find_ok hks g4 hf hk w with ⟨h1, h2, hne, hput⟩ | ⟨j, e, v0, h1, h2, h3, h4, h5, h6, hput⟩
        · rw [hput]
          have hE : ERs φ ks0 (es ++ [(k, v)]) (es'.push ⟨k', v', clk⟩).toList := by
            rw [Array.toList_push]
            exact g4.push (e := ⟨k', v', clk⟩) hf hk hv hne
          obtain ⟨s1, s2⟩ := hs.setMap (clk2 := clk + 1) hb g1 g3 g2 hE
          refine ⟨_, ?_, s1, s2⟩
          simp [Instr.mapUpdate, run_underlying hu, MapKept.run_getObj_map g3, K.check w false hl, h1, MapKept.run_setObj_map _ g3, Result.andThen]
        · rw [hput]
          have hj : es'[j]? = some e := by simpa using h2
          have hE : ERs φ ks0 (es.set j (k, v)) (es'.modify j (fun e' => { e' with key := k', val := v' })).toList := by
            rw [Array.toList_modify, ChangeMaps.modify_eq_set _ _ _ _ h2]
            exact g4.set (e := { e with key := k', val := v' }) hk hv h4
          obtain ⟨s1, s2⟩ := hs.setMap (clk2 := clk) hb g1 g3 g2 hE
          refine ⟨_, ?_, s1, s2⟩
          simp [Instr.mapUpdate, run_underlying hu, MapKept.run_getObj_map g3, K.check w false hl, h1, hj, h3, K.stays w hl, MapKept.run_setObj_map _ g3, Result.andThen]
      · cases he
    · cases he
  · cases he
end
end Go.Gm

set_option linter.unusedVariables false
set_option linter.unusedSimpArgs false
namespace Go.Gm
open Go.RowKit

section
variable {B : Nat} {w0 : World} {φ : Ren} {h h' : Heap} {w : World} {P : Program} {fr : Frm} {cmp : Operand → Option Opd} {ρ : Operand → Value}

/-- Bytes become a string. -/
theorem b2sL_bytes : ∀ {cs : List AV} {l : List UInt8}, b2sL cs = some l → ∃ ns : List Int, cs = ns.map (AV.int .u8) ∧ l = ns.map fun n => UInt8.ofNat n.toNat
  | [], l, h => by injection h with h; exact ⟨[], rfl, h.symm⟩
  | .int .u8 n :: r, l, h => by
    simp only [b2sL, Option.map_eq_some_iff] at h
    obtain ⟨l', h1, rfl⟩ := h
    obtain ⟨ns, rfl, rfl⟩ := b2sL_bytes h1
    exact ⟨n :: ns, rfl, rfl⟩
theorem push_bytes : ∀ (ns : List Int) (r : ByteArray), ns.foldl (fun r n => r.push (UInt8.ofNat n.toNat)) r = ⟨r.data ++ (ns.map fun n => UInt8.ofNat n.toNat).toArray⟩
  | [], r => by simp
  | n :: ns, r => by
    simp only [List.foldl_cons]
    rw [push_bytes ns]
    simp [ByteArray.push]
theorem vrs_bytes {φ : Ren} : ∀ {ns : List Int} {vs : List Value}, VRs φ (ns.map (AV.int .u8)) vs → vs = ns.map (Value.int .u8)
  | [], _, .nil => rfl
  | n :: ns, _, .cons a b => by cases a; rw [vrs_bytes b]; rfl
theorem b2s_ok (hs : S B w0 φ h w) {s d e : TypeId} (h1 : P.underlying s = some (.slice e)) (h2 : P.underlying e = some (.int .u8)) (h3 : P.underlying d = some .string) {y v : AV} {x : Value} (hr : VR φ y x) (hv : b2sV h y = some v) :
    ∃ v', (convert s d x).run P w = .ok v' w ∧ VR φ v v' := by
  have base : ∀ (a : Addr) (len cap : Nat) (cs : List AV) (vs : List Value) (l : List UInt8), vs.length = len → VRs φ cs vs → (∀ j v, vs[j]? = some v → w.cell? (a.add j) = some v) → b2sL cs = some l → (convert s d (.slice (some a) len cap)).run P w = .ok (.string ⟨l.toArray⟩) w := by
    intro a len cap cs vs l hl hvs hc hb
    obtain ⟨ns, rfl, rfl⟩ := b2sL_bytes hb
    have hvn := vrs_bytes hvs
    rw [run_convert_bytes_string w s d e (some a) len cap h1 h2 h3]
    have hlc := run_loadCells_list (P := P) w a vs hc
    rw [hl, hvn] at hlc
    rw [run_bytesToString w a len cap ns hlc, push_bytes]
    have he0 : ByteArray.empty.data = #[] := rfl
    rw [he0]; simp
  cases hr with
  | nils =>
    simp only [b2sV, Option.some.injEq] at hv
    subst hv
    refine ⟨_, ?_, .str _⟩
    rw [run_convert_bytes_string w s d e none 0 0 h1 h2 h3]
    simp [Conv.bytesToString, Sem.run_pure]
  | @sl o off len sz g cap lim l hl hn hlc hm hN hcap =>
    simp only [b2sV] at hv
    split at hv
    · rename_i heq; cases heq
    · rename_i o' off' len' lim' g' heq
      injection heq with q1 q2 q3 q4 q5 q6
      subst q1 q2 q3 q4 q6
      simp only [Option.map_eq_some_iff, Option.bind_eq_some_iff] at hv
      obtain ⟨b, ⟨cs, hc, hb⟩, rfl⟩ := hv
      obtain ⟨vs, k1, k2, _, _, k5⟩ := hs.cellsAt hl (by omega) hc
      exact ⟨_, base _ _ _ cs vs b k1 k2 k5 hb, .str _⟩
    · cases hv
  | @sl0 o off sz g lim a ho hcap =>
    simp only [b2sV] at hv
    split at hv
    · rename_i heq; cases heq
    · rename_i o' off' len' lim' g' heq
      injection heq with q1 q2 q3 q4 q5 q6
      subst q1 q2 q3 q4 q6
      simp only [Option.map_eq_some_iff, Option.bind_eq_some_iff] at hv
      obtain ⟨b, ⟨cs, hc, hb⟩, rfl⟩ := hv
      have hcs : cs = [] := by
        simp only [rdc] at hc
        split at hc
        · split at hc
          · injection hc with hc; simpa using hc.symm
          · cases hc
        · cases hc
      subst hcs
      exact ⟨_, base _ _ _ [] [] b rfl .nil (fun j v q => by simp at q) hb, .str _⟩
    · cases hv
  | _ => simp [b2sV] at hv

theorem optOpd (hf : EvOk φ cmp fr ρ) {x : Option Operand} {y : Option Opd} (hc : compOpdO cmp x = some y) :
    (∀ z, y.map (·.ev fr) = some z → ∃ u, x.map ρ = some u ∧ VR φ z u) ∧ (y.map (·.ev fr) = none → x.map ρ = none) ∧ y.isSome = x.isSome := by
  cases x with
  | none => injection hc with hc; subst hc; exact ⟨fun _ q => by simp at q, fun _ => rfl, rfl⟩
  | some x =>
    simp only [compOpdO, Option.map_eq_some_iff] at hc
    obtain ⟨z, e, rfl⟩ := hc
    exact ⟨fun u q => ⟨_, rfl, by simp only [Option.map_some, Option.some.injEq] at q; subst q; exact hf.ev e⟩, fun q => by simp at q, rfl⟩

theorem partsL_ok (hf : EvOk φ cmp fr ρ) {pl : List (Nat × Nat)} : ∀ {ps : List (Nat × Operand)} {qs : List (Nat × Nat × Opd)}, compPartsL cmp pl ps = some qs →
    ps.length = qs.length ∧ ∀ (i : Nat) p q, (ps.map fun (i, x) => (i, ρ x))[i]? = some p → (qs.map fun (o, s, x) => (o, s, x.ev fr))[i]? = some q → pl[p.1]? = some (q.1, q.2.1) ∧ VR φ q.2.2 p.2
  | [], qs, h => by injection h with h; subst h; exact ⟨rfl, fun i p q h => by simp at h⟩
  | p :: ps, qs, h => by
    simp only [compPartsL, Option.bind_eq_some_iff, Option.map_eq_some_iff, compPartL] at h
    obtain ⟨x, ⟨y, h0, z, hz, rfl⟩, xs, h2, rfl⟩ := h
    obtain ⟨k1, k2⟩ := partsL_ok hf h2
    refine ⟨by simp [k1], fun i => ?_⟩
    cases i with
    | zero =>
      intro p' q' e1 e2
      simp only [List.map_cons, List.getElem?_cons_zero, Option.some.injEq] at e1 e2
      subst e1 e2
      exact ⟨hz, hf.ev h0⟩
    | succ i => intro p' q' e1 e2; exact k2 i p' q' (by simpa using e1) (by simpa using e2)
theorem partsS_ok (hf : EvOk φ cmp fr ρ) {s : Nat} : ∀ {ps : List (Nat × Operand)} {qs : List (Nat × Nat × Opd)}, compPartsS cmp s ps = some qs →
    ps.length = qs.length ∧ ∀ (i : Nat) p q, (ps.map fun (i, x) => (i, ρ x))[i]? = some p → (qs.map fun (o, s, x) => (o, s, x.ev fr))[i]? = some q → some (p.1 * s, s) = some (q.1, q.2.1) ∧ VR φ q.2.2 p.2
  | [], qs, h => by injection h with h; subst h; exact ⟨rfl, fun i p q h => by simp at h⟩
  | p :: ps, qs, h => by
    simp only [compPartsS, Option.bind_eq_some_iff, Option.map_eq_some_iff, compPartS] at h
    obtain ⟨x, ⟨y, h0, rfl⟩, xs, h2, rfl⟩ := h
    obtain ⟨k1, k2⟩ := partsS_ok hf h2
    refine ⟨by simp [k1], fun i => ?_⟩
    cases i with
    | zero =>
      intro p' q' e1 e2
      simp only [List.map_cons, List.getElem?_cons_zero, Option.some.injEq] at e1 e2
      subst e1 e2
      exact ⟨rfl, hf.ev h0⟩
    | succ i => intro p' q' e1 e2; exact k2 i p' q' (by simpa using e1) (by simpa using e2)

theorem VRs.all_one_of {cs : List AV} {us : List Value} : VRs φ cs us → cs.all AV.one = true → ∀ v ∈ us, v.oneCell' = true := VRs.one_of

theorem VR.bool_inv {b : Bool} {v : Value} (h : VR φ (.bool b) v) : v = .bool b := by cases h; rfl
theorem VR.int_inv {k : IntKind} {n : Int} {v : Value} (h : VR φ (.int k n) v) : v = .int k n := by cases h; rfl
theorem VR.str_inv {s : ByteArray} {v : Value} (h : VR φ (.str s) v) : v = .string s := by cases h; rfl
theorem build_run {t : TypeId} {zv : Value} {us us' : List Value} {ps : List (Nat × Value)} {w : World} (hz : ∀ w, (zeroValue t).run P w = .ok zv w) (hzc : zv.cells = us.toArray) {place : Nat → Option (Nat × Nat)}
    (hp : (∃ fs pl, P.underlying t = some (.struct fs) ∧ placesOf P fs.toList = some pl ∧ place = fun i : Nat => pl[i]?) ∨ (∃ n e s, P.underlying t = some (.array n e) ∧ szOf P e = some s ∧ place = fun i => some (i * s, s)))
    (hf : Instr.fill place us.toArray ps = some us'.toArray) : (Instr.build t ps.toArray).run P w = .ok (.agg us'.toArray) w := by
  rcases hp with ⟨fs, pl, hu, hpl, rfl⟩ | ⟨n, e, s, hu, hs, rfl⟩
  · have := run_places (P := P) w fs.toList pl hpl
    have e : (fun i : Nat => pl.toArray[i]?) = fun i : Nat => pl[i]? := by funext i; simp
    simp [Instr.build, run_underlying hu, hz, Array.mapM_eq_mapM_toList, this, hzc, e, hf]
  · simp [Instr.build, run_underlying hu, hz, run_sizeOf hs, hzc, hf]

theorem flat_get {z : List AV} {sz : Nat} (hz : z.length = sz) (hs : 0 < sz) : ∀ (n j : Nat), j < n * sz → ((List.replicate n z).flatten)[j]? = z[j % sz]?
  | 0, j, h => by omega
  | n + 1, j, h => by
    rw [List.replicate_succ, List.flatten_cons]
    by_cases hj : j < sz
    · rw [List.getElem?_append_left (by omega), Nat.mod_eq_of_lt hj]
    · have h' : j - sz < n * sz := by rw [Nat.add_mul, Nat.one_mul] at h; omega
      rw [List.getElem?_append_right (by omega), hz, flat_get hz hs n (j - sz) h', ← Nat.mod_eq_sub_mod (show j ≥ sz by omega)]
theorem flat_len {z : List AV} {sz : Nat} (hz : z.length = sz) (n : Nat) : ((List.replicate n z).flatten).length = n * sz := by
  simp [hz]
theorem wrap64_small {n : Int} (h0 : 0 ≤ n) (h1 : n ≤ 140737488355328) : IntKind.i64.wrap n = n := by
  simp [IntKind.wrap, IntKind.bits, IntKind.signed]
  omega
/-- How a new row is laid. -/
def Maker (φ : Ren) (w : World) (h : Heap) (G : Ren → Heap → World → Prop) : Prop :=
  ∀ (cs : List AV) (vs rest : List Value), VRs φ cs vs → cs.all AV.one = true → ∀ e : TypeId, ∃ ψ, G ψ (mkObj h cs) (w.alloc (.cells (vs ++ rest).toArray e)) ∧ ψ.c h.length 0 = some ⟨w.heap.size, 0, (vs ++ rest).length, cs.length⟩
theorem S.maker (hs : S B w0 φ h w) : Maker φ w h fun ψ h' w' => S B w0 ψ h' w' ∧ Kept φ h ψ h' := fun cs vs rest hv h1 e => by
  obtain ⟨ψ, p1, p2, p3⟩ := hs.make (rest := rest) hv h1 e
  exact ⟨ψ, ⟨p1, p2⟩, p3⟩
theorem mkSlG {G : Ren → Heap → World → Prop} (hs : Maker φ w h G) {t e : TypeId} {i : TypeInfo} {zv : Value} {y : AV} {sz by_ : Nat} (he : ElemOk P t e i zv sz by_) (hz : ofVal zv = some y) (hsz : 0 < sz) {l c : AV} {l' c' : Value} (hl : VR φ l l') (hc : VR φ c c')
    {v : AV} {h' : Heap} (hv : mkSl y.cells sz by_ l c h = some (v, h')) : ∃ ψ v' w', (Instr.makeSlice t l' c').run P w = .ok v' w' ∧ VR ψ v v' ∧ G ψ h' w' := by
  obtain ⟨hu, hi, hzv, hsize, hby, hzc⟩ := he
  obtain ⟨hzr, hz1⟩ := ofVal_cells (φ := φ) hz
  unfold mkSl at hv
  split at hv
  · rename_i ln cn
    split at hv
    · rename_i hcond
      obtain ⟨c1, c2, c3, c4, c5, c6⟩ := hcond
      injection hv with hv
      injection hv with e1 e2
      subst e1 e2
      cases hl
      cases hc
      obtain ⟨ln, rfl⟩ := Int.eq_ofNat_of_zero_le c1
      obtain ⟨cn, rfl⟩ := Int.eq_ofNat_of_zero_le (show 0 ≤ cn by omega)
      have hlc : ln ≤ cn := by omega
      simp only [Int.toNat_natCast]
      have hcell : ∀ N, ((Array.range (N * sz)).map (fun x => zv.cells[x % zv.cells.size]!)).toList = (List.range (N * sz)).map fun j => zv.cells.toList.getD (j % sz) undef := by
        intro N
        simp only [Array.toList_map, Array.toList_range]
        refine List.map_congr_left (fun j hj => ?_)
        have hm : j % sz < sz := Nat.mod_lt _ hsz
        rw [hzc, List.getD_eq_getElem?_getD, Array.getElem?_toList, getElem!_def, Array.getElem?_eq_getElem (by omega)]
        rfl
      have hsplit : (List.range (cn * sz)).map (fun j => zv.cells.toList.getD (j % sz) undef) = ((List.range (cn * sz)).map (fun j => zv.cells.toList.getD (j % sz) undef)).take (ln * sz) ++ ((List.range (cn * sz)).map (fun j => zv.cells.toList.getD (j % sz) undef)).drop (ln * sz) := (List.take_append_drop _ _).symm
      have hls : ln * sz ≤ cn * sz := Nat.mul_le_mul_right _ hlc
      have hvrs : VRs φ ((List.replicate ln y.cells).flatten) (((List.range (cn * sz)).map (fun j => zv.cells.toList.getD (j % sz) undef)).take (ln * sz)) := by
        refine VRs.of_get (by rw [flat_len c5, List.length_take, List.length_map, List.length_range, Nat.min_eq_left hls]) (fun j x v hx hv' => ?_)
        have hj : j < ln * sz := by have := (List.getElem?_eq_some_iff.1 hx).1; rw [flat_len c5] at this; exact this
        rw [flat_get c5 hsz ln j hj] at hx
        rw [List.getElem?_take, if_pos hj, List.getElem?_map, List.getElem?_range (by omega)] at hv'
        simp only [Option.map_some, Option.some.injEq] at hv'
        subst hv'
        obtain ⟨v', e', r⟩ := hzr.get hx
        rw [List.getD_eq_getElem?_getD, e']
        exact r
      have hone : ((List.replicate ln y.cells).flatten).all AV.one = true := by
        rw [List.all_eq_true]
        intro x hx
        simp only [List.mem_flatten, List.mem_replicate] at hx
        obtain ⟨l, ⟨_, rfl⟩, hx⟩ := hx
        exact List.all_eq_true.1 hz1 x hx
      obtain ⟨ψ, p1, p3⟩ := hs ((List.replicate ln y.cells).flatten) (((List.range (cn * sz)).map (fun j => zv.cells.toList.getD (j % sz) undef)).take (ln * sz)) (((List.range (cn * sz)).map (fun j => zv.cells.toList.getD (j % sz) undef)).drop (ln * sz)) hvrs hone e
      rw [← hsplit] at p1 p3
      have hcn : cn ≤ 140737488355328 := by omega
      refine ⟨ψ, .slice (some ⟨w.heap.size, 0, none⟩) ln cn, _, ?_, VR.sl (φ := ψ) (off := 0) (lim := none) p3 (by simp only [flat_len c5]; omega) hlc (by unfold maxLen; omega) (by simp) (fun _ q => by cases q), p1⟩
      have w1 := wrap64_small (n := (ln : Int)) (by omega) (by omega)
      have w2 := wrap64_small (n := (cn : Int)) (by omega) (by omega)
      have hb : ¬ ((by_ : Int) * cn > 2 ^ 48) := by
        have : (by_ : Int) * cn = cn * by_ := Int.mul_comm ..
        omega
      have harr : (Array.range (cn * sz)).map (fun x => zv.cells[x % zv.cells.size]!) = ((List.range (cn * sz)).map fun j => zv.cells.toList.getD (j % sz) undef).toArray := by
        apply Array.ext'; rw [hcell]
      have hcond : ((decide ((cn : Int) < 0) || decide ((by_ : Int) * cn > 2 ^ 48)) || decide ((ln : Int) < 0) || decide ((ln : Int) > cn)) = false := by
        simp only [Bool.or_eq_false_iff, decide_eq_false_iff_not]
        omega
      by_cases h0 : cn * sz = 0
      · have e0 : (Array.range (cn * sz)).map (fun x => (#[] : Array Value)[x % (#[] : Array Value).size]!) = (Array.range (cn * sz)).map (fun x => zv.cells[x % zv.cells.size]!) := by
          have : Array.range (cn * sz) = #[] := by rw [h0]; simp
          rw [this]; simp
        simp only [Instr.makeSlice, Sem.run_bind, run_underlying hu, Result.andThen_ok, asInt, asIntOf, Sem.run_pure, typeInfo, run_program, hi, hby, w1, w2, hcond, Bool.false_eq_true, if_false, Sem.run_ite, run_askRoom, Int.toNat_natCast, sizeOf, hsize, if_pos h0, e0, harr, newRow, run_newObj]
        rfl
      · simp only [Instr.makeSlice, Sem.run_bind, run_underlying hu, Result.andThen_ok, asInt, asIntOf, Sem.run_pure, typeInfo, run_program, hi, hby, w1, w2, hcond, Bool.false_eq_true, if_false, Sem.run_ite, run_askRoom, Int.toNat_natCast, sizeOf, hsize, if_neg h0, zeroValue, hzv, harr, newRow, run_newObj]
        rfl
    · cases hv
  · cases hv
theorem mkSl_ok (hs : S B w0 φ h w) {t e : TypeId} {i : TypeInfo} {zv : Value} {y : AV} {sz by_ : Nat} (he : ElemOk P t e i zv sz by_) (hz : ofVal zv = some y) (hsz : 0 < sz) {l c : AV} {l' c' : Value} (hl : VR φ l l') (hc : VR φ c c')
    {v : AV} {h' : Heap} (hv : mkSl y.cells sz by_ l c h = some (v, h')) : ∃ ψ v' w', (Instr.makeSlice t l' c').run P w = .ok v' w' ∧ VR ψ v v' ∧ S B w0 ψ h' w' ∧ Kept φ h ψ h' := mkSlG hs.maker he hz hsz hl hc hv
theorem buildSlG {G : Ren → Heap → World → Prop} (hs : Maker φ w h G) (hf : EvOk φ cmp fr ρ) {t e : TypeId} {i : TypeInfo} {zv : Value} {y : AV} {sz by_ n : Nat} (hel : ElemOk P t e i zv sz by_) (hzo : ofVal zv = some y) (hzl : y.cells.length = sz) (hsz : n * sz ≤ 16777216 ∧ 0 < sz)
    {ps : Array (Nat × Operand)} {qs : List (Nat × Nat × Opd)} (h3 : compPartsS cmp sz ps.toList = some qs) {v : AV} {h' : Heap}
    (he : buildSl sz n ((List.range (n * sz)).map fun j => y.cells.getD (j % sz) .undef) (qs.map fun (o, s, x) => (o, s, x.ev fr)) h = some (v, h')) :
    ∃ ψ v' w', (Instr.buildSlice t n (ps.map fun (i, x) => (i, ρ x))).run P w = .ok v' w' ∧ VR ψ v v' ∧ G ψ h' w' := by
  unfold buildSl at he
  obtain ⟨hu, hi, hz, hsize, hby, hzc⟩ := hel
  obtain ⟨hzr, hz1⟩ := ofVal_cells (φ := φ) hzo
  cases ps with
  | mk pl0 =>
  obtain ⟨k1, k2⟩ := partsS_ok hf h3
  have htmpl : VRs φ ((List.range (n * sz)).map fun j => y.cells.getD (j % sz) .undef) ((List.range (n * sz)).map fun j => zv.cells.toList.getD (j % sz) undef) := by
    refine VRs.of_get (by simp) (fun j x v hx hv => ?_)
    have hj : j < n * sz := by have := (List.getElem?_eq_some_iff.1 hx).1; simpa using this
    simp only [List.getElem?_map, List.getElem?_range hj, Option.map_some, Option.some.injEq] at hx hv
    subst hx hv
    have hm : j % sz < sz := Nat.mod_lt _ hsz.2
    have h4 : y.cells[j % sz]? = some (y.cells[j % sz]'(by omega)) := List.getElem?_eq_getElem (by omega)
    obtain ⟨v', e', r⟩ := hzr.get h4
    rw [List.getD_eq_getElem?_getD, List.getD_eq_getElem?_getD, h4, e']
    exact r
  cases hfill : fillP ((List.range (n * sz)).map fun j => y.cells.getD (j % sz) .undef) (qs.map fun (o, s, x) => (o, s, x.ev fr)) with
  | none => rw [hfill] at he; cases he
  | some cs =>
    rw [hfill] at he
    simp only at he
    split at he
    · rename_i hcs
      injection he with he
      injection he with e1 e2
      subst e1 e2
      obtain ⟨us', m1, m2, m3⟩ := fill_ok (place := fun i => some (i * sz, sz)) htmpl (by simpa using k1) k2 hfill
      obtain ⟨ψ, p1, p3⟩ := hs cs us' [] m2 hcs.1 e
      rw [List.append_nil] at p1 p3
      have hus : us'.length = n * sz := by rw [← m2.length]; exact hcs.2
      have hn : n ≤ n * sz := Nat.le_mul_of_pos_right _ hsz.2
      refine ⟨ψ, .slice (some ⟨w.heap.size, 0, none⟩) n n, _, ?_, VR.sl (φ := ψ) (off := 0) (lim := none) p3 (by simp only [hcs.2]; omega) (Nat.le_refl _) (by unfold maxLen; omega) (by simp only [hus]; omega) (fun _ q => by cases q), p1⟩
      have hbig : ¬ (n * sz > 2 ^ 24) := by omega
      have harr : (Array.range (n * sz)).map (fun x => zv.cells[x % zv.cells.size]!) = ((List.range (n * sz)).map fun j => zv.cells.toList.getD (j % sz) undef).toArray := by
        apply Array.ext'
        simp only [Array.toList_map, Array.toList_range]
        refine List.map_congr_left (fun j hj => ?_)
        have hm : j % sz < sz := Nat.mod_lt _ hsz.2
        rw [hzc, List.getD_eq_getElem?_getD, Array.getElem?_toList, getElem!_def, Array.getElem?_eq_getElem (by omega)]
        rfl
      have hszr := run_sizeOf (show szOf P e = some sz by simp [szOf, hi, hsize])
      have hfin : Instr.fill (fun i => some (i * sz, sz)) ((Array.range (n * sz)).map (fun x => zv.cells[x % zv.cells.size]!)) (pl0.map fun (i, x) => (i, ρ x)) = some us'.toArray := by rw [harr]; exact m1
      by_cases h0 : n * sz = 0
      · have e0 : (Array.range (n * sz)).map (fun x => (#[] : Array Value)[x % (#[] : Array Value).size]!) = (Array.range (n * sz)).map (fun x => zv.cells[x % zv.cells.size]!) := by
          have : Array.range (n * sz) = #[] := by rw [h0]; simp
          rw [this]; simp
        simp only [Instr.buildSlice, Sem.run_bind, run_underlying hu, Result.andThen_ok, hszr, if_neg hbig, if_pos h0, Sem.run_pure, List.map_toArray]
        rw [e0, hfin]
        simp [newRow]
      · simp only [Instr.buildSlice, Sem.run_bind, run_underlying hu, Result.andThen_ok, hszr, if_neg hbig, if_neg h0, Sem.run_pure, zeroValue, typeInfo, run_program, hi, hz, List.map_toArray]
        rw [hfin]
        simp [newRow]
    · cases he
theorem idxA_ok {t e : TypeId} {n sz : Nat} (hu : P.underlying t = some (.array n e)) (hsz : szOf P e = some sz) {x i v : AV} {x' i' : Value} (hr : VR φ x x') (hi : VR φ i i') (hv : idxA n sz x i = some v) (w : World) :
    ∃ v', (Instr.indexAt t x' i').run P w = .ok v' w ∧ VR φ v v' := by
  unfold idxA at hv
  split at hv
  · rename_i o off hhi g k m
    split at hv
    · rename_i hc
      injection hv with hv
      subst hv
      cases hr
      cases hi
      rename_i l hn hl
      have hb : (0 : Int) ≤ m ∧ m < (n : Int) := ⟨hc.1, hc.2.1⟩
      refine ⟨.pointer (some ⟨l.b, l.d + (off + m.toNat * sz), none⟩), by simp only [Instr.indexAt, asIntOf, Sem.run_bind, Sem.run_pure, run_underlying hu, Result.andThen_ok, Instr.sureAddr, hb, and_self, if_true, run_sizeOf hsz, add_at, Nat.add_assoc], .ptr hl ?_⟩
      have hm := Nat.mul_le_mul_right sz (show m.toNat + 1 ≤ n by omega)
      rw [Nat.add_mul, Nat.one_mul] at hm
      omega
    · cases hv
  · cases hv
theorem idxS_ok {t e : TypeId} {sz : Nat} (hu : P.underlying t = some (.slice e)) (hsz : szOf P e = some sz) {x i v : AV} {x' i' : Value} (hr : VR φ x x') (hi : VR φ i i') (hv : idxS sz x i = some v) (w : World) :
    ∃ v', (Instr.indexAt t x' i').run P w = .ok v' w ∧ VR φ v v' := by
  unfold idxS at hv
  split at hv
  · rename_i o off len sz' lim g k m
    split at hv
    · rename_i hc
      injection hv with hv
      subst hv
      cases hi
      obtain ⟨c1, c2, c3⟩ := hc
      rcases hr.slice_form rfl with ⟨l, hl, hoff, hform⟩ | hform
      · obtain ⟨cap, rfl, q1, _⟩ := hform
        rw [c3] at q1
        have hb : (0 : Int) ≤ m ∧ m < (len : Int) := ⟨c1, c2⟩
        refine ⟨.pointer (some ⟨l.b, l.d + (off + m.toNat * sz), none⟩), by simp only [Instr.indexAt, asIntOf, Sem.run_bind, Sem.run_pure, run_underlying hu, Result.andThen_ok, hb, and_self, if_true, run_sizeOf hsz, add_at, Nat.add_assoc], .ptr hl ?_⟩
        have hm := Nat.mul_le_mul_right sz (show m.toNat + 1 ≤ len by omega)
        rw [Nat.add_mul, Nat.one_mul] at hm
        omega
      · omega
    · cases hv
  · cases hv
theorem S.makeMap (hs : S B w0 φ h w) (ks : KS) : ∃ ψ, S B w0 ψ (h ++ [.map ks []]) (w.alloc (.map #[] 0)) ∧ Kept φ h ψ (h ++ [.map ks []]) ∧ ψ.m h.length = some w.heap.size := by
  have hun := hs.wr.unm_of_len (o := h.length) (Nat.le_refl _)
  have hp := hs.push (.map ks [])
  have hle : φ.le { φ with m := fun o => if o = h.length then some w.heap.size else φ.m o } := ⟨fun _ _ _ e => e, fun o b e => by
    simp only
    split
    · rename_i q; subst q; rw [hun.2] at e; cases e
    · exact e⟩
  have lt : ∀ o b, φ.m o = some b → b < w.heap.size := fun o b hb => by
    obtain ⟨_, es, _, _, es', clk, k, _⟩ := hs.wr.map o b hb
    exact heap_lt k
  refine ⟨{ φ with m := fun o => if o = h.length then some w.heap.size else φ.m o }, ⟨⟨fun o g l hl => ?_, fun o b hb => ?_, hp.wr.sep, fun o b o' b' e1 e2 e3 => ?_⟩, hs.below.alloc hs.base _, by simp; have := hs.base; omega⟩,
    ⟨hle, by simp, fun o ho hc hm => ⟨hc, by simp only; rw [if_neg (by omega)]; exact hm, List.getElem?_append_left ho⟩⟩, by simp⟩
  · obtain ⟨c, h2, h3⟩ := hp.wr.cell o g l hl
    exact ⟨c, h2, (h3.move (alloc_heap_old w _ _ h3.lt)).mono hle⟩
  · simp only at hb
    split at hb
    · rename_i q
      subst q
      injection hb with hb
      subst hb
      exact ⟨ks, [], by simp, hs.base, #[], 0, alloc_heap_new w _, .nil⟩
    · obtain ⟨k0, es, h2, h3, es', clk, h4, h5⟩ := hp.wr.map o b hb
      exact ⟨k0, es, h2, h3, es', clk, (alloc_heap_old w _ _ (heap_lt h4)).trans h4, h5.mono hle⟩
  · simp only at e1 e2
    subst e3
    split at e1
    · rename_i q1
      injection e1 with e1
      subst e1
      split at e2
      · rename_i q2; rw [q1, q2]
      · have := lt _ _ e2; omega
    · split at e2
      · injection e2 with e2
        subst e2
        have := lt _ _ e1; omega
      · exact hs.wr.msep _ _ _ _ e1 e2 rfl

theorem opSim (hs : S B w0 φ h w) (hf : EvOk φ cmp fr ρ) {o : Oper} {m : MOp} (hc : compOp P cmp o.op = some m) {v : AV} (he : evalM m fr h = some (v, h')) : OpOk P B w0 φ h w (execOp ρ o) v h' := by
  obtain ⟨dst, op, type, pos, after, guard⟩ := o
  replace hc : compOp P cmp op = some m := hc
  unfold execOp
  have pureStep : ∀ {x : Option AV} {s : Sem Value}, pure1 h x = some (v, h') → (x = some v → ∃ v', s.run P w = .ok v' w ∧ VR φ v v') → OpOk P B w0 φ h w (do pure (.value (← s))) v h' := by
    intro x s hp hx
    obtain ⟨h1, h2⟩ := pure1_some hp
    subst h2
    obtain ⟨v', k1, k2⟩ := hx h1
    exact opOk_pure hs k1 k2
  cases op with
  | move x =>
    simp only [compOp, Option.map_eq_some_iff] at hc
    obtain ⟨y, h1, rfl⟩ := hc
    injection he with he; injection he with e1 e2; subst e1 e2
    exact ⟨φ, _, w, .inl rfl, hf.ev h1, hs, .refl _ _⟩
  | assign x =>
    simp only [compOp, Option.map_eq_some_iff] at hc
    obtain ⟨y, h1, rfl⟩ := hc
    injection he with he; injection he with e1 e2; subst e1 e2
    exact ⟨φ, _, w, .inl rfl, hf.ev h1, hs, .refl _ _⟩
  | pick c x y =>
    simp only [compOp, Option.bind_eq_some_iff, Option.map_eq_some_iff] at hc
    obtain ⟨c', h1, x', h2, y', h3, rfl⟩ := hc
    simp only [evalM] at he
    obtain ⟨he1, e2⟩ := pure1_some he
    clear he
    subst e2
    simp only [Option.map_eq_some_iff] at he1
    obtain ⟨b, hb, rfl⟩ := he1
    have hr := hf.ev h1
    cases hcv : c'.ev fr <;> rw [hcv] at hb hr <;> simp only [bool?] at hb <;> try (cases hb; done)
    injection hb with hb
    subst hb
    have hcc := hr.bool_inv
    rename_i b
    cases b
    · exact ⟨φ, _, w, .inl (by simp [asBool, hcc]), hf.ev h3, hs, .refl _ _⟩
    · exact ⟨φ, _, w, .inl (by simp [asBool, hcc]), hf.ev h2, hs, .refl _ _⟩
  | alloc t =>
    simp only [compOp, Option.map_eq_some_iff] at hc
    obtain ⟨z, h1, rfl⟩ := hc
    obtain ⟨zv, hz, hzo⟩ := zeroOf_run h1
    simp only [evalM] at he
    obtain ⟨ψ, v', k1, k2, k3, rfl⟩ := hs.newVar (ofVal_cells hzo).1 he t
    refine opOk_value ⟨ψ, _, _, ?_, k1, k2, k3⟩
    simp only [Instr.alloc, Sem.run_bind, hz, Result.andThen_ok, Go.newVar, newRow, run_newObj, Sem.run_pure, Array.toArray_toList]
    rfl
  | box t x =>
    simp only [compOp, Option.map_eq_some_iff] at hc
    obtain ⟨y, h1, rfl⟩ := hc
    simp only [evalM] at he
    have hu : y.ev fr ≠ .undef := by
      intro q; rw [q] at he; simp [Gm.newVar, AV.cells, AV.one] at he
    obtain ⟨ψ, v', k1, k2, k3, rfl⟩ := hs.newVar ((hf.ev h1).cells_of hu) he t
    refine opOk_value ⟨ψ, _, _, ?_, k1, k2, k3⟩
    simp only [Instr.box, Sem.run_bind, Result.andThen_ok, Go.newVar, newRow, run_newObj, Sem.run_pure, Array.toArray_toList]
    rfl
  | build t ps =>
    simp only [compOp, Option.bind_eq_some_iff] at hc
    obtain ⟨z, h1, hc⟩ := hc
    obtain ⟨zv, hz, hzo⟩ := zeroOf_run h1
    have hzc := (ofVal_cells (φ := φ) hzo).1
    cases ps with
    | mk pl0 =>
    split at hc
    · rename_i fs hu
      simp only [Option.bind_eq_some_iff, Option.map_eq_some_iff] at hc
      obtain ⟨pl, h2, qs, h3, rfl⟩ := hc
      simp only [evalM] at he
      refine pureStep he (fun he1 => ?_)
      simp only [buildV, Option.map_eq_some_iff] at he1
      obtain ⟨cs, he1, rfl⟩ := he1
      obtain ⟨k1, k2⟩ := partsL_ok hf h3
      obtain ⟨us', m1, m2, _⟩ := fill_ok hzc (by simpa using k1) k2 he1
      refine ⟨_, ?_, .agg m2⟩
      simpa using build_run (P := P) hz (us := zv.cells.toList) (by simp) (.inl ⟨fs, pl, hu, h2, rfl⟩) m1
    · rename_i n e hu
      simp only [Option.bind_eq_some_iff, Option.map_eq_some_iff] at hc
      obtain ⟨s, h2, qs, h3, rfl⟩ := hc
      simp only [evalM] at he
      refine pureStep he (fun he1 => ?_)
      simp only [buildV, Option.map_eq_some_iff] at he1
      obtain ⟨cs, he1, rfl⟩ := he1
      obtain ⟨k1, k2⟩ := partsS_ok hf h3
      obtain ⟨us', m1, m2, _⟩ := fill_ok (place := fun i => some (i * s, s)) hzc (by simpa using k1) k2 he1
      refine ⟨_, ?_, .agg m2⟩
      simpa using build_run (P := P) hz (us := zv.cells.toList) (by simp) (.inr ⟨n, e, s, hu, h2, rfl⟩) m1
    · cases hc
  | load t x =>
    simp only [compOp, Option.bind_eq_some_iff, Option.map_eq_some_iff] at hc
    obtain ⟨n, h1, y, h2, rfl⟩ := hc
    have hx := hf.ev h2
    cases n with
    | none =>
      simp only [evalM] at he
      refine pureStep he (fun he1 => ?_)
      obtain ⟨ad, v', e, k1, k2⟩ := hs.loadVar h1 hx (x := v) (by exact he1)
      exact ⟨v', by rw [e]; simp [Instr.loadAt, Instr.sureAddr, k1], k2⟩
    | some n =>
      simp only [evalM] at he
      refine pureStep he (fun he1 => ?_)
      obtain ⟨ad, v', e, k1, k2⟩ := hs.loadVar h1 hx (x := v) (by exact he1)
      exact ⟨v', by rw [e]; simp [Instr.loadAt, Instr.sureAddr, k1], k2⟩
  | store t x y =>
    simp only [compOp, Option.bind_eq_some_iff, Option.map_eq_some_iff] at hc
    obtain ⟨n, h1, x', h2, y', h3, rfl⟩ := hc
    simp only [evalM, Option.map_eq_some_iff] at he
    obtain ⟨h2', he, e⟩ := he
    injection e with e1 e2
    subst e1 e2
    obtain ⟨ad, w', e, k1, k2, k3⟩ := hs.storeVar h1 (hf.ev h2) (hf.ev h3) he
    refine ⟨φ, undef, w', .inr ⟨?_, rfl⟩, .undef _, k2, k3⟩
    show (do Instr.storeAt t (ρ x) (ρ y); pure Next.skip : Sem Next).run P w = _
    rw [e]
    simp [Instr.storeAt, Instr.sureAddr, k1]
  | nilCheck x =>
    simp only [compOp, Option.map_eq_some_iff] at hc
    obtain ⟨y, h1, rfl⟩ := hc
    simp only [evalM] at he
    obtain ⟨he1, e2⟩ := pure1_some he
    clear he pureStep
    subst e2
    have hr := hf.ev h1
    generalize hxv : ρ x = xv at hr
    generalize y.ev fr = yv at hr he1
    cases yv <;> simp only [nilCk] at he1 <;> try (cases he1; done)
    all_goals
      injection he1 with he1
      subst he1
      cases hr
      exact ⟨φ, ρ x, w, .inl (by simp [hxv]), by rw [hxv]; constructor <;> assumption, hs, .refl _ _⟩
  | binOp op t x y u =>
    simp only [compOp, Option.bind_eq_some_iff, Option.map_eq_some_iff] at hc
    obtain ⟨k, h1, x', h2, y', h3, rfl⟩ := hc
    simp only [evalM] at he
    exact pureStep he (fun he1 => binV_ok h1 (hf.ev h2) (hf.ev h3) he1 _ _ w)
  | unOp op t x =>
    simp only [compOp, Option.map_eq_some_iff] at hc
    obtain ⟨y, h1, rfl⟩ := hc
    simp only [evalM] at he
    exact pureStep he (fun he1 => unV_ok (hf.ev h1) he1 w)
  | buildSlice t n ps =>
    simp only [compOp, Option.bind_eq_some_iff] at hc
    obtain ⟨e, h1, ⟨sz, by_, z⟩, h2, hc⟩ := hc
    simp only at hc
    split at hc
    · rename_i hsz
      simp only [Option.map_eq_some_iff] at hc
      obtain ⟨qs, h3, rfl⟩ := hc
      simp only [evalM] at he
      obtain ⟨i, zv, hel, y, hzo, rfl, hzl⟩ := elemOf_ok (sliceElem_under h1) h2
      exact opOk_value (buildSlG hs.maker hf hel hzo hzl hsz h3 he)
    · cases hc
  | convert s d x =>
    simp only [compOp, Option.bind_eq_some_iff] at hc
    obtain ⟨y, h1, hc⟩ := hc
    have hr := hf.ev h1
    split at hc
    · rename_i k1 k2 hu1 hu2
      injection hc with hc
      subst hc
      simp only [evalM] at he
      refine pureStep he (fun he1 => ?_)
      generalize ρ x = xv at hr
      generalize y.ev fr = yv at hr he1
      cases yv <;> simp only [convV] at he1 <;> try (cases he1; done)
      injection he1 with he1
      subst he1
      cases hr
      exact ⟨_, by simp only [convert, Sem.run_bind, run_underlying hu1, run_underlying hu2, Result.andThen_ok, Conv.intToInt, Sem.run_pure], .int _ _⟩
    · rename_i e hu1 hu2
      split at hc
      · rename_i hu3
        injection hc with hc
        subst hc
        simp only [evalM] at he
        exact pureStep he (fun he1 => b2s_ok hs hu1 hu3 hu2 hr he1)
      · cases hc
    · cases hc
  | makeInterface t x =>
    simp only [compOp] at hc
    split at hc
    · cases hc
    · rename_i d hd hu
      simp only [Option.map_eq_some_iff] at hc
      obtain ⟨y, h1, rfl⟩ := hc
      simp only [evalM, Option.some.injEq, Prod.mk.injEq] at he
      obtain ⟨rfl, rfl⟩ := he
      refine opOk_pure hs (v' := .iface t (ρ x)) ?_ (.ifc (hf.ev h1))
      simp only [Instr.makeInterface, Sem.run_bind, run_underlying hu, Result.andThen_ok]
      cases d <;> first | rfl | exact absurd rfl (hd _)
    · cases hc
  | makeFunc f xs ys =>
    cases f with
    | func f =>
      simp only [compOp, Option.bind_eq_some_iff, Option.map_eq_some_iff] at hc
      obtain ⟨xs', h1, ys', h2, rfl⟩ := hc
      simp only [evalM, Option.some.injEq, Prod.mk.injEq] at he
      obtain ⟨rfl, rfl⟩ := he
      refine opOk_pure hs (v' := .func (.func f) (xs.toList.map ρ).toArray (ys.toList.map ρ).toArray) ?_ (.fn (hf.evs h1) (hf.evs h2))
      have e1 : Array.map ρ xs = (List.map ρ xs.toList).toArray := by apply Array.ext'; simp
      have e2 : Array.map ρ ys = (List.map ρ ys.toList).toArray := by apply Array.ext'; simp
      simp only [Instr.makeFunc, e1, e2, Sem.run_pure]
    | _ => simp [compOp] at hc
  | makeSlice t l c =>
    simp only [compOp, Option.bind_eq_some_iff] at hc
    obtain ⟨e, h1, ⟨sz, by_, z⟩, h2, hc⟩ := hc
    simp only at hc
    split at hc
    · rename_i hsz
      simp only [Option.bind_eq_some_iff, Option.map_eq_some_iff] at hc
      obtain ⟨l', h3, c', h4, rfl⟩ := hc
      simp only [evalM] at he
      obtain ⟨i, zv, hel, y, hzo, rfl, hzl⟩ := elemOf_ok (sliceElem_under h1) h2
      exact opOk_value (mkSl_ok hs hel hzo hsz (hf.ev h3) (hf.ev h4) he)
    · cases hc
  | slice t x lo hi mx =>
    simp only [compOp, Option.bind_eq_some_iff] at hc
    obtain ⟨y, h1, lo', h2, hi', h3, mx', h4, hc⟩ := hc
    obtain ⟨l1, l2, l3⟩ := optOpd hf h2
    obtain ⟨u1, u2, u3⟩ := optOpd hf h3
    obtain ⟨m1, m2, m3⟩ := optOpd hf h4
    split at hc
    · rename_i e hu
      simp only [Option.bind_eq_some_iff] at hc
      obtain ⟨sz, hsz, hc⟩ := hc
      split at hc
      · cases hc
      · rename_i hmh
        injection hc with hc
        subst hc
        simp only [evalM] at he
        refine pureStep he (fun he1 => slice_run_ok hu hsz (hf.ev h1) l1 l2 u1 u2 m1 m2 (fun q => ?_) he1 w)
        cases mx' <;> cases hi' <;> simp_all
    · rename_i hu
      split at hc
      · cases hc
      · rename_i hmx
        injection hc with hc
        subst hc
        simp only [evalM] at he
        refine pureStep he (fun he1 => ?_)
        have e0 : mx.map ρ = none := m2 (by cases mx' <;> simp_all)
        rw [e0]
        exact str_slice_ok hu (hf.ev h1) l1 l2 u1 u2 he1 w
    · cases hc
  | fieldAddr t x f =>
    simp only [compOp, Option.bind_eq_some_iff] at hc
    obtain ⟨y, h1, hc⟩ := hc
    split at hc
    · rename_i fs hu
      simp only [Option.bind_eq_some_iff] at hc
      obtain ⟨fd, hfd, s, hsz, hc⟩ := hc
      split at hc
      · cases hc
      · rename_i hs0
        injection hc with hc
        subst hc
        simp only [evalM] at he
        refine pureStep he (fun he1 => ?_)
        have hr := hf.ev h1
        generalize ρ x = xv at hr
        generalize y.ev fr = yv at hr he1
        cases yv <;> simp only [fldA] at he1 <;> try (cases he1; done)
        injection he1 with he1
        subst he1
        cases hr
        rename_i l hn hl
        refine ⟨.pointer (some ⟨l.b, l.d + (_ + fd.offset), none⟩), ?_, .ptr hl hn⟩
        simp only [Instr.fieldAt, Sem.run_bind, run_underlying hu, Result.andThen_ok, hfd, Instr.sureAddr, Sem.run_pure, fieldPlace, run_sizeOf hsz, if_neg hs0, add_at, Nat.add_assoc]
    · cases hc
  | field t x f =>
    simp only [compOp, Option.bind_eq_some_iff] at hc
    obtain ⟨y, h1, hc⟩ := hc
    split at hc
    · rename_i fs hu
      simp only [Option.bind_eq_some_iff, Option.map_eq_some_iff] at hc
      obtain ⟨fd, hfd, n, hn, rfl⟩ := hc
      simp only [evalM] at he
      refine pureStep he (fun he1 => ?_)
      have hr := hf.ev h1
      generalize ρ x = xv at hr
      generalize y.ev fr = yv at hr he1
      cases yv <;> simp only [fldV] at he1 <;> try (cases he1; done)
      cases hr
      rename_i hcs
      obtain ⟨v', k1, k2⟩ := part_ok hn hcs he1 w
      exact ⟨v', by simp only [Instr.field, Sem.run_bind, run_underlying hu, Result.andThen_ok, hfd, asAgg, Sem.run_pure, k1], k2⟩
    · cases hc
  | indexAddr t x i =>
    simp only [compOp, Option.bind_eq_some_iff] at hc
    obtain ⟨y, h1, j, h2, hc⟩ := hc
    have hr := hf.ev h1
    have hi := hf.ev h2
    split at hc
    · rename_i n e hu
      simp only [Option.map_eq_some_iff] at hc
      obtain ⟨sz, hsz, rfl⟩ := hc
      simp only [evalM] at he
      refine pureStep he (fun he1 => ?_)
      generalize ρ x = xv at hr
      generalize ρ i = iv at hi
      generalize y.ev fr = yv at hr he1
      generalize j.ev fr = jv at hi he1
      exact idxA_ok hu hsz hr hi he1 w
    · rename_i e hu
      simp only [Option.map_eq_some_iff] at hc
      obtain ⟨sz, hsz, rfl⟩ := hc
      simp only [evalM] at he
      refine pureStep he (fun he1 => ?_)
      exact idxS_ok hu hsz hr hi he1 w
    · cases hc
  | index t x i =>
    simp only [compOp, Option.bind_eq_some_iff] at hc
    obtain ⟨y, h1, j, h2, hc⟩ := hc
    have hr := hf.ev h1
    have hi := hf.ev h2
    split at hc
    · rename_i n e hu
      simp only [Option.bind_eq_some_iff, Option.map_eq_some_iff] at hc
      obtain ⟨sz, hsz, m', hm', rfl⟩ := hc
      simp only [evalM] at he
      refine pureStep he (fun he1 => ?_)
      generalize ρ x = xv at hr
      generalize ρ i = iv at hi
      generalize y.ev fr = yv at hr he1
      generalize j.ev fr = jv at hi he1
      cases yv <;> cases jv <;> simp only [ixA] at he1 <;> try (cases he1; done)
      split at he1
      · rename_i hcond
        cases hr
        cases hi
        rename_i hcs
        obtain ⟨v', k1, k2⟩ := part_ok hm' hcs he1 w
        exact ⟨v', by simp only [Instr.index, asIntOf, Sem.run_bind, Sem.run_pure, run_underlying hu, Result.andThen_ok, hcond, and_self, if_true, run_sizeOf hsz, k1], k2⟩
      · cases he1
    · rename_i hu
      injection hc with hc
      subst hc
      simp only [evalM] at he
      refine pureStep he (fun he1 => ?_)
      generalize ρ x = xv at hr
      generalize ρ i = iv at hi
      generalize y.ev fr = yv at hr he1
      generalize j.ev fr = jv at hi he1
      cases yv <;> cases jv <;> simp only [ixS] at he1 <;> try (cases he1; done)
      split at he1
      · rename_i h0
        simp only [Option.map_eq_some_iff] at he1
        obtain ⟨b, hb, rfl⟩ := he1
        cases hr
        cases hi
        exact ⟨_, by simp only [Instr.index, asIntOf, Sem.run_bind, Sem.run_pure, run_underlying hu, Result.andThen_ok, h0, if_true, hb], .int _ _⟩
      · cases he1
    · cases hc
  | typeAssert x xt t ok =>
    simp only [compOp] at hc
    split at hc
    · cases hc
    · rename_i d hd hu
      simp only [Option.bind_eq_some_iff, Option.map_eq_some_iff] at hc
      obtain ⟨y, h1, z, h2, rfl⟩ := hc
      obtain ⟨zv, hz, hzo⟩ := zeroOf_run h2
      simp only [evalM] at he
      refine pureStep he (fun he1 => ?_)
      have hr := hf.ev h1
      generalize ρ x = xv at hr
      generalize y.ev fr = yv at hr he1
      cases yv <;> simp only [tAssert] at he1 <;> try (cases he1; done)
      cases hr
      rename_i u x0 v0 hv0
      have hmain : (Instr.typeAssert (.iface u v0) xt t ok).run P w = (if u = t then (pure (if ok then .tuple #[v0, .bool true] else v0) : Sem Value) else (if ok then do pure (.tuple #[← zeroValue t, .bool false]) else runtimePanic (.typeAssertion (some xt) (some u) t ""))).run P w := by
        simp only [Instr.typeAssert, Sem.run_bind, run_underlying hu, Result.andThen_ok]
        all_goals (cases d <;> first | rfl | exact absurd rfl (hd _))
      rw [hmain]
      split at he1
      · rename_i hut
        rw [if_pos hut]
        injection he1 with he1
        subst he1
        refine ⟨_, rfl, ?_⟩
        cases ok
        · exact hv0
        · exact .tup (cs' := [_, _]) (.cons hv0 (.cons (.bool _) .nil))
      · rename_i hut
        rw [if_neg hut]
        split at he1
        · rename_i hok
          injection he1 with he1
          subst he1
          refine ⟨.tuple #[zv, .bool false], by rw [if_pos hok]; simp [hz], .tup (cs' := [_, _]) (.cons (ofVal_ok hzo) (.cons (.bool _) .nil))⟩
        · cases he1
    · cases hc
  | extract x i =>
    simp only [compOp, Option.map_eq_some_iff] at hc
    obtain ⟨y, h1, rfl⟩ := hc
    simp only [evalM] at he
    refine pureStep he (fun he1 => ?_)
    have hr := hf.ev h1
    generalize ρ x = xv at hr
    generalize y.ev fr = yv at hr he1
    cases yv <;> simp only [extr] at he1 <;> try (cases he1; done)
    cases hr
    rename_i hcs
    obtain ⟨v', k1, k2⟩ := hcs.get he1
    exact ⟨v', by simp [Instr.extract, k1], k2⟩
  | lookup t x k ok =>
    simp only [compOp] at hc
    split at hc
    · rename_i kt et hu
      simp only [Option.bind_eq_some_iff, Option.map_eq_some_iff] at hc
      obtain ⟨ks, hks, z, hz, x1, h1, k1, h2, rfl⟩ := hc
      obtain ⟨zv, hzr, hzo⟩ := zeroOf_run hz
      simp only [evalM] at he
      exact pureStep he (fun he1 => lookM_ok hs hu hks hzr (ofVal_ok hzo) (hf.ev h1) (hf.ev h2) he1)
    · cases hc
  | mapUpdate t x k u =>
    simp only [compOp] at hc
    split at hc
    · rename_i kt et hu
      simp only [Option.bind_eq_some_iff, Option.map_eq_some_iff] at hc
      obtain ⟨ks, hks, x1, h1, k1, h2, u1, h3, rfl⟩ := hc
      simp only [evalM, Option.map_eq_some_iff] at he
      obtain ⟨h1', he1, he2⟩ := he
      injection he2 with e1 e2
      subst e1 e2
      obtain ⟨w', g1, g2, g3⟩ := updM_ok hs hu hks (hf.ev h1) (hf.ev h2) (hf.ev h3) he1
      refine ⟨φ, undef, w', .inr ⟨?_, rfl⟩, .undef _, g2, g3⟩
      show (do Instr.mapUpdate t (ρ x) (ρ k) (ρ u); pure Next.skip : Sem Next).run P w = _
      simp [g1]
    · cases hc
  | insert t x k u =>
    simp only [compOp] at hc
    split at hc
    · rename_i kt et hu
      simp only [Option.bind_eq_some_iff, Option.map_eq_some_iff] at hc
      obtain ⟨ks, hks, x1, h1, k1, h2, u1, h3, rfl⟩ := hc
      simp only [evalM, Option.map_eq_some_iff] at he
      obtain ⟨h1', he1, he2⟩ := he
      injection he2 with e1 e2
      subst e1 e2
      obtain ⟨w', g1, g2, g3⟩ := updM_ok hs hu hks (hf.ev h1) (hf.ev h2) (hf.ev h3) he1
      refine ⟨φ, undef, w', .inr ⟨?_, rfl⟩, .undef _, g2, g3⟩
      show (do Instr.mapUpdate t (ρ x) (ρ k) (ρ u); pure Next.skip : Sem Next).run P w = _
      simp [g1]
    · cases hc
  | makeMap t r =>
    cases r with
    | none =>
      simp only [compOp] at hc
      split at hc
      · rename_i kt et hu
        simp only [Option.map_eq_some_iff] at hc
        obtain ⟨ks, _, rfl⟩ := hc
        simp only [evalM, Option.some.injEq, Prod.mk.injEq] at he
        obtain ⟨rfl, rfl⟩ := he
        obtain ⟨ψ, p1, p2, p3⟩ := hs.makeMap ks
        exact opOk_value ⟨ψ, .map (some w.heap.size), _, by simp [Instr.makeMap], .map p3, p1, p2⟩
      · cases hc
    | some r => simp [compOp] at hc
  | call c =>
    obtain ⟨callee, args, argTypes⟩ := c
    have hargs : args = args.toList.toArray := by simp
    have htys : argTypes = argTypes.toList.toArray := by simp
    cases callee with
    | builtin b =>
      simp only [compOp, compBuiltin] at hc
      split at hc
      · rename_i x t e1 e2
        rw [e1] at hargs
        rw [e2] at htys
        subst hargs htys
        simp only [Option.bind_eq_some_iff] at hc
        obtain ⟨y, h1, hc⟩ := hc
        have hr := hf.ev h1
        split at hc
        · rename_i e hu
          injection hc with hc
          subst hc
          simp only [evalM] at he
          obtain ⟨he1, e3⟩ := pure1_some he
          clear he pureStep
          subst e3
          generalize hxv : ρ x = xv at hr
          generalize y.ev fr = yv at hr he1
          cases yv <;> simp only [lenS] at he1 <;> try (cases he1; done)
          · injection he1 with he1
            subst he1
            cases hr
            exact ⟨φ, .int .i64 0, w, .inl (by simp [resolve, invoke, builtin, Builtin.len_, run_underlying hu, goInt, hxv]), .int _ _, hs, .refl _ _⟩
          · injection he1 with he1
            subst he1
            rcases hr.slice_form rfl with ⟨l, hl, hoff, hform⟩ | hform
            · obtain ⟨cap, rfl, _⟩ := hform
              exact ⟨φ, .int .i64 _, w, .inl (by simp [resolve, invoke, builtin, Builtin.len_, run_underlying hu, goInt, hxv]), .int _ _, hs, .refl _ _⟩
            · obtain ⟨rfl, ad, rfl, _⟩ := hform
              exact ⟨φ, .int .i64 _, w, .inl (by simp [resolve, invoke, builtin, Builtin.len_, run_underlying hu, goInt, hxv]), .int _ _, hs, .refl _ _⟩
        · rename_i hu
          injection hc with hc
          subst hc
          simp only [evalM] at he
          obtain ⟨he1, e3⟩ := pure1_some he
          clear he pureStep
          subst e3
          generalize hxv : ρ x = xv at hr
          generalize y.ev fr = yv at hr he1
          cases yv <;> simp only [lenB] at he1 <;> try (cases he1; done)
          injection he1 with he1
          subst he1
          cases hr
          exact ⟨φ, .int .i64 _, w, .inl (by simp [resolve, invoke, builtin, Builtin.len_, run_underlying hu, goInt, hxv]), .int _ _, hs, .refl _ _⟩
        · cases hc
      · rename_i s x t u e1 e2
        rw [e1] at hargs
        rw [e2] at htys
        subst hargs htys
        split at hc
        · rename_i htu
          subst htu
          simp only [Option.bind_eq_some_iff, Option.map_eq_some_iff] at hc
          obtain ⟨e, h1, ⟨sz, by_, z⟩, h2, s', h3, x', h4, rfl⟩ := hc
          obtain ⟨i, zv, hel, y, hzo, rfl, hzl⟩ := elemOf_ok (sliceElem_under h1) h2
          simp only [evalM] at he
          obtain ⟨ψ, v', w', k1, k2, k3, k4⟩ := hs.apnd hel (ty := type) (hf.ev h3) (hf.ev h4) he
          exact ⟨ψ, v', w', .inl (by simp [resolve, invoke, builtin, k1]), k2, k3, k4⟩
        · cases hc
      · rename_i x y e1
        rw [e1] at hargs
        subst hargs
        simp only [Option.bind_eq_some_iff, Option.map_eq_some_iff] at hc
        obtain ⟨x', h1, y', h2, rfl⟩ := hc
        have hx := hf.ev h1
        have hy := hf.ev h2
        simp only [evalM] at he
        obtain ⟨he1, e3⟩ := pure1_some he
        clear he pureStep
        subst e3
        generalize hxv : ρ x = xv at hx
        generalize hyv : ρ y = yv at hy
        generalize x'.ev fr = xa at hx he1
        generalize y'.ev fr = ya at hy he1
        unfold mmV at he1
        split at he1
        · injection he1 with he1
          subst he1
          cases hx; cases hy
          exact ⟨φ, _, w, .inl (by simp [resolve, invoke, builtin, Builtin.max_, Builtin.max2, hxv, hyv]), .int _ _, hs, .refl _ _⟩
        · cases he1
      · rename_i x y e1
        rw [e1] at hargs
        subst hargs
        simp only [Option.bind_eq_some_iff, Option.map_eq_some_iff] at hc
        obtain ⟨x', h1, y', h2, rfl⟩ := hc
        have hx := hf.ev h1
        have hy := hf.ev h2
        simp only [evalM] at he
        obtain ⟨he1, e3⟩ := pure1_some he
        clear he pureStep
        subst e3
        generalize hxv : ρ x = xv at hx
        generalize hyv : ρ y = yv at hy
        generalize x'.ev fr = xa at hx he1
        generalize y'.ev fr = ya at hy he1
        unfold mmV at he1
        split at he1
        · injection he1 with he1
          subst he1
          cases hx; cases hy
          exact ⟨φ, _, w, .inl (by simp [resolve, invoke, builtin, Builtin.min_, Builtin.min2, hxv, hyv]), .int _ _, hs, .refl _ _⟩
        · cases he1
      · cases hc
    | _ => simp [compOp] at hc
  | _ => simp [compOp] at hc
end
end Go.Gm
