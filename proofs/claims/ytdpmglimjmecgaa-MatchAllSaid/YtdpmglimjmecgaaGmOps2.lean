/- A part of the proof: GmOps2: an abstract machine, what it does, and what the functions of the program come to on it. -/
import Derived.Test.YtdpmglimjmecgaaGmOps1
set_option linter.unusedVariables false
set_option linter.unusedSimpArgs false
namespace Go.Gm
open Go.RowKit

/-- What an operation comes to: a value, or none. -/
def Gives (P : Program) (s : Sem Next) (w : World) (v : Value) (w' : World) : Prop :=
  s.run P w = .ok (.value v) w' ∨ (s.run P w = .ok .skip w' ∧ v = undef)

/-- A scalar as it stands. -/
def sv : AV → Value
  | .int k n => .int k n
  | .bool b => .bool b
  | .str s => .string s
  | _ => undef
def plainPair : Value → Value → Bool
  | .nilIface, .nilIface => false
  | .agg _, .agg _ => false
  | _, _ => true
section
variable {φ : Ren} {P : Program}

theorem eqGuard_plain {op : BinOp} {t : TypeId} {xo yo : Operand} {a b : Value} (h : plainPair a b = true) (w : World) : (eqGuard op t xo yo a b).run P w = .ok () w := by
  unfold eqGuard
  cases a <;> cases b <;> first | (simp [plainPair] at h; done) | (cases op <;> simp)
theorem int_run {op : BinOp} {t : TypeId} {k : IntKind} {a b : Int} {v : AV} (h : intI op k a b = some v) : binOp op t (.int k a) (.int k b) = pure (sv v) ∧ VR φ v (sv v) := by
  cases op <;> simp only [intI] at h <;> first
    | (injection h with h; subst h
       refine ⟨?_, by constructor⟩
       simp only [binOp_add, binOp_sub, binOp_mul, binOp_and, binOp_or, binOp_xor, binOp_andNot, binOp_eql, binOp_neq, binOp_lss, binOp_leq, binOp_gtr, binOp_geq, Op.intArith, sv]
       try rfl)
    | (split at h
       · cases h
       · rename_i hb
         injection h with h; subst h
         refine ⟨?_, by constructor⟩
         simp only [binOp_quo, binOp_rem, Op.intDiv, if_neg hb, sv])
    | cases h
theorem shift_run {op : BinOp} {t : TypeId} {k k' : IntKind} {a b : Int} {v : AV} (h : shiftI op k a b = some v) : binOp op t (.int k a) (.int k' b) = pure (sv v) ∧ VR φ v (sv v) := by
  unfold shiftI at h
  split at h
  · cases h
  · rename_i hb
    cases op <;> simp only at h <;> first
      | (injection h with h; subst h
         refine ⟨?_, by constructor⟩
         simp only [binOp_shl, binOp_shr, Op.shift, if_neg hb, sv])
      | cases h
theorem str_run {op : BinOp} {t : TypeId} {a b : ByteArray} {v : AV} (h : strS op a b = some v) : binOp op t (.string a) (.string b) = pure (sv v) ∧ VR φ v (sv v) := by
  cases op <;> simp only [strS] at h <;> first
    | (split at h
       · rename_i hb
         injection h with h; subst h
         refine ⟨?_, by constructor⟩
         have : ¬ (((a.size + b.size : Nat) : Int) > IntKind.i64.max) := by simp only [IntKind.max, IntKind.signed, IntKind.bits]; simp; omega
         simp only [binOp, Op.stringOp, this, if_false, sv]
       · cases h)
    | (injection h with h; subst h; exact ⟨by simp only [binOp, Op.stringOp, sv], by constructor⟩)
    | cases h
theorem eqOp_run {op : BinOp} {t : TypeId} {a b : Value} {r : Bool} {v : AV} (he : eqOp op r = some v) (h1 : binOp .eql t a b = (do pure (.bool (← Op.equal t a b)))) (h2 : binOp .neq t a b = (do pure (.bool (!(← Op.equal t a b)))))
    {w : World} (hr : (Op.equal t a b).run P w = .ok r w) : ∃ v', (binOp op t a b).run P w = .ok v' w ∧ VR φ v v' := by
  unfold eqOp at he
  split at he
  · injection he with he; subst he; exact ⟨.bool r, by rw [h1, Sem.run_bind, hr]; rfl, .bool _⟩
  · injection he with he; subst he; exact ⟨.bool (!r), by rw [h2, Sem.run_bind, hr]; rfl, .bool _⟩
  · cases he
def UnderOk (P : Program) (t : TypeId) : EK → Prop
  | .ptr => ∃ e, P.underlying t = some (.pointer e)
  | .slice => ∃ e, P.underlying t = some (.slice e)
  | .map => ∃ k e, P.underlying t = some (.map k e)
  | .bool => P.underlying t = some .bool
  | .scalar => True
theorem eqKind_under {t : TypeId} {k : EK} (h : eqKind P t = some k) : UnderOk P t k := by
  unfold eqKind at h
  split at h <;> first
    | (injection h with h; subst h; rename_i hu; first | exact ⟨_, hu⟩ | exact ⟨_, _, hu⟩ | exact hu | trivial)
    | cases h
theorem equal_step {t : TypeId} {x y : Value} {d : TypeDesc} (hu : P.underlying t = some d) {r : Bool} {w : World}
    (h : (match d, x, y with
      | .bool, .bool a, .bool b => a == b
      | .pointer _, .pointer none, .pointer none => true
      | .pointer _, .pointer none, .pointer (some _) => false
      | .pointer _, .pointer (some _), .pointer none => false
      | .slice _, .slice none _ _, .slice none _ _ => true
      | .slice _, .slice none _ _, .slice (some _) _ _ => false
      | .slice _, .slice (some _) _ _, .slice none _ _ => false
      | .map _ _, .map none, .map none => true
      | .map _ _, .map none, .map (some _) => false
      | .map _ _, .map (some _), .map none => false
      | _, _, _ => !r) = r) : (Op.equal t x y).run P w = .ok r w := by
  unfold Op.equal Op.maxDepth Op.equalIn
  rw [Sem.run_bind, run_underlying hu, Result.andThen_ok]
  split at h <;> first
    | (subst h; rfl)
    | (cases r <;> simp at h)

theorem binV_ok {op : BinOp} {t : TypeId} {k : EK} (hk : eqKind P t = some k) {x y v : AV} {x' y' : Value} (hx : VR φ x x') (hy : VR φ y y') (hv : binV op k x y = some v) (xo yo : Operand) (w : World) :
    ∃ v', (do eqGuard op t xo yo x' y'; binOp op t x' y' : Sem Value).run P w = .ok v' w ∧ VR φ v v' := by
  have hu := eqKind_under hk
  have guard : plainPair x' y' = true → (∃ v', (binOp op t x' y').run P w = .ok v' w ∧ VR φ v v') → ∃ v', (do eqGuard op t xo yo x' y'; binOp op t x' y' : Sem Value).run P w = .ok v' w ∧ VR φ v v' := by
    rintro h ⟨v', h1, h2⟩
    exact ⟨v', by rw [Sem.run_bind, eqGuard_plain h]; exact h1, h2⟩
  unfold binV at hv
  split at hv
  · cases hx; cases hy
    refine guard rfl ?_
    split at hv
    · obtain ⟨e, r⟩ := shift_run (φ := φ) (t := t) hv; exact ⟨_, by rw [e]; rfl, r⟩
    · obtain ⟨e, r⟩ := shift_run (φ := φ) (t := t) hv; exact ⟨_, by rw [e]; rfl, r⟩
    · split at hv
      · rename_i hkk; subst hkk; obtain ⟨e, r⟩ := int_run (φ := φ) (t := t) hv; exact ⟨_, by rw [e]; rfl, r⟩
      · cases hv
  · cases hx; cases hy; obtain ⟨e, r⟩ := str_run (φ := φ) (t := t) hv; exact guard rfl ⟨_, by rw [e]; rfl, r⟩
  · cases hx; cases hy
    split at hv
    · rename_i he; subst he
      have hu2 : P.underlying t = some .bool := hu
      exact guard rfl (eqOp_run hv rfl rfl (equal_step hu2 rfl))
    · cases hv
  · cases hx; cases hy
    split at hv
    · rename_i he; subst he; obtain ⟨e, hu2⟩ := hu
      exact guard rfl (eqOp_run hv rfl rfl (equal_step hu2 rfl))
    · cases hv
  · cases hx; cases hy
    split at hv
    · rename_i he; subst he; obtain ⟨e, hu2⟩ := hu
      exact guard rfl (eqOp_run hv rfl rfl (equal_step hu2 rfl))
    · cases hv
  · cases hx; cases hy
    split at hv
    · rename_i he; subst he; obtain ⟨e, hu2⟩ := hu
      exact guard rfl (eqOp_run hv rfl rfl (equal_step hu2 rfl))
    · cases hv
  · cases hx; cases hy
    split at hv
    · rename_i he; subst he; obtain ⟨e, hu2⟩ := hu
      exact guard rfl (eqOp_run hv rfl rfl (equal_step hu2 rfl))
    · cases hv
  · cases hy
    split at hv
    · rename_i he; subst he; obtain ⟨e, hu2⟩ := hu
      cases hx <;> exact guard rfl (eqOp_run hv rfl rfl (equal_step hu2 rfl))
    · cases hv
  · cases hx
    split at hv
    · rename_i he; subst he; obtain ⟨e, hu2⟩ := hu
      cases hy <;> exact guard rfl (eqOp_run hv rfl rfl (equal_step hu2 rfl))
    · cases hv
  · cases hx; cases hy
    split at hv
    · rename_i he; subst he; obtain ⟨k', e, hu2⟩ := hu
      exact guard rfl (eqOp_run hv rfl rfl (equal_step hu2 rfl))
    · cases hv
  · cases hx; cases hy
    split at hv
    · rename_i he; subst he; obtain ⟨k', e, hu2⟩ := hu
      exact guard rfl (eqOp_run hv rfl rfl (equal_step hu2 rfl))
    · cases hv
  · cases hx; cases hy
    split at hv
    · rename_i he; subst he; obtain ⟨k', e, hu2⟩ := hu
      exact guard rfl (eqOp_run hv rfl rfl (equal_step hu2 rfl))
    · cases hv
  · cases hv
theorem unV_ok {op : UnOp} {x v : AV} {x' : Value} (hx : VR φ x x') (hv : unV op x = some v) (w : World) : ∃ v', (Op.unary op x').run P w = .ok v' w ∧ VR φ v v' := by
  unfold unV at hv
  split at hv
  · injection hv with hv; subst hv; cases hx; exact ⟨_, rfl, .int _ _⟩
  · injection hv with hv; subst hv; cases hx; exact ⟨_, rfl, .bool _⟩
  · cases hv
end
end Go.Gm
