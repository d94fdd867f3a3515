/- A part of the proof: GmCall: an abstract machine, what it does, and what the functions of the program come to on it. -/
import Derived.Test.YtdpmglimjmecgaaGmOps5
import Derived.Calls
import Derived.LoopN
set_option linter.unusedVariables false
set_option linter.unusedSimpArgs false
namespace Go.Gm
open Go.RowKit

/-- What a call comes to. -/
def RetOk (B : Nat) (w0 : World) (φ : Ren) (h : Heap) (v : AV) (h' : Heap) : Ending → World → Prop := fun e w' =>
  ∃ ψ v', e = .returned v' ∧ VR ψ v v' ∧ S B w0 ψ h' w' ∧ Kept φ h ψ h'
def CallOk (P : Program) (B : Nat) (w0 : World) (call : CallF) : Prop :=
  ∀ f args h v h', call f args h = some (v, h') → (∃ fn, P.funcs[f]? = some fn ∧ fn.body.isNone = false ∧ (fn.name == "runtime.NumGoroutine") = false) ∧
    ∀ φ w args', VRs φ args args' → S B w0 φ h w → Calls P f args'.toArray w (RetOk B w0 φ h v h')
def MethOk (P : Program) (T : Tab) : Prop := ∀ t nm f, T.meth t nm = some f → ∀ a w, (method (P.types.size + Made.depth) t (.pointer (some a)) nm).run P w = .ok (f, .pointer (some a)) w

section
variable {B : Nat} {w0 : World} {φ : Ren} {h h' : Heap} {w : World} {P : Program} {fr : Frm} {a : Act} {T : Tab} {call : CallF}

theorem callFunc_run {f : FuncId} {args : Array Value} (hf : ∃ fn, P.funcs[f]? = some fn ∧ fn.body.isNone = false ∧ (fn.name == "runtime.NumGoroutine") = false) (w : World) : (callFunc f args).run P w = .ok (.enter f args) w := by
  obtain ⟨fn, h1, h2, h3⟩ := hf
  simp only [callFunc, Sem.run_bind, run_program, Result.andThen_ok, h1, h3, h2, Bool.false_eq_true, if_false, Sem.run_pure]
theorem enterSim (hco : CallOk P B w0 call) (hs : S B w0 φ h w) {o : Oper} {f : FuncId} {args : List AV} {args' : List Value} {v : AV} (he : call f args h = some (v, h')) (hargs : VRs φ args args')
    (hrun : ∀ (hf : ∃ fn, P.funcs[f]? = some fn ∧ fn.body.isNone = false ∧ (fn.name == "runtime.NumGoroutine") = false), (execOp a.eval o).run P w = .ok (.enter f args'.toArray) w)
    {K : Act → World → Prop} {Q : Exit → Act → World → Prop} (hK : ∀ ψ v' w', VR ψ v v' → S B w0 ψ h' w' → Kept φ h ψ h' → K (a.put o.dst v') w') : o.wp P a w K Q := by
  obtain ⟨h1, h2⟩ := hco _ _ _ _ _ he
  unfold Oper.wp
  rw [hrun h1, Oper.upon_enter]
  refine (h2 φ w args' hargs hs).mono ?_
  rintro e w' ⟨ψ, v', rfl, k1, k2, k3⟩
  exact hK ψ v' w' k1 k2 k3

theorem args_eq (xs : Array Operand) : (xs.map a.eval) = (xs.toList.map a.eval).toArray := by apply Array.ext'; simp

/-- Any operation. -/
theorem operSim {cmp : Operand → Option Opd} (hco : CallOk P B w0 call) (hme : MethOk P T) (hs : S B w0 φ h w) (hf : EvOk φ cmp fr a.eval) {o : Oper} {m : MAny} (hc : compAny P cmp o.op = some m) {v : AV} (he : evalO T call m fr h = some (v, h'))
    {K : Act → World → Prop} {Q : Exit → Act → World → Prop} (hK : ∀ ψ v' w', VR ψ v v' → S B w0 ψ h' w' → Kept φ h ψ h' → K (a.put o.dst v') w') : o.wp P a w K Q := by
  unfold compAny at hc
  split at hc
  · rename_i f args ts e
    simp only [Option.map_eq_some_iff] at hc
    obtain ⟨ys, h1, rfl⟩ := hc
    refine enterSim hco hs he (hf.evs h1) (fun hfn => ?_) hK
    obtain ⟨dst, op, type, pos, after, guard⟩ := o
    simp only at e
    subst e
    simp [execOp, resolve, Deferred.ofValue, invoke, Act.eval, callFunc_run hfn, args_eq]
  · rename_i x args ts hx e
    simp only [Option.bind_eq_some_iff, Option.map_eq_some_iff] at hc
    obtain ⟨y, h0, ys, h1, rfl⟩ := hc
    obtain ⟨dst, op, type, pos, after, guard⟩ := o
    simp only at e
    subst e
    have hr := hf.ev h0
    simp only [evalO] at he
    split at he
    · rename_i f xs0 ys0 e
      rw [e] at hr
      generalize hxv : a.eval x = xv at hr
      cases hr
      rename_i xs' ys' r1 r2
      refine enterSim hco hs he ((r1.append (hf.evs h1)).append r2) (fun hfn => ?_) hK
      simp [execOp, resolve, Deferred.ofValue, invoke, hxv, callFunc_run hfn, args_eq]
    · cases he
  · rename_i x nm args ts e
    simp only [Option.bind_eq_some_iff, Option.map_eq_some_iff] at hc
    obtain ⟨y, h0, ys, h1, rfl⟩ := hc
    obtain ⟨dst, op, type, pos, after, guard⟩ := o
    simp only at e
    subst e
    have hr := hf.ev h0
    simp only [evalO] at he
    split at he
    · rename_i t o off hi g e
      rw [e] at hr
      split at he
      · rename_i f hm
        generalize hxv : a.eval x = xv at hr
        cases hr
        rename_i v0 r
        have r0 := r
        cases r
        have hmm := hme _ _ _ hm
        refine enterSim hco hs he (.cons r0 (hf.evs h1)) (fun hfn => ?_) hK
        simp [execOp, resolve, invoke, hxv, callMethod, hmm, callFunc_run hfn, args_eq]
        exact List.take_of_length_le (by simp)
      · cases he
    · cases he
  · rename_i h1 h2 h3
    simp only [Option.map_eq_some_iff] at hc
    obtain ⟨m', hc, rfl⟩ := hc
    obtain ⟨ψ, v', w', hg, k1, k2, k3⟩ := opSim hs hf hc he
    unfold Oper.wp
    rcases hg with hg | ⟨hg, rfl⟩
    · rw [hg, Oper.upon_value]; exact hK ψ v' w' k1 k2 k3
    · rw [hg, Oper.upon_skip]; exact hK ψ undef w' k1 k2 k3
theorem want_ok (hf : FR φ fr a) {ops : Array Oper} {o : Oper} {m : MOper} (hc : compOper P ops o = some m) {b : Bool} (hw : want fr m.guard = some b) : Region.wanted o (yielded ops a.tmps) = b ∧ m.dst = o.dst := by
  unfold compOper at hc
  simp only [Option.bind_eq_some_iff] at hc
  obtain ⟨x, hx, hc⟩ := hc
  split at hc
  · rename_i hg
    injection hc with hc
    subst hc
    injection hw with hw
    subst hw
    exact ⟨by simp [Region.wanted, hg], rfl⟩
  · rename_i j b' hg
    simp only [Option.map_eq_some_iff] at hc
    obtain ⟨d, hd, rfl⟩ := hc
    refine ⟨?_, rfl⟩
    unfold want at hw
    simp only at hw
    split at hw
    · rename_i c hcv
      injection hw with hw
      subst hw
      have hx2 : fr[d]? = some (.bool c) := by
        rw [List.getD_eq_getElem?_getD] at hcv
        cases hq : fr[d]? with
        | none => rw [hq] at hcv; cases hcv
        | some y => rw [hq] at hcv; simp only [Option.getD_some] at hcv; rw [hcv]
      obtain ⟨v, hv, hr⟩ := VRs.get hf hx2
      cases hr
      rw [Array.getElem?_toList] at hv
      simp only [Region.wanted, hg, yielded, hd, Option.bind_some, hv]
      cases c <;> cases b' <;> rfl
    · rename_i hcv
      injection hw with hw
      subst hw
      have hx2 : fr[d]? = some (.tup []) := by
        rw [List.getD_eq_getElem?_getD] at hcv
        cases hq : fr[d]? with
        | none => rw [hq] at hcv; cases hcv
        | some y => rw [hq] at hcv; simp only [Option.getD_some] at hcv; rw [hcv]
      obtain ⟨v, hv, hr⟩ := VRs.get hf hx2
      cases hr
      rename_i hr
      cases hr
      rw [Array.getElem?_toList] at hv
      simp only [Region.wanted, hg, yielded, hd, Option.bind_some, hv]
      rfl
    · cases hw
end
end Go.Gm
