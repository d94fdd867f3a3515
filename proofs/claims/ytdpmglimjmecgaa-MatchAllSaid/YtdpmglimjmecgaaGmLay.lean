/- A part of the proof: GmLay: an abstract machine, what it does, and what the functions of the program come to on it. -/
import Derived.Test.YtdpmglimjmecgaaGmCall
set_option linter.unusedVariables false
set_option linter.unusedSimpArgs false
namespace Go.Gm
open Go.RowKit

mutual
theorem AV.beq_eq : ∀ {a b : AV}, AV.beq a b = true → a = b
  | .undef, b, h => by cases b <;> simp_all [AV.beq]
  | .bool _, b, h => by cases b <;> simp_all [AV.beq]
  | .int _ _, b, h => by cases b <;> simp_all [AV.beq]
  | .str _, b, h => by cases b <;> simp_all [AV.beq]
  | .nilp, b, h => by cases b <;> simp_all [AV.beq]
  | .ptr .., b, h => by cases b <;> simp_all [AV.beq]
  | .nils, b, h => by cases b <;> simp_all [AV.beq]
  | .sl .., b, h => by cases b <;> simp_all [AV.beq]
  | .nilmap, b, h => by cases b <;> simp_all [AV.beq]
  | .map _, b, h => by cases b <;> simp_all [AV.beq]
  | .nilfn, b, h => by cases b <;> simp_all [AV.beq]
  | .fn f x y, b, h => by
    cases b <;> simp only [AV.beq, Bool.and_eq_true, beq_iff_eq] at h <;> try (cases h; done)
    obtain ⟨⟨h1, h2⟩, h3⟩ := h
    rw [h1, AV.beqs_eq h2, AV.beqs_eq h3]
  | .nilifc, b, h => by cases b <;> simp_all [AV.beq]
  | .ifc t v, b, h => by
    cases b <;> simp only [AV.beq, Bool.and_eq_true, beq_iff_eq] at h <;> try (cases h; done)
    rw [h.1, AV.beq_eq h.2]
  | .agg x, b, h => by
    cases b <;> simp only [AV.beq] at h <;> try (cases h; done)
    rw [AV.beqs_eq h]
  | .tup x, b, h => by
    cases b <;> simp only [AV.beq] at h <;> try (cases h; done)
    rw [AV.beqs_eq h]
theorem AV.beqs_eq : ∀ {a b : List AV}, AV.beqs a b = true → a = b
  | [], b, h => by cases b <;> simp_all [AV.beqs]
  | x :: a, b, h => by
    cases b with
    | nil => simp [AV.beqs] at h
    | cons y b =>
      simp only [AV.beqs, Bool.and_eq_true] at h
      rw [AV.beq_eq h.1, AV.beqs_eq h.2]
end

section
variable {B : Nat} {w0 : World} {φ : Ren} {h0 hc : Heap} {w : World} {P : Program} {fr : Frm} {cmp : Operand → Option Opd} {ρ : Operand → Value}

theorem mkObj_inj {h : Heap} {cs : List AV} {obj : AObj} (h1 : mkObj h cs = h ++ [obj]) : obj = .cells ⟨cs, 0, 0, false⟩ := by
  unfold mkObj at h1
  have := List.append_cancel_left h1
  injection this with this
  exact this.symm

theorem notAlloc {o : Op} {m : MOp} (hm : compOp P cmp o = some m) (h1 : ∀ t, o ≠ .alloc t) (h2 : ∀ t x, o ≠ .box t x) (h3 : ∀ t n ps, o ≠ .buildSlice t n ps) (h4 : ∀ t l c, o ≠ .makeSlice t l c) : allocM m = false := by
  unfold compOp at hm
  split at hm <;> first
    | exact absurd rfl (h1 _)
    | exact absurd rfl (h2 _ _)
    | exact absurd rfl (h3 _ _ _)
    | exact absurd rfl (h4 _ _ _)
    | cases hm
    | skip
  all_goals (try (cases hm; done))
  all_goals (try simp only [compBuiltin, Option.bind_eq_some_iff, Option.map_eq_some_iff] at hm)
  all_goals
    repeat' first
      | rfl
      | (cases hm; rfl)
      | (cases hm; done)
      | (obtain ⟨_, _, hm⟩ := hm)
      | (split at hm)
      | (simp only [compBuiltin, Option.bind_eq_some_iff, Option.map_eq_some_iff] at hm)
/-- What is laid later than it was met. -/
theorem laySim (hs : S B w0 φ hc w) (hf : EvOk φ cmp fr ρ) {o : Oper} {m : MOp} (hcm : compOp P cmp o.op = some m) (hal : allocM m = true) {v : AV} {obj : AObj} (he : evalM m fr h0 = some (v, h0 ++ [obj]))
    (hobj : hc[h0.length]? = some obj) (hun : ∀ g, φ.c h0.length g = none) :
    ∃ ψ v' w', Gives P (execOp ρ o) w v' w' ∧ VR ψ v v' ∧ S B w0 ψ hc w' ∧ φ.le ψ ∧ ψ.m = φ.m ∧ ∀ o' g, o' ≠ h0.length → ψ.c o' g = φ.c o' g := by
  obtain ⟨dst, op, type, pos, after, guard⟩ := o
  replace hcm : compOp P cmp op = some m := hcm
  unfold execOp
  have value : ∀ {s : Sem Value} {ψ v' w'}, s.run P w = .ok v' w' → VR ψ v v' → S B w0 ψ hc w' → φ.le ψ → ψ.m = φ.m → (∀ o' g, o' ≠ h0.length → ψ.c o' g = φ.c o' g) →
      ∃ ψ v' w', Gives P (do pure (.value (← s))) w v' w' ∧ VR ψ v v' ∧ S B w0 ψ hc w' ∧ φ.le ψ ∧ ψ.m = φ.m ∧ ∀ o' g, o' ≠ h0.length → ψ.c o' g = φ.c o' g :=
    fun h1 h2 h3 h4 h5 h6 => ⟨_, _, _, .inl (by rw [Sem.run_bind, h1]; rfl), h2, h3, h4, h5, h6⟩
  have other : ∀ {l : Loc} o' g, o' ≠ h0.length → (φ.setC h0.length 0 l).c o' g = φ.c o' g := fun o' g hne => by
    simp only [Ren.setC]; rw [if_neg (fun q => hne q.1)]
  have nv : ∀ {cs : List AV} {vs : List Value}, VRs φ cs vs → newVar h0 cs = some (v, h0 ++ [obj]) → ∀ e, ∃ ψ, VR ψ v (.pointer (some ⟨w.heap.size, 0, none⟩)) ∧ S B w0 ψ hc (w.alloc (.cells vs.toArray e)) ∧ φ.le ψ ∧ ψ.m = φ.m ∧ ∀ o' g, o' ≠ h0.length → ψ.c o' g = φ.c o' g := by
    intro cs vs hv hn e
    unfold Gm.newVar at hn
    split at hn
    · rename_i h1
      injection hn with hn
      injection hn with hn1 hn2
      subst hn1
      have := mkObj_inj hn2
      subst this
      have p1 := hs.lay (o := h0.length) hobj hun (vs := vs) (rest := []) hv h1 e
      rw [List.append_nil] at p1
      exact ⟨_, by simpa using VR.ptr (φ := φ.setC h0.length 0 ⟨w.heap.size, 0, vs.length, cs.length⟩) (o := h0.length) (g := 0) (off := 0) (hi := cs.length) (by simp [Ren.setC]; rfl) (Nat.le_refl _), p1, Ren.setC_le (hun 0), rfl, other⟩
    · cases hn
  have mk : Maker φ w h0 fun ψ h' w' => h' = h0 ++ [obj] → S B w0 ψ hc w' ∧ φ.le ψ ∧ ψ.m = φ.m ∧ ∀ o' g, o' ≠ h0.length → ψ.c o' g = φ.c o' g := fun cs vs rest hv h1 e => by
    by_cases hq : mkObj h0 cs = h0 ++ [obj]
    · have := mkObj_inj hq
      subst this
      exact ⟨_, fun _ => ⟨hs.lay (o := h0.length) hobj hun (vs := vs) (rest := rest) hv h1 e, Ren.setC_le (hun 0), rfl, other⟩, by simp [Ren.setC]⟩
    · exact ⟨φ.setC h0.length 0 ⟨w.heap.size, 0, (vs ++ rest).length, cs.length⟩, fun q => absurd q hq, by simp [Ren.setC]⟩
  cases op with
  | alloc t =>
    simp only [compOp, Option.map_eq_some_iff] at hcm
    obtain ⟨z, h1, rfl⟩ := hcm
    obtain ⟨zv, hz, hzo⟩ := zeroOf_run h1
    simp only [evalM] at he
    obtain ⟨ψ, k1, k2, k3, k4, k5⟩ := nv (ofVal_cells hzo).1 he t
    refine value ?_ k1 k2 k3 k4 k5
    simp only [Instr.alloc, Sem.run_bind, hz, Result.andThen_ok, Go.newVar, newRow, run_newObj, Sem.run_pure, Array.toArray_toList]
    rfl
  | box t x =>
    simp only [compOp, Option.map_eq_some_iff] at hcm
    obtain ⟨y, h1, rfl⟩ := hcm
    simp only [evalM] at he
    have hu : y.ev fr ≠ .undef := by
      intro q; rw [q] at he; simp [Gm.newVar, AV.cells, AV.one] at he
    obtain ⟨ψ, k1, k2, k3, k4, k5⟩ := nv ((hf.ev h1).cells_of hu) he t
    refine value ?_ k1 k2 k3 k4 k5
    simp only [Instr.box, Sem.run_bind, Result.andThen_ok, Go.newVar, newRow, run_newObj, Sem.run_pure, Array.toArray_toList]
    rfl
  | buildSlice t n ps =>
    simp only [compOp, Option.bind_eq_some_iff] at hcm
    obtain ⟨e, h1, ⟨sz, by_, z⟩, h2, hcm⟩ := hcm
    simp only at hcm
    split at hcm
    · rename_i hsz
      simp only [Option.map_eq_some_iff] at hcm
      obtain ⟨qs, h3, rfl⟩ := hcm
      simp only [evalM] at he
      obtain ⟨i, zv, hel, y, hzo, rfl, hzl⟩ := elemOf_ok (sliceElem_under h1) h2
      obtain ⟨ψ, v', w', k1, k2, k3⟩ := buildSlG mk hf hel hzo hzl hsz h3 he
      obtain ⟨k3, k4, k5, k6⟩ := k3 rfl
      exact value k1 k2 k3 k4 k5 k6
    · cases hcm
  | makeSlice t l c =>
    simp only [compOp, Option.bind_eq_some_iff] at hcm
    obtain ⟨e, h1, ⟨sz, by_, z⟩, h2, hcm⟩ := hcm
    simp only at hcm
    split at hcm
    · rename_i hsz
      simp only [Option.bind_eq_some_iff, Option.map_eq_some_iff] at hcm
      obtain ⟨l', h3, c', h4, rfl⟩ := hcm
      simp only [evalM] at he
      obtain ⟨i, zv, hel, y, hzo, rfl, hzl⟩ := elemOf_ok (sliceElem_under h1) h2
      obtain ⟨ψ, v', w', k1, k2, k3⟩ := mkSlG mk hel hzo hsz (hf.ev h3) (hf.ev h4) he
      obtain ⟨k3, k4, k5, k6⟩ := k3 rfl
      exact value k1 k2 k3 k4 k5 k6
    · cases hcm
  | _ => exact absurd (notAlloc hcm (by simp) (by simp) (by simp) (by simp)) (by rw [hal]; simp)
end
end Go.Gm
