/- A part of the proof (GmA9E): an abstract machine, what it does, and what the functions of the program come to on it. -/
import Derived.Test.YtidaobchfmnjpaaGmA9D
set_option linter.unusedVariables false
set_option linter.unusedSimpArgs false
set_option linter.unusedSectionVars false
namespace Go.Gm.A9
open Go Go.Gm
/-- A queue that lies in P's places. -/
def SQ (P : Nat → Prop) (h : Heap) (q : AV) (N : Nat) (M : List (Option Int)) : Prop := ∃ W, (∀ o, W o → P o ∧ o < h.length) ∧ QV W h q N M
section
variable {P : Nat → Prop} {hB h h' : Heap} {q x : AV} {N : Nat} {M : List (Option Int)}
theorem QV.sq {W : Nat → Prop} (v : QV W h q N M) (hp : ∀ o, o < h.length → W o → P o) : SQ P h q N M :=
  ⟨fun o => W o ∧ o < h.length, fun o z => ⟨hp o z.2 z.1, z.2⟩, v.mono fun o z1 z2 => ⟨z2, z1⟩⟩
theorem SQ.frs {D : Nat → Prop} (v : SQ P h q N M) (f : FrS D h h') (hd : ∀ o, o < h.length → P o → ¬ D o) : SQ P h' q N M :=
  let ⟨W, h1, h2⟩ := v
  ⟨W, fun o z => ⟨(h1 o z).1, Nat.lt_of_lt_of_le (h1 o z).2 f.len⟩, h2.frs f fun o z1 z2 => hd o z1 (h1 o z2).1⟩
theorem SQ.ext (v : SQ P h q N M) (e : Ext h h') : SQ P h' q N M := v.frs (D := fun _ => False) (FrS.ofExt e) fun _ _ _ z => z
theorem SQ.notNil (v : SQ P h q N M) : binV .eql .ptr q .nilp = some (.bool false) := let ⟨W, h1, h2⟩ := v; h2.notNil
theorem SQ.lm (v : SQ P h q N M) : M.length = N := let ⟨W, h1, h2⟩ := v; h2.lm
theorem SQ.put (v : SQ P h q N M) (hN : N ≤ 1000000) (hp : ∀ o, h.length ≤ o → P o) (id key : Int) : Tot tab f_queue_Queue_Put [q, I id, I key] h fun r h' => r = .bool (putM N M id key).2 ∧ SQ P h' q N (putM N M id key).1 ∧ FrS P h h' := by
  obtain ⟨W, h1, h2⟩ := v
  refine (qPut_spec h2 hN id key).mono ?_
  rintro r h' ⟨a, b, c⟩
  exact ⟨a, b.sq fun o z1 z2 => by
    rcases z2 with z2 | z2
    · exact (h1 o z2).1
    · exact hp o z2, c.mono fun o z1 z2 => (h1 o z2).1⟩
theorem SQ.pop (v : SQ P h q N M) (hN : N ≤ 1000000) : Tot tab f_queue_Queue_Pop [q] h fun r h' => ∃ M2, PopQ N M r M2 ∧ SQ P h' q N M2 ∧ FrS P h h' := by
  obtain ⟨W, h1, h2⟩ := v
  refine (qPop_spec h2 hN).mono ?_
  rintro r h' ⟨M2, a, b, c⟩
  exact ⟨M2, a, b.sq fun o z1 z2 => (h1 o z2).1, c.mono fun o z1 z2 => (h1 o z2).1⟩
theorem SQ.key (v : SQ P h q N M) (id : Int) : Tot tab f_queue_Queue_Key [q, I id] h fun r h' => (r = match keyM N M id with | some k => .tup [I k, .bool true] | none => .tup [I 0, .bool false]) ∧ h = h' := by
  obtain ⟨W, h1, h2⟩ := v
  exact qKey_spec h2 id
theorem SQ.qlen (v : SQ P h q N M) : Tot tab f_queue_Queue_Len [q] h fun r h' => r = I (cnt M) ∧ h = h' := by
  obtain ⟨W, h1, h2⟩ := v
  exact qLen_spec h2

end
end Go.Gm.A9
