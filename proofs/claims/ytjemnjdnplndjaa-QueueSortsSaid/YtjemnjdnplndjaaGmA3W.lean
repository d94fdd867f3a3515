/- A part of the proof: GmA3W: an abstract machine, what it does, and what the functions of the program come to on it. -/
import Derived.Test.YtjemnjdnplndjaaGmA3V
set_option linter.unusedVariables false
set_option linter.unusedSimpArgs false
set_option linter.unusedSectionVars false
namespace Go.Gm.A3
open Go Go.Gm
/-- A queue that lies in P's places. -/
def SQ (P : Nat → Prop) (h : Heap) (q : AV) (N : Nat) (M : List (Option Int)) : Prop := ∃ W, (∀ o, W o → P o ∧ o < h.length) ∧ QV W h q N M
section
variable {P : Nat → Prop} {hB h h' : Heap} {q x : AV} {N : Nat} {M : List (Option Int)}
theorem QV.sq {W : Nat → Prop} (v : QV W h q N M) (hp : ∀ o, o < h.length → W o → P o) : SQ P h q N M :=
  ⟨fun o => W o ∧ o < h.length, fun o z => ⟨hp o z.2 z.1, z.2⟩, v.mono fun o z1 z2 => ⟨z2, z1⟩⟩
theorem SQ.frs {D : Nat → Prop} (v : SQ P h q N M) (f : FrS D h h') (hd : ∀ o, o < h.length → P o → ¬ D o) : SQ P h' q N M :=
  let ⟨W, h1, h2⟩ := v
  ⟨W, fun o z => ⟨(h1 o z).1, Nat.lt_of_lt_of_le (h1 o z).2 f.len⟩, h2.frs f fun o z1 z2 => hd o z1 (h1 o z2).1⟩
theorem SQ.ext (v : SQ P h q N M) (e : Ext h h') : SQ P h' q N M := v.frs (D := fun _ => False) (FrS.ofExt e) fun _ _ _ z => z
theorem SQ.notNil (v : SQ P h q N M) : binV .eql .ptr q .nilp = some (.bool false) := let ⟨W, h1, h2⟩ := v; h2.notNil
theorem SQ.lm (v : SQ P h q N M) : M.length = N := let ⟨W, h1, h2⟩ := v; h2.lm
theorem SQ.put (v : SQ P h q N M) (hN : N ≤ 1000000) (hp : ∀ o, h.length ≤ o → P o) (id key : Int) : Tot tab f_queue_Queue_Put [q, I id, I key] h fun r h' => r = .bool (putM N M id key).2 ∧ SQ P h' q N (putM N M id key).1 ∧ FrS P h h' := by
  obtain ⟨W, h1, h2⟩ := v
  refine (qPut_spec h2 hN id key).mono ?_
  rintro r h' ⟨a, b, c⟩
  exact ⟨a, b.sq fun o z1 z2 => by
    rcases z2 with z2 | z2
    · exact (h1 o z2).1
    · exact hp o z2, c.mono fun o z1 z2 => (h1 o z2).1⟩
theorem SQ.pop (v : SQ P h q N M) (hN : N ≤ 1000000) : Tot tab f_queue_Queue_Pop [q] h fun r h' => ∃ M2, PopQ N M r M2 ∧ SQ P h' q N M2 ∧ FrS P h h' := by
  obtain ⟨W, h1, h2⟩ := v
  refine (qPop_spec h2 hN).mono ?_
  rintro r h' ⟨M2, a, b, c⟩
  exact ⟨M2, a, b.sq fun o z1 z2 => (h1 o z2).1, c.mono fun o z1 z2 => (h1 o z2).1⟩
theorem SQ.key (v : SQ P h q N M) (id : Int) : Tot tab f_queue_Queue_Key [q, I id] h fun r h' => (r = match keyM N M id with | some k => .tup [I k, .bool true] | none => .tup [I 0, .bool false]) ∧ h = h' := by
  obtain ⟨W, h1, h2⟩ := v
  exact qKey_spec h2 id
theorem SQ.qlen (v : SQ P h q N M) : Tot tab f_queue_Queue_Len [q] h fun r h' => r = I (cnt M) ∧ h = h' := by
  obtain ⟨W, h1, h2⟩ := v
  exact qLen_spec h2

/-- A queue, the document's one, another queue: none in another's place, all behind hB. -/
def P3 (b3 : Bool) (hB h : Heap) (q : AV) (Nq : Nat) (Mq : List (Option Int)) (x : AV) (Nx : Nat) (Mx : List (Option Int)) (o : AV) (No : Nat) (Mo : List (Option Int)) : Prop :=
  ∃ Wq Wx Wo : Nat → Prop, (∀ p, Wq p → hB.length ≤ p ∧ p < h.length ∧ ¬ Wx p ∧ ¬ Wo p) ∧ (∀ p, Wx p → hB.length ≤ p ∧ p < h.length ∧ ¬ Wq p ∧ ¬ Wo p) ∧ (∀ p, Wo p → hB.length ≤ p ∧ p < h.length ∧ ¬ Wq p ∧ ¬ Wx p) ∧ QV Wq h q Nq Mq ∧ RV Wx h x Nx Mx ∧ (b3 = true → QV Wo h o No Mo) ∧ Ext hB h
variable {b3 : Bool} {Nq Nx No : Nat} {Mq Mx Mo : List (Option Int)} {o : AV}
theorem P3.ext (v : P3 b3 hB h q Nq Mq x Nx Mx o No Mo) : Ext hB h := let ⟨_, _, _, _, _, _, _, _, _, e⟩ := v; e
theorem P3.qput (v : P3 b3 hB h q Nq Mq x Nx Mx o No Mo) (hN : Nq ≤ 1000000) (id key : Int) : Tot tab f_queue_Queue_Put [q, I id, I key] h fun r h' => r = .bool (putM Nq Mq id key).2 ∧ P3 b3 hB h' q Nq (putM Nq Mq id key).1 x Nx Mx o No Mo := by
  obtain ⟨Wq, Wx, Wo, a1, a2, a3, vq, vx, vo, e⟩ := v
  refine (qPut_spec vq hN id key).mono ?_
  rintro r h' ⟨a, b, c⟩
  have hl := c.len
  have hbl := e.len
  refine ⟨a, fun p => (Wq p ∨ h.length ≤ p) ∧ p < h'.length, Wx, Wo, fun p z => ?_, fun p z => ?_, fun p z => ?_, b.mono fun p z1 z2 => ⟨z2, z1⟩, vx.frs c fun p z1 z2 z3 => (a1 p z3).2.2.1 z2, fun hb => (vo hb).frs c fun p z1 z2 z3 => (a1 p z3).2.2.2 z2, c.ext e fun p z1 z2 => by have := (a1 p z2).1; omega⟩
  · rcases z.1 with z1 | z1
    · have := a1 p z1; exact ⟨this.1, z.2, this.2.2⟩
    · exact ⟨by omega, z.2, fun y => by have := (a2 p y).2.1; omega, fun y => by have := (a3 p y).2.1; omega⟩
  · have := a2 p z
    exact ⟨this.1, by omega, fun y => by rcases y.1 with y | y; exact this.2.2.1 y; omega, this.2.2.2⟩
  · have := a3 p z
    exact ⟨this.1, by omega, fun y => by rcases y.1 with y | y; exact this.2.2.1 y; omega, this.2.2.2⟩
theorem P3.oput (v : P3 b3 hB h q Nq Mq x Nx Mx o No Mo) (hb3 : b3 = true) (hN : No ≤ 1000000) (id key : Int) : Tot tab f_queue_Queue_Put [o, I id, I key] h fun r h' => r = .bool (putM No Mo id key).2 ∧ P3 b3 hB h' q Nq Mq x Nx Mx o No (putM No Mo id key).1 := by
  obtain ⟨Wq, Wx, Wo, a1, a2, a3, vq, vx, vo, e⟩ := v
  refine (qPut_spec (vo hb3) hN id key).mono ?_
  rintro r h' ⟨a, b, c⟩
  have hl := c.len
  have hbl := e.len
  refine ⟨a, Wq, Wx, fun p => (Wo p ∨ h.length ≤ p) ∧ p < h'.length, fun p z => ?_, fun p z => ?_, fun p z => ?_, vq.frs c fun p z1 z2 z3 => (a3 p z3).2.2.1 z2, vx.frs c fun p z1 z2 z3 => (a3 p z3).2.2.2 z2, fun _ => b.mono fun p z1 z2 => ⟨z2, z1⟩, c.ext e fun p z1 z2 => by have := (a3 p z2).1; omega⟩
  · have := a1 p z
    exact ⟨this.1, by omega, this.2.2.1, fun y => by rcases y.1 with y | y; exact this.2.2.2 y; omega⟩
  · have := a2 p z
    exact ⟨this.1, by omega, this.2.2.1, fun y => by rcases y.1 with y | y; exact this.2.2.2 y; omega⟩
  · rcases z.1 with z1 | z1
    · have := a3 p z1; exact ⟨this.1, z.2, this.2.2⟩
    · exact ⟨by omega, z.2, fun y => by have := (a1 p y).2.1; omega, fun y => by have := (a2 p y).2.1; omega⟩
theorem P3.keep {D : Nat → Prop} (e : Ext hB h) (c : FrS D h h') (hd : ∀ p, D p → hB.length ≤ p) : Ext hB h' := c.ext e fun p z1 z2 => by have := hd p z2; omega
theorem P3.qpop (v : P3 b3 hB h q Nq Mq x Nx Mx o No Mo) (hN : Nq ≤ 1000000) : Tot tab f_queue_Queue_Pop [q] h fun r h' => ∃ M2, PopQ Nq Mq r M2 ∧ P3 b3 hB h' q Nq M2 x Nx Mx o No Mo := by
  obtain ⟨Wq, Wx, Wo, a1, a2, a3, vq, vx, vo, e⟩ := v
  refine (qPop_spec vq hN).mono ?_
  rintro r h' ⟨M2, a, b, c⟩
  have hl := c.len
  refine ⟨M2, a, Wq, Wx, Wo, fun p z => ?_, fun p z => ?_, fun p z => ?_, b, vx.frs c fun p z1 z2 z3 => (a1 p z3).2.2.1 z2, fun hb => (vo hb).frs c fun p z1 z2 z3 => (a1 p z3).2.2.2 z2, P3.keep e c fun p z => (a1 p z).1⟩
  · have := a1 p z; exact ⟨this.1, by omega, this.2.2⟩
  · have := a2 p z; exact ⟨this.1, by omega, this.2.2⟩
  · have := a3 p z; exact ⟨this.1, by omega, this.2.2⟩
theorem P3.opop (v : P3 b3 hB h q Nq Mq x Nx Mx o No Mo) (hb3 : b3 = true) (hN : No ≤ 1000000) : Tot tab f_queue_Queue_Pop [o] h fun r h' => ∃ M2, PopQ No Mo r M2 ∧ P3 b3 hB h' q Nq Mq x Nx Mx o No M2 := by
  obtain ⟨Wq, Wx, Wo, a1, a2, a3, vq, vx, vo, e⟩ := v
  refine (qPop_spec (vo hb3) hN).mono ?_
  rintro r h' ⟨M2, a, b, c⟩
  have hl := c.len
  refine ⟨M2, a, Wq, Wx, Wo, fun p z => ?_, fun p z => ?_, fun p z => ?_, vq.frs c fun p z1 z2 z3 => (a3 p z3).2.2.1 z2, vx.frs c fun p z1 z2 z3 => (a3 p z3).2.2.2 z2, fun _ => b, P3.keep e c fun p z => (a3 p z).1⟩
  · have := a1 p z; exact ⟨this.1, by omega, this.2.2⟩
  · have := a2 p z; exact ⟨this.1, by omega, this.2.2⟩
  · have := a3 p z; exact ⟨this.1, by omega, this.2.2⟩
theorem P3.xput (v : P3 b3 hB h q Nq Mq x Nx Mx o No Mo) (hN : Nx ≤ 1000000) (id key : Int) : Tot tab f_milestoneref3_Queue_Put [x, I id, I key] h fun r h' => r = .bool (putM Nx Mx id key).2 ∧ P3 b3 hB h' q Nq Mq x Nx (putM Nx Mx id key).1 o No Mo := by
  obtain ⟨Wq, Wx, Wo, a1, a2, a3, vq, vx, vo, e⟩ := v
  refine (rPut_spec vx hN id key).mono ?_
  rintro r h' ⟨a, b, c⟩
  have hl := c.len
  refine ⟨a, Wq, Wx, Wo, fun p z => ?_, fun p z => ?_, fun p z => ?_, vq.frs c fun p z1 z2 z3 => (a2 p z3).2.2.1 z2, b, fun hb => (vo hb).frs c fun p z1 z2 z3 => (a2 p z3).2.2.2 z2, P3.keep e c fun p z => (a2 p z).1⟩
  · have := a1 p z; exact ⟨this.1, by omega, this.2.2⟩
  · have := a2 p z; exact ⟨this.1, by omega, this.2.2⟩
  · have := a3 p z; exact ⟨this.1, by omega, this.2.2⟩
theorem P3.xpop (v : P3 b3 hB h q Nq Mq x Nx Mx o No Mo) (hN : Nx ≤ 1000000) : Tot tab f_milestoneref3_Queue_Pop [x] h fun r h' => ∃ M2, PopQ Nx Mx r M2 ∧ P3 b3 hB h' q Nq Mq x Nx M2 o No Mo := by
  obtain ⟨Wq, Wx, Wo, a1, a2, a3, vq, vx, vo, e⟩ := v
  refine (rPop_spec vx hN).mono ?_
  rintro r h' ⟨M2, a, b, c⟩
  have hl := c.len
  refine ⟨M2, a, Wq, Wx, Wo, fun p z => ?_, fun p z => ?_, fun p z => ?_, vq.frs c fun p z1 z2 z3 => (a2 p z3).2.2.1 z2, b, fun hb => (vo hb).frs c fun p z1 z2 z3 => (a2 p z3).2.2.2 z2, P3.keep e c fun p z => (a2 p z).1⟩
  · have := a1 p z; exact ⟨this.1, by omega, this.2.2⟩
  · have := a2 p z; exact ⟨this.1, by omega, this.2.2⟩
  · have := a3 p z; exact ⟨this.1, by omega, this.2.2⟩
theorem P3.qkey (v : P3 b3 hB h q Nq Mq x Nx Mx o No Mo) (id : Int) : Tot tab f_queue_Queue_Key [q, I id] h fun r h' => (r = match keyM Nq Mq id with | some k => .tup [I k, .bool true] | none => .tup [I 0, .bool false]) ∧ h = h' := by
  obtain ⟨Wq, Wx, Wo, a1, a2, a3, vq, vx, vo, e⟩ := v
  exact qKey_spec vq id
theorem P3.xkey (v : P3 b3 hB h q Nq Mq x Nx Mx o No Mo) (id : Int) : Tot tab f_milestoneref3_Queue_Key [x, I id] h fun r h' => (r = match keyM Nx Mx id with | some k => .tup [I k, .bool true] | none => .tup [I 0, .bool false]) ∧ h = h' := by
  obtain ⟨Wq, Wx, Wo, a1, a2, a3, vq, vx, vo, e⟩ := v
  exact rKey_spec vx id
theorem P3.qlen (v : P3 b3 hB h q Nq Mq x Nx Mx o No Mo) : Tot tab f_queue_Queue_Len [q] h fun r h' => r = I (cnt Mq) ∧ h = h' := by
  obtain ⟨Wq, Wx, Wo, a1, a2, a3, vq, vx, vo, e⟩ := v
  exact qLen_spec vq
theorem P3.xlen (v : P3 b3 hB h q Nq Mq x Nx Mx o No Mo) : Tot tab f_milestoneref3_Queue_Len [x] h fun r h' => r = I (cnt Mx) ∧ h = h' := by
  obtain ⟨Wq, Wx, Wo, a1, a2, a3, vq, vx, vo, e⟩ := v
  exact rLen_spec vx
theorem P3.lm (v : P3 b3 hB h q Nq Mq x Nx Mx o No Mo) : Mq.length = Nq := by
  obtain ⟨Wq, Wx, Wo, a1, a2, a3, vq, vx, vo, e⟩ := v
  exact vq.lm
theorem P3.mk {hB h1 h2 h3 : Heap} (vq : QV (fun p => hB.length ≤ p) h1 q Nq Mq) (e1 : Ext hB h1) (vx : RV (fun p => h1.length ≤ p) h2 x Nx Mx) (e2 : Ext h1 h2) (vo : b3 = true → QV (fun p => h2.length ≤ p) h3 o No Mo) (e3 : Ext h2 h3) : P3 b3 hB h3 q Nq Mq x Nx Mx o No Mo := by
  have l1 := e1.len
  have l2 := e2.len
  have l3 := e3.len
  refine ⟨fun p => hB.length ≤ p ∧ p < h1.length, fun p => h1.length ≤ p ∧ p < h2.length, fun p => h2.length ≤ p ∧ p < h3.length, fun p z => ⟨by omega, by omega, by omega, by omega⟩, fun p z => ⟨by omega, by omega, by omega, by omega⟩, fun p z => ⟨by omega, by omega, by omega, by omega⟩, ?_, ?_, fun hb => (vo hb).mono fun p z1 z2 => ⟨z2, z1⟩, (e1.trans e2).trans e3⟩
  · exact (vq.mono fun p z1 z2 => ⟨z2, z1⟩).ext (e2.trans e3)
  · exact (vx.mono fun p z1 z2 => ⟨z2, z1⟩).ext e3
end
end Go.Gm.A3
