/- A part of the proof (GmPr): an abstract machine, what it does, and what the functions of the program come to on it. -/
import Derived.Test.YtdpmglimjmecgaaGmP5
import Derived.Test.YtdpmglimjmecgaaGmP4
set_option linter.unusedVariables false
set_option linter.unusedSimpArgs false
namespace Go.Gm
/- The document's reader of expressions, where it succeeds. Plain Lean. -/

def bt (S : ByteArray) (p : Nat) : Option Nat := (S[p]?).map UInt8.toNat
/-- The mode of a sign. -/
def md (c : Nat) : Option Nat := if c = 119 then some 0 else if c = 98 then some 1 else if c = 99 then some 2 else if c = 102 then some 3 else if c = 116 then some 4 else none
/-- Behind a [. -/
def clsF (S : ByteArray) : Nat → Nat → Nat → Option (Nat × Nat)
  | 0, _, _ => none
  | f + 1, p, s => match bt S p with
    | none => none
    | some c => if c = 93 ∧ 0 < s then some (s, p + 1) else match md c with
      | none => none
      | some m => clsF S f (p + 1) (s ||| 2 ^ m)
def dig (c : Option Nat) : Option Nat := match c with
  | some c => if 48 ≤ c ∧ c ≤ 57 then some (c - 48) else none
  | none => none
/-- Behind a {. -/
def tms (S : ByteArray) (p : Nat) : Option (Nat × Nat × Nat) := match dig (bt S p), dig (bt S (p + 2)) with
  | some a, some b => if bt S (p + 1) = some 44 ∧ bt S (p + 3) = some 125 ∧ a ≤ b then some (a, b, p + 4) else none
  | _, _ => none
inductive PM where
  | at | pc | pcl (n : Nd) | jn | jnl (l : List Nd) | un | unl (l : List Nd)
def finJ : List Nd → Nd
  | [n] => n
  | l => .join l
def finU : List Nd → Nd
  | [n] => n
  | l => .uni l
/-- What stands from p on: the expression, where it ends. -/
def prs (S : ByteArray) : Nat → Nat → PM → Nat → Option (Nd × Nat)
  | 0, _, _, _ => none
  | f + 1, d, .at, p => match bt S p with
    | none => none
    | some c =>
      if c = 40 then
        if 30 ≤ d then none else match prs S f (d + 1) .un (p + 1) with
          | some (n, q) => if bt S q = some 41 then some (n, q + 1) else none
          | none => none
      else match md c with
        | some m => some (.set (2 ^ m), p + 1)
        | none => if c = 46 then some (.set 31, p + 1) else if c = 48 then some (.emp, p + 1) else if c = 95 then some (.eps, p + 1)
          else if c = 91 then (match clsF S f (p + 1) 0 with | some (s, q) => some (.set s, q) | none => none) else none
  | f + 1, d, .pc, p => match prs S f d .at p with
    | some (n, q) => prs S f d (.pcl n) q
    | none => none
  | f + 1, d, .pcl n, p => match bt S p with
    | none => some (n, p)
    | some c => if c = 42 then prs S f d (.pcl (.star n)) (p + 1) else if c = 43 then prs S f d (.pcl (.plus n)) (p + 1) else if c = 63 then prs S f d (.pcl (.opt n)) (p + 1)
      else if c = 123 then (match tms S (p + 1) with | some (a, b, q) => prs S f d (.pcl (.rep a b n)) q | none => none) else some (n, p)
  | f + 1, d, .jn, p => match prs S f d .pc p with
    | some (n, q) => prs S f d (.jnl [n]) q
    | none => none
  | f + 1, d, .jnl l, p => match bt S p with
    | none => some (finJ l, p)
    | some c => if c = 124 then some (finJ l, p) else if c = 41 then some (finJ l, p) else match prs S f d .pc p with
      | some (n, q) => prs S f d (.jnl (l ++ [n])) q
      | none => none
  | f + 1, d, .un, p => match prs S f d .jn p with
    | some (n, q) => prs S f d (.unl [n]) q
    | none => none
  | f + 1, d, .unl l, p => match bt S p with
    | none => some (finU l, p)
    | some c => if c = 124 then match prs S f d .jn (p + 1) with
        | some (n, q) => prs S f d (.unl (l ++ [n])) q
        | none => none
      else some (finU l, p)
/-- Bytes as numbers of their kind. -/
abbrev U8 (n : Nat) : AV := .int .u8 n
theorem bt_ix {S : ByteArray} {p c : Nat} (h : bt S p = some c) : ixS (.str S) (I p) = some (U8 c) := by
  simp only [bt, Option.map_eq_some_iff] at h
  obtain ⟨b, h1, rfl⟩ := h
  simp [ixS, h1]
theorem bt_lt {S : ByteArray} {p c : Nat} (h : bt S p = some c) : p < S.size := by
  simp only [bt, Option.map_eq_some_iff] at h
  obtain ⟨b, h1, rfl⟩ := h
  exact (getElem?_eq_some_iff.1 h1).1
theorem bt_none {S : ByteArray} {p : Nat} (h : bt S p = none) : S.size ≤ p := by
  simp only [bt, Option.map_eq_none_iff] at h
  by_cases hp : p < S.size
  · rw [getElem?_pos S p hp] at h; cases h
  · omega
theorem equ_t {a : Nat} {b : Int} (h : (a : Int) = b) : binV .eql .scalar (U8 a) (.int .u8 b) = some (.bool true) := by
  show some (AV.bool ((a : Int) == b)) = _
  rw [h]; simp
theorem equ_f {a : Nat} {b : Int} (h : ¬ (a : Int) = b) : binV .eql .scalar (U8 a) (.int .u8 b) = some (.bool false) := by
  show some (AV.bool ((a : Int) == b)) = _
  simp [h]
theorem neu_t {a : Nat} {b : Int} (h : ¬ (a : Int) = b) : binV .neq .scalar (U8 a) (.int .u8 b) = some (.bool true) := by
  show some (AV.bool ((a : Int) != b)) = _
  simp [bne, h]
theorem neu_f {a : Nat} {b : Int} (h : (a : Int) = b) : binV .neq .scalar (U8 a) (.int .u8 b) = some (.bool false) := by
  show some (AV.bool ((a : Int) != b)) = _
  rw [h]; simp
theorem lsu_t {a : Nat} {b : Int} (h : (a : Int) < b) : binV .lss .scalar (U8 a) (.int .u8 b) = some (.bool true) := by
  show some (AV.bool (decide ((a : Int) < b))) = _
  simp [h]
theorem lsu_f {a : Nat} {b : Int} (h : ¬ (a : Int) < b) : binV .lss .scalar (U8 a) (.int .u8 b) = some (.bool false) := by
  show some (AV.bool (decide ((a : Int) < b))) = _
  simp [h]
theorem gtu_t {a : Nat} {b : Int} (h : (a : Int) > b) : binV .gtr .scalar (U8 a) (.int .u8 b) = some (.bool true) := by
  show some (AV.bool (decide ((a : Int) > b))) = _
  simp [h]
theorem gtu_f {a : Nat} {b : Int} (h : ¬ (a : Int) > b) : binV .gtr .scalar (U8 a) (.int .u8 b) = some (.bool false) := by
  show some (AV.bool (decide ((a : Int) > b))) = _
  simp [h]
end Go.Gm
