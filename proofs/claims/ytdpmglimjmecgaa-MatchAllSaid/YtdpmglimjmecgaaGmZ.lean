/- A part of the proof: GmZ: an abstract machine, what it does, and what the functions of the program come to on it. -/
import Derived.Test.YtdpmglimjmecgaaGmY
set_option linter.unusedVariables false
set_option linter.unusedSimpArgs false
namespace Go.Gm
/- Bits of whole numbers that are not below nothing. -/
theorem or_i {a b : Nat} (ha : a < 2 ^ 62) (hb : b < 2 ^ 62) : binV .or .scalar (I a) (I b) = some (I ((a ||| b : Nat) : Int)) := by
  show some (AV.int .i64 (bitsI .or .i64 a b)) = _
  have h : a ||| b < 2 ^ 62 := Nat.or_lt_two_pow ha hb
  have : bitsI .or .i64 a b = ((a ||| b : Nat) : Int) := by
    have key : (BitVec.ofInt 64 (a : Int) ||| BitVec.ofInt 64 (b : Int)).toNat = a ||| b := by
      rw [BitVec.ofInt_natCast, BitVec.ofInt_natCast, BitVec.toNat_or, BitVec.toNat_ofNat, BitVec.toNat_ofNat, Nat.mod_eq_of_lt (by omega), Nat.mod_eq_of_lt (by omega)]
    show IntKind.i64.wrap ((BitVec.ofInt 64 (a : Int) ||| BitVec.ofInt 64 (b : Int)).toNat : Int) = _
    rw [key]
    exact wrap_id (by omega) (by omega)
  rw [this]
theorem and_i {a b : Nat} (ha : a < 2 ^ 62) (hb : b < 2 ^ 62) : binV .and .scalar (I a) (I b) = some (I ((a &&& b : Nat) : Int)) := by
  show some (AV.int .i64 (bitsI .and .i64 a b)) = _
  have h : a &&& b < 2 ^ 62 := Nat.and_lt_two_pow _ hb
  have : bitsI .and .i64 a b = ((a &&& b : Nat) : Int) := by
    have key : (BitVec.ofInt 64 (a : Int) &&& BitVec.ofInt 64 (b : Int)).toNat = a &&& b := by
      rw [BitVec.ofInt_natCast, BitVec.ofInt_natCast, BitVec.toNat_and, BitVec.toNat_ofNat, BitVec.toNat_ofNat, Nat.mod_eq_of_lt (by omega), Nat.mod_eq_of_lt (by omega)]
    show IntKind.i64.wrap ((BitVec.ofInt 64 (a : Int) &&& BitVec.ofInt 64 (b : Int)).toNat : Int) = _
    rw [key]
    exact wrap_id (by omega) (by omega)
  rw [this]
theorem andNot_0 {a b : Nat} (ha : a < 2 ^ 62) (hb : b < 2 ^ 62) (hab : ∀ m, a.testBit m = true → b.testBit m = true) : binV .andNot .scalar (I a) (I b) = some (I 0) := by
  show some (AV.int .i64 (bitsI .andNot .i64 a b)) = _
  have : bitsI .andNot .i64 a b = 0 := by
    have key : BitVec.ofInt 64 (a : Int) &&& ~~~ BitVec.ofInt 64 (b : Int) = 0#64 := by
      rw [BitVec.ofInt_natCast, BitVec.ofInt_natCast]
      apply BitVec.eq_of_getLsbD_eq
      intro i hi
      simp only [BitVec.getLsbD_and, BitVec.getLsbD_not, BitVec.getLsbD_ofNat, hi, decide_true, Bool.true_and, BitVec.getLsbD_zero]
      have := hab i
      cases h1 : a.testBit i
      · simp
      · simp [this h1]
    show IntKind.i64.wrap ((BitVec.ofInt 64 (a : Int) &&& ~~~ BitVec.ofInt 64 (b : Int)).toNat : Int) = _
    rw [key]
    rfl
  rw [this]
theorem shl_i {k : IntKind} {m : Int} (h0 : 0 ≤ m) (h1 : m < 62) : binV .shl .scalar (I 1) (.int k m) = some (I ((2 ^ m.toNat : Nat) : Int)) := by
  show shiftI .shl .i64 1 m = _
  simp only [shiftI]
  rw [if_neg (by omega)]
  have h2 : min m.toNat IntKind.i64.bits = m.toNat := by
    show min m.toNat 64 = _; omega
  have h3 : 2 ^ m.toNat ≤ 2 ^ 62 := Nat.pow_le_pow_right (by omega) (by omega)
  rw [h2]
  congr 2
  rw [Int.one_mul]
  have h4 : ((2 : Int) ^ m.toNat) = ((2 ^ m.toNat : Nat) : Int) := by norm_cast
  rw [h4]
  generalize 2 ^ m.toNat = x at h3
  exact wrap_id (by omega) (by omega)
theorem shr_i {k : IntKind} {s : Nat} {m : Int} (h0 : 0 ≤ m) (h1 : m ≤ 64) : binV .shr .scalar (I s) (.int k m) = some (I ((s >>> m.toNat : Nat) : Int)) := by
  show shiftI .shr .i64 s m = _
  simp only [shiftI]
  rw [if_neg (by omega)]
  have h2 : min m.toNat IntKind.i64.bits = m.toNat := by
    show min m.toNat 64 = _; omega
  rw [h2, Nat.shiftRight_eq_div_pow]
  congr 2
  have h4 : ((2 : Int) ^ m.toNat) = ((2 ^ m.toNat : Nat) : Int) := by norm_cast
  rw [h4]
  generalize 2 ^ m.toNat = x
  rw [Int.fdiv_eq_ediv_of_nonneg _ (by omega)]
  rfl
theorem conv_u64 {n : Int} (h0 : 0 ≤ n) (h1 : n < 9223372036854775808) : convV .u64 (I n) = some (.int .u64 n) := by
  show some (AV.int .u64 (IntKind.u64.wrap n)) = _
  congr 2
  simp [IntKind.wrap, IntKind.bits, IntKind.signed]
  omega
theorem ixA_i {n sz : Nat} {m : Option Nat} {cs : List AV} {i : Int} (h0 : 0 ≤ i) (h1 : i < n) : ixA n sz m (.agg cs) (I i) = partL cs (i.toNat * sz) m := by
  simp [ixA, h0, h1]
theorem bit_one {s : Nat} {m : Nat} : ((s >>> m) &&& 1) = if s.testBit m then 1 else 0 := by
  have := Nat.testBit_eq_decide_div_mod_eq (x := s) (i := m)
  rw [Nat.and_one_is_mod, Nat.shiftRight_eq_div_pow, this]
  by_cases h : s / 2 ^ m % 2 = 1
  · simp [h]
  · simp [h]; omega
/-- Is a bit there? The three steps. -/
theorem bit_t {s : Nat} {m : Int} (h0 : 0 ≤ m) (hb : s.testBit m.toNat = true) : binV .eql .scalar (I (((s >>> m.toNat) &&& 1 : Nat) : Int)) (I 1) = some (.bool true) := by
  rw [bit_one, hb]; rfl
theorem bit_f {s : Nat} {m : Int} (h0 : 0 ≤ m) (hb : s.testBit m.toNat = false) : binV .eql .scalar (I (((s >>> m.toNat) &&& 1 : Nat) : Int)) (I 1) = some (.bool false) := by
  rw [bit_one, hb]; rfl
end Go.Gm
