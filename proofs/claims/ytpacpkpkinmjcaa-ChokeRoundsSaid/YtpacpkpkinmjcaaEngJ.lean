/- Engine, part J: bits of a signed number under small masks. Nothing here names a program. -/
import Derived.Test.YtpacpkpkinmjcaaEngI
set_option linter.unusedVariables false
set_option linter.unusedSimpArgs false
namespace Go.SL
theorem ofInt64 (x : Int) : (BitVec.ofInt IntKind.i64.bits x).toNat = (x % 18446744073709551616).toNat := by
  rw [BitVec.toNat_ofInt]; rfl
theorem and1_i64 (x : Int) : IntKind.i64.wrap ((BitVec.ofInt IntKind.i64.bits x &&& BitVec.ofInt IntKind.i64.bits 1).toNat : Int) = x % 2 := by
  have e2 : (BitVec.ofInt IntKind.i64.bits (1 : Int)).toNat = 2 ^ 1 - 1 := by decide
  rw [BitVec.toNat_and, ofInt64, e2, Nat.and_two_pow_sub_one_eq_mod, wrap_in (by simp only [inK]; omega)]
  omega
theorem and3_i64 (x : Int) : IntKind.i64.wrap ((BitVec.ofInt IntKind.i64.bits x &&& BitVec.ofInt IntKind.i64.bits 3).toNat : Int) = x % 4 := by
  have e2 : (BitVec.ofInt IntKind.i64.bits (3 : Int)).toNat = 2 ^ 2 - 1 := by decide
  rw [BitVec.toNat_and, ofInt64, e2, Nat.and_two_pow_sub_one_eq_mod, wrap_in (by simp only [inK]; omega)]
  omega
theorem and2_i64 (x : Int) : IntKind.i64.wrap ((BitVec.ofInt IntKind.i64.bits x &&& BitVec.ofInt IntKind.i64.bits 2).toNat : Int) = x % 4 - x % 2 := by
  have e2 : (BitVec.ofInt IntKind.i64.bits (2 : Int)).toNat = (2 ^ 2 - 1) &&& 2 := by decide
  have h : ∀ y, y < 4 → y &&& 2 = y - y % 2 := by decide
  rw [BitVec.toNat_and, ofInt64, e2, ← Nat.and_assoc, Nat.and_two_pow_sub_one_eq_mod, h _ (by omega), wrap_in (by simp only [inK]; omega)]
  omega
end Go.SL
