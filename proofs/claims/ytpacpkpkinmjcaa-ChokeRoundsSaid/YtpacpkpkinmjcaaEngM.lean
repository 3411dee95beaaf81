/- Engine, part M: bytes of numbers, numbers of bytes; bits that do not meet. Nothing here names a program. -/
import Derived.Test.YtpacpkpkinmjcaaEngJ
set_option linter.unusedVariables false
set_option linter.unusedSimpArgs false
namespace Go.SL
/-- So many that hold in whatever order, from the i-th on. -/
def sts : Nat → Nat → Pt → Pt
  | _, 0, p => p
  | i, n + 1, p => .st i (sts (i + 1) n p)
theorem conv_u8 (n : Nat) : Value.int .u8 (IntKind.u8.wrap (n : Int)) = u8 (UInt8.ofNat n) := by
  have h : IntKind.u8.wrap (n : Int) = (n : Int) % 256 := by simp [IntKind.wrap, IntKind.bits, IntKind.signed]
  rw [h]
  simp only [u8, UInt8.toNat_ofNat']
  congr 1
theorem or_disj {a c k : Nat} (ha : a < 2 ^ k) : a ||| c * 2 ^ k = a + c * 2 ^ k := by
  have := Nat.shiftLeft_add_eq_or_of_lt ha c
  rw [Nat.shiftLeft_eq] at this
  rw [Nat.or_comm, ← this, Nat.add_comm]
theorem ofNat64 {a : Nat} (h : a < 18446744073709551616) : (BitVec.ofInt IntKind.i64.bits (a : Int)).toNat = a := by
  rw [ofInt64]; omega
theorem ofNatU64 {a : Nat} (h : a < 18446744073709551616) : (BitVec.ofInt IntKind.u64.bits (a : Int)).toNat = a := by
  rw [BitVec.toNat_ofInt]
  show ((a : Int) % 18446744073709551616).toNat = a
  omega
theorem ofNatU8 {a : Nat} (h : a < 256) : (BitVec.ofInt IntKind.u8.bits (a : Int)).toNat = a := by
  rw [BitVec.toNat_ofInt]
  show ((a : Int) % 256).toNat = a
  omega
theorem or_i64 {a c k : Nat} (ha : a < 2 ^ k) (h : a + c * 2 ^ k < 9223372036854775808) :
    IntKind.i64.wrap ((BitVec.ofInt IntKind.i64.bits (a : Int) ||| BitVec.ofInt IntKind.i64.bits ((c * 2 ^ k : Nat) : Int)).toNat : Int) = ((a + c * 2 ^ k : Nat) : Int) := by
  rw [BitVec.toNat_or, ofNat64 (by omega), ofNat64 (by omega), or_disj ha]
  exact wrap_in (by simp only [inK]; omega)
theorem or_u64 {a c k : Nat} (ha : a < 2 ^ k) (h : a + c * 2 ^ k < 18446744073709551616) :
    IntKind.u64.wrap ((BitVec.ofInt IntKind.u64.bits (a : Int) ||| BitVec.ofInt IntKind.u64.bits ((c * 2 ^ k : Nat) : Int)).toNat : Int) = ((a + c * 2 ^ k : Nat) : Int) := by
  rw [BitVec.toNat_or, ofNatU64 (by omega), ofNatU64 (by omega), or_disj ha]
  exact wrap_in (by simp only [inK]; omega)
set_option maxRecDepth 10000 in
theorem or128_u8 (x : Nat) (hx : x < 256) : IntKind.u8.wrap ((BitVec.ofInt IntKind.u8.bits (x : Int) ||| BitVec.ofInt IntKind.u8.bits 128).toNat : Int) = ((x % 128 + 128 : Nat) : Int) := by
  have e2 : (BitVec.ofInt IntKind.u8.bits (128 : Int)).toNat = 128 := by decide
  have h : ∀ y, y < 256 → y ||| 128 = y % 128 + 128 := by decide
  rw [BitVec.toNat_or, ofNatU8 hx, e2, h x hx]
  exact wrap_in (by simp only [inK]; omega)
theorem andNot128_u8 (x : Nat) (hx : x < 256) : IntKind.u8.wrap ((BitVec.ofInt IntKind.u8.bits (x : Int) &&& ~~~ BitVec.ofInt IntKind.u8.bits 128).toNat : Int) = ((x % 128 : Nat) : Int) := by
  have e2 : (~~~ BitVec.ofInt IntKind.u8.bits (128 : Int)).toNat = 2 ^ 7 - 1 := by decide
  rw [BitVec.toNat_and, ofNatU8 hx, e2, Nat.and_two_pow_sub_one_eq_mod]
  exact wrap_in (by simp only [inK]; omega)
theorem and_mask_u64 (x n : Nat) (hx : x < 18446744073709551616) (hn : n < 64) : IntKind.u64.wrap ((BitVec.ofInt IntKind.u64.bits (x : Int) &&& BitVec.ofInt IntKind.u64.bits ((2 ^ n - 1 : Nat) : Int)).toNat : Int) = ((x % 2 ^ n : Nat) : Int) := by
  have hp : 2 ^ n < 2 ^ 64 := Nat.pow_lt_pow_right (by omega) hn
  have hpos : 0 < 2 ^ n := Nat.pow_pos (by omega)
  rw [BitVec.toNat_and, ofNatU64 hx, ofNatU64 (by omega), Nat.and_two_pow_sub_one_eq_mod]
  have hlt : x % 2 ^ n < 18446744073709551616 := Nat.lt_of_le_of_lt (Nat.mod_le _ _) hx
  exact wrap_in (by simp only [inK]; omega)
/-- Four bytes of a number, the number of four. -/
def le4 (n : Nat) : List UInt8 := [UInt8.ofNat n, UInt8.ofNat (n / 256), UInt8.ofNat (n / 65536), UInt8.ofNat (n / 16777216)]
def leN (b : List UInt8) : Nat := (b.getD 0 0).toNat + (b.getD 1 0).toNat * 256 + (b.getD 2 0).toNat * 65536 + (b.getD 3 0).toNat * 16777216
theorem le4_len (n : Nat) : (le4 n).length = 4 := rfl
theorem leN_le4 (n : Nat) (h : n < 4294967296) (rest : List UInt8) : leN (le4 n ++ rest) = n := by
  simp only [leN, le4, List.cons_append, List.getD_cons_zero, List.getD_cons_succ, UInt8.toNat_ofNat']
  omega
theorem leN_lt (b : List UInt8) : leN b < 4294967296 := by
  unfold leN
  have h : ∀ x : UInt8, x.toNat < 256 := fun x => x.toNat_lt
  have h0 := h (b.getD 0 0); have h1 := h (b.getD 1 0); have h2 := h (b.getD 2 0); have h3 := h (b.getD 3 0)
  omega
theorem le4_leN (b : List UInt8) (h : b.length = 4) : le4 (leN b) = b := by
  match b, h with
  | [a, b, c, d], _ =>
    have h : ∀ x : UInt8, x.toNat < 256 := fun x => x.toNat_lt
    have h0 := h a; have h1 := h b; have h2 := h c; have h3 := h d
    simp only [leN, le4, List.getD_cons_zero, List.getD_cons_succ, List.cons.injEq, and_true]
    refine ⟨?_, ?_, ?_, ?_⟩ <;> apply UInt8.toNat_inj.1 <;> simp only [UInt8.toNat_ofNat'] <;> omega
end Go.SL
