/- choke, part c: numbers that look like chance. -/
import Derived.Test.YtpacpkpkinmjcaaCb
set_option linter.unusedVariables false
set_option linter.unusedSimpArgs false
namespace Go.Proofs.Ytpacpkpkinmjcaa
open Go Go.SL
theorem wrap_u64 (x : Int) : 0 ≤ IntKind.u64.wrap x ∧ IntKind.u64.wrap x < 18446744073709551616 := by
  simp [IntKind.wrap, IntKind.bits, IntKind.signed]
  omega
def xorU (a b : Int) : Int := IntKind.u64.wrap ((BitVec.ofInt IntKind.u64.bits a ^^^ BitVec.ofInt IntKind.u64.bits b).toNat : Int)
def shrU (a : Int) (k : Int) : Int := a / 2 ^ (min k.toNat IntKind.u64.bits)
def mixV (z : Int) : Int :=
  xorU (IntKind.u64.wrap (xorU (IntKind.u64.wrap (xorU z (shrU z 30) * 13787848793156543929)) (shrU (IntKind.u64.wrap (xorU z (shrU z 30) * 13787848793156543929)) 27) * 10723151780598845931))
    (shrU (IntKind.u64.wrap (xorU (IntKind.u64.wrap (xorU z (shrU z 30) * 13787848793156543929)) (shrU (IntKind.u64.wrap (xorU z (shrU z 30) * 13787848793156543929)) 27) * 10723151780598845931)) 31)
def nextS (s : Int) : Int := IntKind.u64.wrap (s + 11400714819323198485)
theorem mixV_range (z : Int) : 0 ≤ mixV z ∧ mixV z < 18446744073709551616 := wrap_u64 _
/-- The high half of a product by a small number. -/
def belowN (x n : Nat) : Nat := (x / 4294967296 * n + x % 4294967296 * n / 4294967296) / 4294967296
theorem belowN_lt {x n : Nat} (hx : x < 18446744073709551616) (hn : 0 < n) : belowN x n < n := by
  unfold belowN
  rw [Nat.div_lt_iff_lt_mul (by decide)]
  have h1 : x / 4294967296 * n ≤ 4294967295 * n := Nat.mul_le_mul_right n (by omega)
  have h2 : x % 4294967296 * n ≤ 4294967295 * n := Nat.mul_le_mul_right n (by omega)
  have h3 : x % 4294967296 * n / 4294967296 < n := by omega
  omega
theorem parts_lt {x n : Nat} (hx : x < 18446744073709551616) (hn : n < 4294967296) : x % 4294967296 * n < 18446744073709551616 ∧ x / 4294967296 * n < 18446744073709551616 - 4294967296 ∧ x / 4294967296 * n + x % 4294967296 * n / 4294967296 < 18446744073709551616 := by
  have h1 : x / 4294967296 * n ≤ 4294967295 * 4294967295 := Nat.mul_le_mul (by omega) (by omega)
  have h2 : x % 4294967296 * n ≤ 4294967295 * 4294967295 := Nat.mul_le_mul (by omega) (by omega)
  omega
attribute [local irreducible] J K Ctr Ends pts slc mapR mapI sbRow stock arrS loopP CtrY

set_option maxRecDepth 20000 in
theorem Mul64s_any (a b : Nat) (ha : a < 18446744073709551616) (hb : b < 4294967296) : Ctr Try.prog 46 [.int .u64 (a : Int), .int .u64 (b : Int)] [] (fun r H => (∃ lo, r = .tuple #[.int .u64 ((belowN a b : Nat) : Int), .int .u64 lo]) ∧ H = []) := by
  obtain ⟨p1, p2, p3⟩ := parts_lt ha hb
  have hm : ∀ x : Nat, x < 18446744073709551616 → IntKind.u64.wrap ((BitVec.ofInt IntKind.u64.bits (x : Int) &&& BitVec.ofInt IntKind.u64.bits 4294967295).toNat : Int) = ((x % 4294967296 : Nat) : Int) := fun x hx => by
    have := and_mask_u64 x 32 (by omega) (by omega)
    rw [show ((2 ^ 32 - 1 : Nat) : Int) = 4294967295 from rfl, show x % 2 ^ 32 = x % 4294967296 from rfl] at this
    exact this
  have hs : ∀ x : Nat, (x : Int) / 2 ^ (min (Int.toNat 32) IntKind.u64.bits) = ((x / 4294967296 : Nat) : Int) := fun x => by show (x : Int) / 4294967296 = _; omega
  refine Ctr.enter Try.func46 (by kernel_rfl) rfl Try.ntmps46 rfl rfl ?_
  intro G F R hE
  (refine go ?_)
  refine J_slot 6 (.int .u64 ((a % 4294967296 : Nat) : Int)) rfl (congrArg (Value.int .u64) (hm a ha)) ?_
  refine J_shr rfl rfl rfl (by omega) ?_
  refine J_slot 17 (.int .u64 ((a / 4294967296 : Nat) : Int)) rfl (congrArg (Value.int .u64) (hs a)) ?_
  (refine go ?_)
  refine J_slot 8 (.int .u64 (b : Int)) rfl (congrArg (Value.int .u64) ((hm b (by omega)).trans (by rw [Nat.mod_eq_of_lt hb]))) ?_
  refine J_shr rfl rfl rfl (by omega) ?_
  refine J_slot 21 (.int .u64 0) rfl (congrArg (Value.int .u64) ((hs b).trans (by rw [Nat.div_eq_of_lt hb]; rfl))) ?_
  (refine go ?_)
  refine J_mul rfl rfl rfl (by rw [← Int.natCast_mul]; simp only [inK]; omega) ?_
  refine J_slot 24 (.int .u64 ((a % 4294967296 * b : Nat) : Int)) rfl (by rw [Int.natCast_mul]) ?_
  (refine go ?_)
  refine J_mul rfl rfl rfl (by rw [← Int.natCast_mul]; simp only [inK]; omega) ?_
  refine J_slot 27 (.int .u64 ((a / 4294967296 * b : Nat) : Int)) rfl (by rw [Int.natCast_mul]) ?_
  (refine go ?_)
  refine J_shr rfl rfl rfl (by omega) ?_
  refine J_slot 29 (.int .u64 ((a % 4294967296 * b / 4294967296 : Nat) : Int)) rfl (congrArg (Value.int .u64) (hs _)) ?_
  refine J_isBin ?_
  refine J_add rfl rfl rfl (by rw [← Int.natCast_add]; simp only [inK]; omega) ?_
  refine J_slot 30 (.int .u64 ((a / 4294967296 * b + a % 4294967296 * b / 4294967296 : Nat) : Int)) rfl (by rw [Int.natCast_add]) ?_
  (refine go ?_)
  refine J_slot 12 (.int .u64 (((a / 4294967296 * b + a % 4294967296 * b / 4294967296) % 4294967296 : Nat) : Int)) rfl (congrArg (Value.int .u64) (hm _ p3)) ?_
  refine J_shr rfl rfl rfl (by omega) ?_
  refine J_slot 34 (.int .u64 ((belowN a b : Nat) : Int)) rfl (congrArg (Value.int .u64) (hs _)) ?_
  have hbn : belowN a b < 4294967296 := by unfold belowN; omega
  (refine go ?_)
  refine J_mul rfl rfl rfl (by simp [inK]) ?_
  refine J_slot 38 (.int .u64 0) rfl (by simp) ?_
  (refine go ?_)
  refine J_mul rfl rfl rfl (by simp [inK]) ?_
  refine J_slot 42 (.int .u64 0) rfl (by simp) ?_
  (refine go ?_)
  refine J_shr rfl rfl rfl (by omega) ?_
  refine J_slot 46 (.int .u64 0) rfl (congrArg (Value.int .u64) (by
    show (_ + 0 : Int) / 4294967296 = 0
    omega)) ?_
  (refine go ?_)
  refine J_mulW rfl rfl rfl ?_
  (refine go ?_)
  (first | refine J_slot 4 ((.int .u64 ((belowN a b : Nat) : Int))) rfl ((congrArg (Value.int .u64) (by omega))) ?_ | refine K_slot 4 ((.int .u64 ((belowN a b : Nat) : Int))) rfl ((congrArg (Value.int .u64) (by omega))) ?_)
  (first | refine K_return hE Try.func46 rfl _ rfl ⟨⟨_, rfl⟩, rfl⟩ entA | refine K_fallEnd hE Try.func46 rfl _ rfl ⟨⟨_, rfl⟩, rfl⟩ entA)
theorem drawNew_any (s : Int) : Ctr Try.prog 31 [.int .u64 s] [] (fun r H => ∃ b, r = ptr b ∧ H = [pts b (cl [.int .u64 s] 81)]) := by
  refine Ctr.enter Try.func31 (by kernel_rfl) rfl Try.ntmps31 rfl rfl ?_
  intro G F R hE
  (refine go ?_)
  refine J_box rfl rfl (fun _ _ _ => trivial) ?_
  intro bx
  (refine go ?_)
  (first | refine K_return hE Try.func31 rfl _ rfl ⟨_, rfl, rfl⟩ entA | refine K_fallEnd hE Try.func31 rfl _ rfl ⟨_, rfl, rfl⟩ entA)
theorem Next_any (b : Nat) (s : Int) : Ctr Try.prog 47 [ptr b] [pts b (cl [.int .u64 s] 81)] (fun r H => r = .int .u64 (mixV (nextS s)) ∧ H = [pts b (cl [.int .u64 (nextS s)] 81)]) := by
  refine Ctr.enter Try.func47 (by kernel_rfl) rfl Try.ntmps47 rfl rfl ?_
  intro G F R hE
  (repeat (first | refine go1 ?_ | refine J_fork ?_ ?_ | refine J_shr rfl rfl rfl (by omega) ?_ | refine J_mulW rfl rfl rfl ?_ | refine J_addW rfl rfl rfl ?_))
  (first | refine K_return hE Try.func47 rfl _ rfl ⟨rfl, rfl⟩ entA | refine K_fallEnd hE Try.func47 rfl _ rfl ⟨rfl, rfl⟩ entA)
theorem Below_any (b : Nat) (s : Int) (n : Nat) (hn : n < 4294967296) : Ctr Try.prog 32 [ptr b, .int .u64 (n : Int)] [pts b (cl [.int .u64 s] 81)] (fun r H => r = .int .u64 ((belowN (mixV (nextS s)).toNat n : Nat) : Int) ∧ H = [pts b (cl [.int .u64 (nextS s)] 81)]) := by
  have hN := Next_any b s
  have hr := mixV_range (nextS s)
  obtain ⟨x, hx⟩ : ∃ x : Nat, mixV (nextS s) = (x : Int) := ⟨(mixV (nextS s)).toNat, by omega⟩
  rw [hx] at hN hr ⊢
  rw [Int.toNat_natCast]
  refine Ctr.enter Try.func32 (by kernel_rfl) rfl Try.ntmps32 rfl rfl ?_
  intro G F R hE
  (refine go ?_)
  (first | refine J_callE rfl rfl rfl rfl (hN) entA ?_ (fun _ _ _ _ _ => trivial) | refine J_call0E rfl rfl rfl (hN) entA ?_ (fun _ _ _ _ _ => trivial) | (refine go ?_; first | refine J_callE rfl rfl rfl rfl (hN) entA ?_ (fun _ _ _ _ _ => trivial) | refine J_call0E rfl rfl rfl (hN) entA ?_ (fun _ _ _ _ _ => trivial)))
  rintro _ _ ⟨rfl, rfl⟩
  (refine go ?_)
  (first | refine J_callE rfl rfl rfl rfl (Mul64s_any x n (by omega) hn) entA ?_ (fun _ _ _ _ _ => trivial) | refine J_call0E rfl rfl rfl (Mul64s_any x n (by omega) hn) entA ?_ (fun _ _ _ _ _ => trivial) | (refine go ?_; first | refine J_callE rfl rfl rfl rfl (Mul64s_any x n (by omega) hn) entA ?_ (fun _ _ _ _ _ => trivial) | refine J_call0E rfl rfl rfl (Mul64s_any x n (by omega) hn) entA ?_ (fun _ _ _ _ _ => trivial)))
  rintro _ _ ⟨⟨lo, rfl⟩, rfl⟩
  (refine go ?_)
  (first | refine K_return hE Try.func32 rfl _ rfl ⟨rfl, rfl⟩ entA | refine K_fallEnd hE Try.func32 rfl _ rfl ⟨rfl, rfl⟩ entA)
theorem Mix_any (z : Int) : Ctr Try.prog 69 [.int .u64 z] [] (fun r H => r = .int .u64 (mixV z) ∧ H = []) := by
  refine Ctr.enter Try.func69 (by kernel_rfl) rfl Try.ntmps69 rfl rfl ?_
  intro G F R hE
  (repeat (first | refine go1 ?_ | refine J_fork ?_ ?_ | refine J_shr rfl rfl rfl (by omega) ?_ | refine J_mulW rfl rfl rfl ?_ | refine J_addW rfl rfl rfl ?_))
  (first | refine K_return hE Try.func69 rfl _ rfl ⟨rfl, rfl⟩ entA | refine K_fallEnd hE Try.func69 rfl _ rfl ⟨rfl, rfl⟩ entA)
theorem refNext_any (b : Nat) (s : Int) : Ctr Try.prog 49 [ptr b] [pts b (cl [.int .u64 s] 71)] (fun r H => r = .int .u64 (mixV (nextS s)) ∧ H = [pts b (cl [.int .u64 (nextS s)] 71)]) := by
  refine Ctr.enter Try.func49 (by kernel_rfl) rfl Try.ntmps49 rfl rfl ?_
  intro G F R hE
  (repeat (first | refine go1 ?_ | refine J_fork ?_ ?_ | refine J_shr rfl rfl rfl (by omega) ?_ | refine J_mulW rfl rfl rfl ?_ | refine J_addW rfl rfl rfl ?_))
  (first | refine J_callE rfl rfl rfl rfl (Mix_any (nextS s)) entA ?_ (fun _ _ _ _ _ => trivial) | refine J_call0E rfl rfl rfl (Mix_any (nextS s)) entA ?_ (fun _ _ _ _ _ => trivial) | (refine go ?_; first | refine J_callE rfl rfl rfl rfl (Mix_any (nextS s)) entA ?_ (fun _ _ _ _ _ => trivial) | refine J_call0E rfl rfl rfl (Mix_any (nextS s)) entA ?_ (fun _ _ _ _ _ => trivial)))
  rintro _ _ ⟨rfl, rfl⟩
  (refine go ?_)
  (first | refine K_return hE Try.func49 rfl _ rfl ⟨rfl, rfl⟩ entA | refine K_fallEnd hE Try.func49 rfl _ rfl ⟨rfl, rfl⟩ entA)
theorem refBelow_any (b : Nat) (s : Int) (n : Nat) (hn : n < 4294967296) : Ctr Try.prog 37 [ptr b, .int .u64 (n : Int)] [pts b (cl [.int .u64 s] 71)] (fun r H => r = .int .u64 ((belowN (mixV (nextS s)).toNat n : Nat) : Int) ∧ H = [pts b (cl [.int .u64 (nextS s)] 71)]) := by
  have hN := refNext_any b s
  have hr := mixV_range (nextS s)
  obtain ⟨x, hx⟩ : ∃ x : Nat, mixV (nextS s) = (x : Int) := ⟨(mixV (nextS s)).toNat, by omega⟩
  rw [hx] at hN hr ⊢
  rw [Int.toNat_natCast]
  have hx64 : x < 18446744073709551616 := by omega
  obtain ⟨p1, p2, p3⟩ := parts_lt hx64 hn
  refine Ctr.enter Try.func37 (by kernel_rfl) rfl Try.ntmps37 rfl rfl ?_
  intro G F R hE
  (refine go ?_)
  (first | refine J_callE rfl rfl rfl rfl (hN) entA ?_ (fun _ _ _ _ _ => trivial) | refine J_call0E rfl rfl rfl (hN) entA ?_ (fun _ _ _ _ _ => trivial) | (refine go ?_; first | refine J_callE rfl rfl rfl rfl (hN) entA ?_ (fun _ _ _ _ _ => trivial) | refine J_call0E rfl rfl rfl (hN) entA ?_ (fun _ _ _ _ _ => trivial)))
  rintro _ _ ⟨rfl, rfl⟩
  (refine go ?_)
  refine J_quo rfl rfl rfl (by omega) (by omega) (by simp only [inK]; omega) ?_
  (first | refine J_slot 16 ((.int .u64 ((x / 4294967296 : Nat) : Int))) rfl ((congrArg (Value.int .u64) (by omega))) ?_ | refine K_slot 16 ((.int .u64 ((x / 4294967296 : Nat) : Int))) rfl ((congrArg (Value.int .u64) (by omega))) ?_)
  (refine go ?_)
  refine J_rem rfl rfl rfl (by omega) (by omega) ?_
  (first | refine J_slot 18 ((.int .u64 ((x % 4294967296 : Nat) : Int))) rfl ((congrArg (Value.int .u64) (by omega))) ?_ | refine K_slot 18 ((.int .u64 ((x % 4294967296 : Nat) : Int))) rfl ((congrArg (Value.int .u64) (by omega))) ?_)
  (refine go ?_)
  refine J_quo rfl rfl rfl (by omega) (by omega) (by simp only [inK]; omega) ?_
  (first | refine J_slot 20 ((.int .u64 0)) rfl ((congrArg (Value.int .u64) (by omega))) ?_ | refine K_slot 20 ((.int .u64 0)) rfl ((congrArg (Value.int .u64) (by omega))) ?_)
  (refine go ?_)
  refine J_rem rfl rfl rfl (by omega) (by omega) ?_
  (first | refine J_slot 22 ((.int .u64 (n : Int))) rfl ((congrArg (Value.int .u64) (by omega))) ?_ | refine K_slot 22 ((.int .u64 (n : Int))) rfl ((congrArg (Value.int .u64) (by omega))) ?_)
  (refine go ?_)
  refine J_mul rfl rfl rfl (by rw [← Int.natCast_mul]; simp only [inK]; omega) ?_
  (first | refine J_slot 25 ((.int .u64 ((x % 4294967296 * n : Nat) : Int))) rfl ((by rw [Int.natCast_mul])) ?_ | refine K_slot 25 ((.int .u64 ((x % 4294967296 * n : Nat) : Int))) rfl ((by rw [Int.natCast_mul])) ?_)
  refine J_quo rfl rfl rfl (by omega) (by omega) (by simp only [inK]; omega) ?_
  (first | refine J_slot 26 ((.int .u64 ((x % 4294967296 * n / 4294967296 : Nat) : Int))) rfl ((congrArg (Value.int .u64) (by omega))) ?_ | refine K_slot 26 ((.int .u64 ((x % 4294967296 * n / 4294967296 : Nat) : Int))) rfl ((congrArg (Value.int .u64) (by omega))) ?_)
  (refine go ?_)
  refine J_mul rfl rfl rfl (by rw [← Int.natCast_mul]; simp only [inK]; omega) ?_
  (first | refine J_slot 29 ((.int .u64 ((x / 4294967296 * n : Nat) : Int))) rfl ((by rw [Int.natCast_mul])) ?_ | refine K_slot 29 ((.int .u64 ((x / 4294967296 * n : Nat) : Int))) rfl ((by rw [Int.natCast_mul])) ?_)
  (refine go ?_)
  (first | refine J_slot 11 ((.int .u64 ((x / 4294967296 * n + x % 4294967296 * n / 4294967296 : Nat) : Int))) rfl ((congrArg (Value.int .u64) (by omega))) ?_ | refine K_slot 11 ((.int .u64 ((x / 4294967296 * n + x % 4294967296 * n / 4294967296 : Nat) : Int))) rfl ((congrArg (Value.int .u64) (by omega))) ?_)
  (refine go ?_)
  refine J_mul rfl rfl rfl (by simp [inK]) ?_
  (first | refine J_slot 34 ((.int .u64 0)) rfl ((by simp)) ?_ | refine K_slot 34 ((.int .u64 0)) rfl ((by simp)) ?_)
  (refine go ?_)
  refine J_rem rfl rfl rfl (by omega) (by omega) ?_
  (refine go ?_)
  refine J_mul rfl rfl rfl (by simp [inK]) ?_
  (first | refine J_slot 40 ((.int .u64 0)) rfl ((by simp)) ?_ | refine K_slot 40 ((.int .u64 0)) rfl ((by simp)) ?_)
  (refine go ?_)
  refine J_quo rfl rfl rfl (by omega) (by omega) (by simp only [inK]; omega) ?_
  (refine go ?_)
  refine J_quo rfl rfl rfl (by omega) (by omega) (by simp only [inK]; omega) ?_
  (refine go ?_)
  (first | refine J_slot 4 ((.int .u64 ((belowN x n : Nat) : Int))) rfl ((congrArg (Value.int .u64) (by unfold belowN; omega))) ?_ | refine K_slot 4 ((.int .u64 ((belowN x n : Nat) : Int))) rfl ((congrArg (Value.int .u64) (by unfold belowN; omega))) ?_)
  (first | refine K_return hE Try.func37 rfl _ rfl ⟨rfl, rfl⟩ entA | refine K_fallEnd hE Try.func37 rfl _ rfl ⟨rfl, rfl⟩ entA)
end Go.Proofs.Ytpacpkpkinmjcaa
