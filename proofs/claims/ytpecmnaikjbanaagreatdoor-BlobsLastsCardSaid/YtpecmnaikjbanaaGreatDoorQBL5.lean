/- Texts of one claim, joined: Jb, Tl, Te0, Ha, Hb, Pt, Lb, Fa, Fb, Fc, Fd, Fe, Ff. -/
import Derived.Test.YtpecmnaikjbanaaGreatDoorQBL3
import Derived.Test.YtpecmnaikjbanaaGreatDoorQBL4
/- journal, plain: numbers in groups of seven bits. Nothing here names a program. -/
set_option linter.unusedVariables false
set_option linter.unusedSimpArgs false
namespace Go.SL
def uv (n : Nat) : List UInt8 := if n < 128 then [UInt8.ofNat n] else UInt8.ofNat (n % 128 + 128) :: uv (n / 128)
termination_by n
decreasing_by omega
theorem uv_small {n : Nat} (h : n < 128) : uv n = [UInt8.ofNat n] := by rw [uv, if_pos h]
theorem uv_big {n : Nat} (h : ¬ n < 128) : uv n = UInt8.ofNat (n % 128 + 128) :: uv (n / 128) := by rw [uv, if_neg h]
theorem uv_len : ∀ (k n : Nat), n < 128 ^ (k + 1) → (uv n).length ≤ k + 1
 | 0, n, h => by rw [uv_small (by simpa using h)]; simp
 | k + 1, n, h => by
  by_cases hn : n < 128
  ·rw [uv_small hn]; simp
  ·rw [uv_big hn, List.length_cons]
   have := uv_len k (n / 128) (Nat.div_lt_of_lt_mul (by rw [Nat.pow_succ, Nat.mul_comm] at h; exact h))
   omega
theorem uv_len10 {n : Nat} (h : n < 18446744073709551616) : (uv n).length ≤ 10 := uv_len 9 n (Nat.lt_of_lt_of_le h (by decide))
theorem uv_pos (n : Nat) : 0 < (uv n).length := by
 by_cases h : n < 128
 ·rw [uv_small h]; simp
 ·rw [uv_big h]; simp
theorem conv8 (m : Nat) : Value.int .u8 (IntKind.u8.wrap (m : Int)) = .int .u8 ((m % 256 : Nat) : Int) := by
 have h : IntKind.u8.wrap (m : Int) = (m : Int) % 256 := by simp [IntKind.wrap, IntKind.bits, IntKind.signed]
 rw [h]; congr 1
theorem more_u8 (m : Nat) : Value.int .u8 (IntKind.u8.wrap ((BitVec.ofInt IntKind.u8.bits ((m % 256 : Nat) : Int) ||| BitVec.ofInt IntKind.u8.bits 128).toNat : Int)) = u8 (UInt8.ofNat (m % 128 + 128)) := by
 rw [or128_u8 _ (by omega)]
 simp only [u8, UInt8.toNat_ofNat']
 congr 1
 omega
def cutL : Nat → Nat → List UInt8 → Option (Nat × List UInt8 × Bool)
 | _, _, [] => none
 | i, acc, c :: r => if i = 10 ∨ (i = 9 ∧ 1 < c.toNat) then none else if c.toNat < 128 then some (acc + c.toNat * 2 ^ (7 * i), r, decide (i = 0 ∨ 0 < c.toNat)) else cutL (i + 1) (acc + (c.toNat % 128) * 2 ^ (7 * i)) r
def cutA (bs : List UInt8) : Nat × List UInt8 × Bool := (cutL 0 0 bs).getD (0, [], false)
def toUintA (bs : List UInt8) : Option Nat := if (cutA bs).2.2 = true ∧ (cutA bs).2.1 = [] then some (cutA bs).1 else none
theorem step_lt {i acc c : Nat} (ha : acc < 2 ^ (7 * i)) (hc : c < 128) : acc + c * 2 ^ (7 * i) < 2 ^ (7 * (i + 1)) := by
 have h1 : acc + c * 2 ^ (7 * i) < (c + 1) * 2 ^ (7 * i) := by rw [Nat.add_mul, Nat.one_mul]; omega
 have h2 : (c + 1) * 2 ^ (7 * i) ≤ 128 * 2 ^ (7 * i) := Nat.mul_le_mul_right _ (by omega)
 have h3 : 2 ^ (7 * (i + 1)) = 128 * 2 ^ (7 * i) := by rw [show 7 * (i + 1) = 7 * i + 7 from by omega, Nat.pow_add, Nat.mul_comm]
 omega
theorem step_64 {i acc c : Nat} (hi : i ≤ 9) (ha : acc < 2 ^ (7 * i)) (hc : c < 128) (h9 : i = 9 → c ≤ 1) : acc + c * 2 ^ (7 * i) < 18446744073709551616 := by
 by_cases h : i = 9
 ·subst h
  have := h9 rfl
  have h63 : (2 : Nat) ^ (7 * 9) = 9223372036854775808 := by decide
  rw [h63] at ha ⊢
  have : c * 9223372036854775808 ≤ 1 * 9223372036854775808 := Nat.mul_le_mul_right _ this
  omega
 ·have h1 := step_lt ha hc
  have h2 : 2 ^ (7 * (i + 1)) ≤ 2 ^ 63 := Nat.pow_le_pow_right (by omega) (by omega)
  omega
theorem cutL_uv : ∀ (k n i acc : Nat) (rest : List UInt8), n < 128 ^ (k + 1) → i + k ≤ 8 → (i ≠ 0 → n ≠ 0) → cutL i acc (uv n ++ rest) = some (acc + n * 2 ^ (7 * i), rest, true)
 | k, n, i, acc, rest, hn, hik, h0 => by
  by_cases h : n < 128
  ·rw [uv_small h]
   have e : (UInt8.ofNat n).toNat = n := by simp only [UInt8.toNat_ofNat']; omega
   simp only [List.cons_append, List.nil_append, cutL, e]
   rw [if_neg (by omega), if_pos h]
   have : (i = 0 ∨ 0 < n) := by
    by_cases hi : i = 0
    ·exact .inl hi
    ·exact .inr (by have := h0 hi; omega)
   rw [decide_eq_true this]
  ·cases k with
   | zero => simp at hn; omega
   | succ k =>
    rw [uv_big h]
    have e : (UInt8.ofNat (n % 128 + 128)).toNat = n % 128 + 128 := by simp only [UInt8.toNat_ofNat']; omega
    simp only [List.cons_append, cutL, e]
    rw [if_neg (by omega), if_neg (by omega), show (n % 128 + 128) % 128 = n % 128 from by omega,
     cutL_uv k (n / 128) (i + 1) _ rest (Nat.div_lt_of_lt_mul (by rw [Nat.pow_succ, Nat.mul_comm] at hn; exact hn)) (by omega) (by intro _; omega)]
    have h3 : n / 128 * 2 ^ (7 * (i + 1)) = n / 128 * 128 * 2 ^ (7 * i) := by rw [show 7 * (i + 1) = 7 + 7 * i from by omega, Nat.pow_add, Nat.mul_assoc]
    have h4 : n % 128 * 2 ^ (7 * i) + n / 128 * 128 * 2 ^ (7 * i) = n * 2 ^ (7 * i) := by rw [← Nat.add_mul]; congr 1; omega
    rw [h3, Nat.add_assoc, h4]
theorem cutA_uv {n : Nat} (h : n < 9223372036854775808) (rest : List UInt8) : cutA (uv n ++ rest) = (n, rest, true) := by
 unfold cutA
 rw [cutL_uv 8 n 0 0 rest (Nat.lt_of_lt_of_le h (by decide)) (by omega) (by intro h; exact absurd rfl h)]
 simp
theorem toUint_uv {n : Nat} (h : n < 9223372036854775808) : toUintA (uv n) = some n := by
 have := cutA_uv h []
 rw [List.append_nil] at this
 unfold toUintA
 rw [this]; simp
end Go.SL
/- journal, part b: tlv's numbers; encoded; long. -/
namespace Go.Proofs.YtpecmnaikjbanaaGreatDoor
open Go Go.SL
attribute [local irreducible] J K Ctr Ends pts slc mapR mapI sbRow stock arrS loopP
theorem Uint_any (n : Nat) (h : n < 18446744073709551616) : Ctr Tryz.prog 115 [.int .u64 (n : Int)] [] (fun r H => H = [slc 5 1 r (uv n).length (bV (uv n))]) := by
 refine Ctr.enter Tryz.func115 (by kernel_rfl) rfl Tryz.ntmps115 rfl rfl ?_
 intro G F R hE
 refine go ?_
 (first | refine K_ent (slc_lift 5 1 none _) ?_ | refine J_ent (slc_lift 5 1 none _) ?_)
 have hu10 := uv_len10 h
 refine K_loop (fun s : Nat × List UInt8 × Value => s.2.1 ++ uv s.1 = uv n ∧ s.1 ≤ n) (fun s => s.1)
  (fun s => [(0, .int .u64 (s.1 : Int)), (3, s.2.2)])
  (fun s => slc 5 1 s.2.2 s.2.1.length (bV s.2.1) :: F) (n, [], .slice none 0 0) ⟨rfl, Nat.le_refl _⟩ rfl (by repeat (first | exact keep_nil | refine keep_cons rfl ?_)) entA ?_
 rintro ⟨m, done, v⟩ ⟨hm, hmn⟩ ih
 simp only at hm hmn
 have hlen : done.length + (uv m).length ≤ 10 := by rw [← List.length_append, hm]; exact hu10
 have hpos := uv_pos m
 (first | refine J_shape 0 rfl ?_ | refine K_shape 0 rfl ?_)
 rintro va vc hve
 simp only at hve
 subst hve
 refine go ?_
 refine K_condP rfl rfl ?_ ?_
 ·intro hge
  simp only at hge
  have hbig : ¬ m < 128 := by omega
  refine go ?_
  refine J_convW (U := tab) rfl rfl rfl rfl rfl rfl ?_
  refine J_slot 10 (.int .u8 ((m % 256 : Nat) : Int)) rfl (conv8 m) ?_
  refine go ?_
  refine J_slot 11 (u8 (UInt8.ofNat (m % 128 + 128))) rfl (more_u8 m) ?_
  refine J_buildSlice1 (U := tab) (cs := bV [UInt8.ofNat (m % 128 + 128)]) rfl rfl rfl rfl rfl rfl rfl rfl rfl (fun _ _ _ => trivial) ?_
  intro b1
  refine J_append (U := tab) (mm := 1) (news := bV [UInt8.ofNat (m % 128 + 128)]) 1 0 rfl rfl rfl rfl rfl rfl rfl rfl rfl rfl rfl rfl (Vw.pts rfl) rfl (bV_one _) (by simp only; omega) (by show (_ + 1) * 1 ≤ _; simp only; omega) (fun _ => rfl) (fun _ _ _ => trivial) ?_
  intro v1
  rw [show bV done ++ bV [UInt8.ofNat (m % 128 + 128)] = bV (done ++ [UInt8.ofNat (m % 128 + 128)]) from by simp [bV], show done.length + 1 = (done ++ [UInt8.ofNat (m % 128 + 128)]).length from by simp]
  (first | refine J_shape 1 rfl ?_ | refine K_shape 1 rfl ?_)
  rintro wa wc rfl
  refine go ?_
  refine J_shr rfl rfl rfl (by omega) ?_
  refine J_slot 7 (.int .u64 ((m / 128 : Nat) : Int)) rfl (congrArg (Value.int .u64) (by show (m : Int) / 128 = _; omega)) ?_
  refine go ?_
  refine K_again ih (m / 128, done ++ [UInt8.ofNat (m % 128 + 128)], _) rfl ⟨by simp only [List.append_assoc, List.singleton_append]; rw [← uv_big hbig]; exact hm, by simp only; omega⟩ (by simp only; omega) (by repeat (first | exact keep_nil | refine keep_cons rfl ?_)) entA
 ·intro hlt
  simp only at hlt
  have hsm : m < 128 := by omega
  refine go ?_
  refine J_slot 16 (u8 (UInt8.ofNat m)) rfl (by simp only [u8, UInt8.toNat_ofNat']; congr 1; omega) ?_
  refine J_buildSlice1 (U := tab) (cs := bV [UInt8.ofNat m]) rfl rfl rfl rfl rfl rfl rfl rfl rfl (fun _ _ _ => trivial) ?_
  intro b1
  refine J_append (U := tab) (mm := 1) (news := bV [UInt8.ofNat m]) 1 0 rfl rfl rfl rfl rfl rfl rfl rfl rfl rfl rfl rfl (Vw.pts rfl) rfl (bV_one _) (by simp only; omega) (by show (_ + 1) * 1 ≤ _; simp only; omega) (fun _ => rfl) (fun _ _ _ => trivial) ?_
  intro v1
  rw [show bV done ++ bV [UInt8.ofNat m] = bV (uv n) from by rw [← hm, uv_small hsm]; simp [bV], show done.length + 1 = (uv n).length from by rw [← hm, uv_small hsm]; simp]
  refine go ?_
  (first | refine K_return hE Tryz.func115 rfl _ rfl rfl entA | refine K_fallEnd hE Tryz.func115 rfl _ rfl rfl entA)
theorem shlU_slot {x q y : Nat} (hq : q ≤ 64) (h : x * 2 ^ q = y) (hy : y < 18446744073709551616) : Value.int .u64 (IntKind.u64.wrap ((x : Int) * 2 ^ (min ((q : Int).toNat) IntKind.u64.bits))) = .int .u64 (y : Int) := by
 have e : (x : Int) * 2 ^ (min ((q : Int).toNat) IntKind.u64.bits) = (y : Int) := by
  show (x : Int) * 2 ^ (min q 64) = _
  rw [Nat.min_eq_left hq, ← h]; push_cast; rfl
 rw [e, wrap_in (by simp only [inK]; omega)]
theorem nilVw (A : HP) : Vw A (.slice none 0 0) ([] : List UInt8).length (bV []) := ⟨none, 0, rfl, .inl rfl⟩
set_option maxRecDepth 20000 in
theorem cut_any (A : HP) (v : Value) (bs : List UInt8) (hv : Vw A v bs.length (bV bs)) (hcap : ∃ a c, v = .slice a bs.length c ∧ bs.length ≤ c) (hl : bs.length ≤ 9223372036854775807) :
    Ctr Tryz.prog 186 [v] [A] (fun r H => ∃ rv, r = .tuple #[.int .u64 ((cutA bs).1 : Int), rv, .bool (cutA bs).2.2] ∧ (Vw A rv (cutA bs).2.1.length (bV (cutA bs).2.1) ∧ ∃ a c, rv = .slice a (cutA bs).2.1.length c ∧ (cutA bs).2.1.length ≤ c) ∧ H = [A]) := by
  obtain ⟨a0, c0, rfl, hc0⟩ := hcap
  refine Ctr.enter Tryz.func186 (by kernel_rfl) rfl Tryz.ntmps186 rfl rfl ?_
  intro G F R hE
  refine go ?_
  refine K_loop (fun s : Nat × Nat => s.1 ≤ bs.length ∧ s.1 ≤ 10 ∧ (s.1 ≤ 9 → s.2 < 2 ^ (7 * s.1)) ∧ cutL 0 0 bs = cutL s.1 s.2 (bs.drop s.1)) (fun s => bs.length - s.1)
    (fun s => [(0, .slice a0 bs.length c0), (5, .int .u64 (s.2 : Int)), (8, .slice a0 bs.length c0), (9, .int .i64 bs.length), (10, .int .i64 s.1)])
    (fun _ => A :: F) (0, 0) ⟨Nat.zero_le _, by omega, by simp, by simp⟩ rfl (by repeat (first | exact keep_nil | refine keep_cons rfl ?_)) entA ?_
  rintro ⟨i, acc⟩ ⟨hi, hi10, hacc, hcut⟩ ih
  simp only at hi hi10 hacc hcut
  refine go ?_
  refine K_condP rfl rfl ?_ ?_
  case' refine_2 =>
    intro hge
    simp only at hge
    have hnil : cutA bs = (0, [], false) := by
      unfold cutA; rw [hcut, List.drop_eq_nil_of_le (by omega)]; simp [cutL]
    refine go ?_
    rw [hnil] at hE
    (first | refine K_return hE Tryz.func186 rfl _ rfl ⟨_, rfl, ⟨nilVw A, none, 0, rfl, Nat.le_refl _⟩, rfl⟩ entA | refine K_fallEnd hE Tryz.func186 rfl _ rfl ⟨_, rfl, ⟨nilVw A, none, 0, rfl, Nat.le_refl _⟩, rfl⟩ entA)
  intro hlt
  simp only at hlt
  have hi' : i < bs.length := by omega
  obtain ⟨ba, oa, ca, hsl⟩ := bV_at hv (by omega)
  simp only [Value.slice.injEq, true_and] at hsl
  obtain ⟨rfl, rfl⟩ := hsl
  obtain ⟨c, hc⟩ : ∃ c, bs[i]? = some c := ⟨bs[i], by simp⟩
  have hdr : bs.drop i = c :: bs.drop (i + 1) := by
    rw [List.drop_eq_getElem_cons hi']; congr 1
    rw [List.getElem?_eq_getElem hi'] at hc; exact Option.some.inj hc
  have hc256 : c.toNat < 256 := c.toNat_lt
  rw [hdr] at hcut
  simp only [cutL] at hcut
  refine go ?_
  refine J_at1 (U := tab) i rfl rfl rfl rfl rfl rfl rfl rfl hi' ?_
  refine J_loadAt (U := tab) 0 i rfl rfl rfl hv rfl (bV_get hc) rfl rfl ?_
  repeat' (first | (with_reducible intro _hh) | refine go1 ?_ | refine J_fork ?_ ?_ | refine J_gsP rfl rfl rfl rfl ?_ ?_ | refine K_condP rfl rfl ?_ ?_)
  case' refine_1 =>
    have hbad : (i = 10 ∨ (i = 9 ∧ 1 < c.toNat)) := by simp only at *; omega
  case' refine_2.refine_1.refine_1 =>
    have hbad : (i = 10 ∨ (i = 9 ∧ 1 < c.toNat)) := by simp only at *; omega
  case' refine_2.refine_1.refine_2 => 
    have hgood : ¬ (i = 10 ∨ (i = 9 ∧ 1 < c.toNat)) := by simp only at *; omega
  case' refine_2.refine_2 => 
    have hgood : ¬ (i = 10 ∨ (i = 9 ∧ 1 < c.toNat)) := by simp only at *; omega
  any_goals (
    have hnil : cutA bs = (0, [], false) := by unfold cutA; rw [hcut, if_pos hbad]; rfl
    rw [hnil] at hE
    (first | refine K_return hE Tryz.func186 rfl _ rfl ⟨_, rfl, ⟨nilVw A, none, 0, rfl, Nat.le_refl _⟩, rfl⟩ entA | refine K_fallEnd hE Tryz.func186 rfl _ rfl ⟨_, rfl, ⟨nilVw A, none, 0, rfl, Nat.le_refl _⟩, rfl⟩ entA))
  all_goals (
    have hi9 : i ≤ 9 := by omega
    have hac := hacc hi9
    have hm128 : c.toNat % 128 < 128 := Nat.mod_lt _ (by omega)
    have h64 := step_64 (c := c.toNat % 128) hi9 hac hm128 (by intro h; omega)
    refine J_slot 27 (.int .u8 ((c.toNat % 128 : Nat) : Int)) rfl (congrArg (Value.int .u8) (andNot128_u8 _ hc256)) ?_
    refine go ?_
    refine J_mul rfl rfl rfl (by simp only [inK]; omega) ?_
    refine J_slot 30 (.int .i64 ((7 * i : Nat) : Int)) rfl (congrArg (Value.int .i64) (by simp only; omega)) ?_
    refine J_shlW rfl rfl rfl (by omega) ?_
    refine J_slot 31 (.int .u64 ((c.toNat % 128 * 2 ^ (7 * i) : Nat) : Int)) rfl (shlU_slot (by omega) rfl (by omega)) ?_
    refine go ?_
    refine K_slot 5 (.int .u64 ((acc + c.toNat % 128 * 2 ^ (7 * i) : Nat) : Int)) rfl (congrArg (Value.int .u64) (or_u64 hac h64)) ?_
    refine go ?_
    refine K_condP rfl rfl ?_ ?_
    · intro hlow
      have hcm : c.toNat % 128 = c.toNat := by omega
      have hres : cutA bs = (acc + c.toNat % 128 * 2 ^ (7 * i), bs.drop (i + 1), decide (i = 0 ∨ 0 < c.toNat)) := by
        unfold cutA; rw [hcut, if_neg hgood, if_pos (by omega), hcm]; rfl
      refine K_drawA (fun w => Sat G w ([])) (sts 0 14 .nil) rfl (by kernel_rfl) (by kernel_rfl) (by kernel_rfl) (fun w hw => hw.ent entA) ?_
      refine go ?_
      refine J_sliceAny (U := tab) (p := (i : Int) + 1) (q := (bs.length : Int)) rfl rfl rfl rfl rfl rfl rfl (by omega) (by omega) (.inl rfl) ?_
      refine J_slot 39 (.slice (sliceAt (some ⟨ba, oa, none⟩) c0 (i + 1) 1) (bs.drop (i + 1)).length (c0 - (i + 1))) rfl (by rw [show ((i : Int) + 1).toNat = i + 1 from by omega, show ((bs.length : Int)).toNat = bs.length from by omega, List.length_drop]; rfl) ?_
      have hvr : Vw A (.slice (sliceAt (some ⟨ba, oa, none⟩) c0 (i + 1) 1) (bs.drop (i + 1)).length (c0 - (i + 1))) (bs.drop (i + 1)).length (bV (bs.drop (i + 1))) := by
        have := hv.cutk (s := 1) (by rw [bV_length]; omega) hc0 (i + 1) (by omega)
        rw [List.length_drop, show bV (bs.drop (i + 1)) = (bV bs).drop ((i + 1) * 1) from by simp [bV, List.map_drop]]
        exact this
      rw [hres] at hE
      repeat' (first | (with_reducible intro _hh) | refine go1 ?_ | refine J_fork ?_ ?_ | refine J_gsP rfl rfl rfl rfl ?_ ?_ | refine K_condP rfl rfl ?_ ?_)
      all_goals first
        | (have hi0 : i = 0 := (by simp only at _hh; omega)
           rw [decide_eq_true (Or.inl hi0 : i = 0 ∨ 0 < c.toNat)] at hE
           (first | refine K_return hE Tryz.func186 rfl _ rfl ⟨_, rfl, ⟨hvr, _, _, rfl, by simp only [List.length_drop]; omega⟩, rfl⟩ entA | refine K_fallEnd hE Tryz.func186 rfl _ rfl ⟨_, rfl, ⟨hvr, _, _, rfl, by simp only [List.length_drop]; omega⟩, rfl⟩ entA))
        | (have hi0 : ¬ i = 0 := (by simp only at _hh; omega)
           rw [show decide (i = 0 ∨ 0 < c.toNat) = decide ((0 : Int) < (c.toNat : Int)) from decide_eq_decide.2 ⟨fun h => by omega, fun h => .inr (by omega)⟩] at hE
           (first | refine K_return hE Tryz.func186 rfl _ rfl ⟨_, rfl, ⟨hvr, _, _, rfl, by simp only [List.length_drop]; omega⟩, rfl⟩ entA | refine K_fallEnd hE Tryz.func186 rfl _ rfl ⟨_, rfl, ⟨hvr, _, _, rfl, by simp only [List.length_drop]; omega⟩, rfl⟩ entA))
    · intro hhigh
      refine go ?_
      refine K_again ih (i + 1, acc + c.toNat % 128 * 2 ^ (7 * i)) rfl ⟨by simp only; omega, by simp only; omega, fun _ => step_lt hac hm128, by rw [hcut, if_neg hgood, if_neg (by omega)]⟩ (by simp only; omega) (by repeat (first | exact keep_nil | refine keep_cons rfl ?_)) entA)
end Go.Proofs.YtpecmnaikjbanaaGreatDoor
/- tlv: ToUint; bytes that stand somewhere. -/
namespace Go.Proofs.YtpecmnaikjbanaaGreatDoor
open Go Go.SL
attribute [local irreducible] J K Ctr Ends pts slc mapR mapI sbRow stock arrS loopP
def BAt (A : HP) (v : Value) (bs : List UInt8) : Prop := Vw A v bs.length (bV bs) ∧ ∃ a c, v = .slice a bs.length c ∧ bs.length ≤ c
theorem BAt.cut {A : HP} {a : Option Addr} {n c : Nat} {bs : List UInt8} (h : BAt A (.slice a n c) bs) (p : Nat) (hp : p ≤ bs.length) : BAt A (.slice (sliceAt a c p 1) (bs.length - p) (c - p)) (bs.drop p) := by
 obtain ⟨hv, a', c', he, hc⟩ := h
 simp only [Value.slice.injEq] at he
 obtain ⟨rfl, rfl, rfl⟩ := he
 refine ⟨?_, _, _, by rw [List.length_drop], by rw [List.length_drop]; omega⟩
 have := hv.cutk (s := 1) (by rw [bV_length]; omega) hc p hp
 rw [List.length_drop, show bV (bs.drop p) = (bV bs).drop (p * 1) from by simp [bV, List.map_drop]]
 exact this
theorem BAt.front {A : HP} {a : Option Addr} {n c : Nat} {bs : List UInt8} (h : BAt A (.slice a n c) bs) (q : Nat) (hq : q ≤ bs.length) : BAt A (.slice (sliceAt a c 0 1) q c) (bs.take q) := by
 obtain ⟨hv, a', c', he, hc⟩ := h
 simp only [Value.slice.injEq] at he
 obtain ⟨rfl, rfl, rfl⟩ := he
 have hl : (bs.take q).length = q := by rw [List.length_take]; omega
 refine ⟨?_, _, _, by rw [hl], by rw [hl]; omega⟩
 have := hv.cut0 (s := 1) q
 rw [hl, show bV (bs.take q) = (bV bs).take (q * 1) from by simp [bV, List.map_take]]
 exact this
theorem BAt.mono {A B : HP} {v : Value} {bs : List UInt8} (h : BAt A v bs) (hAB : ∀ h, B h → ∃ h', sub h' h ∧ A h') : BAt B v bs := ⟨h.1.mono hAB, h.2⟩
theorem BAt.piece {A : HP} {a : Option Addr} {n c : Nat} {bs : List UInt8} (h : BAt A (.slice a n c) bs) (p q : Nat) (hp : p ≤ q) (hq : q ≤ bs.length) : BAt A (.slice (sliceAt a c p 1) (q - p) (c - p)) ((bs.drop p).take (q - p)) := by
 have h1 := h.cut p (by omega)
 obtain ⟨hv, a', c', he, hc⟩ := h1
 have hlen : ((bs.drop p).take (q - p)).length = q - p := by rw [List.length_take, List.length_drop]; omega
 refine ⟨?_, _, _, by rw [hlen], by rw [hlen]; obtain ⟨_, _, _, he2, hc2⟩ := h; simp only [Value.slice.injEq] at he2; omega⟩
 obtain ⟨a2, cap2, he2, h0 | ⟨b, o, ha, hc2⟩⟩ := hv
 ·simp only [Value.slice.injEq] at he2
  have : (bs.drop p) = [] := by simpa [bV] using h0
  refine ⟨_, _, by rw [hlen], .inl ?_⟩
  rw [this]; simp [bV]
 ·simp only [Value.slice.injEq] at he2
  refine ⟨_, _, by rw [hlen], .inr ⟨b, o, by rw [he2.1, ha], fun h' hA j x hj => ?_⟩⟩
  refine hc2 h' hA j x ?_
  rw [show bV ((bs.drop p).take (q - p)) = (bV (bs.drop p)).take (q - p) from by simp [bV, List.map_take]] at hj
  rw [List.getElem?_take] at hj
  split at hj
  ·exact hj
  ·cases hj
theorem ToUint_any (A : HP) (v : Value) (bs : List UInt8) (hv : BAt A v bs) (hl : bs.length ≤ 9223372036854775807) :
  Ctr Tryz.prog 155 [v] [A] (fun r H => r = (match toUintA bs with
   | some n => .tuple #[.int .u64 (n : Int), .int .i64 0]
   | none => .tuple #[.int .u64 0, .int .i64 2]) ∧ H = [A]) := by
 refine Ctr.enter Tryz.func155 (by kernel_rfl) rfl Tryz.ntmps155 rfl rfl ?_
 intro G F R hE
 refine go ?_
 ((try refine go ?_); first | refine J_callE rfl rfl rfl rfl (cut_any A v bs hv.1 hv.2 hl) entA ?_ (fun _ _ _ _ _ => trivial) | refine J_call0E rfl rfl rfl (cut_any A v bs hv.1 hv.2 hl) entA ?_ (fun _ _ _ _ _ => trivial))
 rintro _ _ ⟨rv, rfl, ⟨hvr, a, c, rfl, _⟩, rfl⟩
 cases hok : (cutA bs).2.2 with
 | false =>
  have hn : toUintA bs = none := by unfold toUintA; rw [if_neg (by rw [hok]; simp)]
  rw [hn] at hE
  refine go ?_
  (first | refine K_return hE Tryz.func155 rfl _ rfl ⟨rfl, rfl⟩ entA | refine K_fallEnd hE Tryz.func155 rfl _ rfl ⟨rfl, rfl⟩ entA)
 | true =>
  repeat' (first | (with_reducible intro _hh) | refine go1 ?_ | refine J_fork ?_ ?_ | refine J_gsP rfl rfl rfl rfl ?_ ?_ | refine K_condP rfl rfl ?_ ?_)
  ·have hn : toUintA bs = none := by unfold toUintA; rw [if_neg (fun h => by rw [h.2] at _hh; simp at _hh)]
   rw [hn] at hE
   (first | refine K_return hE Tryz.func155 rfl _ rfl ⟨rfl, rfl⟩ entA | refine K_fallEnd hE Tryz.func155 rfl _ rfl ⟨rfl, rfl⟩ entA)
  ·have hn : toUintA bs = some (cutA bs).1 := by unfold toUintA; rw [if_pos ⟨hok, List.eq_nil_of_length_eq_zero (by omega)⟩]
   rw [hn] at hE
   (first | refine K_return hE Tryz.func155 rfl _ rfl ⟨rfl, rfl⟩ entA | refine K_fallEnd hE Tryz.func155 rfl _ rfl ⟨rfl, rfl⟩ entA)
end Go.Proofs.YtpecmnaikjbanaaGreatDoor
namespace Go.Proofs.YtpecmnaikjbanaaGreatDoor
open Go Go.SL
theorem slc_BAt {e : TypeId} {v : Value} {bs : List UInt8} (h0 : ∃ h, slc e 1 v bs.length (bV bs) h) : BAt (slc e 1 v bs.length (bV bs)) v bs := by
 refine ⟨Vw.of_slc e 1 v bs.length (bV bs) h0, ?_⟩
 obtain ⟨h, hl, ⟨a, rfl, hn, _⟩ | ⟨b, o, cap, pre, junk, rfl, hp, hn, hc, _⟩⟩ := h0
 ·exact ⟨a, 0, by rw [hn], by omega⟩
 ·exact ⟨_, cap, rfl, hn⟩
section
variable {P : Program} {f : FuncId} {n : Nat} {R : Ending → World → Prop} {G : Glob} {k : List Item} {L : Lst} {H : List HP} {S : World → Prop} {all : Array Oper} {rest : Pl}
theorem J_slcB {e : TypeId} {v : Value} {bs : List UInt8} (i : Nat) (hi : getL H i = some (slc e 1 v bs.length (bV bs))) (h : BAt (slc e 1 v bs.length (bV bs)) v bs → J P f n R G S all rest k L H) : J P f n R G S all rest k L H :=
 J_sat fun w hw => by
  obtain ⟨h1, _, hA⟩ := hw.getA hi
  exact h (slc_BAt ⟨h1, hA⟩)
theorem K_slcB {e : TypeId} {v : Value} {bs : List UInt8} (i : Nat) (hi : getL H i = some (slc e 1 v bs.length (bV bs))) (h : BAt (slc e 1 v bs.length (bV bs)) v bs → K P f n R G k L H) : K P f n R G k L H :=
 K_sat fun ⟨w, hw⟩ => by
  obtain ⟨h1, _, hA⟩ := hw.getA hi
  exact h (slc_BAt ⟨h1, hA⟩)
end
theorem Sep_get {H : List HP} {i : Nat} {A : HP} (hi : getL H i = some A) : ∀ h, Sep H h → ∃ h', sub h' h ∧ A h' := fun h hs => by
 rw [getL_eq] at hi
 obtain ⟨h', hs', hA⟩ := Ent.perm (perm_of_get hi) h hs
 obtain ⟨h1, h2, ha, _, hd, hj⟩ := hA
 refine ⟨h1, fun b o hb => ?_, ha⟩
 refine hs' b o ?_
 rw [hj b, hb]; rfl
end Go.Proofs.YtpecmnaikjbanaaGreatDoor
/- tlv, plain: items, records. -/
namespace Go.Proofs.YtpecmnaikjbanaaGreatDoor
open Go Go.SL
def itemL (x : Int × List UInt8) : List UInt8 := UInt8.ofNat x.1.toNat :: (uv x.2.length ++ x.2)
def recL (l : List (Int × List UInt8)) : List UInt8 := l.flatMap itemL
def tlvL : Nat → List UInt8 → List (Int × List UInt8)
 | 0, _ => []
 | f + 1, b => match b with
  | [] => []
  | c :: r => if (cutA r).2.2 = true ∧ (cutA r).1 ≤ (cutA r).2.1.length then ((c.toNat : Int), (cutA r).2.1.take (cutA r).1) :: tlvL f ((cutA r).2.1.drop (cutA r).1) else [(0, [])]
def riseOk : Int → List (Int × List UInt8) → Bool
 | _, [] => true
 | last, x :: l => decide (last < x.1) && decide (x.1 ≤ 63) && riseOk x.1 l
def tlvA (b : List UInt8) : Option (List (Int × List UInt8)) := if 65536 < b.length then none else if riseOk 0 (tlvL b.length b) then some (tlvL b.length b) else none
structure It where
 n : Int
 v : Value
 b : List UInt8
instance : Inhabited It := ⟨⟨0, .slice none 0 0, []⟩⟩
def itC (x : It) : List Value := [.int .i64 x.n, x.v]
theorem itC_len (x : It) : (itC x).length = 2 := rfl
def It.p (x : It) : Int × List UInt8 := (x.n, x.b)
def ItemsAt (X : HP) (v : Value) (l : List It) : Prop := Vw X v l.length (l.flatMap itC) ∧ ∀ x ∈ l, BAt X x.v x.b
theorem recL_app (a b : List (Int × List UInt8)) : recL (a ++ b) = recL a ++ recL b := by simp [recL]
theorem recL_take (l : List (Int × List UInt8)) (i : Nat) : (recL (l.take i)).length ≤ (recL l).length := by
 conv => rhs; rw [← List.take_append_drop i l]
 rw [recL_app, List.length_append]; omega
def lastN (l : List (Int × List UInt8)) (i : Nat) : Int := match (l.take i).getLast? with
 | some x => x.1
 | none => 0
theorem rise_get : ∀ (l : List (Int × List UInt8)) (last : Int) (i : Nat) (x : Int × List UInt8), riseOk last l = true → l[i]? = some x → (match (l.take i).getLast? with | some y => y.1 | none => last) < x.1 ∧ x.1 ≤ 63 := by
 intro l
 induction l with
 | nil => intro last i x h hx; simp at hx
 | cons y l ih =>
  intro last i x h hx
  simp only [riseOk, Bool.and_eq_true, decide_eq_true_eq] at h
  cases i with
  | zero => simp at hx; subst hx; simpa using h.1
  | succ i =>
   simp only [List.getElem?_cons_succ] at hx
   have := ih y.1 i x h.2 hx
   rw [List.take_succ_cons]
   cases hl : l.take i with
   | nil => rw [hl] at this; simpa using this
   | cons z r => rw [hl] at this; rw [List.getLast?_cons_cons]; exact this
theorem lastN_succ {l : List (Int × List UInt8)} {i : Nat} {x : Int × List UInt8} (h : l[i]? = some x) : lastN l (i + 1) = x.1 := by
 unfold lastN
 rw [List.take_add_one, h]; simp
theorem rise_pos : ∀ (l : List (Int × List UInt8)) (last : Int), riseOk last l = true → 0 ≤ last → ∀ x ∈ l, 0 < x.1 := by
 intro l
 induction l with
 | nil => intro last h h0 x hx; cases hx
 | cons y l ih =>
  intro last h h0 x hx
  simp only [riseOk, Bool.and_eq_true, decide_eq_true_eq] at h
  rcases List.mem_cons.1 hx with rfl | hx
  ·omega
  ·exact ih y.1 h.2 (by omega) x hx
theorem cutL_len : ∀ (bs : List UInt8) (i acc n : Nat) (r : List UInt8) (ok : Bool), cutL i acc bs = some (n, r, ok) → r.length < bs.length := by
 intro bs
 induction bs with
 | nil => intro i acc n r ok h; simp [cutL] at h
 | cons c bs ih =>
  intro i acc n r ok h
  simp only [cutL] at h
  split at h
  ·cases h
  ·split at h
   ·simp only [Option.some.injEq, Prod.mk.injEq] at h
    rw [← h.2.1, List.length_cons]; omega
   ·have := ih _ _ n r ok h
    rw [List.length_cons]; omega
theorem cutA_len (bs : List UInt8) : (cutA bs).2.1.length ≤ bs.length := by
 unfold cutA
 cases h : cutL 0 0 bs with
 | none => simp
 | some x =>
  obtain ⟨n, r, ok⟩ := x
  have := cutL_len bs 0 0 _ _ _ h
  simp only [Option.getD_some]; omega
theorem tlvL_fuel : ∀ (f g : Nat) (b : List UInt8), b.length ≤ f → b.length ≤ g → tlvL f b = tlvL g b
 | 0, 0, _, _, _ => rfl
 | 0, g + 1, b, hf, _ => by
  have : b = [] := List.eq_nil_of_length_eq_zero (by omega)
  subst this; rfl
 | f + 1, 0, b, _, hg => by
  have : b = [] := List.eq_nil_of_length_eq_zero (by omega)
  subst this; rfl
 | f + 1, g + 1, [], _, _ => rfl
 | f + 1, g + 1, c :: r, hf, hg => by
  rw [tlvL, tlvL]
  have := cutA_len r
  rw [List.length_cons] at hf hg
  split
  ·rw [tlvL_fuel f g _ (by rw [List.length_drop]; omega) (by rw [List.length_drop]; omega)]
  ·rfl
def tlvI (b : List UInt8) : List (Int × List UInt8) := tlvL b.length b
theorem tlvI_nil : tlvI [] = [] := rfl
theorem tlvI_cons {c : UInt8} {r : List UInt8} (h : (cutA r).2.2 = true ∧ (cutA r).1 ≤ (cutA r).2.1.length) : tlvI (c :: r) = ((c.toNat : Int), (cutA r).2.1.take (cutA r).1) :: tlvI ((cutA r).2.1.drop (cutA r).1) := by
 have h1 := cutA_len r
 unfold tlvI
 rw [List.length_cons, tlvL]
 rw [if_pos h, tlvL_fuel _ _ _ (by rw [List.length_drop]; omega) (Nat.le_refl _)]
theorem tlvI_bad {c : UInt8} {r : List UInt8} (h : ¬ ((cutA r).2.2 = true ∧ (cutA r).1 ≤ (cutA r).2.1.length)) : tlvI (c :: r) = [(0, [])] := by
 unfold tlvI
 rw [List.length_cons, tlvL]
 rw [if_neg h]
theorem tlvI_len : ∀ (f : Nat) (b : List UInt8), b.length ≤ f → (tlvI b).length ≤ b.length
 | 0, b, h => by
  have : b = [] := List.eq_nil_of_length_eq_zero (by omega)
  subst this; simp [tlvI_nil]
 | f + 1, [], _ => by simp [tlvI_nil]
 | f + 1, c :: r, h => by
  have h1 := cutA_len r
  rw [List.length_cons] at h
  by_cases hk : (cutA r).2.2 = true ∧ (cutA r).1 ≤ (cutA r).2.1.length
  ·have h2 := tlvI_len f ((cutA r).2.1.drop (cutA r).1) (by rw [List.length_drop]; omega)
   rw [List.length_drop] at h2
   rw [tlvI_cons hk, List.length_cons, List.length_cons]
   omega
  ·rw [tlvI_bad hk, List.length_cons]; simp
def goodI (xs : List (Int × List UInt8)) (i : Nat) : Bool := match xs[i]? with
 | some x => decide (lastN xs i < x.1) && decide (x.1 ≤ 63)
 | none => true
theorem goodI_at {xs : List (Int × List UInt8)} {i : Nat} {x : Int × List UInt8} (h : xs[i]? = some x) : goodI xs i = (decide (lastN xs i < x.1) && decide (x.1 ≤ 63)) := by unfold goodI; rw [h]
theorem rise_all : ∀ (l : List (Int × List UInt8)) (last : Int), (riseOk last l = true ↔ ∀ i x, l[i]? = some x → (match (l.take i).getLast? with | some y => y.1 | none => last) < x.1 ∧ x.1 ≤ 63) := by
 intro l
 induction l with
 | nil => intro last; simp [riseOk]
 | cons y l ih =>
  intro last
  simp only [riseOk, Bool.and_eq_true, decide_eq_true_eq, ih]
  constructor
  ·rintro ⟨⟨h1, h2⟩, h3⟩ i x hx
   cases i with
   | zero => simp at hx; subst hx; exact ⟨h1, h2⟩
   | succ i =>
    have := h3 i x (by simpa using hx)
    rw [List.take_succ_cons]
    cases hl : l.take i with
    | nil => rw [hl] at this; simpa using this
    | cons z r => rw [hl] at this; rw [List.getLast?_cons_cons]; exact this
  ·intro h
   refine ⟨by simpa using h 0 y rfl, fun i x hx => ?_⟩
   have := h (i + 1) x (by simpa using hx)
   rw [List.take_succ_cons] at this
   cases hl : l.take i with
   | nil => rw [hl] at this; simpa using this
   | cons z r => rw [hl, List.getLast?_cons_cons] at this; exact this
theorem rise_good (xs : List (Int × List UInt8)) : riseOk 0 xs = true ↔ ∀ i, i < xs.length → goodI xs i = true := by
 rw [rise_all]
 constructor
 ·intro h i hi
  have hx : xs[i]? = some xs[i] := by simp
  rw [goodI_at hx, Bool.and_eq_true, decide_eq_true_eq, decide_eq_true_eq]
  exact h i _ hx
 ·intro h i x hx
  have := h i (List.getElem?_eq_some_iff.1 hx).1
  rw [goodI_at hx, Bool.and_eq_true, decide_eq_true_eq, decide_eq_true_eq] at this
  exact this
end Go.Proofs.YtpecmnaikjbanaaGreatDoor
/- merkle and manifest, plain. -/
namespace Go.Proofs.YtpecmnaikjbanaaGreatDoor
open Go Go.SL
def leafL (b : List UInt8) : Dg := taggedL 0 [b]
def nodeL (l r : Dg) : Dg := taggedL 1 [l.bs, r.bs]
def aboveL : List Dg → List Dg
 | a :: b :: r => nodeL a b :: aboveL r
 | l => l
theorem aboveL_len : ∀ l : List Dg, (aboveL l).length = (l.length + 1) / 2
 | [] => rfl
 | [a] => by simp [aboveL]
 | a :: b :: r => by simp only [aboveL, List.length_cons, aboveL_len r]; omega
theorem aboveL_get : ∀ (l : List Dg) (i : Nat), (aboveL l)[i]? = match l[2 * i]?, l[2 * i + 1]? with
  | some a, some b => some (nodeL a b)
  | x, _ => x
 | [], i => by simp [aboveL]
 | [a], i => by
  cases i with
  | zero => rfl
  | succ i => simp [aboveL, show 2 * (i + 1) = 2 * i + 1 + 1 from by omega]
 | a :: b :: r, i => by
  cases i with
  | zero => rfl
  | succ i =>
   simp only [aboveL, List.getElem?_cons_succ, show 2 * (i + 1) = 2 * i + 1 + 1 from by omega]
   exact aboveL_get r i
def upL : Nat → List Dg → List Dg
 | 0, l => l
 | f + 1, l => if l.length ≤ 1 then l else upL f (aboveL l)
def rootL (l : List Dg) : Dg := if l = [] then taggedL 2 [] else ((upL l.length l).head?).getD Dg.zero
structure Bl where
 d : Dg
 size : Int
 piece : Int
 root : Dg
deriving DecidableEq
instance : Inhabited Bl := ⟨⟨Dg.zero, 0, 0, Dg.zero⟩⟩
def Bl.zero : Bl := ⟨Dg.zero, 0, 0, Dg.zero⟩
def blC (x : Bl) : List Value := dC x.d ++ [.int .i64 x.size, .int .i64 x.piece] ++ dC x.root
theorem blC_len (x : Bl) : (blC x).length = 66 := rfl
def rightB (x : Bl) : Bool := decide (1 ≤ x.size ∧ x.size ≤ 1048576 ∧ 16 ≤ x.piece ∧ x.piece ≤ 16384 ∧ (x.size + x.piece - 1) / x.piece ≤ 1024)
def countB (x : Bl) : Int := if rightB x then (x.size + x.piece - 1) / x.piece else 0
def spanB (x : Bl) (i : Int) : Option (Int × Int) := if i < 0 ∨ countB x ≤ i then none else some (i * x.piece, min x.piece (x.size - i * x.piece))
def piecesL (k : Nat) : Nat → List UInt8 → List (List UInt8)
 | 0, _ => []
 | f + 1, b => if b = [] then [] else b.take k :: piecesL k f (b.drop k)
def leavesB (b : List UInt8) (piece : Int) : Option (List Dg) := if rightB ⟨Dg.zero, b.length, piece, Dg.zero⟩ then some ((piecesL piece.toNat b.length b).map leafL) else none
def blobB (b : List UInt8) (piece : Int) : Option Bl := (leavesB b piece).map fun l => ⟨sumL b, b.length, piece, rootL l⟩
def wholeB (x : Bl) (b : List UInt8) : Bool := decide (blobB b x.piece = some x)
def twiceB : List Bl → Bool
 | [] => false
 | x :: l => l.any (fun y => decide (y.d = x.d)) || twiceB l
def imageB (l : List Bl) : Nat := if l.length < 1 ∨ 16 < l.length ∨ l.any (fun x => !rightB x) = true then 1 else if twiceB l then 5 else 0
def itemsB (x : Bl) : List (Int × List UInt8) := [(1, x.d.bs), (2, uv x.size.toNat), (3, uv x.piece.toNat), (4, x.root.bs)]
def itemsI : Nat → List Bl → List (Int × List UInt8)
 | _, [] => []
 | i, x :: l => ((i : Int) + 1, recL (itemsB x)) :: itemsI (i + 1) l
def encB (l : List Bl) : List UInt8 := recL (itemsI 0 l)
def nameB (l : List Bl) : Dg := sumL (encB l)
def dgOf (b : List UInt8) : Dg := if h : b.length = 32 then ⟨b, h⟩ else Dg.zero
def blobD (b : List UInt8) : Option Bl := match tlvA b with
 | some [(_, a), (_, s), (_, p), (n, r)] => if n ≠ 4 ∨ a.length ≠ 32 ∨ r.length ≠ 32 then none else match toUintA s, toUintA p with
  | some s, some p => if 1048576 < max s p then none else some ⟨dgOf a, s, p, dgOf r⟩
  | _, _ => none
 | _ => none
def layersD : Nat → List (Int × List UInt8) → Option (List Bl)
 | _, [] => some []
 | i, (n, b) :: l => match blobD b with
  | some x => if n ≠ (i : Int) + 1 then none else (layersD (i + 1) l).map (x :: ·)
  | none => none
def decB (b : List UInt8) : Option (List Bl) := match tlvA b with
 | some l => match layersD 0 l with
  | some x => if imageB x = 0 then some x else none
  | none => none
 | none => none
/-! ## a record read again -/
theorem tlvI_item {n : Nat} (hn : n < 256) (b : List UInt8) (hb : b.length < 9223372036854775808) (r : List UInt8) : tlvI (itemL ((n : Int), b) ++ r) = ((n : Int), b) :: tlvI r := by
 have h1 : itemL ((n : Int), b) ++ r = UInt8.ofNat n :: (uv b.length ++ (b ++ r)) := by simp [itemL]
 have h2 := cutA_uv hb (b ++ r)
 rw [h1, tlvI_cons (by rw [h2]; simp), h2]
 simp only [List.take_left, List.drop_left, List.cons.injEq, Prod.mk.injEq, and_true]
 simp [UInt8.toNat_ofNat']
 omega
theorem tlvI_rec : ∀ (l : List (Int × List UInt8)) (last : Int), 0 ≤ last → riseOk last l = true → (∀ x ∈ l, x.2.length < 9223372036854775808) → tlvI (recL l) = l := by
 intro l
 induction l with
 | nil => intro _ _ _ _; rfl
 | cons x l ih =>
  intro last h0 hr hl
  obtain ⟨n, b⟩ := x
  simp only [riseOk, Bool.and_eq_true, decide_eq_true_eq] at hr
  obtain ⟨m, rfl⟩ : ∃ m : Nat, n = m := ⟨n.toNat, by omega⟩
  have e : recL ((↑m, b) :: l) = itemL ((m : Int), b) ++ recL l := by simp [recL]
  rw [e, tlvI_item (by omega) b (hl _ (List.mem_cons_self ..)), ih _ (by omega) hr.2 fun y hy => hl y (List.mem_cons_of_mem _ hy)]
theorem tlvA_rec {l : List (Int × List UInt8)} (hr : riseOk 0 l = true) (hs : (recL l).length ≤ 65536) : tlvA (recL l) = some l := by
 have hl : ∀ x ∈ l, x.2.length < 9223372036854775808 := fun x hx => by
  obtain ⟨p, q, rfl⟩ := List.append_of_mem hx
  rw [recL_app, List.length_append] at hs
  simp only [recL, List.flatMap_cons, List.length_append, itemL, List.length_cons] at hs
  omega
 have h := tlvI_rec l 0 (Int.le_refl _) hr hl
 unfold tlvI at h
 unfold tlvA
 rw [if_neg (by omega), h, if_pos hr]
theorem uv_len3 {n : Nat} (h : n ≤ 1048576) : (uv n).length ≤ 3 := uv_len 2 n (by omega)
theorem itemsB_len (x : Bl) (h : rightB x = true) : (recL (itemsB x)).length ≤ 78 := by
 simp only [rightB, decide_eq_true_eq] at h
 have h1 := uv_len3 (n := x.size.toNat) (by omega)
 have h2 := uv_len3 (n := x.piece.toNat) (by omega)
 have h3 : uv 32 = [32] := by rw [uv_small (by omega)]; rfl
 have h4 : (uv (uv x.size.toNat).length).length = 1 := by rw [uv_small (by omega)]; rfl
 have h5 : (uv (uv x.piece.toNat).length).length = 1 := by rw [uv_small (by omega)]; rfl
 simp only [recL, itemsB, itemL, List.flatMap_cons, List.flatMap_nil, List.length_append, List.length_cons, List.length_nil, x.d.len, x.root.len, h3, h4, h5]
 omega
theorem blobD_enc (x : Bl) (h : rightB x = true) : blobD (recL (itemsB x)) = some x := by
 have hl := itemsB_len x h
 have h' := h
 simp only [rightB, decide_eq_true_eq] at h'
 unfold blobD
 rw [tlvA_rec (by simp [itemsB, riseOk]) (by omega)]
 simp only [itemsB, x.d.len, x.root.len, ne_eq, not_true_eq_false, or_self, if_false]
 rw [toUint_uv (by omega), toUint_uv (by omega)]
 simp only
 rw [if_neg (by omega)]
 obtain ⟨d, s, p, r⟩ := x
 simp only at h' ⊢
 obtain ⟨s, rfl⟩ : ∃ m : Nat, s = m := ⟨s.toNat, by omega⟩
 obtain ⟨p, rfl⟩ : ∃ m : Nat, p = m := ⟨p.toNat, by omega⟩
 simp [dgOf, d.len, r.len]
theorem itemsI_rise : ∀ (l : List Bl) (i : Nat), i + l.length ≤ 63 → riseOk (i : Int) (itemsI i l) = true
 | [], i, _ => rfl
 | x :: l, i, h => by
  rw [List.length_cons] at h
  simp only [itemsI, riseOk, Bool.and_eq_true, decide_eq_true_eq]
  refine ⟨⟨by omega, by omega⟩, ?_⟩
  have := itemsI_rise l (i + 1) (by omega)
  rw [Int.natCast_add] at this
  exact this
theorem itemsI_len : ∀ (l : List Bl) (i : Nat), (∀ x ∈ l, rightB x = true) → (recL (itemsI i l)).length ≤ 80 * l.length
 | [], i, _ => by simp [itemsI, recL]
 | x :: l, i, h => by
  have h1 := itemsB_len x (h x (List.mem_cons_self ..))
  have h2 := itemsI_len l (i + 1) fun y hy => h y (List.mem_cons_of_mem _ hy)
  have h3 : (uv (recL (itemsB x)).length).length = 1 := by rw [uv_small (by omega)]; rfl
  simp only [recL] at h1 h2 h3
  simp only [itemsI, recL, List.flatMap_cons, List.length_append, itemL, List.length_cons, h3]
  omega
theorem layersD_enc : ∀ (l : List Bl) (i : Nat), (∀ x ∈ l, rightB x = true) → layersD i (itemsI i l) = some l
 | [], i, _ => rfl
 | x :: l, i, h => by
  simp only [itemsI, layersD, blobD_enc x (h x (List.mem_cons_self ..)), ne_eq, not_true_eq_false, if_false]
  rw [layersD_enc l (i + 1) fun y hy => h y (List.mem_cons_of_mem _ hy)]
  rfl
theorem imageB_right {l : List Bl} (h : imageB l = 0) : l.length ≤ 16 ∧ 1 ≤ l.length ∧ ∀ x ∈ l, rightB x = true := by
 unfold imageB at h
 split at h
 ·cases h
 ·rename_i h1
  rw [not_or, not_or] at h1
  refine ⟨by omega, by omega, fun x hx => ?_⟩
  have := h1.2.2
  simp only [Bool.not_eq_true, List.any_eq_false, Bool.not_eq_true', Bool.not_eq_false] at this
  have := this x hx
  simpa using this
theorem encB_len {l : List Bl} (h : imageB l = 0) : (encB l).length ≤ 1280 := by
 obtain ⟨h1, h2, h3⟩ := imageB_right h
 have := itemsI_len l 0 h3
 unfold encB; omega
theorem decB_enc {l : List Bl} (h : imageB l = 0) : decB (encB l) = some l := by
 obtain ⟨h1, h2, h3⟩ := imageB_right h
 have hl := encB_len h
 have hr := itemsI_rise l 0 (by omega)
 unfold decB encB
 unfold encB at hl
 rw [tlvA_rec hr (by omega)]
 simp only [layersD_enc l 0 h3, h, if_true]
theorem decB_image {b : List UInt8} {l : List Bl} (h : decB b = some l) : imageB l = 0 := by
 unfold decB at h
 split at h
 ·split at h
  ·split at h
   ·cases h; assumption
   ·cases h
  ·cases h
 ·cases h
end Go.Proofs.YtpecmnaikjbanaaGreatDoor
/- digest, plain: a hash as signs, and back; names of files that bear a hash. -/
namespace Go.SL
open Go
def sgn (n : Nat) : UInt8 := UInt8.ofNat (if n < 10 then 48 + n else 87 + n)
def hexv (c : UInt8) : Option Nat := if 48 ≤ c.toNat ∧ c.toNat ≤ 57 then some (c.toNat - 48) else if 97 ≤ c.toNat ∧ c.toNat ≤ 102 then some (c.toNat - 87) else none
def hv0 (s : List UInt8) (i : Nat) : Nat := (hexv (s.getD i 0)).getD 0
def sgnAt (d : Dg) (i : Nat) : UInt8 := sgn (if i % 2 = 0 then (d.at (i / 2)).toNat / 16 else (d.at (i / 2)).toNat % 16)
def textL (d : Dg) : List UInt8 := (List.range 64).map (sgnAt d)
theorem textL_len (d : Dg) : (textL d).length = 64 := by simp [textL]
theorem textL_get (d : Dg) {i : Nat} (h : i < 64) : (textL d)[i]? = some (sgnAt d i) := by simp [textL, h]
def pdB (s : List UInt8) (i : Nat) : List UInt8 := (List.range 32).map fun j => UInt8.ofNat (if 2 * j + 1 < i then 16 * hv0 s (2 * j) + hv0 s (2 * j + 1) else if 2 * j < i then hv0 s (2 * j) else 0)
theorem pdB_len (s : List UInt8) (i : Nat) : (pdB s i).length = 32 := by simp [pdB]
theorem pdB_get (s : List UInt8) (i : Nat) {j : Nat} (h : j < 32) : (pdB s i)[j]? = some (UInt8.ofNat (if 2 * j + 1 < i then 16 * hv0 s (2 * j) + hv0 s (2 * j + 1) else if 2 * j < i then hv0 s (2 * j) else 0)) := by simp [pdB, h]
theorem pdB_zero (s : List UInt8) : pdB s 0 = List.replicate 32 0 := by
 apply List.ext_getElem?
 intro j
 rcases Nat.lt_or_ge j 32 with h | h
 ·rw [pdB_get s 0 h, List.getElem?_replicate, if_pos h]; simp
 ·rw [List.getElem?_eq_none (by rw [pdB_len]; exact h), List.getElem?_eq_none (by simpa using h)]
theorem hexv_lt {c : UInt8} {v : Nat} (h : hexv c = some v) : v < 16 := by
 unfold hexv at h
 split at h
 ·cases h; omega
 split at h
 ·cases h; omega
 ·cases h
theorem hv0_lt (s : List UInt8) (i : Nat) : hv0 s i < 16 := by
 unfold hv0
 cases h : hexv (s.getD i 0) with
 | none => simp
 | some v => exact hexv_lt h
theorem hexv_sgn {n : Nat} (h : n < 16) : hexv (sgn n) = some n := by
 have : ∀ n : Nat, n < 16 → hexv (sgn n) = some n := by decide
 exact this n h
theorem sgn_hexv {c : UInt8} {v : Nat} (h : hexv c = some v) : sgn v = c := by
 apply UInt8.toNat.inj
 unfold hexv at h
 unfold sgn
 simp only [UInt8.toNat_ofNat']
 split at h
 ·cases h; rw [if_pos (by omega)]; omega
 split at h
 ·cases h; rw [if_neg (by omega)]; omega
 ·cases h
def parseL (s : List UInt8) : Option Dg := if s.length = 64 ∧ ∀ c ∈ s, hexv c ≠ none then some ⟨pdB s 64, pdB_len s 64⟩ else none
theorem getD_of {s : List UInt8} {i : Nat} {c : UInt8} (h : s[i]? = some c) : s.getD i 0 = c := by rw [List.getD_eq_getElem?_getD, h]; rfl
theorem sgnAt_lt (d : Dg) (i : Nat) : hexv (sgnAt d i) = some (if i % 2 = 0 then (d.at (i / 2)).toNat / 16 else (d.at (i / 2)).toNat % 16) := by
 have := (d.at (i / 2)).toNat_lt
 exact hexv_sgn (by split <;> omega)
theorem Dg.at_get (d : Dg) {j : Nat} (h : j < 32) : d.bs[j]? = some (d.at j) := by
 unfold Dg.at
 rw [List.getD_eq_getElem?_getD, List.getElem?_eq_getElem (by rw [d.len]; exact h)]; rfl
theorem parse_text (d : Dg) : parseL (textL d) = some d := by
  unfold parseL
  rw [if_pos ⟨textL_len d, fun c hc => by
    obtain ⟨i, hi, rfl⟩ := List.mem_map.1 hc
    rw [sgnAt_lt]; simp⟩]
  congr 1
  obtain ⟨bs, hl⟩ := d
  simp only [Dg.mk.injEq]
  apply List.ext_getElem?
  intro j
  rcases Nat.lt_or_ge j 32 with h | h
  · rw [pdB_get _ _ h, if_pos (by omega), (⟨bs, hl⟩ : Dg).at_get h]
    unfold hv0
    rw [getD_of (textL_get _ (show 2 * j < 64 by omega)), getD_of (textL_get _ (show 2 * j + 1 < 64 by omega)), sgnAt_lt, sgnAt_lt]
    simp only [Option.getD_some, Option.some.injEq]
    rw [if_pos (by omega), if_neg (by omega), show 2 * j / 2 = j from by omega, show (2 * j + 1) / 2 = j from by omega]
    apply UInt8.toNat.inj
    simp only [UInt8.toNat_ofNat']
    have := ((⟨bs, hl⟩ : Dg).at j).toNat_lt
    omega
  · rw [List.getElem?_eq_none (by rw [pdB_len]; exact h), List.getElem?_eq_none (by rw [hl]; exact h)]
theorem text_parse {s : List UInt8} {d : Dg} (h : parseL s = some d) : s = textL d := by
 unfold parseL at h
 split at h
 ·rename_i hs
  cases h
  apply List.ext_getElem?
  intro i
  rcases Nat.lt_or_ge i 64 with hi | hi
  ·rw [textL_get _ hi]
   obtain ⟨c, hc⟩ : ∃ c, s[i]? = some c := ⟨s[i], List.getElem?_eq_getElem (by omega)⟩
   rw [hc]
   congr 1
   obtain ⟨v, hv⟩ := Option.ne_none_iff_exists'.1 (hs.2 c (List.mem_of_getElem? hc))
   rw [← sgn_hexv hv]
   unfold sgnAt
   congr 1
   have hat : (Dg.at ⟨pdB s 64, pdB_len s 64⟩ (i / 2)) = UInt8.ofNat (16 * hv0 s (2 * (i / 2)) + hv0 s (2 * (i / 2) + 1)) := by
    unfold Dg.at
    rw [getD_of (pdB_get s 64 (show i / 2 < 32 by omega)), if_pos (by omega)]
   rw [hat]
   have h1 := hv0_lt s (2 * (i / 2))
   have h2 := hv0_lt s (2 * (i / 2) + 1)
   have h3 : hv0 s i = v := by unfold hv0; rw [getD_of hc, hv]; rfl
   simp only [UInt8.toNat_ofNat']
   split
   ·rename_i he
    rw [show 2 * (i / 2) = i from by omega] at h1 h2 ⊢
    omega
   ·rename_i he
    rw [show 2 * (i / 2) + 1 = i from by omega] at h2 ⊢
    omega
  ·rw [List.getElem?_eq_none (by omega), List.getElem?_eq_none (by rw [textL_len]; exact hi)]
 ·cases h
def fileN (kind : List UInt8) (d : Dg) : ByteArray := strOf (kind ++ textL d)
def hashN (kind : List UInt8) (name : ByteArray) : Option Dg := if kind.isPrefixOf name.data.toList then parseL (name.data.toList.drop kind.length) else none
theorem strOf_list (l : List UInt8) : (strOf l).data.toList = l := by simp [strOf]
theorem hashN_iff {kind : List UInt8} {name : ByteArray} {d : Dg} : hashN kind name = some d ↔ name = fileN kind d := by
 unfold hashN fileN
 constructor
 ·intro h
  split at h
  ·rename_i hp
   have h2 := text_parse h
   obtain ⟨t, ht⟩ := List.isPrefixOf_iff_prefix.1 hp
   rw [← ht, List.drop_left] at h2
   subst h2
   rw [ht, strOf_data]
  ·cases h
 ·rintro rfl
  rw [strOf_list, if_pos (List.isPrefixOf_iff_prefix.2 ⟨_, rfl⟩), List.drop_left, parse_text]
theorem hashN_file (kind : List UInt8) (d : Dg) : hashN kind (fileN kind d) = some d := hashN_iff.2 rfl
theorem fileN_inj {k : List UInt8} {a b : Dg} (h : fileN k a = fileN k b) : a = b := by
 have := hashN_file k a
 rw [h, hashN_file] at this
 exact (Option.some.inj this).symm
theorem fileN_kind {j k : List UInt8} {a b : Dg} (hl : j.length = k.length) (h : fileN j a = fileN k b) : j = k := by
 unfold fileN at h
 have := strOf_inj.1 h
 exact (List.append_inj this hl).1
end Go.SL
/- A pointer to a variable. -/
namespace Go.Proofs.YtpecmnaikjbanaaGreatDoor
open Go Go.SL
def ptr (f : Nat) : Value := .pointer (some ⟨f, 0, none⟩)
end Go.Proofs.YtpecmnaikjbanaaGreatDoor
/- slices.Clone at bytes. -/
namespace Go.Proofs.YtpecmnaikjbanaaGreatDoor
open Go Go.SL
attribute [local irreducible] J K Ctr Ends pts slc mapR mapI sbRow
theorem Clone_bytes (A : HP) (v : Value) (bs : List UInt8) (hv : Vw A v bs.length (bV bs)) (hlen : bs.length ≤ 1000000000) :
  Ctr Tryz.prog 88 [v] [A] (fun r H => H = [slc 5 1 r bs.length (bV bs), A]) := by
 obtain ⟨a, c0, rfl⟩ := hv.shape
 cases a with
 | none =>
  have hb : bs = [] := by
   obtain ⟨a, cap, h1, h2 | ⟨b, o, h2, _⟩⟩ := hv
   ·simpa [bV] using h2
   ·simp only [Value.slice.injEq] at h1; rw [← h1.1] at h2; cases h2
  subst hb
  refine Ctr.enter Tryz.func88 (by kernel_rfl) rfl Tryz.ntmps88 rfl rfl ?_
  intro G F R hR
  refine go ?_
  have he : c0 = c0 := rfl
  refine K_ent (slc_lift 5 1 none _) ?_
  refine K_return hR Tryz.func88 rfl _ rfl rfl (Ent.fin [0, 1] 0 rfl rfl)
 | some a =>
  refine Ctr.enter Tryz.func88 (by kernel_rfl) rfl Tryz.ntmps88 rfl rfl ?_
  intro G F R hR
  refine go ?_
  refine J_buildSlice1 (U := tab) rfl rfl rfl rfl rfl rfl rfl rfl rfl (fun _ _ _ => trivial) ?_
  intro b0
  refine go ?_
  refine J_ent (slc_row 5 1 b0 0 0 [] [] _ rfl (Nat.le_refl _) (by simp)) ?_
  refine J_append (U := tab) (mm := bs.length) (news := bV bs) 0 1 rfl rfl rfl rfl rfl rfl rfl rfl rfl rfl rfl rfl hv (by show _ = _ * 1; rw [bV_length]; omega) (bV_one bs) (by omega) (by show _ * 1 ≤ _; omega) (fun _ => rfl) (fun _ _ _ => trivial) ?_
  intro v'
  have e1 : (0 : Nat) + bs.length = bs.length := by omega
  rw [e1, List.nil_append]
  refine go ?_
  refine K_return hR Tryz.func88 rfl _ rfl rfl (Ent.fin [0, 1] 0 rfl rfl)
end Go.Proofs.YtpecmnaikjbanaaGreatDoor
/- files, part a: small functions of package files, without the disk's own predicate. -/
namespace Go.Proofs.YtpecmnaikjbanaaGreatDoor
open Go Go.SL
attribute [local irreducible] J K Ctr Ends pts slc mapR mapI sbRow
theorem IndexFunc_bytes (A X : HP) (v : Value) (bs : List UInt8) (hv : Vw A v bs.length (bV bs)) (hlen : bs.length ≤ 9223372036854775807) (g : FuncId) (cap : List Value) (p : UInt8 → Bool)
  (hf : ∀ x ∈ bs, Ctr Tryz.prog g (u8 x :: cap) [X] (fun v H => v = .bool (p x) ∧ H = [X])) :
  Ctr Tryz.prog 158 [v, .func (.func g) #[] cap.toArray] [A, X] (fun r H => r = .int .i64 (idxI p bs) ∧ H = [A, X]) := by
 obtain ⟨a, c0, rfl⟩ := hv.shape
 refine Ctr.enter Tryz.func158 (by kernel_rfl) rfl Tryz.ntmps158 rfl rfl ?_
 intro G F R hR
 refine go ?_
 refine K_loop (fun i : Nat => i ≤ bs.length ∧ ∀ y ∈ bs.take i, p y = false) (fun i => bs.length - i) (fun i => [(0, .slice a bs.length c0), (1, .func (.func g) #[] cap.toArray), (7, .int .i64 bs.length), (8, .int .i64 i)]) (fun _ => [A, X] ++ F) 0 ⟨by simp, by simp⟩ rfl (by repeat (first | exact keep_nil | refine keep_cons rfl ?_)) (Ent.refl _) ?_
 rintro i ⟨hi, hb⟩ ih
 refine go ?_
 refine K_condP rfl rfl ?_ ?_
 ·intro hlt
  refine go ?_
  have hi' : i < bs.length := by omega
  obtain ⟨b, o, cap', hsl⟩ := hv.some (by rw [← List.length_pos_iff, bV_length]; omega)
  simp only [Value.slice.injEq] at hsl
  obtain ⟨rfl, _, rfl⟩ := hsl
  refine J_at1 (U := tab) i rfl rfl rfl rfl rfl rfl rfl rfl hi' ?_
  have hx : bs[i]? = some bs[i] := by simp [hi']
  refine J_loadV (U := tab) 0 rfl rfl rfl (hv.cell (bV_get hx)) rfl rfl ?_
  refine J_call [1] rfl rfl rfl rfl (hf bs[i] (List.getElem_mem hi')) rfl (fun _ _ _ _ _ => trivial) ?_
  rintro _ _ ⟨rfl, rfl⟩
  refine go ?_
  refine K_condA rfl rfl ?_ ?_
  ·intro hp
   refine go ?_
   refine K_return hR Tryz.func158 rfl _ rfl ⟨by rw [idxI_some hx hp hb]; rfl, rfl⟩ (Ent.fin [1, 0] 0 rfl rfl)
  ·intro hp
   refine go ?_
   refine K_again ih (i + 1) rfl ⟨by omega, allTake hb hx hp⟩ (by omega) (by repeat (first | exact keep_nil | refine keep_cons rfl ?_)) (Ent.pick [1, 0] rfl)
 ·intro hge
  refine go ?_
  have : i = bs.length := by omega
  subst this
  refine K_return hR Tryz.func158 rfl _ rfl ⟨by rw [idxI_none (fun x hx => hb x (by simpa using hx))]; rfl, rfl⟩ (Ent.fin [0, 1] 0 rfl rfl)
def okc (x : UInt8) : Bool := decide (97 ≤ x.toNat ∧ x.toNat ≤ 122 ∨ 48 ≤ x.toNat ∧ x.toNat ≤ 57 ∨ x.toNat = 45 ∨ x.toNat = 46)
theorem right_odd (X : HP) (x : UInt8) : Ctr Tryz.prog 140 [u8 x] [X] (fun v H => v = .bool (!okc x) ∧ H = [X]) := by
 refine Ctr.enter Tryz.func140 (by kernel_rfl) rfl Tryz.ntmps140 rfl rfl ?_
 intro G F R hR
 have hx := u8_lt x
 repeat' (first | (with_reducible intro _hh) | refine go1 ?_ | refine J_fork ?_ ?_ | refine J_gsP rfl rfl rfl rfl ?_ ?_ | refine K_condP rfl rfl ?_ ?_)
 all_goals refine K_return hR Tryz.func140 rfl _ rfl ⟨congrArg Value.bool (by rw [Bool.eq_iff_iff]; simp [okc]; omega), rfl⟩ (Ent.fin [0] 0 rfl rfl)
theorem ContainsFunc_bytes (A X : HP) (v : Value) (bs : List UInt8) (hv : Vw A v bs.length (bV bs)) (hlen : bs.length ≤ 9223372036854775807) (g : FuncId) (cap : List Value) (p : UInt8 → Bool)
  (hf : ∀ x ∈ bs, Ctr Tryz.prog g (u8 x :: cap) [X] (fun v H => v = .bool (p x) ∧ H = [X])) :
  Ctr Tryz.prog 141 [v, .func (.func g) #[] cap.toArray] [A, X] (fun r H => r = .bool (bs.any p) ∧ H = [A, X]) := by
 refine Ctr.enter Tryz.func141 (by kernel_rfl) rfl Tryz.ntmps141 rfl rfl ?_
 intro G F R hR
 refine go ?_
 refine J_call [0, 1] rfl rfl rfl rfl (IndexFunc_bytes A X v bs hv hlen g cap p hf) rfl (fun _ _ _ _ _ => trivial) ?_
 rintro _ _ ⟨rfl, rfl⟩
 refine go ?_
 have hb : decide (0 ≤ idxI p bs) = bs.any p := by
  have := @idxI_neg _ p bs
  cases h : bs.any p with
  | false => rw [h] at this; exact decide_eq_false (by have := this.2 rfl; omega)
  | true =>
   rw [h] at this
   have h2 : ¬ idxI p bs < 0 := fun h3 => by cases this.1 h3
   exact decide_eq_true (by omega)
 refine K_return hR Tryz.func141 rfl _ rfl ⟨congrArg Value.bool hb, rfl⟩ (Ent.fin [0, 1] 0 rfl rfl)
def isName (s : ByteArray) : Bool := decide (1 ≤ s.size ∧ s.size ≤ 80) && s.data.toList.all okc
theorem isName_of {s : ByteArray} (h1 : 1 ≤ s.size) (h2 : s.size ≤ 80) : isName s = !(s.data.toList.any fun x => !okc x) := by
 simp [isName, h1, h2, List.all_eq_not_any_not]
theorem isName_short {s : ByteArray} (h1 : s.size < 1) : isName s = false := by simp [isName]; omega
theorem isName_long {s : ByteArray} (h1 : 80 < s.size) : isName s = false := by simp [isName]; omega
theorem right_any (A : HP) (v : Value) (l : List ByteArray) (hv : Vw A v l.length (l.map Value.string)) (hlen : l.length ≤ 1000000) :
  Ctr Tryz.prog 99 [v] [A] (fun r H => r = .bool (l.all isName) ∧ H = [A]) := by
 obtain ⟨a, c0, rfl⟩ := hv.shape
 refine Ctr.enter Tryz.func99 (by kernel_rfl) rfl Tryz.ntmps99 rfl rfl ?_
 intro G F R hR
 refine K_ent (Ent.addEmp _) ?_
 refine go ?_
 refine K_loop (fun i : Nat => i ≤ l.length ∧ ∀ y ∈ l.take i, isName y = true) (fun i => l.length - i) (fun i => [(3, .func (.func 140) #[] #[]), (6, .slice a l.length c0), (7, .int .i64 l.length), (8, .int .i64 i)]) (fun _ => emp :: ([A] ++ F)) 0 ⟨by simp, by simp⟩ rfl (by repeat (first | exact keep_nil | refine keep_cons rfl ?_)) (Ent.refl _) ?_
 rintro i ⟨hi, hb⟩ ih
 refine go ?_
 refine K_condP rfl rfl ?_ ?_
 ·intro hlt
  refine go ?_
  have hi' : i < l.length := by omega
  obtain ⟨b, o, cap', hsl⟩ := hv.some (by rw [← List.length_pos_iff, List.length_map]; omega)
  simp only [Value.slice.injEq] at hsl
  obtain ⟨rfl, _, rfl⟩ := hsl
  refine J_at1 (U := tab) i rfl rfl rfl rfl rfl rfl rfl rfl hi' ?_
  obtain ⟨s, hs⟩ : ∃ s, l[i]? = some s := ⟨l[i], by simp [hi']⟩
  refine J_loadV (U := tab) 1 rfl rfl rfl (hv.cell (c := .string s) (by simp [hs])) rfl rfl ?_
  have hmem : s ∈ l := List.mem_of_getElem? hs
  repeat' (first | (with_reducible intro _hh) | refine go1 ?_ | refine J_fork ?_ ?_ | refine J_gsP rfl rfl rfl rfl ?_ ?_ | refine K_condP rfl rfl ?_ ?_)
  ·have hn : l.all isName = false := by
    rw [← Bool.not_eq_true, List.all_eq_true]; intro h
    have h1 := h s hmem; rw [isName_short (by omega)] at h1; cases h1
   refine K_return hR Tryz.func99 rfl _ rfl ⟨congrArg Value.bool hn.symm, rfl⟩ (Ent.fin [1] 1 rfl rfl)
  ·have hn : l.all isName = false := by
    rw [← Bool.not_eq_true, List.all_eq_true]; intro h
    have h1 := h s hmem; rw [isName_long (by omega)] at h1; cases h1
   refine K_return hR Tryz.func99 rfl _ rfl ⟨congrArg Value.bool hn.symm, rfl⟩ (Ent.fin [1] 1 rfl rfl)
  ·have hnm := isName_of (s := s) (by omega) (by omega)
   refine J_toBytes (U := tab) rfl rfl rfl rfl rfl rfl rfl rfl (fun _ _ _ _ => trivial) ?_
   intro bb cc
   refine go ?_
   refine J_call [0, 1] rfl rfl rfl rfl (ContainsFunc_bytes (sbRow bb s _ cc) emp _ s.data.toList (by simpa using sbRow_view bb s _ cc cc) (by simp; omega) _ [] _ (fun x _ => right_odd emp x)) rfl (fun _ _ _ _ _ => trivial) ?_
   rintro _ _ ⟨rfl, rfl⟩
   refine go ?_
   refine K_condA rfl rfl ?_ ?_
   ·intro ht
    refine go ?_
    have hn : l.all isName = false := by
     rw [← Bool.not_eq_true, List.all_eq_true]; intro h
     have h1 := h s hmem; rw [hnm, ht] at h1; cases h1
    refine K_return hR Tryz.func99 rfl _ rfl ⟨congrArg Value.bool hn.symm, rfl⟩ (Ent.fin [2] 2 rfl rfl)
   ·intro hf
    refine go ?_
    refine K_again ih (i + 1) rfl ⟨by omega, allTake hb hs (by rw [hnm, hf]; rfl)⟩ (by omega) (by repeat (first | exact keep_nil | refine keep_cons rfl ?_)) (Ent.to [1, 2] 1 rfl rfl rfl)
 ·intro hge
  refine go ?_
  have : i = l.length := by omega
  subst this
  refine K_return hR Tryz.func99 rfl _ rfl ⟨congrArg Value.bool (by rw [eq_comm, List.all_eq_true]; intro x hx; exact hb x (by simpa using hx)), rfl⟩ (Ent.fin [1] 1 rfl rfl)
theorem wrote_any (A : HP) (v1 v2 : Value) (old b : List UInt8) (at_ : Nat) (h1 : Vw A v1 old.length (bV old)) (h2 : Vw A v2 b.length (bV b)) (hb : old.length + at_ + b.length ≤ 1000000000) :
  Ctr Tryz.prog 85 [v1, .int .i64 at_, v2] [A] (fun r H => ∃ bl cap, r = .slice (some ⟨bl, 0, none⟩) (wroteL old at_ b).length cap ∧ (wroteL old at_ b).length ≤ cap ∧ H = [pts bl (cl (bV (wroteL old at_ b)) 5), A]) := by
 obtain ⟨a1, c1, rfl⟩ := h1.shape
 obtain ⟨a2, c2, rfl⟩ := h2.shape
 refine Ctr.enter Tryz.func85 (by kernel_rfl) rfl Tryz.ntmps85 rfl rfl ?_
 intro G F R hR
 refine go ?_
 have hN : (max old.length (at_ + b.length) : Nat) = max old.length (at_ + b.length) := rfl
 generalize hM : max old.length (at_ + b.length) = M at *
 refine J_slot 14 (.int .i64 (M : Int)) rfl (congrArg (Value.int .i64) (by omega)) ?_
 refine J_makeSlice (U := tab) (p := M) (q := M) rfl rfl rfl rfl rfl rfl rfl rfl rfl (Nat.le_refl _) (by omega) (by show 1 * M ≤ _; omega) (fun _ _ _ => trivial) ?_
 intro bl
 refine go ?_
 refine J_copy (U := tab) (src := bV old) (mm := old.length) (l' := bV (old ++ List.replicate (M - old.length) 0)) 0 1 rfl rfl rfl rfl rfl rfl rfl rfl h1 (by show _ = _ * 1; rw [bV_length]; omega) (bV_one old) (by show 0 + _ * 1 ≤ _; simp; omega) ?_ rfl (fun _ _ => trivial) ?_
 ·show bV (old ++ List.replicate (M - old.length) 0) = List.take 0 (List.replicate M (Value.int .u8 0)) ++ List.take (min old.length M * 1) (bV old) ++ List.drop (0 + min old.length M * 1) (List.replicate M (Value.int .u8 0))
  have e : min old.length M * 1 = old.length := by omega
  rw [e, List.take_of_length_le (l := bV old) (by rw [bV_length]; omega)]
  simp [bV, u8]
 refine go ?_
 refine J_slice (U := tab) rfl rfl rfl rfl rfl rfl rfl (by omega) (by omega) (.inl rfl) ?_
 intro o' ho1 ho2
 have hA : at_ ≠ M → o' = at_ := fun h => by have := ho1 (by simpa using h); rw [this]; show 0 + (at_ : Int).toNat * 1 = at_; simp
 have hB : at_ = M → o' = 0 := fun h => ho2 (by simpa using h)
 clear ho1 ho2
 have hmin : (min b.length ((M : Int).toNat - (at_ : Int).toNat)) * 1 = b.length := by simp; omega
 refine go ?_
 refine J_copy (U := tab) (src := bV b) (mm := b.length) (l' := bV (wroteL old at_ b)) 0 1 rfl rfl rfl rfl rfl rfl rfl rfl h2 (by show _ = _ * 1; rw [bV_length]; omega) (bV_one b) ?_ ?_ rfl (fun _ _ => trivial) ?_
 ·show o' + (min b.length ((M : Int).toNat - (at_ : Int).toNat)) * 1 ≤ _
  rw [hmin]; simp only [bV_length, List.length_append, List.length_replicate]
  by_cases h : at_ = M
  ·have := hB h; omega
  ·have := hA h; omega
 ·show bV (wroteL old at_ b) = List.take o' _ ++ List.take (min b.length ((M : Int).toNat - (at_ : Int).toNat) * 1) (bV b) ++ List.drop (o' + min b.length ((M : Int).toNat - (at_ : Int).toNat) * 1) _
  rw [hmin, List.take_of_length_le (l := bV b) (by rw [bV_length]; omega)]
  have hrep : at_ + b.length - old.length = M - old.length := by omega
  unfold wroteL
  rw [hrep]
  by_cases h : at_ = M
  ·have h3 := hB h
   have h4 : b = [] := List.eq_nil_of_length_eq_zero (by omega)
   subst h4; subst h3
   simp [bV, h]
  ·rw [hA h]
   simp [bV]
 ·have hl : (wroteL old at_ b).length = M := by unfold wroteL; simp; omega
  rw [← hl]
  refine go ?_
  refine K_return hR Tryz.func85 rfl _ rfl ⟨bl, _, rfl, Nat.le_refl _, rfl⟩ (Ent.fin [0, 1] 0 rfl rfl)
end Go.Proofs.YtpecmnaikjbanaaGreatDoor
/- files, part b: how a disk lies in memory; meet, find. -/
namespace Go.Proofs.YtpecmnaikjbanaaGreatDoor
open Go Go.SL
attribute [local irreducible] J K Ctr Ends pts slc mapR mapI sbRow stock arrS
def ptrs (l : List (ByteArray × Nat)) : List (ByteArray × Value) := l.map fun x => (x.1, ptr x.2)
structure Dk where
 room : Nat
 bm : Nat
 sts : Value
 wrs : Value
 pln : Value
 off : Bool
 maps : List (Nat × List (ByteArray × Value))
 arrs : Arrs
 files : List (Nat × Value × Value)
 stb : List Nat
 wl : List (Nat × Nat × Value)
def mapG (x : Nat × List (ByteArray × Value)) : HP := mapR Value.string x.1 x.2
def fileG (x : Nat × Value × Value) : HP := pts x.1 (cl [x.2.1, x.2.2] 123)
def wcells (l : List (Nat × Nat × Value)) : List Value := l.flatMap fun x => [ptr x.1, .int .i64 x.2.1, x.2.2]
def diskL (bd : Nat) (D : Dk) : List HP :=
  [pts bd (cl [.int .i64 D.room, .map (some D.bm), D.sts, D.wrs, D.pln, .bool D.off] 85), stock mapG D.maps, arrS 5 D.arrs, stock fileG D.files,
   slc 81 1 D.sts D.stb.length (D.stb.map fun b => .map (some b)), slc 119 3 D.wrs D.wl.length (wcells D.wl)]
def disk (bd : Nat) (D : Dk) : HP := Sep (diskL bd D)
theorem disk_o (bd room bm : Nat) (sts wrs pln : Value) (off : Bool) (maps : List (Nat × List (ByteArray × Value))) (arrs : Arrs) (files : List (Nat × Value × Value)) (stb : List Nat) (wl : List (Nat × Nat × Value)) (H : List HP) :
  Ent (disk bd ⟨room, bm, sts, wrs, pln, off, maps, arrs, files, stb, wl⟩ :: H)
   (pts bd (cl [.int .i64 room, .map (some bm), sts, wrs, pln, .bool off] 85) :: stock mapG maps :: arrS 5 arrs :: stock fileG files :: slc 81 1 sts stb.length (stb.map fun b => .map (some b)) :: slc 119 3 wrs wl.length (wcells wl) :: H) := Ent.unsep _ _
theorem disk_c (bd room bm : Nat) (sts wrs pln : Value) (off : Bool) (maps : List (Nat × List (ByteArray × Value))) (arrs : Arrs) (files : List (Nat × Value × Value)) (stb : List Nat) (wl : List (Nat × Nat × Value)) (H : List HP) :
  Ent (pts bd (cl [.int .i64 room, .map (some bm), sts, wrs, pln, .bool off] 85) :: stock mapG maps :: arrS 5 arrs :: stock fileG files :: slc 81 1 sts stb.length (stb.map fun b => .map (some b)) :: slc 119 3 wrs wl.length (wcells wl) :: H)
   (disk bd ⟨room, bm, sts, wrs, pln, off, maps, arrs, files, stb, wl⟩ :: H) := Ent.resep (diskL bd ⟨room, bm, sts, wrs, pln, off, maps, arrs, files, stb, wl⟩) H
structure Rel (D : Dk) (A : Ab) : Prop where
 room : D.room = A.room
 off : D.off = A.off
 names : (D.bm, ptrs A.names) ∈ D.maps
 states : All2 (fun b es => (b, ptrs es) ∈ D.maps) D.stb A.states
 fs : All2 (fun x y => x.1 = y.1 ∧ BIn D.arrs x.2.1 y.2.1 ∧ BIn D.arrs x.2.2 y.2.2) D.files A.fs
 writes : All2 (fun x y => x.1 = y.1 ∧ x.2.1 = y.2.1 ∧ BIn D.arrs x.2.2 y.2.2) D.wl A.writes
 plan : BIn D.arrs D.pln A.plan
 ids : (A.fs.map (·.1)).Nodup
 known : ∀ st ∈ A.names :: A.states, ∀ x ∈ st, x.2 ∈ A.fs.map (·.1)
 knownW : ∀ x ∈ A.writes, x.1 ∈ A.fs.map (·.1)
 nodup : ∀ st ∈ A.names :: A.states, (st.map (·.1)).Nodup
 smallF : ∀ x ∈ A.fs, x.2.1.length ≤ 1048576 ∧ x.2.2.length ≤ 1048576
 smallW : ∀ x ∈ A.writes, x.2.1 + x.2.2.length ≤ 1048576
 smallN : ∀ st ∈ A.names :: A.states, st.length ≤ 200
 smallR : A.room ≤ 1073741824
 smallP : A.plan.length ≤ 1000000000
 full : A.states ≠ []
theorem Rel.setPlan {D : Dk} {A : Ab} (h : Rel D A) {v : Value} {p : List UInt8} (o : Bool) (hp : BIn D.arrs v p) (hl : p.length ≤ 1000000000) : Rel { D with pln := v, off := o } { A with plan := p, off := o } :=
 ⟨h.room, rfl, h.names, h.states, h.fs, h.writes, hp, h.ids, h.known, h.knownW, h.nodup, h.smallF, h.smallW, h.smallN, h.smallR, hl, h.full⟩
theorem Rel.setPlan' {D : Dk} {A : Ab} (h : Rel D A) {v : Value} {p : List UInt8} (hp : BIn D.arrs v p) (hl : p.length ≤ 1000000000) : Rel { D with pln := v } { A with plan := p } :=
 ⟨h.room, h.off, h.names, h.states, h.fs, h.writes, hp, h.ids, h.known, h.knownW, h.nodup, h.smallF, h.smallW, h.smallN, h.smallR, hl, h.full⟩
theorem meet_any (bd : Nat) (D : Dk) (A : Ab) (hR : Rel D A) (may : Bool) :
  Ctr Tryz.prog 96 [ptr bd, .bool may] [disk bd D] (fun v H => ∃ D', Rel D' (A.meet may).2 ∧ H = [disk bd D'] ∧ v = .int .i64 (A.meet may).1) := by
 obtain ⟨room, bm, sts, wrs, pln, off, maps, arrs, files, stb, wl⟩ := D
 obtain ⟨a, cap, hpl, hcap⟩ := hR.plan.shape
 simp only at hpl
 subst hpl
 have hoff := hR.off
 simp only at hoff
 refine Ctr.enter Tryz.func96 (by kernel_rfl) rfl Tryz.ntmps96 rfl rfl ?_
 intro G F R hE
 refine K_ent (disk_o _ _ _ _ _ _ _ _ _ _ _ _ _) ?_
 cases may with
 | false =>
  refine go ?_
  refine K_return hE Tryz.func96 rfl _ rfl ⟨_, hR, rfl, rfl⟩ ((Ent.pick [0, 1, 2, 3, 4, 5] rfl).trans (disk_c _ _ _ _ _ _ _ _ _ _ _ _ _))
 | true =>
  cases off with
  | true =>
   have hm : A.meet true = (7, A) := by simp [Ab.meet, ← hoff]
   rw [hm] at hE
   refine go ?_
   refine K_return hE Tryz.func96 rfl _ rfl ⟨_, hR, rfl, rfl⟩ ((Ent.pick [0, 1, 2, 3, 4, 5] rfl).trans (disk_c _ _ _ _ _ _ _ _ _ _ _ _ _))
  | false =>
   refine go ?_
   refine K_condA rfl rfl ?_ ?_
   ·intro h0
    have h0' : A.plan = [] := List.eq_nil_of_length_eq_zero (by have := of_decide_eq_true h0; omega)
    have hm : A.meet true = (0, A) := by simp [Ab.meet, ← hoff, h0']
    rw [hm] at hE
    refine go ?_
    refine K_return hE Tryz.func96 rfl _ rfl ⟨_, hR, rfl, rfl⟩ ((Ent.pick [0, 1, 2, 3, 4, 5] rfl).trans (disk_c _ _ _ _ _ _ _ _ _ _ _ _ _))
   ·intro h0
    obtain ⟨x, p, hxp⟩ : ∃ x p, A.plan = x :: p := by
     cases h : A.plan with
     | nil => rw [h] at h0; simp at h0
     | cons x p => exact ⟨x, p, rfl⟩
    have hm : A.meet true = if x = 1 then (6, { A with plan := p }) else if x = 2 then (7, { A with plan := p, off := true }) else (0, { A with plan := p }) := by simp [Ab.meet, ← hoff, hxp]
    have hbin : BIn arrs (.slice a A.plan.length cap) (x :: p) := by have := hR.plan; rw [hxp] at this; rw [hxp]; exact this
    have hlen : A.plan.length = p.length + 1 := by rw [hxp]; rfl
    have hsm := hR.smallP
    obtain ⟨b, o, cap', hsl⟩ := (hbin.view 5).some (by simp [bV])
    simp only [Value.slice.injEq] at hsl
    obtain ⟨rfl, _, rfl⟩ := hsl
    refine go ?_
    refine J_at1 (U := tab) 0 rfl rfl rfl rfl rfl rfl rfl rfl (by omega) ?_
    refine J_loadV (U := tab) 2 rfl rfl rfl (Vw.cell (cap := cap) (n := (x :: p).length) (cs := bV (x :: p)) (by rw [← hxp]; exact hR.plan.view _) (c := u8 x) (by simp [bV])) rfl rfl ?_
    refine go ?_
    refine J_slice (U := tab) rfl rfl rfl rfl rfl rfl rfl (by omega) (by omega) (.inl rfl) ?_
    intro o' ho1 _
    have hn : (A.plan.length : Int).toNat - (1 : Int).toNat = p.length := by omega
    rw [hn]
    have hp : BIn arrs (.slice (some ⟨b, o', none⟩) p.length (cap - (1 : Int).toNat)) p := hbin.tail o' _ (fun hne => ho1 (by
     have : 0 < p.length := List.length_pos_iff.2 hne
     omega)) (by omega)
    have hoA : A.off = false := hoff.symm
    have hR1 := hR.setPlan' hp (by omega)
    have hR2 := hR.setPlan true hp (by omega)
    clear hbin hp ho1
    refine go ?_
    refine K_condP rfl rfl ?_ ?_
    ·intro hx
     have hx1 : x = 1 := u8_inj hx
     rw [hm, if_pos hx1] at hE
     refine go ?_
     refine K_return hE Tryz.func96 rfl _ rfl ⟨_, hR1, rfl, rfl⟩ ((Ent.pick [0, 1, 2, 3, 4, 5] rfl).trans (disk_c _ _ _ _ _ _ _ _ _ _ _ _ _))
    ·intro hx
     have hx1 : x ≠ 1 := fun h => hx (by rw [h]; rfl)
     refine go ?_
     refine K_condP rfl rfl ?_ ?_
     ·intro hy
      have hx2 : x = 2 := u8_inj hy
      rw [hm, if_neg hx1, if_pos hx2] at hE
      refine go ?_
      refine K_return hE Tryz.func96 rfl _ rfl ⟨_, hR2, rfl, rfl⟩ ((Ent.pick [0, 1, 2, 3, 4, 5] rfl).trans (disk_c _ _ _ _ _ _ _ _ _ _ _ _ _))
     ·intro hy
      have hx2 : x ≠ 2 := fun h => hy (by rw [h]; rfl)
      rw [hm, if_neg hx1, if_neg hx2] at hE
      refine go ?_
      refine K_return hE Tryz.func96 rfl _ rfl ⟨_, hR1, rfl, rfl⟩ ((Ent.pick [0, 1, 2, 3, 4, 5] rfl).trans (disk_c _ _ _ _ _ _ _ _ _ _ _ _ _))
theorem alook_ptrs (l : List (ByteArray × Nat)) (name : ByteArray) : alook (ptrs l) name = (Ab.lookIn l name).map ptr := by
 unfold alook Ab.lookIn ptrs
 induction l with
 | nil => rfl
 | cons x l ih =>
  simp only [List.map_cons, List.find?_cons]
  by_cases h : x.1 = name
  ·simp [h]
  ·simp only [h, decide_false]; exact ih
theorem map_of_stock {G : Glob} {w : World} {H : List HP} {maps : List (Nat × List (ByteArray × Value))} {b : Nat} {es : List (ByteArray × Value)} {i : Nat} (hs : Sat G w H) (hi : getL H i = some (stock mapG maps)) (hm : (b, es) ∈ maps) :
  ∃ o, mapW Value.string o es ∧ w.heap[b]? = some o := by
 obtain ⟨h, hh, hA⟩ := hs.getA hi
 obtain ⟨h', s, hb⟩ := stock_mem hm hA
 unfold mapG mapR at hb
 obtain ⟨o, ho, hp⟩ := hb
 unfold pts at hp
 exact ⟨o, ho, hh b o (s b o (by rw [hp b]; simp))⟩
theorem kStr : KeyOk Tryz.prog 9 Value.string := keyStr Tryz.underlying9
def optPtr : Option Nat → Value
 | none => .pointer none
 | some f => ptr f
theorem find_any (bd : Nat) (D : Dk) (A : Ab) (hR : Rel D A) (name : ByteArray) (may : Bool) :
  Ctr Tryz.prog 104 [ptr bd, .string name, .bool may] [disk bd D] (fun v H => ∃ D', Rel D' (A.find name may).2.2 ∧ H = [disk bd D'] ∧ v = .tuple #[optPtr (A.find name may).2.1, .int .i64 (A.find name may).1]) := by
 refine Ctr.enter Tryz.func104 (by kernel_rfl) rfl Tryz.ntmps104 rfl rfl ?_
 intro G F R hE
 refine go ?_
 refine J_call [0] rfl rfl rfl rfl (meet_any bd D A hR may) rfl (fun _ _ _ _ _ => trivial) ?_
 rintro _ _ ⟨D', hR', rfl, rfl⟩
 refine go ?_
 refine K_condA rfl rfl ?_ ?_
 ·intro h0
  have h0' : ¬ (A.meet may).1 = 0 := by have := of_decide_eq_true h0; omega
  have hf : A.find name may = ((A.meet may).1, none, (A.meet may).2) := by simp [Ab.find, h0']
  rw [hf] at hE
  refine go ?_
  refine K_return hE Tryz.func104 rfl _ rfl ⟨D', hR', rfl, rfl⟩ (Ent.pick [0] rfl)
 ·intro h0
  have h0' : (A.meet may).1 = 0 := by have := of_decide_eq_false h0; omega
  obtain ⟨room, bm, sts, wrs, pln, off, maps, arrs, files, stb, wl⟩ := D'
  refine K_ent (disk_o _ _ _ _ _ _ _ _ _ _ _ _ _) ?_
  refine go ?_
  refine J_lookupOkC (U := tab) rfl kStr rfl rfl rfl rfl rfl rfl rfl (fun w hw => map_of_stock (i := 1) hw rfl hR'.names) ?_
  rw [alook_ptrs]
  cases hl : Ab.lookIn (A.meet may).2.names name with
  | none =>
   have hf : A.find name may = (4, none, (A.meet may).2) := by simp [Ab.find, h0', Ab.look, hl]
   rw [hf] at hE
   refine go ?_
   refine K_return hE Tryz.func104 rfl _ rfl ⟨_, hR', rfl, rfl⟩ ((Ent.pick [0, 1, 2, 3, 4, 5] rfl).trans (disk_c _ _ _ _ _ _ _ _ _ _ _ _ _))
  | some fl =>
   have hf : A.find name may = (0, some fl, (A.meet may).2) := by simp [Ab.find, h0', Ab.look, hl]
   rw [hf] at hE
   refine go ?_
   refine K_return hE Tryz.func104 rfl _ rfl ⟨_, hR', rfl, rfl⟩ ((Ent.pick [0, 1, 2, 3, 4, 5] rfl).trans (disk_c _ _ _ _ _ _ _ _ _ _ _ _ _))
theorem find_nodup {α : Type} {l : List (Nat × α)} (hn : (l.map (·.1)).Nodup) {i f : Nat} {x : α} (hi : l[i]? = some (f, x)) : (l.find? fun x => decide (x.1 = f)) = some (f, x) := by
 induction l generalizing i with
 | nil => simp at hi
 | cons y l ih =>
  simp only [List.map_cons, List.nodup_cons] at hn
  cases i with
  | zero => simp at hi; subst hi; simp
  | succ i =>
   simp at hi
   have hne : y.1 ≠ f := fun e => hn.1 (List.mem_map.2 ⟨_, List.mem_of_getElem? hi, e.symm⟩)
   simp only [List.find?_cons, hne, decide_false]
   exact ih hn.2 hi
theorem Rel.file {D : Dk} {A : Ab} (h : Rel D A) {f : Nat} (hf : f ∈ A.fs.map (·.1)) : ∃ (i : Nat) (v1 v2 : Value), D.files[i]? = some (f, v1, v2) ∧ A.fs[i]? = some (f, A.now f, A.sure f) ∧ BIn D.arrs v1 (A.now f) ∧ BIn D.arrs v2 (A.sure f) := by
 obtain ⟨⟨f', n, s⟩, hm, rfl⟩ := List.mem_map.1 hf
 obtain ⟨i, hi⟩ := List.getElem?_of_mem hm
 obtain ⟨⟨f2, v1, v2⟩, hx, h1, h2, h3⟩ := h.fs.right hi
 simp only at h1 h2 h3
 subst h1
 have hfile : A.file f2 = (n, s) := by unfold Ab.file; rw [find_nodup h.ids hi]; rfl
 refine ⟨i, v1, v2, hx, ?_, ?_, ?_⟩
 ·rw [hi]; simp [Ab.now, Ab.sure, hfile]
 ·simpa [Ab.now, hfile] using h2
 ·simpa [Ab.sure, hfile] using h3
theorem Rel.small {D : Dk} {A : Ab} (h : Rel D A) (f : Nat) : (A.now f).length ≤ 1048576 ∧ (A.sure f).length ≤ 1048576 := by
 unfold Ab.now Ab.sure Ab.file
 cases hf : A.fs.find? fun x => decide (x.1 = f) with
 | none => simp
 | some x => simpa using h.smallF x (List.mem_of_find?_eq_some hf)
theorem file_cells {G : Glob} {w : World} {H : List HP} {files : List (Nat × Value × Value)} {f : Nat} {v1 v2 : Value} {i j : Nat} (hs : Sat G w H) (hi : getL H i = some (stock fileG files)) (hm : files[j]? = some (f, v1, v2)) :
  w.heap[f]? = some (cl [v1, v2] 123) := by
 obtain ⟨h, hh, hA⟩ := hs.getA hi
 obtain ⟨h', s, hb⟩ := stock_mem (List.mem_of_getElem? hm) hA
 unfold fileG pts at hb
 exact hh f _ (s f _ (by rw [hb f]; simp))
theorem file_now {G : Glob} {w : World} {H : List HP} {files : List (Nat × Value × Value)} {f : Nat} {v1 v2 : Value} {i j : Nat} (hs : Sat G w H) (hi : getL H i = some (stock fileG files)) (hm : files[j]? = some (f, v1, v2)) :
  w.cell? ⟨f, 0, none⟩ = some v1 := by rw [cell_of_block (file_cells hs hi hm)]; rfl
theorem lookIn_mem {l : List (ByteArray × Nat)} {k : ByteArray} {f : Nat} (hn : (l.map (·.1)).Nodup) (h : (k, f) ∈ l) : Ab.lookIn l k = some f := by
  obtain ⟨i, hi⟩ := List.getElem?_of_mem h
  have : alook (l.map fun x => (x.1, Value.int .i64 x.2)) k = some (.int .i64 f) := alook_get (i := i) (by simp [hi]) (fun j hj he => by
    rw [List.map_map] at he
    have h1 : (l.map (·.1))[j]? = (l.map (·.1))[i]? := by
      have e : (List.map ((fun x => x.1) ∘ fun x => (x.1, Value.int IntKind.i64 (x.2 : Nat))) l) = l.map (·.1) := rfl
      rw [e] at he
      rw [he]; simp [hi]
    have := (List.getElem?_inj (by
      rcases Nat.lt_or_ge j (l.map (·.1)).length with h | h
      · exact h
      · rw [List.getElem?_eq_none h] at h1; simp [hi] at h1) hn).1 h1
    omega)
  unfold alook at this
  unfold Ab.lookIn
  rw [List.find?_map] at this
  simp only [Option.map_map] at this
  cases hx : l.find? fun x => decide (x.1 = k) with
  | none => have e : (l.find? ((fun x => decide (x.1 = k)) ∘ fun x => (x.1, Value.int IntKind.i64 (x.2 : Nat)))) = none := hx
            rw [e] at this; cases this
  | some y => 
    have e : (l.find? ((fun x => decide (x.1 = k)) ∘ fun x => (x.1, Value.int IntKind.i64 (x.2 : Nat)))) = some y := hx
    rw [e] at this
    have h2 : ((y.2 : Nat) : Int) = f := by simpa using this
    rw [Option.map_some, show y.2 = f by omega]
theorem lookIn_some {l : List (ByteArray × Nat)} {k : ByteArray} {f : Nat} (h : Ab.lookIn l k = some f) : (k, f) ∈ l := by
 unfold Ab.lookIn at h
 cases hx : l.find? fun x => decide (x.1 = k) with
 | none => rw [hx] at h; cases h
 | some y =>
  rw [hx] at h
  have h1 := List.find?_some hx
  simp only [decide_eq_true_eq] at h1
  simp only [Option.map_some, Option.some.injEq] at h
  have := List.mem_of_find?_eq_some hx
  rwa [← h1, ← h]
end Go.Proofs.YtpecmnaikjbanaaGreatDoor
/- files, part c: Used. -/
namespace Go.Proofs.YtpecmnaikjbanaaGreatDoor
open Go Go.SL
attribute [local irreducible] J K Ctr Ends pts slc mapR mapI sbRow stock arrS
def lenOf (A : Ab) (k : ByteArray) : Nat := (A.look k).elim 0 fun f => (A.now f).length
def sumOf (A : Ab) (l : List ByteArray) : Nat := (l.map (lenOf A)).sum
theorem sumOf_le {A : Ab} (h : ∀ f, (A.now f).length ≤ 1048576) (l : List ByteArray) : sumOf A l ≤ l.length * 1048576 := by
 induction l with
 | nil => simp [sumOf]
 | cons k l ih =>
  have h1 : lenOf A k ≤ 1048576 := by unfold lenOf; cases A.look k with | none => simp | some f => exact h f
  simp only [sumOf, List.map_cons, List.sum_cons, List.length_cons] at ih ⊢
  omega
theorem nodup_perm {α : Type} [DecidableEq α] {l r : List α} (h1 : l.Nodup) (h2 : r.Nodup) (h : ∀ x, x ∈ l ↔ x ∈ r) : l.Perm r := (List.perm_ext_iff_of_nodup h1 h2).2 h
theorem nodup_len {α : Type} [DecidableEq α] {l r : List α} (h1 : l.Nodup) (h : ∀ x ∈ l, x ∈ r) : l.length ≤ r.length := by
 induction l generalizing r with
 | nil => simp
 | cons x l ih =>
  simp only [List.nodup_cons] at h1
  have := ih (r := r.erase x) h1.2 (fun y hy => (List.mem_erase_of_ne (by rintro rfl; exact h1.1 hy)).2 (h y (by simp [hy])))
  rw [List.length_erase_of_mem (h x (by simp))] at this
  have h3 : 0 < r.length := List.length_pos_of_mem (h x (by simp))
  simp only [List.length_cons]
  omega
theorem sumOf_used {A : Ab} (hn : (A.names.map (·.1)).Nodup) : sumOf A (A.names.map (·.1)) = A.used := by
 unfold sumOf Ab.used
 rw [List.map_map]
 congr 1
 apply List.map_congr_left
 rintro ⟨k, f⟩ hx
 have : A.look k = some f := lookIn_mem hn hx
 simp [lenOf, this]
theorem Used_any (bd : Nat) (D : Dk) (A : Ab) (hR : Rel D A) :
  Ctr Tryz.prog 105 [ptr bd] [disk bd D] (fun v H => H = [disk bd D] ∧ v = .int .i64 A.used) := by
 obtain ⟨room, bm, sts, wrs, pln, off, maps, arrs, files, stb, wl⟩ := D
 refine Ctr.enter Tryz.func105 (by kernel_rfl) rfl Tryz.ntmps105 rfl rfl ?_
 intro G F R hE
 refine K_ent (disk_o _ _ _ _ _ _ _ _ _ _ _ _ _) ?_
 refine go ?_
 obtain ⟨j, hj⟩ := List.getElem?_of_mem hR.names
 simp only at hj
 refine J_ent (Ent.pick [1] rfl) ?_
 refine J_ent (stock_out mapG hj _) ?_
 refine J_range (kv := Value.string) (es := ptrs A.names) (U := tab) 0 rfl rfl rfl rfl rfl (fun _ => rfl) (fun _ _ _ => trivial) ?_
 intro it
 refine go ?_
 have hnd := hR.nodup _ (List.mem_cons_self ..)
 have hkeys : (ptrs A.names).map (·.1) = A.names.map (·.1) := by simp [ptrs, Function.comp_def]
 refine K_loop (fun dn : List ByteArray => dn.Nodup ∧ ∀ x ∈ dn, x ∈ A.names.map (·.1)) (fun dn => A.names.length - dn.length)
  (fun dn => [(3, .int .i64 (sumOf A dn)), (10, .pointer (some ⟨it, 0, none⟩))])
  (fun dn => mapI Value.string bm it (ptrs A.names) dn :: stock mapG (maps.eraseIdx j) :: pts bd (cl [.int .i64 room, .map (some bm), sts, wrs, pln, .bool off] 85) :: arrS 5 arrs :: stock fileG files :: slc 81 1 sts stb.length (stb.map fun b => .map (some b)) :: slc 119 3 wrs wl.length (wcells wl) :: F)
  [] ⟨List.nodup_nil, by simp⟩ rfl (by repeat (first | exact keep_nil | refine keep_cons rfl ?_)) (Ent.refl _) ?_
 rintro dn ⟨hdn, hsub⟩ ih
 have hlen := nodup_len hdn hsub
 have hb := sumOf_le (fun f => (hR.small f).1) dn
 have hN := hR.smallN _ (List.mem_cons_self ..)
 rw [List.length_map] at hlen
 refine go ?_
 refine J_next (kv := Value.string) (es := ptrs A.names) 0 rfl kStr.inj rfl rfl (fun _ => rfl) (fun _ _ => trivial) (fun _ _ _ => trivial) ?_ ?_
 ·intro hall
  refine go ?_
  have hp : sumOf A dn = A.used := by
   rw [← sumOf_used hnd]
   refine List.Perm.sum_nat ((nodup_perm hdn hnd fun x => ⟨hsub x, fun hx => ?_⟩).map _)
   rw [← hkeys] at hx
   obtain ⟨y, hy, rfl⟩ := List.mem_map.1 hx
   exact hall y hy
  refine K_ent ((Ent.head (B := [mapG (bm, ptrs A.names)]) (fun h hs => by obtain ⟨h', s, hm⟩ := mapI_mapR h hs; exact ⟨h', s, Sep_one' hm⟩)).trans (stock_in mapG hj _)) ?_
  rw [hp]
  refine K_return hE Tryz.func105 rfl _ rfl ⟨rfl, rfl⟩ ((Ent.pick [1, 0] rfl).trans ((Ent.pick [0, 1, 2, 3, 4, 5] rfl).trans (disk_c _ _ _ _ _ _ _ _ _ _ _ _ _)))
 ·intro key v hmem hnot
  obtain ⟨⟨k', f⟩, hx, hxe⟩ := List.mem_map.1 hmem
  simp only [Prod.mk.injEq] at hxe
  obtain ⟨rfl, rfl⟩ := hxe
  refine go ?_
  refine J_entry (kv := Value.string) (es := ptrs A.names) 0 rfl kStr.inj rfl rfl hmem ?_
  refine go ?_
  obtain ⟨i, v1, v2, hi, hfs, hv1, hv2⟩ := hR.file (hR.known _ (List.mem_cons_self ..) _ hx)
  obtain ⟨a, cap, rfl, hcap⟩ := hv1.shape
  refine J_loadC (U := tab) rfl rfl (fun w hw => file_now (i := 4) hw rfl hi) rfl rfl ?_
  have hlk : A.look k' = some f := lookIn_mem hnd hx
  have hl : lenOf A k' = (A.now f).length := by simp [lenOf, hlk]
  have hsm := (hR.small f).1
  have hmk : k' ∈ A.names.map (·.1) := List.mem_map.2 ⟨_, hx, rfl⟩
  have hd2 : (k' :: dn).Nodup := List.nodup_cons.2 ⟨hnot, hdn⟩
  have hs2 : ∀ x ∈ k' :: dn, x ∈ A.names.map (·.1) := fun x hx => by
   rcases List.mem_cons.1 hx with rfl | h
   ·exact hmk
   ·exact hsub x h
  have hlen2 := nodup_len hd2 hs2
  rw [List.length_map, List.length_cons] at hlen2
  refine go ?_
  refine K_slot 3 (.int .i64 (sumOf A (k' :: dn))) rfl (congrArg (Value.int .i64) (by simp only [sumOf, List.map_cons, List.sum_cons, hl]; omega)) ?_
  refine K_again ih (k' :: dn) rfl ⟨hd2, hs2⟩ (by show _ - (_ + 1) < _; omega) (by repeat (first | exact keep_nil | refine keep_cons rfl ?_)) (Ent.refl _)
end Go.Proofs.YtpecmnaikjbanaaGreatDoor
/- files, part d: maps.Clone, change, the makers. -/
namespace Go.Proofs.YtpecmnaikjbanaaGreatDoor
open Go Go.SL
attribute [local irreducible] J K Ctr Ends pts slc mapR mapI sbRow stock arrS
theorem mapsClone_any (b : Nat) (es : List (ByteArray × Value)) :
  Ctr Tryz.prog 142 [.map (some b)] [mapR Value.string b es] (fun v H => ∃ b', v = .map (some b') ∧ H = [mapR Value.string b' es, mapR Value.string b es]) := by
 refine Ctr.enter Tryz.func142 (by kernel_rfl) rfl Tryz.ntmps142 rfl rfl ?_
 intro G F R hR
 refine go ?_
 refine J_mkIface (U := tab) rfl rfl rfl rfl ?_
 refine J_mapsClone (kv := Value.string) (es := es) 0 rfl Tryz.func159 (by kernel_rfl) (by kernel_rfl) (by kernel_rfl) (by kernel_rfl) rfl rfl (fun _ _ _ => trivial) ?_
 intro b'
 refine J_assert (U := tab) rfl rfl rfl rfl ?_
 refine go ?_
 refine K_return hR Tryz.func142 rfl _ rfl ⟨b', rfl, rfl⟩ (Ent.fin [0, 1] 0 rfl rfl)
theorem change_any {α : Type} (bd : Nat) (D : Dk) (nm : List (ByteArray × Nat)) (hm : (D.bm, ptrs nm) ∈ D.maps) (g : FuncId) (cap : Array Value) (E : HP) (nm' : α → List (ByteArray × Nat)) (E' : α → HP) (q : α → Prop)
  (hc : ∀ b', Ctr Tryz.prog g (.map (some b') :: cap.toList) [mapR Value.string b' (ptrs nm), E] (fun _ H => ∃ x, q x ∧ H = [mapR Value.string b' (ptrs (nm' x)), E' x])) (hlen : D.stb.length ≤ 1000000000) :
  Ctr Tryz.prog 100 [ptr bd, .func (.func g) #[] cap] [disk bd D, E]
   (fun _ H => ∃ x b' v, q x ∧ H = [disk bd { D with bm := b', maps := (b', ptrs (nm' x)) :: D.maps, sts := v, stb := D.stb ++ [b'] }, E' x]) := by
 obtain ⟨room, bm, sts, wrs, pln, off, maps, arrs, files, stb, wl⟩ := D
 simp only at hm hlen ⊢
 refine Ctr.enter Tryz.func100 (by kernel_rfl) rfl Tryz.ntmps100 rfl rfl ?_
 intro G F R hE
 refine K_ent (disk_o _ _ _ _ _ _ _ _ _ _ _ _ _) ?_
 refine go ?_
 obtain ⟨j, hj⟩ := List.getElem?_of_mem hm
 refine J_ent (Ent.pick [1] rfl) ?_
 refine J_ent (stock_out mapG hj _) ?_
 refine J_call [0] rfl rfl rfl rfl (mapsClone_any bm (ptrs nm)) rfl (fun _ _ _ _ _ => trivial) ?_
 rintro _ _ ⟨b', rfl, rfl⟩
 refine J_ent (Ent.pick [1, 2] rfl) ?_
 refine J_ent (stock_in mapG hj _) ?_
 refine go ?_
 refine J_call [1, 7] rfl rfl rfl rfl (hc b') rfl (fun _ _ _ _ _ => trivial) ?_
 rintro _ _ ⟨x, hq, rfl⟩
 refine J_ent (Ent.pick [0, 2] rfl) ?_
 refine J_ent (stock_add mapG (b', ptrs (nm' x)) maps _) ?_
 refine go ?_
 refine K_drawA (fun w => Sat G w ([pts bd (cl [.int .i64 room, .map (some b'), sts, wrs, pln, .bool off] 85)])) (.st 0 (.st 1 (.st 2 (.st 3 (.st 4 (.st 5 (.st 6 (.st 7 (.st 8 (.act 9 (.act 10 (.st 11 (.st 12 (.act 13 .nil)))))))))))))) rfl (by kernel_rfl) (by kernel_rfl) (by kernel_rfl) (fun w hw => hw.ent (Ent.pickOnly ([2]) rfl)) ?_
 refine go ?_
 refine J_buildSlice1 (U := tab) rfl rfl rfl rfl rfl rfl rfl rfl rfl (fun _ w hw => hw.ent (Ent.pickOnly ([3]) rfl)) ?_
 intro b0
 refine J_append (U := tab) (mm := 1) (news := [.map (some b')]) 6 0 rfl rfl rfl rfl rfl rfl rfl rfl rfl rfl rfl rfl (Vw.pts rfl) rfl (by simp [Value.oneCell']) (by omega) (by show _ * 8 ≤ _; omega) (fun _ => rfl) (fun _ w hw => hw.ent (Ent.pickOnly ([3]) rfl)) ?_
 intro v'
 have e1 : (stb.map fun b => Value.map (some b)) ++ [.map (some b')] = (stb ++ [b']).map fun b => Value.map (some b) := by simp
 have e2 : stb.length + 1 = (stb ++ [b']).length := by simp
 rw [e1, e2]
 refine J_shape 6 rfl ?_
 rintro av cv rfl
 refine go ?_
 refine K_ent (Ent.pick [3, 1, 4, 5, 6, 7, 2] rfl) ?_
 refine K_ent (disk_c bd room b' _ wrs pln off _ arrs files (stb ++ [b']) wl _) ?_
 refine K_fallEnd hE Tryz.func100 rfl _ rfl ⟨x, b', _, hq, rfl⟩ (Ent.fin [0, 1] 1 rfl rfl)
theorem Rel.new (room bm bm2 : Nat) (v : Value) (h : room ≤ 1073741824) : Rel ⟨room, bm, v, .slice none 0 0, .slice none 0 0, false, [(bm2, []), (bm, [])], [], [], [bm2], []⟩ (Ab.new room) where
 room := rfl
 off := rfl
 names := by simp [Ab.new, ptrs]
 states := All2.one (by simp [ptrs])
 fs := All2.nil
 writes := All2.nil
 plan := BIn.nil _ _ _
 ids := by simp [Ab.new]
 known := by simp [Ab.new]
 knownW := by simp [Ab.new]
 nodup := by simp [Ab.new]
 smallF := by simp [Ab.new]
 smallW := by simp [Ab.new]
 smallN := by simp [Ab.new]
 smallR := h
 smallP := by simp [Ab.new]
 full := by simp [Ab.new]
theorem New_good (room : Nat) (h1 : 1 ≤ room) (h2 : room ≤ 1073741824) :
  Ctr Tryz.prog 11 [.int .i64 room] [] (fun v H => ∃ bd D, Rel D (Ab.new room) ∧ v = .tuple #[ptr bd, .int .i64 0] ∧ H = [disk bd D]) := by
 refine Ctr.enter Tryz.func11 (by kernel_rfl) rfl Tryz.ntmps11 rfl rfl ?_
 intro G F R hE
 repeat' (first | (with_reducible intro _hh) | refine go1 ?_ | refine J_fork ?_ ?_ | refine J_gsP rfl rfl rfl rfl ?_ ?_ | refine K_condP rfl rfl ?_ ?_)
 ·omega
 ·omega
 refine J_makeMap rfl (fun _ _ _ => trivial) ?_
 intro bm
 refine J_ent (Ent.head (B := [mapG (bm, [])]) (fun h hs => ⟨h, sub.refl h, Sep_one' (mapR_new _ _ h hs)⟩)) ?_
 refine J_makeMap rfl (fun _ _ _ => trivial) ?_
 intro bm2
 refine J_ent (Ent.head (B := [mapG (bm2, [])]) (fun h hs => ⟨h, sub.refl h, Sep_one' (mapR_new _ _ h hs)⟩)) ?_
 refine J_buildSlice1 (U := tab) rfl rfl rfl rfl rfl rfl rfl rfl rfl (fun _ _ _ => trivial) ?_
 intro b0
 refine go ?_
 refine J_box rfl rfl (fun _ _ _ => trivial) ?_
 intro bd
 refine go ?_
 refine K_ent (stock_nil mapG _) ?_
 refine K_ent (Ent.pick [4, 0] rfl) ?_
 refine K_ent (stock_add mapG (bm, []) [] _) ?_
 refine K_ent (Ent.pick [3, 0] rfl) ?_
 refine K_ent (stock_add mapG (bm2, []) [(bm, [])] _) ?_
 refine K_ent (Ent.pick [2] rfl) ?_
 refine K_ent (slc_row 81 1 b0 1 1 [.map (some bm2)] [] _ rfl (Nat.le_refl _) (by simp)) ?_
 refine K_ent (slc_lift 119 3 none _) ?_
 refine K_ent (arrS_nil 5 _) ?_
 refine K_ent (stock_nil fileG _) ?_
 refine K_ent (Ent.pick [5, 4, 1, 0, 3, 2] rfl) ?_
 refine K_ent (disk_c bd room bm (.slice (some ⟨b0, 0, none⟩) 1 1) (.slice none 0 0) (.slice none 0 0) false [(bm2, []), (bm, [])] [] [] [bm2] [] _) ?_
 refine K_return hE Tryz.func11 rfl _ rfl ⟨bd, _, Rel.new room bm bm2 _ h2, rfl, rfl⟩ (Ent.fin [0] 0 rfl rfl)
/-! ## the closures that change names -/
theorem lookIn_key {l : List (ByteArray × Nat)} {k : ByteArray} : (Ab.lookIn l k).isSome = true ↔ k ∈ l.map (·.1) := by
 unfold Ab.lookIn
 rw [Option.isSome_map, List.find?_isSome]
 simp only [decide_eq_true_eq, List.mem_map]
theorem adel_ptrs (l : List (ByteArray × Nat)) (k : ByteArray) : adel (ptrs l) k = ptrs (Ab.delN l k) := by
 unfold adel ptrs Ab.delN
 rw [List.filter_map]
 rfl
theorem aset_ptrs (l : List (ByteArray × Nat)) (k : ByteArray) (f : Nat) : aset (ptrs l) k (ptr f) = ptrs (Ab.setN l k f) := by
 have hk : (ptrs l).map (·.1) = l.map (·.1) := by simp [ptrs, Function.comp_def]
 unfold aset Ab.setN
 rw [hk]
 by_cases h : (Ab.lookIn l k).isSome = true
 ·rw [if_pos (lookIn_key.1 h), if_pos h]
  simp only [ptrs, List.map_map]
  apply List.map_congr_left
  intro x _
  simp only [Function.comp]
  split <;> rfl
 ·rw [if_neg (fun h' => h (lookIn_key.2 h')), if_neg h]
  simp [ptrs]
theorem Remove1_any (b box : Nat) (l : List (ByteArray × Nat)) (k : ByteArray) :
  Ctr Tryz.prog 112 [.map (some b), ptr box] [mapR Value.string b (ptrs l), pts box (cl [.string k] 9)] (fun _ H => H = [mapR Value.string b (ptrs (Ab.delN l k)), pts box (cl [.string k] 9)]) := by
 refine Ctr.enter Tryz.func112 (by kernel_rfl) rfl Tryz.ntmps112 rfl rfl ?_
 intro G F R hE
 refine go ?_
 refine J_delete (U := tab) 0 kStr (fun _ _ => trivial) rfl rfl rfl rfl rfl rfl rfl ?_
 rw [adel_ptrs]
 refine go ?_
 refine K_fallEnd hE Tryz.func112 rfl _ rfl rfl (Ent.fin [0, 1] 0 rfl rfl)
theorem Rename1_any (b box1 box2 box3 f : Nat) (l : List (ByteArray × Nat)) (k k2 : ByteArray) :
  Ctr Tryz.prog 147 [.map (some b), ptr box1, ptr box2, ptr box3] [mapR Value.string b (ptrs l), Sep [pts box1 (cl [.string k] 9), pts box2 (cl [ptr f] 117), pts box3 (cl [.string k2] 9)]]
   (fun _ H => H = [mapR Value.string b (ptrs (Ab.setN (Ab.delN l k) k2 f)), emp]) := by
 refine Ctr.enter Tryz.func147 (by kernel_rfl) rfl Tryz.ntmps147 rfl rfl ?_
 intro G F R hE
 refine K_ent (Ent.pick [1] rfl) ?_
 refine K_ent (Ent.unsep _ _) ?_
 refine go ?_
 refine J_delete (U := tab) 3 kStr (fun _ _ => trivial) rfl rfl rfl rfl rfl rfl rfl ?_
 rw [adel_ptrs]
 refine go ?_
 refine J_mapUpdate (U := tab) 3 kStr (fun _ _ => trivial) rfl rfl rfl rfl rfl rfl rfl rfl ?_
 rw [aset_ptrs]
 refine go ?_
 refine K_ent (Ent.addEmp _) ?_
 refine K_fallEnd hE Tryz.func147 rfl _ rfl rfl (Ent.fin [4, 0] 3 rfl rfl)
theorem Create1_any (b box : Nat) (l : List (ByteArray × Nat)) (k : ByteArray) :
  Ctr Tryz.prog 101 [.map (some b), ptr box] [mapR Value.string b (ptrs l), pts box (cl [.string k] 9)]
   (fun _ H => ∃ f, True ∧ H = [mapR Value.string b (ptrs (Ab.setN l k f)), fileG (f, .slice none 0 0, .slice none 0 0)]) := by
 refine Ctr.enter Tryz.func101 (by kernel_rfl) rfl Tryz.ntmps101 rfl rfl ?_
 intro G F R hE
 refine go ?_
 refine J_box rfl rfl (fun _ _ _ => trivial) ?_
 intro f
 refine go ?_
 refine J_mapUpdate (U := tab) (v := ptr f) 1 kStr (fun _ _ => trivial) rfl rfl rfl rfl rfl rfl rfl rfl ?_
 rw [aset_ptrs]
 refine go ?_
 refine K_fallEnd hE Tryz.func101 rfl _ rfl ⟨f, trivial, rfl⟩ (Ent.fin [1, 0] 1 rfl rfl)
end Go.Proofs.YtpecmnaikjbanaaGreatDoor
/- files, part e: Create, Remove, Rename. -/
namespace Go.Proofs.YtpecmnaikjbanaaGreatDoor
open Go Go.SL
attribute [local irreducible] J K Ctr Ends pts slc mapR mapI sbRow stock arrS
theorem fresh (l : List Nat) : ∃ n, n ∉ l := by
  suffices h : ∃ n, ∀ x ∈ l, x < n from let ⟨n, hn⟩ := h; ⟨n, fun hx => Nat.lt_irrefl _ (hn n hx)⟩
  induction l with
  | nil => exact ⟨0, by simp⟩
  | cons a l ih =>
    obtain ⟨n, hn⟩ := ih
    exact ⟨max n (a + 1), fun x hx => by
      rcases List.mem_cons.1 hx with rfl | h
      · omega
      · have := hn x h; omega⟩
theorem file_fresh {G : Glob} {w : World} {H : List HP} {files : List (Nat × Value × Value)} {x : Nat × Value × Value} (hs : Sat G w (fileG x :: stock fileG files :: H)) : x.1 ∉ files.map (·.1) := by
 intro hx
 obtain ⟨y, hy, he⟩ := List.mem_map.1 hx
 obtain ⟨i, hi⟩ := List.getElem?_of_mem hy
 have h1 := hs.ent ((Ent.perm (List.Perm.swap _ _ _)).trans ((stock_out fileG hi _).trans (Ent.pick [2, 0] rfl)))
 unfold fileG at h1
 exact h1.ne he.symm
theorem meet_fs (A : Ab) (may : Bool) : (A.meet may).2.fs = A.fs ∧ (A.meet may).2.names = A.names ∧ (A.meet may).2.states = A.states ∧ (A.meet may).2.writes = A.writes ∧ (A.meet may).2.room = A.room := by
 unfold Ab.meet
 split
 ·simp
 split
 ·simp
 split
 ·simp
 split
 ·simp
 split <;> simp
theorem Rel.chg {D : Dk} {A : Ab} (h : Rel D A) {b' : Nat} {v : Value} {nm : List (ByteArray × Nat)} (hk : ∀ x ∈ nm, x.2 ∈ A.fs.map (·.1)) (hn : (nm.map (·.1)).Nodup) (hl : nm.length ≤ 200) :
  Rel { D with bm := b', maps := (b', ptrs nm) :: D.maps, sts := v, stb := D.stb ++ [b'] } (A.chg nm) where
 room := h.room
 off := h.off
 names := by simp [Ab.chg]
 states := All2.snoc (h.states.mono fun b es hb => List.mem_cons_of_mem _ hb) (by simp)
 fs := h.fs
 writes := h.writes
 plan := h.plan
 ids := h.ids
 known := by
  intro st hst
  simp only [Ab.chg, List.mem_cons, List.mem_append, List.not_mem_nil, or_false] at hst
  rcases hst with rfl | hst | rfl
  ·exact hk
  ·exact h.known _ (List.mem_cons_of_mem _ hst)
  ·exact hk
 knownW := h.knownW
 nodup := by
  intro st hst
  simp only [Ab.chg, List.mem_cons, List.mem_append, List.not_mem_nil, or_false] at hst
  rcases hst with rfl | hst | rfl
  ·exact hn
  ·exact h.nodup _ (List.mem_cons_of_mem _ hst)
  ·exact hn
 smallF := h.smallF
 smallW := h.smallW
 smallN := by
  intro st hst
  simp only [Ab.chg, List.mem_cons, List.mem_append, List.not_mem_nil, or_false] at hst
  rcases hst with rfl | hst | rfl
  ·exact hl
  ·exact h.smallN _ (List.mem_cons_of_mem _ hst)
  ·exact hl
 smallR := h.smallR
 smallP := h.smallP
 full := by simp [Ab.chg]
theorem Rel.addFile {D : Dk} {A : Ab} (h : Rel D A) {f : Nat} (hf : f ∉ A.fs.map (·.1)) : Rel { D with files := (f, .slice none 0 0, .slice none 0 0) :: D.files } { A with fs := (f, [], []) :: A.fs } where
 room := h.room
 off := h.off
 names := h.names
 states := h.states
 fs := h.fs.cons ⟨rfl, BIn.nil _ _ _, BIn.nil _ _ _⟩
 writes := h.writes
 plan := h.plan
 ids := by simp only [List.map_cons, List.nodup_cons]; exact ⟨hf, h.ids⟩
 known := fun st hst x hx => List.mem_cons_of_mem _ (h.known st hst x hx)
 knownW := fun x hx => List.mem_cons_of_mem _ (h.knownW x hx)
 nodup := h.nodup
 smallF := fun x hx => by
  rcases List.mem_cons.1 hx with rfl | hx
  ·simp
  ·exact h.smallF x hx
 smallW := h.smallW
 smallN := h.smallN
 smallR := h.smallR
 smallP := h.smallP
 full := h.full
theorem All2.ids {q : Nat × Value × Value → Nat × List UInt8 × List UInt8 → Prop} {l : List (Nat × Value × Value)} {r : List (Nat × List UInt8 × List UInt8)} (h : All2 q l r) (hq : ∀ x y, q x y → x.1 = y.1) : l.map (·.1) = r.map (·.1) := by
 apply List.ext_getElem?
 intro i
 simp only [List.getElem?_map]
 cases hx : l[i]? with
 | none =>
  have : r[i]? = none := by rw [List.getElem?_eq_none_iff] at hx ⊢; rw [← h.1]; exact hx
  rw [this]; rfl
 | some x =>
  obtain ⟨y, hy, hxy⟩ := h.left hx
  rw [hy]
  simp [hq x y hxy]
theorem Rel.fids {D : Dk} {A : Ab} (h : Rel D A) : D.files.map (·.1) = A.fs.map (·.1) := All2.ids h.fs fun x y hxy => hxy.1
theorem setN_new {l : List (ByteArray × Nat)} {k : ByteArray} {f : Nat} (h : Ab.lookIn l k = none) : Ab.setN l k f = l ++ [(k, f)] := by simp [Ab.setN, h]
theorem Create_any (bd : Nat) (D : Dk) (A : Ab) (hR : Rel D A) (name : ByteArray) (hst : A.states.length ≤ 1000000000) :
  Ctr Tryz.prog 57 [ptr bd, .string name] [disk bd D]
   (fun v H => ∃ f D', f ∉ A.fs.map (·.1) ∧ Rel D' (A.create (isName name) name f).2 ∧ H = [disk bd D'] ∧ v = .int .i64 (A.create (isName name) name f).1) := by
 refine Ctr.enter Tryz.func57 (by kernel_rfl) rfl Tryz.ntmps57 rfl rfl ?_
 intro G F R hE
 refine go ?_
 refine J_box rfl rfl (fun _ _ _ => trivial) ?_
 intro box
 refine go ?_
 refine J_buildSlice1 (U := tab) rfl rfl rfl rfl rfl rfl rfl rfl rfl (fun _ _ _ => trivial) ?_
 intro b0
 refine go ?_
 refine J_call [0] rfl rfl rfl rfl (right_any _ _ [name] (Vw.pts rfl) (by simp)) rfl (fun _ _ _ _ _ => trivial) ?_
 rintro _ _ ⟨rfl, rfl⟩
 have e1 : [name].all isName = isName name := by simp
 rw [e1]
 refine go ?_
 refine J_call [2] rfl rfl rfl rfl (meet_any bd D A hR (isName name)) rfl (fun _ _ _ _ _ => trivial) ?_
 rintro _ _ ⟨D', hR', rfl, rfl⟩
 obtain ⟨f0, hf0⟩ := fresh (A.fs.map (·.1))
 have hmf := meet_fs A (isName name)
 refine go ?_
 refine K_condA rfl rfl ?_ ?_
 ·intro h0
  have h0' : ¬ (A.meet (isName name)).1 = 0 := by have := of_decide_eq_true h0; omega
  have hf : A.create (isName name) name f0 = ((A.meet (isName name)).1, (A.meet (isName name)).2) := by simp [Ab.create, h0']
  refine go ?_
  refine K_return hE Tryz.func57 rfl _ rfl ⟨f0, D', hf0, by rw [hf]; exact hR', rfl, by rw [hf]; rfl⟩ (Ent.fin [0] 2 rfl rfl)
 ·intro h0
  have h0' : (A.meet (isName name)).1 = 0 := by have := of_decide_eq_false h0; omega
  obtain ⟨room, bm, sts, wrs, pln, off, maps, arrs, files, stb, wl⟩ := D'
  have hst' : stb.length ≤ 1000000000 := by have := hR'.states.1; simp only at this; rw [this, hmf.2.2.1]; exact hst
  refine K_ent (disk_o _ _ _ _ _ _ _ _ _ _ _ _ _) ?_
  refine K_drawA (fun w => Sat G w ([pts bd (cl [.int .i64 room, .map (some bm), sts, wrs, pln, .bool off] 85), stock mapG maps, pts box (cl [.string name] 9)])) (.st 0 (.st 1 (.st 2 (.st 3 (.st 4 (.st 5 (.st 6 (.st 7 (.st 8 (.st 9 (.st 10 .nil))))))))))) rfl (by kernel_rfl) (by kernel_rfl) (by kernel_rfl) (fun w hw => hw.ent (Ent.pickOnly ([0, 1, 7]) rfl)) ?_
  refine go ?_
  refine J_lookupOkS (U := tab) rfl kStr rfl rfl rfl rfl rfl rfl rfl (fun w hw => map_of_stock (i := 1) hw rfl hR'.names) ?_
  rw [alook_ptrs]
  cases hl : Ab.lookIn (A.meet (isName name)).2.names name with
  | some fl =>
   have hf : A.create (isName name) name f0 = (5, (A.meet (isName name)).2) := by simp [Ab.create, h0', Ab.look, hl]
   refine go ?_
   refine K_ent ((Ent.pick [0, 1, 2, 3, 4, 5] rfl).trans (disk_c _ _ _ _ _ _ _ _ _ _ _ _ _)) ?_
   refine K_return hE Tryz.func57 rfl _ rfl ⟨f0, _, hf0, by rw [hf]; exact hR', rfl, by rw [hf]; rfl⟩ (Ent.fin [0] 2 rfl rfl)
  | none =>
   refine go ?_
   refine J_lenMapC (kv := Value.string) (U := tab) rfl rfl rfl rfl (fun w hw => map_of_stock (i := 1) hw rfl hR'.names) ?_
   have hpl : (ptrs (A.meet (isName name)).2.names).length = (A.meet (isName name)).2.names.length := by simp [ptrs]
   rw [hpl]
   refine go ?_
   refine K_condP rfl rfl ?_ ?_
   ·intro hfull
    have hf : A.create (isName name) name f0 = (3, (A.meet (isName name)).2) := by simp [Ab.create, h0', Ab.look, hl]; omega
    refine go ?_
    refine K_ent ((Ent.pick [0, 1, 2, 3, 4, 5] rfl).trans (disk_c _ _ _ _ _ _ _ _ _ _ _ _ _)) ?_
    refine K_return hE Tryz.func57 rfl _ rfl ⟨f0, _, hf0, by rw [hf]; exact hR', rfl, by rw [hf]; rfl⟩ (Ent.fin [0] 2 rfl rfl)
   ·intro hfull
    refine go ?_
    refine J_ent ((Ent.pick [0, 1, 2, 3, 4, 5] rfl).trans (disk_c _ _ _ _ _ _ _ _ _ _ _ _ _)) ?_
    refine J_call [0, 2] rfl rfl rfl rfl (change_any (α := Nat) bd _ _ hR'.names 101 #[ptr box] (pts box (cl [.string name] 9)) (fun f => Ab.setN (A.meet (isName name)).2.names name f) (fun f => fileG (f, .slice none 0 0, .slice none 0 0)) (fun _ => True) (fun b' => Create1_any b' box _ name) hst') rfl (fun _ _ _ _ _ => trivial) ?_
    rintro _ _ ⟨f, b', v, _, rfl⟩
    refine go ?_
    refine K_ent (disk_o _ _ _ _ _ _ _ _ _ _ _ _ _) ?_
    refine K_ent (Ent.pick [6, 3] rfl) ?_
    refine K_sat fun ⟨w, hw⟩ => ?_
    have hff : f ∉ A.fs.map (·.1) := by have := file_fresh hw; have h2 := hR'.fids; simp only at h2; rw [h2, hmf.1] at this; exact this
    clear hw
    refine K_ent (stock_add fileG (f, .slice none 0 0, .slice none 0 0) files _) ?_
    have hlk : (A.meet (isName name)).2.look name = none := hl
    have hf : A.create (isName name) name f = (0, { (A.meet (isName name)).2.chg ((A.meet (isName name)).2.names ++ [(name, f)]) with fs := (f, [], []) :: (A.meet (isName name)).2.fs }) := by
     simp only [Ab.create, h0', if_true, hlk, Option.isSome_none, Bool.false_eq_true, if_false]
     rw [if_neg (by omega)]
    have hset : Ab.setN (A.meet (isName name)).2.names name f = (A.meet (isName name)).2.names ++ [(name, f)] := setN_new hl
    have hnin : name ∉ (A.meet (isName name)).2.names.map (·.1) := fun h => by have := lookIn_key.2 h; rw [hl] at this; cases this
    have hR2 := (hR'.addFile (f := f) (by rw [hmf.1]; exact hff)).chg (b' := b') (v := v) (nm := (A.meet (isName name)).2.names ++ [(name, f)])
     (fun x hx => by
      rcases List.mem_append.1 hx with hx | hx
      ·exact List.mem_cons_of_mem _ (hR'.known _ (List.mem_cons_self ..) x hx)
      ·simp only [List.mem_singleton] at hx; subst hx; exact List.mem_cons_self ..)
     (by
      rw [List.map_append, List.nodup_append]
      exact ⟨hR'.nodup _ (List.mem_cons_self ..), by simp, fun a ha b hb => by simp at hb; subst hb; rintro rfl; exact hnin ha⟩)
     (by rw [List.length_append]; simp only [List.length_singleton]; omega)
    rw [hset]
    refine K_ent (Ent.pick [1, 2, 3, 0, 4, 5] rfl) ?_
    refine K_ent (disk_c bd room b' _ wrs pln off _ arrs _ (stb ++ [b']) wl _) ?_
    refine K_return hE Tryz.func57 rfl _ rfl ⟨f, _, hff, by rw [hf]; exact hR2, rfl, by rw [hf]; rfl⟩ (Ent.fin [0] 1 rfl rfl)
end Go.Proofs.YtpecmnaikjbanaaGreatDoor
/- files, part f: Size, Read. -/
namespace Go.Proofs.YtpecmnaikjbanaaGreatDoor
open Go Go.SL
attribute [local irreducible] J K Ctr Ends pts slc mapR mapI sbRow stock arrS
theorem Size_any (bd : Nat) (D : Dk) (A : Ab) (hR : Rel D A) (name : ByteArray) :
  Ctr Tryz.prog 67 [ptr bd, .string name] [disk bd D] (fun v H => H = [disk bd D] ∧ v = .tuple #[.int .i64 (A.size name).1, .int .i64 (A.size name).2]) := by
 obtain ⟨room, bm, sts, wrs, pln, off, maps, arrs, files, stb, wl⟩ := D
 refine Ctr.enter Tryz.func67 (by kernel_rfl) rfl Tryz.ntmps67 rfl rfl ?_
 intro G F R hE
 refine K_ent (disk_o _ _ _ _ _ _ _ _ _ _ _ _ _) ?_
 refine go ?_
 refine J_lookupOkC (U := tab) rfl kStr rfl rfl rfl rfl rfl rfl rfl (fun w hw => map_of_stock (i := 1) hw rfl hR.names) ?_
 rw [alook_ptrs]
 cases hl : Ab.lookIn A.names name with
 | none =>
  have hs : A.size name = (0, 4) := by simp [Ab.size, Ab.look, hl]
  rw [hs] at hE
  refine go ?_
  refine K_ent ((Ent.pick [0, 1, 2, 3, 4, 5] rfl).trans (disk_c _ _ _ _ _ _ _ _ _ _ _ _ _)) ?_
  refine K_return hE Tryz.func67 rfl _ rfl ⟨rfl, rfl⟩ (Ent.fin [0] 0 rfl rfl)
 | some fl =>
  have hs : A.size name = ((A.now fl).length, 0) := by simp [Ab.size, Ab.look, hl]
  rw [hs] at hE
  obtain ⟨i, v1, v2, hi, hfs, hv1, hv2⟩ := hR.file (f := fl) (hR.known _ (List.mem_cons_self ..) _ (lookIn_some hl))
  obtain ⟨a, cap, rfl, hcap⟩ := hv1.shape
  refine go ?_
  refine J_loadC (U := tab) rfl rfl (fun w hw => file_now (i := 3) hw rfl hi) rfl rfl ?_
  refine go ?_
  refine K_ent ((Ent.pick [0, 1, 2, 3, 4, 5] rfl).trans (disk_c _ _ _ _ _ _ _ _ _ _ _ _ _)) ?_
  refine K_return hE Tryz.func67 rfl _ rfl ⟨rfl, rfl⟩ (Ent.fin [0] 0 rfl rfl)
theorem Read_any (bd : Nat) (D : Dk) (A : Ab) (hR : Rel D A) (name : ByteArray) (at_ n : Int) :
  Ctr Tryz.prog 78 [ptr bd, .string name, .int .i64 at_, .int .i64 n] [disk bd D]
   (fun v H => ∃ r, H = [slc 5 1 r (A.read name at_ n).1.length (bV (A.read name at_ n).1), disk bd D] ∧ v = .tuple #[r, .int .i64 (A.read name at_ n).2]) := by
 obtain ⟨room, bm, sts, wrs, pln, off, maps, arrs, files, stb, wl⟩ := D
 have hoff := hR.off
 simp only at hoff
 refine Ctr.enter Tryz.func78 (by kernel_rfl) rfl Tryz.ntmps78 rfl rfl ?_
 intro G F R hE
 refine K_ent (disk_o _ _ _ _ _ _ _ _ _ _ _ _ _) ?_
 cases off with
 | true =>
  have hs : A.read name at_ n = ([], 7) := by simp [Ab.read, ← hoff]
  rw [hs] at hE
  refine go ?_
  refine K_ent ((Ent.pick [0, 1, 2, 3, 4, 5] rfl).trans (disk_c _ _ _ _ _ _ _ _ _ _ _ _ _)) ?_
  refine K_ent (slc_lift 5 1 none _) ?_
  refine K_return hE Tryz.func78 rfl _ rfl ⟨_, rfl, rfl⟩ (Ent.fin [0, 1] 0 rfl rfl)
 | false =>
  refine go ?_
  refine J_lookupOkC (U := tab) rfl kStr rfl rfl rfl rfl rfl rfl rfl (fun w hw => map_of_stock (i := 1) hw rfl hR.names) ?_
  rw [alook_ptrs]
  cases hl : Ab.lookIn A.names name with
  | none =>
   have hs : A.read name at_ n = ([], 4) := by simp [Ab.read, Ab.look, hl, ← hoff]
   rw [hs] at hE
   refine go ?_
   refine K_ent ((Ent.pick [0, 1, 2, 3, 4, 5] rfl).trans (disk_c _ _ _ _ _ _ _ _ _ _ _ _ _)) ?_
   refine K_ent (slc_lift 5 1 none _) ?_
   refine K_return hE Tryz.func78 rfl _ rfl ⟨_, rfl, rfl⟩ (Ent.fin [0, 1] 0 rfl rfl)
  | some fl =>
   have hs : A.read name at_ n = if at_ < 0 ∨ n < 0 ∨ ((A.now fl).length : Int) < at_ ∨ ((A.now fl).length : Int) - at_ < n then ([], 1) else (((A.now fl).drop at_.toNat).take n.toNat, 0) := by simp [Ab.read, Ab.look, hl, ← hoff]
   obtain ⟨i, v1, v2, hi, hfs, hv1, hv2⟩ := hR.file (f := fl) (hR.known _ (List.mem_cons_self ..) _ (lookIn_some hl))
   obtain ⟨a, cap, rfl, hcap⟩ := hv1.shape
   have hsm := (hR.small fl).1
   have hbad : ∀ (h : at_ < 0 ∨ n < 0 ∨ ((A.now fl).length : Int) < at_ ∨ ((A.now fl).length : Int) - at_ < n), A.read name at_ n = ([], 1) := fun h => by rw [hs, if_pos h]
   repeat' (first | (with_reducible intro _hh) | refine go1 ?_ | refine J_fork ?_ ?_ | refine J_gsP rfl rfl rfl rfl ?_ ?_ | refine K_condP rfl rfl ?_ ?_ | refine J_loadC (U := tab) rfl rfl (fun w hw => file_now (i := 3) hw rfl hi) rfl rfl ?_)
   any_goals (
    have hs2 := hbad (by omega)
    rw [hs2] at hE
    refine K_ent ((Ent.pick [0, 1, 2, 3, 4, 5] rfl).trans (disk_c _ _ _ _ _ _ _ _ _ _ _ _ _)) ?_
    refine K_ent (slc_lift 5 1 none _) ?_
    refine K_return hE Tryz.func78 rfl _ rfl ⟨_, rfl, rfl⟩ (Ent.fin [0, 1] 0 rfl rfl))
   refine J_sliceAny (U := tab) rfl rfl rfl rfl rfl rfl rfl (by omega) (by omega) (.inr (by omega)) ?_
   have hr : A.read name at_ n = (((A.now fl).drop at_.toNat).take n.toNat, 0) := by rw [hs, if_neg (by omega)]
   have hcut := hv1.cut at_.toNat n.toNat (by omega)
   have hlen : (((A.now fl).drop at_.toNat).take n.toNat).length = n.toNat := by rw [List.length_take, List.length_drop]; omega
   refine J_slot 61 (.slice (sliceAt a cap at_.toNat 1) (((A.now fl).drop at_.toNat).take n.toNat).length (cap - at_.toNat)) rfl (by rw [hlen]; congr 1; omega) ?_
   have hcut2 : BIn arrs (.slice (sliceAt a cap at_.toNat 1) (((A.now fl).drop at_.toNat).take n.toNat).length (cap - at_.toNat)) (((A.now fl).drop at_.toNat).take n.toNat) := by rw [hlen]; exact hcut
   rw [hr] at hE
   clear hcut hr hs hbad
   generalize hbs : ((A.now fl).drop at_.toNat).take n.toNat = bs at hE hcut2 hlen ⊢
   refine go ?_
   refine J_call [2] rfl rfl rfl rfl (Clone_bytes _ _ bs (hcut2.view _) (by omega)) rfl (fun _ _ _ _ _ => trivial) ?_
   rintro r _ rfl
   refine go ?_
   refine K_ent (Ent.pick [2, 3, 1, 4, 5, 6] rfl) ?_
   refine K_ent (disk_c bd room bm sts wrs pln false maps arrs files stb wl _) ?_
   refine K_return hE Tryz.func78 rfl _ rfl ⟨r, rfl, rfl⟩ (Ent.fin [1, 0] 0 rfl rfl)
end Go.Proofs.YtpecmnaikjbanaaGreatDoor
