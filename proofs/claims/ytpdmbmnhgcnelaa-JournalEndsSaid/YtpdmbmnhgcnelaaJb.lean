/- journal, plain: numbers in groups of seven bits. Nothing here names a program. -/
import Derived.Test.YtpdmbmnhgcnelaaEngM
import Derived.Test.YtpdmbmnhgcnelaaJa
set_option linter.unusedVariables false
set_option linter.unusedSimpArgs false
namespace Go.SL
/-- A number in groups of seven bits, the least first. -/
def uv (n : Nat) : List UInt8 := if n < 128 then [UInt8.ofNat n] else UInt8.ofNat (n % 128 + 128) :: uv (n / 128)
termination_by n
decreasing_by omega
theorem uv_small {n : Nat} (h : n < 128) : uv n = [UInt8.ofNat n] := by rw [uv, if_pos h]
theorem uv_big {n : Nat} (h : ¬ n < 128) : uv n = UInt8.ofNat (n % 128 + 128) :: uv (n / 128) := by rw [uv, if_neg h]
theorem uv_len : ∀ (k n : Nat), n < 128 ^ (k + 1) → (uv n).length ≤ k + 1
  | 0, n, h => by rw [uv_small (by simpa using h)]; simp
  | k + 1, n, h => by
    by_cases hn : n < 128
    · rw [uv_small hn]; simp
    · rw [uv_big hn, List.length_cons]
      have := uv_len k (n / 128) (Nat.div_lt_of_lt_mul (by rw [Nat.pow_succ, Nat.mul_comm] at h; exact h))
      omega
theorem uv_len10 {n : Nat} (h : n < 18446744073709551616) : (uv n).length ≤ 10 := uv_len 9 n (Nat.lt_of_lt_of_le h (by decide))
theorem uv_pos (n : Nat) : 0 < (uv n).length := by
  by_cases h : n < 128
  · rw [uv_small h]; simp
  · rw [uv_big h]; simp
theorem conv8 (m : Nat) : Value.int .u8 (IntKind.u8.wrap (m : Int)) = .int .u8 ((m % 256 : Nat) : Int) := by
  have h : IntKind.u8.wrap (m : Int) = (m : Int) % 256 := by simp [IntKind.wrap, IntKind.bits, IntKind.signed]
  rw [h]; congr 1
theorem more_u8 (m : Nat) : Value.int .u8 (IntKind.u8.wrap ((BitVec.ofInt IntKind.u8.bits ((m % 256 : Nat) : Int) ||| BitVec.ofInt IntKind.u8.bits 128).toNat : Int)) = u8 (UInt8.ofNat (m % 128 + 128)) := by
  rw [or128_u8 _ (by omega)]
  simp only [u8, UInt8.toNat_ofNat']
  congr 1
  omega
/-- What bytes begin with: a number, what is behind, whether it is as short as may be. -/
def cutL : Nat → Nat → List UInt8 → Option (Nat × List UInt8 × Bool)
  | _, _, [] => none
  | i, acc, c :: r => if i = 10 ∨ (i = 9 ∧ 1 < c.toNat) then none else if c.toNat < 128 then some (acc + c.toNat * 2 ^ (7 * i), r, decide (i = 0 ∨ 0 < c.toNat)) else cutL (i + 1) (acc + (c.toNat % 128) * 2 ^ (7 * i)) r
def cutA (bs : List UInt8) : Nat × List UInt8 × Bool := (cutL 0 0 bs).getD (0, [], false)
def toUintA (bs : List UInt8) : Option Nat := if (cutA bs).2.2 = true ∧ (cutA bs).2.1 = [] then some (cutA bs).1 else none
theorem step_lt {i acc c : Nat} (ha : acc < 2 ^ (7 * i)) (hc : c < 128) : acc + c * 2 ^ (7 * i) < 2 ^ (7 * (i + 1)) := by
  have h1 : acc + c * 2 ^ (7 * i) < (c + 1) * 2 ^ (7 * i) := by rw [Nat.add_mul, Nat.one_mul]; omega
  have h2 : (c + 1) * 2 ^ (7 * i) ≤ 128 * 2 ^ (7 * i) := Nat.mul_le_mul_right _ (by omega)
  have h3 : 2 ^ (7 * (i + 1)) = 128 * 2 ^ (7 * i) := by rw [show 7 * (i + 1) = 7 * i + 7 from by omega, Nat.pow_add, Nat.mul_comm]
  omega
theorem step_64 {i acc c : Nat} (hi : i ≤ 9) (ha : acc < 2 ^ (7 * i)) (hc : c < 128) (h9 : i = 9 → c ≤ 1) : acc + c * 2 ^ (7 * i) < 18446744073709551616 := by
  by_cases h : i = 9
  · subst h
    have := h9 rfl
    have h63 : (2 : Nat) ^ (7 * 9) = 9223372036854775808 := by decide
    rw [h63] at ha ⊢
    have : c * 9223372036854775808 ≤ 1 * 9223372036854775808 := Nat.mul_le_mul_right _ this
    omega
  · have h1 := step_lt ha hc
    have h2 : 2 ^ (7 * (i + 1)) ≤ 2 ^ 63 := Nat.pow_le_pow_right (by omega) (by omega)
    omega
theorem cutL_uv : ∀ (k n i acc : Nat) (rest : List UInt8), n < 128 ^ (k + 1) → i + k ≤ 8 → (i ≠ 0 → n ≠ 0) → cutL i acc (uv n ++ rest) = some (acc + n * 2 ^ (7 * i), rest, true)
  | k, n, i, acc, rest, hn, hik, h0 => by
    by_cases h : n < 128
    · rw [uv_small h]
      have e : (UInt8.ofNat n).toNat = n := by simp only [UInt8.toNat_ofNat']; omega
      simp only [List.cons_append, List.nil_append, cutL, e]
      rw [if_neg (by omega), if_pos h]
      have : (i = 0 ∨ 0 < n) := by
        by_cases hi : i = 0
        · exact .inl hi
        · exact .inr (by have := h0 hi; omega)
      rw [decide_eq_true this]
    · cases k with
      | zero => simp at hn; omega
      | succ k =>
        rw [uv_big h]
        have e : (UInt8.ofNat (n % 128 + 128)).toNat = n % 128 + 128 := by simp only [UInt8.toNat_ofNat']; omega
        simp only [List.cons_append, cutL, e]
        rw [if_neg (by omega), if_neg (by omega), show (n % 128 + 128) % 128 = n % 128 from by omega,
          cutL_uv k (n / 128) (i + 1) _ rest (Nat.div_lt_of_lt_mul (by rw [Nat.pow_succ, Nat.mul_comm] at hn; exact hn)) (by omega) (by intro _; omega)]
        have h3 : n / 128 * 2 ^ (7 * (i + 1)) = n / 128 * 128 * 2 ^ (7 * i) := by rw [show 7 * (i + 1) = 7 + 7 * i from by omega, Nat.pow_add, Nat.mul_assoc]
        have h4 : n % 128 * 2 ^ (7 * i) + n / 128 * 128 * 2 ^ (7 * i) = n * 2 ^ (7 * i) := by rw [← Nat.add_mul]; congr 1; omega
        rw [h3, Nat.add_assoc, h4]
theorem cutA_uv {n : Nat} (h : n < 9223372036854775808) (rest : List UInt8) : cutA (uv n ++ rest) = (n, rest, true) := by
  unfold cutA
  rw [cutL_uv 8 n 0 0 rest (Nat.lt_of_lt_of_le h (by decide)) (by omega) (by intro h; exact absurd rfl h)]
  simp
theorem toUint_uv {n : Nat} (h : n < 9223372036854775808) : toUintA (uv n) = some n := by
  have := cutA_uv h []
  rw [List.append_nil] at this
  unfold toUintA
  rw [this]; simp
/-- How long the number is that bytes begin with, and which it is, if it has two bytes at most. -/
def longA (bs : List UInt8) : Option (Nat × Nat) :=
  if 1 ≤ bs.length then match toUintA (bs.take 1) with
    | some n => some (1, n)
    | none => if 2 ≤ bs.length then (toUintA (bs.take 2)).map fun n => (2, n) else none
  else none
theorem toUint_small {bs : List UInt8} {n : Nat} (h : toUintA bs = some n) (hl : bs.length ≤ 2) : n < 16384 := by
  unfold toUintA cutA at h
  split at h
  · rename_i hh
    cases h
    match bs, hl with
    | [], _ => simp [cutL] at hh
    | [a], _ =>
      by_cases ha : a.toNat < 128
      · simp [cutL, ha]; omega
      · simp [cutL, ha] at hh
    | [a, b], _ =>
      by_cases ha : a.toNat < 128
      · simp [cutL, ha]; omega
      · by_cases hb : b.toNat < 128
        · simp [cutL, ha, hb]; omega
        · simp [cutL, ha, hb] at hh
  · cases h
end Go.SL

/- journal, part b: tlv's numbers; encoded; long. -/
set_option linter.unusedVariables false
set_option linter.unusedSimpArgs false
namespace Go.Proofs.Ytpdmbmnhgcnelaa
open Go Go.SL
attribute [local irreducible] J K Ctr Ends pts slc mapR mapI sbRow stock arrS loopP

theorem Uint_any (n : Nat) (h : n < 18446744073709551616) : Ctr Try.prog 83 [.int .u64 (n : Int)] [] (fun r H => H = [slc 5 1 r (uv n).length (bV (uv n))]) := by
  refine Ctr.enter Try.func83 (by kernel_rfl) rfl Try.ntmps83 rfl rfl ?_
  intro G F R hE
  (refine go ?_)
  (first | refine K_ent (slc_lift 5 1 none _) ?_ | refine J_ent (slc_lift 5 1 none _) ?_)
  have hu10 := uv_len10 h
  refine K_loop (fun s : Nat × List UInt8 × Value => s.2.1 ++ uv s.1 = uv n ∧ s.1 ≤ n) (fun s => s.1)
    (fun s => [(0, .int .u64 (s.1 : Int)), (3, s.2.2)])
    (fun s => slc 5 1 s.2.2 s.2.1.length (bV s.2.1) :: F) (n, [], .slice none 0 0) ⟨rfl, Nat.le_refl _⟩ rfl (by repeat (first | exact keep_nil | refine keep_cons rfl ?_)) entA ?_
  rintro ⟨m, done, v⟩ ⟨hm, hmn⟩ ih
  simp only at hm hmn
  have hlen : done.length + (uv m).length ≤ 10 := by rw [← List.length_append, hm]; exact hu10
  have hpos := uv_pos m
  (first | refine J_shape 0 rfl ?_ | refine K_shape 0 rfl ?_)
  rintro va vc hve
  simp only at hve
  subst hve
  (refine go ?_)
  refine K_condP rfl rfl ?_ ?_
  · intro hge
    simp only at hge
    have hbig : ¬ m < 128 := by omega
    (refine go ?_)
    refine J_convW (U := tab) rfl rfl rfl rfl rfl rfl ?_
    refine J_slot 10 (.int .u8 ((m % 256 : Nat) : Int)) rfl (conv8 m) ?_
    (refine go ?_)
    refine J_slot 11 (u8 (UInt8.ofNat (m % 128 + 128))) rfl (more_u8 m) ?_
    refine J_buildSlice1 (U := tab) (cs := bV [UInt8.ofNat (m % 128 + 128)]) rfl rfl rfl rfl rfl rfl rfl rfl rfl (fun _ _ _ => trivial) ?_
    intro b1
    refine J_append (U := tab) (mm := 1) (news := bV [UInt8.ofNat (m % 128 + 128)]) 1 0 rfl rfl rfl rfl rfl rfl rfl rfl rfl rfl rfl rfl (Vw.pts rfl) rfl (bV_one _) (by simp only; omega) (by show (_ + 1) * 1 ≤ _; simp only; omega) (fun _ => rfl) (fun _ _ _ => trivial) ?_
    intro v1
    rw [show bV done ++ bV [UInt8.ofNat (m % 128 + 128)] = bV (done ++ [UInt8.ofNat (m % 128 + 128)]) from by simp [bV], show done.length + 1 = (done ++ [UInt8.ofNat (m % 128 + 128)]).length from by simp]
    (first | refine J_shape 1 rfl ?_ | refine K_shape 1 rfl ?_)
    rintro wa wc rfl
    (refine go ?_)
    refine J_shr rfl rfl rfl (by omega) ?_
    refine J_slot 7 (.int .u64 ((m / 128 : Nat) : Int)) rfl (congrArg (Value.int .u64) (by show (m : Int) / 128 = _; omega)) ?_
    (refine go ?_)
    refine K_again ih (m / 128, done ++ [UInt8.ofNat (m % 128 + 128)], _) rfl ⟨by simp only [List.append_assoc, List.singleton_append]; rw [← uv_big hbig]; exact hm, by simp only; omega⟩ (by simp only; omega) (by repeat (first | exact keep_nil | refine keep_cons rfl ?_)) entA
  · intro hlt
    simp only at hlt
    have hsm : m < 128 := by omega
    (refine go ?_)
    refine J_slot 16 (u8 (UInt8.ofNat m)) rfl (by simp only [u8, UInt8.toNat_ofNat']; congr 1; omega) ?_
    refine J_buildSlice1 (U := tab) (cs := bV [UInt8.ofNat m]) rfl rfl rfl rfl rfl rfl rfl rfl rfl (fun _ _ _ => trivial) ?_
    intro b1
    refine J_append (U := tab) (mm := 1) (news := bV [UInt8.ofNat m]) 1 0 rfl rfl rfl rfl rfl rfl rfl rfl rfl rfl rfl rfl (Vw.pts rfl) rfl (bV_one _) (by simp only; omega) (by show (_ + 1) * 1 ≤ _; simp only; omega) (fun _ => rfl) (fun _ _ _ => trivial) ?_
    intro v1
    rw [show bV done ++ bV [UInt8.ofNat m] = bV (uv n) from by rw [← hm, uv_small hsm]; simp [bV], show done.length + 1 = (uv n).length from by rw [← hm, uv_small hsm]; simp]
    (refine go ?_)
    (first | refine K_return hE Try.func83 rfl _ rfl rfl entA | refine K_fallEnd hE Try.func83 rfl _ rfl rfl entA)
theorem shlU_slot {x q y : Nat} (hq : q ≤ 64) (h : x * 2 ^ q = y) (hy : y < 18446744073709551616) : Value.int .u64 (IntKind.u64.wrap ((x : Int) * 2 ^ (min ((q : Int).toNat) IntKind.u64.bits))) = .int .u64 (y : Int) := by
  have e : (x : Int) * 2 ^ (min ((q : Int).toNat) IntKind.u64.bits) = (y : Int) := by
    show (x : Int) * 2 ^ (min q 64) = _
    rw [Nat.min_eq_left hq, ← h]; push_cast; rfl
  rw [e, wrap_in (by simp only [inK]; omega)]
theorem nilVw (A : HP) : Vw A (.slice none 0 0) ([] : List UInt8).length (bV []) := ⟨none, 0, rfl, .inl rfl⟩
set_option maxRecDepth 20000 in
theorem cut_any (A : HP) (v : Value) (bs : List UInt8) (hv : Vw A v bs.length (bV bs)) (hcap : ∃ a c, v = .slice a bs.length c ∧ bs.length ≤ c) (hl : bs.length ≤ 9223372036854775807) :
    Ctr Try.prog 99 [v] [A] (fun r H => ∃ rv, r = .tuple #[.int .u64 ((cutA bs).1 : Int), rv, .bool (cutA bs).2.2] ∧ (Vw A rv (cutA bs).2.1.length (bV (cutA bs).2.1) ∧ ∃ a c, rv = .slice a (cutA bs).2.1.length c ∧ (cutA bs).2.1.length ≤ c) ∧ H = [A]) := by
  obtain ⟨a0, c0, rfl, hc0⟩ := hcap
  refine Ctr.enter Try.func99 (by kernel_rfl) rfl Try.ntmps99 rfl rfl ?_
  intro G F R hE
  (refine go ?_)
  refine K_loop (fun s : Nat × Nat => s.1 ≤ bs.length ∧ s.1 ≤ 10 ∧ (s.1 ≤ 9 → s.2 < 2 ^ (7 * s.1)) ∧ cutL 0 0 bs = cutL s.1 s.2 (bs.drop s.1)) (fun s => bs.length - s.1)
    (fun s => [(0, .slice a0 bs.length c0), (5, .int .u64 (s.2 : Int)), (8, .slice a0 bs.length c0), (9, .int .i64 bs.length), (10, .int .i64 s.1)])
    (fun _ => A :: F) (0, 0) ⟨Nat.zero_le _, by omega, by simp, by simp⟩ rfl (by repeat (first | exact keep_nil | refine keep_cons rfl ?_)) entA ?_
  rintro ⟨i, acc⟩ ⟨hi, hi10, hacc, hcut⟩ ih
  simp only at hi hi10 hacc hcut
  (refine go ?_)
  refine K_condP rfl rfl ?_ ?_
  case' refine_2 =>
    intro hge
    simp only at hge
    have hnil : cutA bs = (0, [], false) := by
      unfold cutA; rw [hcut, List.drop_eq_nil_of_le (by omega)]; simp [cutL]
    (refine go ?_)
    rw [hnil] at hE
    (first | refine K_return hE Try.func99 rfl _ rfl ⟨_, rfl, ⟨nilVw A, none, 0, rfl, Nat.le_refl _⟩, rfl⟩ entA | refine K_fallEnd hE Try.func99 rfl _ rfl ⟨_, rfl, ⟨nilVw A, none, 0, rfl, Nat.le_refl _⟩, rfl⟩ entA)
  intro hlt
  simp only at hlt
  have hi' : i < bs.length := by omega
  obtain ⟨ba, oa, ca, hsl⟩ := bV_at hv (by omega)
  simp only [Value.slice.injEq, true_and] at hsl
  obtain ⟨rfl, rfl⟩ := hsl
  obtain ⟨c, hc⟩ : ∃ c, bs[i]? = some c := ⟨bs[i], by simp⟩
  have hdr : bs.drop i = c :: bs.drop (i + 1) := by
    rw [List.drop_eq_getElem_cons hi']; congr 1
    rw [List.getElem?_eq_getElem hi'] at hc; exact Option.some.inj hc
  have hc256 : c.toNat < 256 := c.toNat_lt
  rw [hdr] at hcut
  simp only [cutL] at hcut
  (refine go ?_)
  refine J_at1 (U := tab) i rfl rfl rfl rfl rfl rfl rfl rfl hi' ?_
  refine J_loadAt (U := tab) 0 i rfl rfl rfl hv rfl (bV_get hc) rfl rfl ?_
  repeat' (first | (with_reducible intro _hh) | refine go1 ?_ | refine J_fork ?_ ?_ | refine J_gsP rfl rfl rfl rfl ?_ ?_ | refine K_condP rfl rfl ?_ ?_)
  case' refine_1 =>
    have hbad : (i = 10 ∨ (i = 9 ∧ 1 < c.toNat)) := by simp only at *; omega
  case' refine_2.refine_1.refine_1 =>
    have hbad : (i = 10 ∨ (i = 9 ∧ 1 < c.toNat)) := by simp only at *; omega
  case' refine_2.refine_1.refine_2 => 
    have hgood : ¬ (i = 10 ∨ (i = 9 ∧ 1 < c.toNat)) := by simp only at *; omega
  case' refine_2.refine_2 => 
    have hgood : ¬ (i = 10 ∨ (i = 9 ∧ 1 < c.toNat)) := by simp only at *; omega
  any_goals (
    have hnil : cutA bs = (0, [], false) := by unfold cutA; rw [hcut, if_pos hbad]; rfl
    rw [hnil] at hE
    (first | refine K_return hE Try.func99 rfl _ rfl ⟨_, rfl, ⟨nilVw A, none, 0, rfl, Nat.le_refl _⟩, rfl⟩ entA | refine K_fallEnd hE Try.func99 rfl _ rfl ⟨_, rfl, ⟨nilVw A, none, 0, rfl, Nat.le_refl _⟩, rfl⟩ entA))
  all_goals (
    have hi9 : i ≤ 9 := by omega
    have hac := hacc hi9
    have hm128 : c.toNat % 128 < 128 := Nat.mod_lt _ (by omega)
    have h64 := step_64 (c := c.toNat % 128) hi9 hac hm128 (by intro h; omega)
    refine J_slot 27 (.int .u8 ((c.toNat % 128 : Nat) : Int)) rfl (congrArg (Value.int .u8) (andNot128_u8 _ hc256)) ?_
    (refine go ?_)
    refine J_mul rfl rfl rfl (by simp only [inK]; omega) ?_
    refine J_slot 30 (.int .i64 ((7 * i : Nat) : Int)) rfl (congrArg (Value.int .i64) (by simp only; omega)) ?_
    refine J_shlW rfl rfl rfl (by omega) ?_
    refine J_slot 31 (.int .u64 ((c.toNat % 128 * 2 ^ (7 * i) : Nat) : Int)) rfl (shlU_slot (by omega) rfl (by omega)) ?_
    (refine go ?_)
    refine K_slot 5 (.int .u64 ((acc + c.toNat % 128 * 2 ^ (7 * i) : Nat) : Int)) rfl (congrArg (Value.int .u64) (or_u64 hac h64)) ?_
    (refine go ?_)
    refine K_condP rfl rfl ?_ ?_
    · intro hlow
      have hcm : c.toNat % 128 = c.toNat := by omega
      have hres : cutA bs = (acc + c.toNat % 128 * 2 ^ (7 * i), bs.drop (i + 1), decide (i = 0 ∨ 0 < c.toNat)) := by
        unfold cutA; rw [hcut, if_neg hgood, if_pos (by omega), hcm]; rfl
      refine K_drawA (fun w => Sat G w ([])) (sts 0 14 .nil) rfl (by kernel_rfl) (by kernel_rfl) (by kernel_rfl) (fun w hw => hw.ent entA) ?_
      (refine go ?_)
      refine J_sliceAny (U := tab) (p := (i : Int) + 1) (q := (bs.length : Int)) rfl rfl rfl rfl rfl rfl rfl (by omega) (by omega) (.inl rfl) ?_
      refine J_slot 39 (.slice (sliceAt (some ⟨ba, oa, none⟩) c0 (i + 1) 1) (bs.drop (i + 1)).length (c0 - (i + 1))) rfl (by rw [show ((i : Int) + 1).toNat = i + 1 from by omega, show ((bs.length : Int)).toNat = bs.length from by omega, List.length_drop]; rfl) ?_
      have hvr : Vw A (.slice (sliceAt (some ⟨ba, oa, none⟩) c0 (i + 1) 1) (bs.drop (i + 1)).length (c0 - (i + 1))) (bs.drop (i + 1)).length (bV (bs.drop (i + 1))) := by
        have := hv.cutk (s := 1) (by rw [bV_length]; omega) hc0 (i + 1) (by omega)
        rw [List.length_drop, show bV (bs.drop (i + 1)) = (bV bs).drop ((i + 1) * 1) from by simp [bV, List.map_drop]]
        exact this
      rw [hres] at hE
      repeat' (first | (with_reducible intro _hh) | refine go1 ?_ | refine J_fork ?_ ?_ | refine J_gsP rfl rfl rfl rfl ?_ ?_ | refine K_condP rfl rfl ?_ ?_)
      all_goals first
        | (have hi0 : i = 0 := (by simp only at _hh; omega)
           rw [decide_eq_true (Or.inl hi0 : i = 0 ∨ 0 < c.toNat)] at hE
           (first | refine K_return hE Try.func99 rfl _ rfl ⟨_, rfl, ⟨hvr, _, _, rfl, by simp only [List.length_drop]; omega⟩, rfl⟩ entA | refine K_fallEnd hE Try.func99 rfl _ rfl ⟨_, rfl, ⟨hvr, _, _, rfl, by simp only [List.length_drop]; omega⟩, rfl⟩ entA))
        | (have hi0 : ¬ i = 0 := (by simp only at _hh; omega)
           rw [show decide (i = 0 ∨ 0 < c.toNat) = decide ((0 : Int) < (c.toNat : Int)) from decide_eq_decide.2 ⟨fun h => by omega, fun h => .inr (by omega)⟩] at hE
           (first | refine K_return hE Try.func99 rfl _ rfl ⟨_, rfl, ⟨hvr, _, _, rfl, by simp only [List.length_drop]; omega⟩, rfl⟩ entA | refine K_fallEnd hE Try.func99 rfl _ rfl ⟨_, rfl, ⟨hvr, _, _, rfl, by simp only [List.length_drop]; omega⟩, rfl⟩ entA))
    · intro hhigh
      (refine go ?_)
      refine K_again ih (i + 1, acc + c.toNat % 128 * 2 ^ (7 * i)) rfl ⟨by simp only; omega, by simp only; omega, fun _ => step_lt hac hm128, by rw [hcut, if_neg hgood, if_neg (by omega)]⟩ (by simp only; omega) (by repeat (first | exact keep_nil | refine keep_cons rfl ?_)) entA)
end Go.Proofs.Ytpdmbmnhgcnelaa
