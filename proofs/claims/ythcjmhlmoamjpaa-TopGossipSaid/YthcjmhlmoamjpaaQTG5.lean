/- Texts of one claim, joined: Jb, Tl, EngDg, Wm, Pt, EngL, EngK, EngZ, EngS, EngT, Wl, Mm, Ma. -/
import Derived.Test.YthcjmhlmoamjpaaQTG3
import Derived.Test.YthcjmhlmoamjpaaQTG4
import Derived.DeepKeys
import Derived.ProofKit
import Derived.Below
import Derived.OpenShut
import Derived.Deep.Slices
import Derived.DataElems
/- journal, plain: numbers in groups of seven bits. Nothing here names a program. -/
set_option linter.unusedVariables false
set_option linter.unusedSimpArgs false
namespace Go.SL
/-- A number in groups of seven bits, the least first. -/
def uv (n : Nat) : List UInt8 := if n < 128 then [UInt8.ofNat n] else UInt8.ofNat (n % 128 + 128) :: uv (n / 128)
termination_by n
decreasing_by omega
theorem uv_small {n : Nat} (h : n < 128) : uv n = [UInt8.ofNat n] := by rw [uv, if_pos h]
theorem uv_big {n : Nat} (h : ¬ n < 128) : uv n = UInt8.ofNat (n % 128 + 128) :: uv (n / 128) := by rw [uv, if_neg h]
theorem uv_len : ∀ (k n : Nat), n < 128 ^ (k + 1) → (uv n).length ≤ k + 1
  | 0, n, h => by rw [uv_small (by simpa using h)]; simp
  | k + 1, n, h => by
    by_cases hn : n < 128
    · rw [uv_small hn]; simp
    · rw [uv_big hn, List.length_cons]
      have := uv_len k (n / 128) (Nat.div_lt_of_lt_mul (by rw [Nat.pow_succ, Nat.mul_comm] at h; exact h))
      omega
theorem uv_len10 {n : Nat} (h : n < 18446744073709551616) : (uv n).length ≤ 10 := uv_len 9 n (Nat.lt_of_lt_of_le h (by decide))
theorem uv_pos (n : Nat) : 0 < (uv n).length := by
  by_cases h : n < 128
  · rw [uv_small h]; simp
  · rw [uv_big h]; simp
theorem conv8 (m : Nat) : Value.int .u8 (IntKind.u8.wrap (m : Int)) = .int .u8 ((m % 256 : Nat) : Int) := by
  have h : IntKind.u8.wrap (m : Int) = (m : Int) % 256 := by simp [IntKind.wrap, IntKind.bits, IntKind.signed]
  rw [h]; congr 1
theorem more_u8 (m : Nat) : Value.int .u8 (IntKind.u8.wrap ((BitVec.ofInt IntKind.u8.bits ((m % 256 : Nat) : Int) ||| BitVec.ofInt IntKind.u8.bits 128).toNat : Int)) = u8 (UInt8.ofNat (m % 128 + 128)) := by
  rw [or128_u8 _ (by omega)]
  simp only [u8, UInt8.toNat_ofNat']
  congr 1
  omega
/-- What bytes begin with: a number, what is behind, whether it is as short as may be. -/
def cutL : Nat → Nat → List UInt8 → Option (Nat × List UInt8 × Bool)
  | _, _, [] => none
  | i, acc, c :: r => if i = 10 ∨ (i = 9 ∧ 1 < c.toNat) then none else if c.toNat < 128 then some (acc + c.toNat * 2 ^ (7 * i), r, decide (i = 0 ∨ 0 < c.toNat)) else cutL (i + 1) (acc + (c.toNat % 128) * 2 ^ (7 * i)) r
def cutA (bs : List UInt8) : Nat × List UInt8 × Bool := (cutL 0 0 bs).getD (0, [], false)
def toUintA (bs : List UInt8) : Option Nat := if (cutA bs).2.2 = true ∧ (cutA bs).2.1 = [] then some (cutA bs).1 else none
theorem step_lt {i acc c : Nat} (ha : acc < 2 ^ (7 * i)) (hc : c < 128) : acc + c * 2 ^ (7 * i) < 2 ^ (7 * (i + 1)) := by
  have h1 : acc + c * 2 ^ (7 * i) < (c + 1) * 2 ^ (7 * i) := by rw [Nat.add_mul, Nat.one_mul]; omega
  have h2 : (c + 1) * 2 ^ (7 * i) ≤ 128 * 2 ^ (7 * i) := Nat.mul_le_mul_right _ (by omega)
  have h3 : 2 ^ (7 * (i + 1)) = 128 * 2 ^ (7 * i) := by rw [show 7 * (i + 1) = 7 * i + 7 from by omega, Nat.pow_add, Nat.mul_comm]
  omega
theorem step_64 {i acc c : Nat} (hi : i ≤ 9) (ha : acc < 2 ^ (7 * i)) (hc : c < 128) (h9 : i = 9 → c ≤ 1) : acc + c * 2 ^ (7 * i) < 18446744073709551616 := by
  by_cases h : i = 9
  · subst h
    have := h9 rfl
    have h63 : (2 : Nat) ^ (7 * 9) = 9223372036854775808 := by decide
    rw [h63] at ha ⊢
    have : c * 9223372036854775808 ≤ 1 * 9223372036854775808 := Nat.mul_le_mul_right _ this
    omega
  · have h1 := step_lt ha hc
    have h2 : 2 ^ (7 * (i + 1)) ≤ 2 ^ 63 := Nat.pow_le_pow_right (by omega) (by omega)
    omega
theorem cutL_uv : ∀ (k n i acc : Nat) (rest : List UInt8), n < 128 ^ (k + 1) → i + k ≤ 8 → (i ≠ 0 → n ≠ 0) → cutL i acc (uv n ++ rest) = some (acc + n * 2 ^ (7 * i), rest, true)
  | k, n, i, acc, rest, hn, hik, h0 => by
    by_cases h : n < 128
    · rw [uv_small h]
      have e : (UInt8.ofNat n).toNat = n := by simp only [UInt8.toNat_ofNat']; omega
      simp only [List.cons_append, List.nil_append, cutL, e]
      rw [if_neg (by omega), if_pos h]
      have : (i = 0 ∨ 0 < n) := by
        by_cases hi : i = 0
        · exact .inl hi
        · exact .inr (by have := h0 hi; omega)
      rw [decide_eq_true this]
    · cases k with
      | zero => simp at hn; omega
      | succ k =>
        rw [uv_big h]
        have e : (UInt8.ofNat (n % 128 + 128)).toNat = n % 128 + 128 := by simp only [UInt8.toNat_ofNat']; omega
        simp only [List.cons_append, cutL, e]
        rw [if_neg (by omega), if_neg (by omega), show (n % 128 + 128) % 128 = n % 128 from by omega,
          cutL_uv k (n / 128) (i + 1) _ rest (Nat.div_lt_of_lt_mul (by rw [Nat.pow_succ, Nat.mul_comm] at hn; exact hn)) (by omega) (by intro _; omega)]
        have h3 : n / 128 * 2 ^ (7 * (i + 1)) = n / 128 * 128 * 2 ^ (7 * i) := by rw [show 7 * (i + 1) = 7 + 7 * i from by omega, Nat.pow_add, Nat.mul_assoc]
        have h4 : n % 128 * 2 ^ (7 * i) + n / 128 * 128 * 2 ^ (7 * i) = n * 2 ^ (7 * i) := by rw [← Nat.add_mul]; congr 1; omega
        rw [h3, Nat.add_assoc, h4]
theorem cutA_uv {n : Nat} (h : n < 9223372036854775808) (rest : List UInt8) : cutA (uv n ++ rest) = (n, rest, true) := by
  unfold cutA
  rw [cutL_uv 8 n 0 0 rest (Nat.lt_of_lt_of_le h (by decide)) (by omega) (by intro h; exact absurd rfl h)]
  simp
theorem toUint_uv {n : Nat} (h : n < 9223372036854775808) : toUintA (uv n) = some n := by
  have := cutA_uv h []
  rw [List.append_nil] at this
  unfold toUintA
  rw [this]; simp
/-- How long the number is that bytes begin with, and which it is, if it has two bytes at most. -/
def longA (bs : List UInt8) : Option (Nat × Nat) :=
  if 1 ≤ bs.length then match toUintA (bs.take 1) with
    | some n => some (1, n)
    | none => if 2 ≤ bs.length then (toUintA (bs.take 2)).map fun n => (2, n) else none
  else none
theorem toUint_small {bs : List UInt8} {n : Nat} (h : toUintA bs = some n) (hl : bs.length ≤ 2) : n < 16384 := by
  unfold toUintA cutA at h
  split at h
  · rename_i hh
    cases h
    match bs, hl with
    | [], _ => simp [cutL] at hh
    | [a], _ =>
      by_cases ha : a.toNat < 128
      · simp [cutL, ha]; omega
      · simp [cutL, ha] at hh
    | [a, b], _ =>
      by_cases ha : a.toNat < 128
      · simp [cutL, ha]; omega
      · by_cases hb : b.toNat < 128
        · simp [cutL, ha, hb]; omega
        · simp [cutL, ha, hb] at hh
  · cases h
end Go.SL

/- journal, part b: tlv's numbers; encoded; long. -/
set_option linter.unusedVariables false
set_option linter.unusedSimpArgs false
namespace Go.Proofs.Ythcjmhlmoamjpaa
open Go Go.SL
attribute [local irreducible] J K Ctr Ends pts slc mapR mapI sbRow stock arrS loopP

theorem Uint_any (n : Nat) (h : n < 18446744073709551616) : Ctr Try.prog 44 [.int .u64 (n : Int)] [] (fun r H => H = [slc 5 1 r (uv n).length (bV (uv n))]) := by
  refine Ctr.enter Try.func44 (by kernel_rfl) rfl Try.ntmps44 rfl rfl ?_
  intro G F R hE
  (refine go ?_)
  (first | refine K_ent (slc_lift 5 1 none _) ?_ | refine J_ent (slc_lift 5 1 none _) ?_)
  have hu10 := uv_len10 h
  refine K_loop (fun s : Nat × List UInt8 × Value => s.2.1 ++ uv s.1 = uv n ∧ s.1 ≤ n) (fun s => s.1)
    (fun s => [(0, .int .u64 (s.1 : Int)), (3, s.2.2)])
    (fun s => slc 5 1 s.2.2 s.2.1.length (bV s.2.1) :: F) (n, [], .slice none 0 0) ⟨rfl, Nat.le_refl _⟩ rfl (by repeat (first | exact keep_nil | refine keep_cons rfl ?_)) entA ?_
  rintro ⟨m, done, v⟩ ⟨hm, hmn⟩ ih
  simp only at hm hmn
  have hlen : done.length + (uv m).length ≤ 10 := by rw [← List.length_append, hm]; exact hu10
  have hpos := uv_pos m
  (first | refine J_shape 0 rfl ?_ | refine K_shape 0 rfl ?_)
  rintro va vc hve
  simp only at hve
  subst hve
  (refine go ?_)
  refine K_condP rfl rfl ?_ ?_
  · intro hge
    simp only at hge
    have hbig : ¬ m < 128 := by omega
    (refine go ?_)
    refine J_convW (U := tab) rfl rfl rfl rfl rfl rfl ?_
    refine J_slot 10 (.int .u8 ((m % 256 : Nat) : Int)) rfl (conv8 m) ?_
    (refine go ?_)
    refine J_slot 11 (u8 (UInt8.ofNat (m % 128 + 128))) rfl (more_u8 m) ?_
    refine J_buildSlice1 (U := tab) (cs := bV [UInt8.ofNat (m % 128 + 128)]) rfl rfl rfl rfl rfl rfl rfl rfl rfl (fun _ _ _ => trivial) ?_
    intro b1
    refine J_append (U := tab) (mm := 1) (news := bV [UInt8.ofNat (m % 128 + 128)]) 1 0 rfl rfl rfl rfl rfl rfl rfl rfl rfl rfl rfl rfl (Vw.pts rfl) rfl (bV_one _) (by simp only; omega) (by show (_ + 1) * 1 ≤ _; simp only; omega) (fun _ => rfl) (fun _ _ _ => trivial) ?_
    intro v1
    rw [show bV done ++ bV [UInt8.ofNat (m % 128 + 128)] = bV (done ++ [UInt8.ofNat (m % 128 + 128)]) from by simp [bV], show done.length + 1 = (done ++ [UInt8.ofNat (m % 128 + 128)]).length from by simp]
    (first | refine J_shape 1 rfl ?_ | refine K_shape 1 rfl ?_)
    rintro wa wc rfl
    (refine go ?_)
    refine J_shr rfl rfl rfl (by omega) ?_
    refine J_slot 7 (.int .u64 ((m / 128 : Nat) : Int)) rfl (congrArg (Value.int .u64) (by show (m : Int) / 128 = _; omega)) ?_
    (refine go ?_)
    refine K_again ih (m / 128, done ++ [UInt8.ofNat (m % 128 + 128)], _) rfl ⟨by simp only [List.append_assoc, List.singleton_append]; rw [← uv_big hbig]; exact hm, by simp only; omega⟩ (by simp only; omega) (by repeat (first | exact keep_nil | refine keep_cons rfl ?_)) entA
  · intro hlt
    simp only at hlt
    have hsm : m < 128 := by omega
    (refine go ?_)
    refine J_slot 16 (u8 (UInt8.ofNat m)) rfl (by simp only [u8, UInt8.toNat_ofNat']; congr 1; omega) ?_
    refine J_buildSlice1 (U := tab) (cs := bV [UInt8.ofNat m]) rfl rfl rfl rfl rfl rfl rfl rfl rfl (fun _ _ _ => trivial) ?_
    intro b1
    refine J_append (U := tab) (mm := 1) (news := bV [UInt8.ofNat m]) 1 0 rfl rfl rfl rfl rfl rfl rfl rfl rfl rfl rfl rfl (Vw.pts rfl) rfl (bV_one _) (by simp only; omega) (by show (_ + 1) * 1 ≤ _; simp only; omega) (fun _ => rfl) (fun _ _ _ => trivial) ?_
    intro v1
    rw [show bV done ++ bV [UInt8.ofNat m] = bV (uv n) from by rw [← hm, uv_small hsm]; simp [bV], show done.length + 1 = (uv n).length from by rw [← hm, uv_small hsm]; simp]
    (refine go ?_)
    (first | refine K_return hE Try.func44 rfl _ rfl rfl entA | refine K_fallEnd hE Try.func44 rfl _ rfl rfl entA)
theorem shlU_slot {x q y : Nat} (hq : q ≤ 64) (h : x * 2 ^ q = y) (hy : y < 18446744073709551616) : Value.int .u64 (IntKind.u64.wrap ((x : Int) * 2 ^ (min ((q : Int).toNat) IntKind.u64.bits))) = .int .u64 (y : Int) := by
  have e : (x : Int) * 2 ^ (min ((q : Int).toNat) IntKind.u64.bits) = (y : Int) := by
    show (x : Int) * 2 ^ (min q 64) = _
    rw [Nat.min_eq_left hq, ← h]; push_cast; rfl
  rw [e, wrap_in (by simp only [inK]; omega)]
theorem nilVw (A : HP) : Vw A (.slice none 0 0) ([] : List UInt8).length (bV []) := ⟨none, 0, rfl, .inl rfl⟩
set_option maxRecDepth 20000 in
theorem cut_any (A : HP) (v : Value) (bs : List UInt8) (hv : Vw A v bs.length (bV bs)) (hcap : ∃ a c, v = .slice a bs.length c ∧ bs.length ≤ c) (hl : bs.length ≤ 9223372036854775807) :
    Ctr Try.prog 60 [v] [A] (fun r H => ∃ rv, r = .tuple #[.int .u64 ((cutA bs).1 : Int), rv, .bool (cutA bs).2.2] ∧ (Vw A rv (cutA bs).2.1.length (bV (cutA bs).2.1) ∧ ∃ a c, rv = .slice a (cutA bs).2.1.length c ∧ (cutA bs).2.1.length ≤ c) ∧ H = [A]) := by
  obtain ⟨a0, c0, rfl, hc0⟩ := hcap
  refine Ctr.enter Try.func60 (by kernel_rfl) rfl Try.ntmps60 rfl rfl ?_
  intro G F R hE
  (refine go ?_)
  refine K_loop (fun s : Nat × Nat => s.1 ≤ bs.length ∧ s.1 ≤ 10 ∧ (s.1 ≤ 9 → s.2 < 2 ^ (7 * s.1)) ∧ cutL 0 0 bs = cutL s.1 s.2 (bs.drop s.1)) (fun s => bs.length - s.1)
    (fun s => [(0, .slice a0 bs.length c0), (5, .int .u64 (s.2 : Int)), (8, .slice a0 bs.length c0), (9, .int .i64 bs.length), (10, .int .i64 s.1)])
    (fun _ => A :: F) (0, 0) ⟨Nat.zero_le _, by omega, by simp, by simp⟩ rfl (by repeat (first | exact keep_nil | refine keep_cons rfl ?_)) entA ?_
  rintro ⟨i, acc⟩ ⟨hi, hi10, hacc, hcut⟩ ih
  simp only at hi hi10 hacc hcut
  (refine go ?_)
  refine K_condP rfl rfl ?_ ?_
  case' refine_2 =>
    intro hge
    simp only at hge
    have hnil : cutA bs = (0, [], false) := by
      unfold cutA; rw [hcut, List.drop_eq_nil_of_le (by omega)]; simp [cutL]
    (refine go ?_)
    rw [hnil] at hE
    (first | refine K_return hE Try.func60 rfl _ rfl ⟨_, rfl, ⟨nilVw A, none, 0, rfl, Nat.le_refl _⟩, rfl⟩ entA | refine K_fallEnd hE Try.func60 rfl _ rfl ⟨_, rfl, ⟨nilVw A, none, 0, rfl, Nat.le_refl _⟩, rfl⟩ entA)
  intro hlt
  simp only at hlt
  have hi' : i < bs.length := by omega
  obtain ⟨ba, oa, ca, hsl⟩ := bV_at hv (by omega)
  simp only [Value.slice.injEq, true_and] at hsl
  obtain ⟨rfl, rfl⟩ := hsl
  obtain ⟨c, hc⟩ : ∃ c, bs[i]? = some c := ⟨bs[i], by simp⟩
  have hdr : bs.drop i = c :: bs.drop (i + 1) := by
    rw [List.drop_eq_getElem_cons hi']; congr 1
    rw [List.getElem?_eq_getElem hi'] at hc; exact Option.some.inj hc
  have hc256 : c.toNat < 256 := c.toNat_lt
  rw [hdr] at hcut
  simp only [cutL] at hcut
  (refine go ?_)
  refine J_at1 (U := tab) i rfl rfl rfl rfl rfl rfl rfl rfl hi' ?_
  refine J_loadAt (U := tab) 0 i rfl rfl rfl hv rfl (bV_get hc) rfl rfl ?_
  repeat' (first | (with_reducible intro _hh) | refine go1 ?_ | refine J_fork ?_ ?_ | refine J_gsP rfl rfl rfl rfl ?_ ?_ | refine K_condP rfl rfl ?_ ?_)
  case' refine_1 =>
    have hbad : (i = 10 ∨ (i = 9 ∧ 1 < c.toNat)) := by simp only at *; omega
  case' refine_2.refine_1.refine_1 =>
    have hbad : (i = 10 ∨ (i = 9 ∧ 1 < c.toNat)) := by simp only at *; omega
  case' refine_2.refine_1.refine_2 => 
    have hgood : ¬ (i = 10 ∨ (i = 9 ∧ 1 < c.toNat)) := by simp only at *; omega
  case' refine_2.refine_2 => 
    have hgood : ¬ (i = 10 ∨ (i = 9 ∧ 1 < c.toNat)) := by simp only at *; omega
  any_goals (
    have hnil : cutA bs = (0, [], false) := by unfold cutA; rw [hcut, if_pos hbad]; rfl
    rw [hnil] at hE
    (first | refine K_return hE Try.func60 rfl _ rfl ⟨_, rfl, ⟨nilVw A, none, 0, rfl, Nat.le_refl _⟩, rfl⟩ entA | refine K_fallEnd hE Try.func60 rfl _ rfl ⟨_, rfl, ⟨nilVw A, none, 0, rfl, Nat.le_refl _⟩, rfl⟩ entA))
  all_goals (
    have hi9 : i ≤ 9 := by omega
    have hac := hacc hi9
    have hm128 : c.toNat % 128 < 128 := Nat.mod_lt _ (by omega)
    have h64 := step_64 (c := c.toNat % 128) hi9 hac hm128 (by intro h; omega)
    refine J_slot 27 (.int .u8 ((c.toNat % 128 : Nat) : Int)) rfl (congrArg (Value.int .u8) (andNot128_u8 _ hc256)) ?_
    (refine go ?_)
    refine J_mul rfl rfl rfl (by simp only [inK]; omega) ?_
    refine J_slot 30 (.int .i64 ((7 * i : Nat) : Int)) rfl (congrArg (Value.int .i64) (by simp only; omega)) ?_
    refine J_shlW rfl rfl rfl (by omega) ?_
    refine J_slot 31 (.int .u64 ((c.toNat % 128 * 2 ^ (7 * i) : Nat) : Int)) rfl (shlU_slot (by omega) rfl (by omega)) ?_
    (refine go ?_)
    refine K_slot 5 (.int .u64 ((acc + c.toNat % 128 * 2 ^ (7 * i) : Nat) : Int)) rfl (congrArg (Value.int .u64) (or_u64 hac h64)) ?_
    (refine go ?_)
    refine K_condP rfl rfl ?_ ?_
    · intro hlow
      have hcm : c.toNat % 128 = c.toNat := by omega
      have hres : cutA bs = (acc + c.toNat % 128 * 2 ^ (7 * i), bs.drop (i + 1), decide (i = 0 ∨ 0 < c.toNat)) := by
        unfold cutA; rw [hcut, if_neg hgood, if_pos (by omega), hcm]; rfl
      refine K_drawA (fun w => Sat G w ([])) (sts 0 14 .nil) rfl (by kernel_rfl) (by kernel_rfl) (by kernel_rfl) (fun w hw => hw.ent entA) ?_
      (refine go ?_)
      refine J_sliceAny (U := tab) (p := (i : Int) + 1) (q := (bs.length : Int)) rfl rfl rfl rfl rfl rfl rfl (by omega) (by omega) (.inl rfl) ?_
      refine J_slot 39 (.slice (sliceAt (some ⟨ba, oa, none⟩) c0 (i + 1) 1) (bs.drop (i + 1)).length (c0 - (i + 1))) rfl (by rw [show ((i : Int) + 1).toNat = i + 1 from by omega, show ((bs.length : Int)).toNat = bs.length from by omega, List.length_drop]; rfl) ?_
      have hvr : Vw A (.slice (sliceAt (some ⟨ba, oa, none⟩) c0 (i + 1) 1) (bs.drop (i + 1)).length (c0 - (i + 1))) (bs.drop (i + 1)).length (bV (bs.drop (i + 1))) := by
        have := hv.cutk (s := 1) (by rw [bV_length]; omega) hc0 (i + 1) (by omega)
        rw [List.length_drop, show bV (bs.drop (i + 1)) = (bV bs).drop ((i + 1) * 1) from by simp [bV, List.map_drop]]
        exact this
      rw [hres] at hE
      repeat' (first | (with_reducible intro _hh) | refine go1 ?_ | refine J_fork ?_ ?_ | refine J_gsP rfl rfl rfl rfl ?_ ?_ | refine K_condP rfl rfl ?_ ?_)
      all_goals first
        | (have hi0 : i = 0 := (by simp only at _hh; omega)
           rw [decide_eq_true (Or.inl hi0 : i = 0 ∨ 0 < c.toNat)] at hE
           (first | refine K_return hE Try.func60 rfl _ rfl ⟨_, rfl, ⟨hvr, _, _, rfl, by simp only [List.length_drop]; omega⟩, rfl⟩ entA | refine K_fallEnd hE Try.func60 rfl _ rfl ⟨_, rfl, ⟨hvr, _, _, rfl, by simp only [List.length_drop]; omega⟩, rfl⟩ entA))
        | (have hi0 : ¬ i = 0 := (by simp only at _hh; omega)
           rw [show decide (i = 0 ∨ 0 < c.toNat) = decide ((0 : Int) < (c.toNat : Int)) from decide_eq_decide.2 ⟨fun h => by omega, fun h => .inr (by omega)⟩] at hE
           (first | refine K_return hE Try.func60 rfl _ rfl ⟨_, rfl, ⟨hvr, _, _, rfl, by simp only [List.length_drop]; omega⟩, rfl⟩ entA | refine K_fallEnd hE Try.func60 rfl _ rfl ⟨_, rfl, ⟨hvr, _, _, rfl, by simp only [List.length_drop]; omega⟩, rfl⟩ entA))
    · intro hhigh
      (refine go ?_)
      refine K_again ih (i + 1, acc + c.toNat % 128 * 2 ^ (7 * i)) rfl ⟨by simp only; omega, by simp only; omega, fun _ => step_lt hac hm128, by rw [hcut, if_neg hgood, if_neg (by omega)]⟩ (by simp only; omega) (by repeat (first | exact keep_nil | refine keep_cons rfl ?_)) entA)
end Go.Proofs.Ythcjmhlmoamjpaa

/- tlv: ToUint; bytes that stand somewhere. -/
set_option linter.unusedVariables false
set_option linter.unusedSimpArgs false
namespace Go.Proofs.Ythcjmhlmoamjpaa
open Go Go.SL
attribute [local irreducible] J K Ctr Ends pts slc mapR mapI sbRow stock arrS loopP

/-- Bytes that stand somewhere in A. -/
def BAt (A : HP) (v : Value) (bs : List UInt8) : Prop := Vw A v bs.length (bV bs) ∧ ∃ a c, v = .slice a bs.length c ∧ bs.length ≤ c
theorem BAt.cut {A : HP} {a : Option Addr} {n c : Nat} {bs : List UInt8} (h : BAt A (.slice a n c) bs) (p : Nat) (hp : p ≤ bs.length) : BAt A (.slice (sliceAt a c p 1) (bs.length - p) (c - p)) (bs.drop p) := by
  obtain ⟨hv, a', c', he, hc⟩ := h
  simp only [Value.slice.injEq] at he
  obtain ⟨rfl, rfl, rfl⟩ := he
  refine ⟨?_, _, _, by rw [List.length_drop], by rw [List.length_drop]; omega⟩
  have := hv.cutk (s := 1) (by rw [bV_length]; omega) hc p hp
  rw [List.length_drop, show bV (bs.drop p) = (bV bs).drop (p * 1) from by simp [bV, List.map_drop]]
  exact this
theorem BAt.front {A : HP} {a : Option Addr} {n c : Nat} {bs : List UInt8} (h : BAt A (.slice a n c) bs) (q : Nat) (hq : q ≤ bs.length) : BAt A (.slice (sliceAt a c 0 1) q c) (bs.take q) := by
  obtain ⟨hv, a', c', he, hc⟩ := h
  simp only [Value.slice.injEq] at he
  obtain ⟨rfl, rfl, rfl⟩ := he
  have hl : (bs.take q).length = q := by rw [List.length_take]; omega
  refine ⟨?_, _, _, by rw [hl], by rw [hl]; omega⟩
  have := hv.cut0 (s := 1) q
  rw [hl, show bV (bs.take q) = (bV bs).take (q * 1) from by simp [bV, List.map_take]]
  exact this
theorem BAt.mono {A B : HP} {v : Value} {bs : List UInt8} (h : BAt A v bs) (hAB : ∀ h, B h → ∃ h', sub h' h ∧ A h') : BAt B v bs := ⟨h.1.mono hAB, h.2⟩
theorem BAt.piece {A : HP} {a : Option Addr} {n c : Nat} {bs : List UInt8} (h : BAt A (.slice a n c) bs) (p q : Nat) (hp : p ≤ q) (hq : q ≤ bs.length) : BAt A (.slice (sliceAt a c p 1) (q - p) (c - p)) ((bs.drop p).take (q - p)) := by
  have h1 := h.cut p (by omega)
  obtain ⟨hv, a', c', he, hc⟩ := h1
  have hlen : ((bs.drop p).take (q - p)).length = q - p := by rw [List.length_take, List.length_drop]; omega
  refine ⟨?_, _, _, by rw [hlen], by rw [hlen]; obtain ⟨_, _, _, he2, hc2⟩ := h; simp only [Value.slice.injEq] at he2; omega⟩
  obtain ⟨a2, cap2, he2, h0 | ⟨b, o, ha, hc2⟩⟩ := hv
  · simp only [Value.slice.injEq] at he2
    have : (bs.drop p) = [] := by simpa [bV] using h0
    refine ⟨_, _, by rw [hlen], .inl ?_⟩
    rw [this]; simp [bV]
  · simp only [Value.slice.injEq] at he2
    refine ⟨_, _, by rw [hlen], .inr ⟨b, o, by rw [he2.1, ha], fun h' hA j x hj => ?_⟩⟩
    refine hc2 h' hA j x ?_
    rw [show bV ((bs.drop p).take (q - p)) = (bV (bs.drop p)).take (q - p) from by simp [bV, List.map_take]] at hj
    rw [List.getElem?_take] at hj
    split at hj
    · exact hj
    · cases hj
theorem ToUint_any (A : HP) (v : Value) (bs : List UInt8) (hv : BAt A v bs) (hl : bs.length ≤ 9223372036854775807) :
    Ctr Try.prog 63 [v] [A] (fun r H => r = (match toUintA bs with
      | some n => .tuple #[.int .u64 (n : Int), .int .i64 0]
      | none => .tuple #[.int .u64 0, .int .i64 2]) ∧ H = [A]) := by
  refine Ctr.enter Try.func63 (by kernel_rfl) rfl Try.ntmps63 rfl rfl ?_
  intro G F R hE
  (refine go ?_)
  (first | refine J_callE rfl rfl rfl rfl (cut_any A v bs hv.1 hv.2 hl) entA ?_ (fun _ _ _ _ _ => trivial) | refine J_call0E rfl rfl rfl (cut_any A v bs hv.1 hv.2 hl) entA ?_ (fun _ _ _ _ _ => trivial) | (refine go ?_; first | refine J_callE rfl rfl rfl rfl (cut_any A v bs hv.1 hv.2 hl) entA ?_ (fun _ _ _ _ _ => trivial) | refine J_call0E rfl rfl rfl (cut_any A v bs hv.1 hv.2 hl) entA ?_ (fun _ _ _ _ _ => trivial)))
  rintro _ _ ⟨rv, rfl, ⟨hvr, a, c, rfl, _⟩, rfl⟩
  cases hok : (cutA bs).2.2 with
  | false =>
    have hn : toUintA bs = none := by unfold toUintA; rw [if_neg (by rw [hok]; simp)]
    rw [hn] at hE
    (refine go ?_)
    (first | refine K_return hE Try.func63 rfl _ rfl ⟨rfl, rfl⟩ entA | refine K_fallEnd hE Try.func63 rfl _ rfl ⟨rfl, rfl⟩ entA)
  | true =>
    repeat' (first | (with_reducible intro _hh) | refine go1 ?_ | refine J_fork ?_ ?_ | refine J_gsP rfl rfl rfl rfl ?_ ?_ | refine K_condP rfl rfl ?_ ?_)
    · have hn : toUintA bs = none := by unfold toUintA; rw [if_neg (fun h => by rw [h.2] at _hh; simp at _hh)]
      rw [hn] at hE
      (first | refine K_return hE Try.func63 rfl _ rfl ⟨rfl, rfl⟩ entA | refine K_fallEnd hE Try.func63 rfl _ rfl ⟨rfl, rfl⟩ entA)
    · have hn : toUintA bs = some (cutA bs).1 := by unfold toUintA; rw [if_pos ⟨hok, List.eq_nil_of_length_eq_zero (by omega)⟩]
      rw [hn] at hE
      (first | refine K_return hE Try.func63 rfl _ rfl ⟨rfl, rfl⟩ entA | refine K_fallEnd hE Try.func63 rfl _ rfl ⟨rfl, rfl⟩ entA)
/-- A record as bytes. -/
def encL (bs : List UInt8) : List UInt8 := uv bs.length ++ bs
end Go.Proofs.Ythcjmhlmoamjpaa
namespace Go.Proofs.Ythcjmhlmoamjpaa
open Go Go.SL
theorem slc_BAt {e : TypeId} {v : Value} {bs : List UInt8} (h0 : ∃ h, slc e 1 v bs.length (bV bs) h) : BAt (slc e 1 v bs.length (bV bs)) v bs := by
  refine ⟨Vw.of_slc e 1 v bs.length (bV bs) h0, ?_⟩
  obtain ⟨h, hl, ⟨a, rfl, hn, _⟩ | ⟨b, o, cap, pre, junk, rfl, hp, hn, hc, _⟩⟩ := h0
  · exact ⟨a, 0, by rw [hn], by omega⟩
  · exact ⟨_, cap, rfl, hn⟩
section
variable {P : Program} {f : FuncId} {n : Nat} {R : Ending → World → Prop} {G : Glob} {k : List Item} {L : Lst} {H : List HP} {S : World → Prop} {all : Array Oper} {rest : Pl}
theorem J_slcB {e : TypeId} {v : Value} {bs : List UInt8} (i : Nat) (hi : getL H i = some (slc e 1 v bs.length (bV bs))) (h : BAt (slc e 1 v bs.length (bV bs)) v bs → J P f n R G S all rest k L H) : J P f n R G S all rest k L H :=
  J_sat fun w hw => by
    obtain ⟨h1, _, hA⟩ := hw.getA hi
    exact h (slc_BAt ⟨h1, hA⟩)
theorem K_slcB {e : TypeId} {v : Value} {bs : List UInt8} (i : Nat) (hi : getL H i = some (slc e 1 v bs.length (bV bs))) (h : BAt (slc e 1 v bs.length (bV bs)) v bs → K P f n R G k L H) : K P f n R G k L H :=
  K_sat fun ⟨w, hw⟩ => by
    obtain ⟨h1, _, hA⟩ := hw.getA hi
    exact h (slc_BAt ⟨h1, hA⟩)
end
theorem Sep_get {H : List HP} {i : Nat} {A : HP} (hi : getL H i = some A) : ∀ h, Sep H h → ∃ h', sub h' h ∧ A h' := fun h hs => by
  rw [getL_eq] at hi
  obtain ⟨h', hs', hA⟩ := Ent.perm (perm_of_get hi) h hs
  obtain ⟨h1, h2, ha, _, hd, hj⟩ := hA
  refine ⟨h1, fun b o hb => ?_, ha⟩
  refine hs' b o ?_
  rw [hj b, hb]; rfl

end Go.Proofs.Ythcjmhlmoamjpaa

/- Engine, part Dg: hashes: arrays of 32 bytes; equality of arrays and structs. Nothing here names a program. -/
set_option linter.unusedSimpArgs false
set_option linter.unusedVariables false
set_option linter.unusedSectionVars false
namespace Go.SL
open Go
/-- A hash. -/
structure Dg where
  bs : List UInt8
  len : bs.length = 32
deriving DecidableEq
def Dg.at (x : Dg) (i : Nat) : UInt8 := x.bs.getD i 0
def Dg.zero : Dg := ⟨List.replicate 32 0, by simp⟩
instance : Inhabited Dg := ⟨Dg.zero⟩
def dC (x : Dg) : List Value :=
  [u8 (x.at 0), u8 (x.at 1), u8 (x.at 2), u8 (x.at 3), u8 (x.at 4), u8 (x.at 5), u8 (x.at 6), u8 (x.at 7), u8 (x.at 8), u8 (x.at 9), u8 (x.at 10), u8 (x.at 11), u8 (x.at 12), u8 (x.at 13), u8 (x.at 14), u8 (x.at 15),
   u8 (x.at 16), u8 (x.at 17), u8 (x.at 18), u8 (x.at 19), u8 (x.at 20), u8 (x.at 21), u8 (x.at 22), u8 (x.at 23), u8 (x.at 24), u8 (x.at 25), u8 (x.at 26), u8 (x.at 27), u8 (x.at 28), u8 (x.at 29), u8 (x.at 30), u8 (x.at 31)]
theorem dC_len (x : Dg) : (dC x).length = 32 := rfl
theorem dC_bV (x : Dg) : dC x = bV x.bs := by
  have h1 : x.bs = (List.range 32).map (fun i => x.at i) := by
    apply List.ext_getElem?
    intro i
    rcases Nat.lt_or_ge i 32 with h | h
    · rw [List.getElem?_map, List.getElem?_range h]
      simp only [Dg.at, Option.map_some, List.getD_eq_getElem?_getD]
      rw [List.getElem?_eq_getElem (by rw [x.len]; exact h)]; rfl
    · rw [List.getElem?_eq_none (by rw [x.len]; exact h), List.getElem?_eq_none (by simpa using h)]
  conv => rhs; rw [h1]
  rfl
theorem u8_inj2 {a b : UInt8} (h : u8 a = u8 b) : a = b := by
  simp only [u8, Value.int.injEq, true_and, Int.natCast_inj] at h
  exact UInt8.toNat.inj h
theorem bV_inj {a b : List UInt8} (h : bV a = bV b) : a = b := by
  induction a generalizing b with
  | nil => cases b with
    | nil => rfl
    | cons y b => simp [bV] at h
  | cons x a ih => cases b with
    | nil => simp [bV] at h
    | cons y b =>
      simp only [bV, List.map_cons, List.cons.injEq] at h
      rw [u8_inj2 h.1, ih h.2]
theorem dC_inj {a b : Dg} (h : dC a = dC b) : a = b := by
  rw [dC_bV, dC_bV] at h
  have := bV_inj h
  cases a; cases b; simp_all
section
variable {P : Program}
theorem eqItems_u8 {e : TypeId} (he : P.underlying e = some (.int .u8)) (hc : P.cellsOf e = 1) (d : Nat) (a b : List UInt8) (hl : a.length = b.length) (w : World) : ∀ is : List Nat, (∀ i ∈ is, i < a.length) →
    (Op.eqItems (d + 1) e (P.cellsOf e) (bV a).toArray (bV b).toArray is).run P w = .ok (decide (∀ i ∈ is, a[i]? = b[i]?)) w := by
  intro is
  induction is with
  | nil => intro _; simp [Op.eqItems]
  | cons i is ih =>
    intro hi
    have hpk : P.plainKey e = true := by unfold Program.plainKey; rw [he]
    have hia := hi i (List.mem_cons_self ..)
    have h1 : (bV a).toArray[i * P.cellsOf e]? = some (u8 (a[i]'hia)) := by rw [hc, Nat.mul_one]; simp [bV, hia]
    have h2 : (bV b).toArray[i * P.cellsOf e]? = some (u8 (b[i]'(hl ▸ hia))) := by rw [hc, Nat.mul_one]; simp [bV, hl ▸ hia]
    simp only [Op.eqItems, Sem.run_bind, run_part_plain w hpk h1, run_part_plain w hpk h2, Result.andThen_ok]
    have h3 : (Op.equalIn (d + 1) e (u8 (a[i]'hia)) (u8 (b[i]'(hl ▸ hia)))).run P w = .ok (decide (a[i]'hia = b[i]'(hl ▸ hia))) w := by
      simp only [Op.equalIn, Sem.run_bind, Go.run_underlying he, Result.andThen_ok, u8, if_true, Sem.run_pure]
      congr 1
      rw [Bool.eq_iff_iff]
      simp only [beq_iff_eq, decide_eq_true_iff]
      constructor
      · intro h; exact UInt8.toNat.inj (by omega)
      · intro h; rw [h]
    rw [h3]
    simp only [Result.andThen_ok]
    have h4 : (a[i]? = b[i]?) ↔ a[i]'hia = b[i]'(hl ▸ hia) := by
      rw [List.getElem?_eq_getElem hia, List.getElem?_eq_getElem (hl ▸ hia), Option.some.injEq]
    by_cases h5 : a[i]'hia = b[i]'(hl ▸ hia)
    · rw [decide_eq_true h5]
      simp only [Bool.not_true, Bool.false_eq_true, if_false]
      rw [ih fun j hj => hi j (List.mem_cons_of_mem _ hj)]
      congr 1
      rw [Bool.eq_iff_iff, decide_eq_true_iff, decide_eq_true_iff]
      constructor
      · intro h j hj
        rcases List.mem_cons.1 hj with rfl | hj
        · exact h4.2 h5
        · exact h j hj
      · exact fun h j hj => h j (List.mem_cons_of_mem _ hj)
    · rw [decide_eq_false h5]
      simp only [Bool.not_false, if_true, Sem.run_pure]
      congr 1
      rw [eq_comm, decide_eq_false_iff_not]
      exact fun h => h5 (h4.1 (h i (List.mem_cons_self ..)))
theorem run_equalB {t e : TypeId} {n : Nat} {a b : List UInt8} (ht : P.underlying t = some (.array n e)) (he : P.underlying e = some (.int .u8)) (hc : P.cellsOf e = 1) (ha : a.length = n) (hb : b.length = n) (d : Nat) (w : World) :
    (Op.equalIn (d + 2) t (.agg (bV a).toArray) (.agg (bV b).toArray)).run P w = .ok (decide (a = b)) w := by
  obtain ⟨i, hi⟩ := info_of_underlying he
  rw [run_equalIn_array w (d + 1) _ _ ht hi, eqItems_u8 he hc d a b (by omega) w _ (fun i hi => by rw [ha]; exact List.mem_range.1 hi)]
  congr 1
  rw [Bool.eq_iff_iff, decide_eq_true_iff, decide_eq_true_iff]
  constructor
  · intro h
    apply List.ext_getElem?
    intro j
    rcases Nat.lt_or_ge j n with hj | hj
    · exact h j (List.mem_range.2 hj)
    · rw [List.getElem?_eq_none (by omega), List.getElem?_eq_none (by omega)]
  · rintro rfl j _; rfl
theorem run_equalD {t e : TypeId} (ht : P.underlying t = some (.array 32 e)) (he : P.underlying e = some (.int .u8)) (hc : P.cellsOf e = 1) (a b : Dg) (d : Nat) (w : World) :
    (Op.equalIn (d + 2) t (.agg (dC a).toArray) (.agg (dC b).toArray)).run P w = .ok (decide (a = b)) w := by
  rw [dC_bV, dC_bV, run_equalB ht he hc a.len b.len]
  congr 1
  rw [Bool.eq_iff_iff, decide_eq_true_iff, decide_eq_true_iff]
  constructor
  · intro h; cases a; cases b; simp_all
  · rintro rfl; rfl
end
section
variable {P : Program} {U : Tr} [hU : TabOk P U] {f : FuncId} {n : Nat} {R : Ending → World → Prop} {G : Glob} {k : List Item} {L : Lst} {H H' : List HP} {S : World → Prop} {all : Array Oper} {rest : Pl}
  {ty : TypeId} {pos : String} {af : Array Edge} {gd : Option (Nat × Bool)} {m : Bool} {d : Tmp}
theorem J_eqAgg {x y : Operand} {t yt : TypeId} {c1 c2 : Array Value} {b : Bool} (hd : Nat.blt d n = true) (hx : ev L x = some (.agg c1)) (hy : ev L y = some (.agg c2)) (hg : P.eqGuardType P.depth t = false)
    (he : ∀ w, (Op.equal t (.agg c1) (.agg c2)).run P w = .ok b w)
    (h : J P f n R G S all rest k ((d, .bool b) :: L) H) : J P f n R G S all (.cons m true ⟨some d, .binOp .eql t x y yt, ty, pos, af, gd⟩ rest) k L H := by
  have hrun : ∀ a w, Has n L a → (execOp a.eval ⟨some d, .binOp .eql t x y yt, ty, pos, af, gd⟩).run P w = .ok (.value (.bool b)) w := fun a w ha => by
    have hgu : (eqGuard .eql t x y (.agg c1) (.agg c2)).run P w = .ok () w := by simp [eqGuard, hg]
    have hb : (binOp .eql t (.agg c1) (.agg c2)).run P w = .ok (.bool b) w := by
      simp only [binOp, Sem.run_bind, he, Result.andThen_ok, Sem.run_pure]
    simp only [execOp, ha.ev hx, ha.ev hy, Sem.run_bind, hgu, hb, Result.andThen_ok, Sem.run_pure]
  cases m with
  | false => exact J_read hd (fun a w ha _ => hrun a w ha) h
  | true => exact J_readS hd (fun a w ha _ => hrun a w ha) h
theorem J_neAgg {x y : Operand} {t yt : TypeId} {c1 c2 : Array Value} {b : Bool} (hd : Nat.blt d n = true) (hx : ev L x = some (.agg c1)) (hy : ev L y = some (.agg c2)) (hg : P.eqGuardType P.depth t = false)
    (he : ∀ w, (Op.equal t (.agg c1) (.agg c2)).run P w = .ok b w)
    (h : J P f n R G S all rest k ((d, .bool (!b)) :: L) H) : J P f n R G S all (.cons m true ⟨some d, .binOp .neq t x y yt, ty, pos, af, gd⟩ rest) k L H := by
  have hrun : ∀ a w, Has n L a → (execOp a.eval ⟨some d, .binOp .neq t x y yt, ty, pos, af, gd⟩).run P w = .ok (.value (.bool (!b))) w := fun a w ha => by
    have hgu : (eqGuard .neq t x y (.agg c1) (.agg c2)).run P w = .ok () w := by simp [eqGuard, hg]
    have hb : (binOp .neq t (.agg c1) (.agg c2)).run P w = .ok (.bool (!b)) w := by
      simp only [binOp, Sem.run_bind, he, Result.andThen_ok, Sem.run_pure]
    simp only [execOp, ha.ev hx, ha.ev hy, Sem.run_bind, hgu, hb, Result.andThen_ok, Sem.run_pure]
  cases m with
  | false => exact J_read hd (fun a w ha _ => hrun a w ha) h
  | true => exact J_readS hd (fun a w ha _ => hrun a w ha) h
/-- An array of nothing but its type's zero. -/
theorem J_build0 {t e : TypeId} {ty' te : Ty} {nn : Nat} {z : Array Value} (hd : Nat.blt d n = true) (ht : U.get t = some ty') (hu : ty'.und = .array nn e) (he : U.get e = some te) (hz : ty'.info.zero = some (.agg z))
    (h : J P f n R G S all rest k ((d, .agg z) :: L) H) : J P f n R G S all (.cons m true ⟨some d, .build t #[], ty, pos, af, gd⟩ rest) k L H := by
  have hrun : ∀ a w, Has n L a → (execOp a.eval ⟨some d, .build t #[], ty, pos, af, gd⟩).run P w = .ok (.value (.agg z)) w := fun a w ha => by
    simp only [execOp, Instr.build, Sem.run_bind, run_zeroValue ht hz, run_underlying ht, Result.andThen_ok, hu, run_sizeOf he, Array.map_empty, Instr.fill, Value.cells, Sem.run_pure]
  cases m with
  | false => exact J_read hd (fun a w ha _ => hrun a w ha) h
  | true => exact J_readS hd (fun a w ha _ => hrun a w ha) h
/-- A slice of a whole array that lies somewhere in a row. -/
theorem J_sliceArr {t elem : TypeId} {ty' te : Ty} {x : Operand} {nn b off : Nat} (hd : Nat.blt d n = true) (ht : U.get t = some ty') (hu : ty'.und = .array nn elem) (he : U.get elem = some te)
    (hx : ev L x = some (.pointer (some ⟨b, off, none⟩)))
    (h : J P f n R G S all rest k ((d, .slice (some ⟨b, off, none⟩) nn nn) :: L) H) :
    J P f n R G S all (.cons m true ⟨some d, .slice t x none none none, ty, pos, af, gd⟩ rest) k L H := by
  refine J_pure hd (fun a ha w => ?_) h
  simp only [execOp, ha.ev hx, Instr.sliceAt, Sem.run_bind, run_underlying ht, Result.andThen_ok, hu, Instr.sureAddr, Instr.sliceBounds, Option.map_none, run_sizeOf he, Sem.run_pure]
  simp [Addr.add, run_sizeOf he]
/-- A slice as an array: its place. -/
theorem J_arrayAt {t elem : TypeId} {ty' : Ty} {x : Operand} {nn len cap : Nat} {a0 : Option Addr} (hd : Nat.blt d n = true) (ht : U.get t = some ty') (hu : ty'.und = .array nn elem)
    (hx : ev L x = some (.slice a0 len cap)) (hl : nn ≤ len)
    (h : J P f n R G S all rest k ((d, .pointer a0) :: L) H) :
    J P f n R G S all (.cons m true ⟨some d, .sliceToArrayPointer t x, ty, pos, af, gd⟩ rest) k L H := by
  refine J_pure hd (fun a ha w => ?_) h
  simp only [execOp, ha.ev hx, Instr.arrayAt, Sem.run_bind, run_underlying ht, Result.andThen_ok, hu]
  rw [if_neg (by omega)]
  simp
end
end Go.SL

/- wire, plain: messages, what they may be, as bytes. -/
set_option linter.unusedVariables false
set_option linter.unusedSimpArgs false
namespace Go.Proofs.Ythcjmhlmoamjpaa
open Go Go.SL
structure Mem where
  id : Int
  inc : Int
  st : Int
  since : Int
deriving DecidableEq
instance : Inhabited Mem := ⟨⟨0, 0, 0, 0⟩⟩
def mmC (x : Mem) : List Value := [.int .i64 x.id, .int .i64 x.inc, .int .i64 x.st, .int .i64 x.since]
theorem mmC_len (x : Mem) : (mmC x).length = 4 := rfl
structure Msg where
  kind : Int
  hash : Dg
  piece : Int
  ids : List Int
  bytes : List UInt8
  proof : List Dg
  mems : List Mem
  seed : Bool
def Msg.zero : Msg := ⟨0, Dg.zero, 0, [], [], [], [], false⟩
def hasA (k : Int) : List Int :=
  if k = 1 ∨ k = 10 then [1, 2, 5] else if k = 2 ∨ k = 3 ∨ k = 5 then [1, 2, 3] else if k = 4 then [1, 2, 3, 5, 6] else if k = 6 then [1, 2, 8] else if k = 7 then [1, 2, 4] else if k = 8 then [1, 7]
  else if k = 9 ∨ k = 11 then [1, 2] else []
def mostA (k : Int) : Int := if k = 1 then 128 else if k = 4 then 16384 else if k = 10 then 4096 else 0
def inA (n lo hi : Int) : Bool := decide (lo ≤ n) && decide (n ≤ hi)
theorem inA_iff {n lo hi : Int} : inA n lo hi = true ↔ lo ≤ n ∧ n ≤ hi := by simp [inA]
def bareA (m : Msg) (i : Int) : Bool :=
  if i = 1 then false else if i = 2 then decide (m.hash = Dg.zero) else if i = 3 then decide (m.piece = 0) else if i = 4 then decide ((m.ids.length : Int) = 0) else if i = 5 then decide ((m.bytes.length : Int) = 0)
  else if i = 6 then decide ((m.proof.length : Int) = 0) else if i = 7 then decide ((m.mems.length : Int) = 0) else !m.seed
def oddId (i : Int) : Bool := !inA i 1 65536
def oddMem (x : Mem) : Bool := oddId x.id || !inA x.inc 0 1073741824 || !inA x.st 1 3 || decide (x.since ≠ 0)
def fitsA (m : Msg) (i : Int) : Bool :=
  if i = 3 then inA m.piece 0 1023 else if i = 4 then decide ((m.ids.length : Int) ≤ 64) && !m.ids.any oddId else if i = 5 then inA m.bytes.length 1 (mostA m.kind) else if i = 6 then decide ((m.proof.length : Int) ≤ 10)
  else if i = 7 then inA m.mems.length 1 65 && !m.mems.any oddMem else true
def okItem (m : Msg) (i : Int) : Bool := if i ∈ hasA m.kind then fitsA m i else bareA m i
def rightA (m : Msg) : Bool := okItem m 1 && okItem m 2 && okItem m 3 && okItem m 4 && okItem m 5 && okItem m 6 && okItem m 7 && okItem m 8
def uintsL (l : List Int) : List UInt8 := l.flatMap fun n => uv n.toNat
def bodyA (m : Msg) (i : Int) : List UInt8 :=
  if i = 1 then uintsL [m.kind] else if i = 2 then m.hash.bs else if i = 3 then uintsL [m.piece] else if i = 4 then uintsL m.ids else if i = 5 then m.bytes else if i = 6 then m.proof.flatMap Dg.bs
  else if i = 7 then m.mems.flatMap fun x => uintsL [x.id, x.inc, x.st] else if i = 8 then uintsL [if m.seed then 1 else 0] else []
/-- An item as bytes; items as a record. -/
def itemL (x : Int × List UInt8) : List UInt8 := UInt8.ofNat x.1.toNat :: (uv x.2.length ++ x.2)
def recL (l : List (Int × List UInt8)) : List UInt8 := l.flatMap itemL
def itemsA (m : Msg) : List (Int × List UInt8) := (hasA m.kind).map fun i => (i, bodyA m i)
/-- The number with which bytes begin, of six bytes at most, and how long it is. -/
def num1 (bs : List UInt8) : Nat → Nat → Option (Nat × Nat)
  | 0, _ => none
  | f + 1, k => if k ≤ bs.length then (match toUintA (bs.take k) with
    | some n => some (n, k)
    | none => num1 bs f (k + 1)) else none
def numA (bs : List UInt8) : Option (Nat × Nat) := num1 bs 6 1
def numsL : Nat → List UInt8 → List Int
  | 0, _ => []
  | f + 1, bs => if bs = [] then [] else match numA bs with
    | none => [-1]
    | some (n, k) => (n : Int) :: numsL f (bs.drop k)
def numsA (bs : List UInt8) : List Int := numsL bs.length bs
def oneA (bs : List UInt8) : Option Int := match numsA bs with
  | [n] => if n < 0 then none else some n
  | _ => none
def digs : Nat → List UInt8 → List Dg
  | 0, _ => []
  | f + 1, bs => if h : 32 ≤ bs.length then ⟨bs.take 32, by rw [List.length_take]; omega⟩ :: digs f (bs.drop 32) else []
def memsL : List Int → List Mem
  | a :: b :: c :: l => ⟨a, b, c, 0⟩ :: memsL l
  | _ => []
/-- An item's bytes put into a message. -/
def putA (m : Msg) (i : Int) (b : List UInt8) : Option Msg :=
  if i = 2 then (if h : b.length = 32 then some { m with hash := ⟨b, h⟩ } else none)
  else if i = 3 then (oneA b).map fun n => { m with piece := n }
  else if i = 4 then some { m with ids := numsA b }
  else if i = 5 then some { m with bytes := b }
  else if i = 6 then (if b.length % 32 = 0 then some { m with proof := digs b.length b } else none)
  else if i = 7 then (if (numsA b).length % 3 = 0 then some { m with mems := memsL (numsA b) } else none)
  else if i = 8 then (match oneA b with
    | some n => if n ≤ 1 then some { m with seed := decide (n = 1) } else none
    | none => none)
  else none
/-- tlv: the items of bytes. -/
def tlvL : Nat → List UInt8 → List (Int × List UInt8)
  | 0, _ => []
  | f + 1, b => match b with
    | [] => []
    | c :: r => if (cutA r).2.2 = true ∧ (cutA r).1 ≤ (cutA r).2.1.length then ((c.toNat : Int), (cutA r).2.1.take (cutA r).1) :: tlvL f ((cutA r).2.1.drop (cutA r).1) else [(0, [])]
def riseOk : Int → List (Int × List UInt8) → Bool
  | _, [] => true
  | last, x :: l => decide (last < x.1) && decide (x.1 ≤ 63) && riseOk x.1 l
def tlvA (b : List UInt8) : Option (List (Int × List UInt8)) := if 65536 < b.length then none else if riseOk 0 (tlvL b.length b) then some (tlvL b.length b) else none
def putAll (m : Msg) : List (Int × Int × List UInt8) → Option Msg
  | [] => some m
  | (i, j, b) :: l => if i ≠ j then none else match putA m i b with
    | some m' => putAll m' l
    | none => none
def decodeA (b : List UInt8) : Option Msg := match tlvA b with
  | some ((1, b0) :: l) => match oneA b0 with
    | some k => if (hasA k).length ≠ l.length + 1 then none else match putAll { Msg.zero with kind := k } (((hasA k).drop 1).zip l) with
      | some m => if rightA m then some m else none
      | none => none
    | none => none
  | _ => none
end Go.Proofs.Ythcjmhlmoamjpaa

/- A pointer to a variable. -/
namespace Go.Proofs.Ythcjmhlmoamjpaa
open Go Go.SL
def ptr (f : Nat) : Value := .pointer (some ⟨f, 0, none⟩)
end Go.Proofs.Ythcjmhlmoamjpaa

/- Engine, part L: a whole element read where it stands through a region. Nothing here names a program. -/
set_option linter.unusedVariables false
set_option linter.unusedSimpArgs false
namespace Go.SL
section
variable {P : Program} {U : Tr} [hU : TabOk P U] {f : FuncId} {n : Nat} {R : Ending → World → Prop} {G : Glob} {k : List Item} {L : Lst} {H H' : List HP} {S : World → Prop} {all : Array Oper} {rest : Pl}
  {ty : TypeId} {pos : String} {af : Array Edge} {gd : Option (Nat × Bool)} {m : Bool} {d : Tmp}
theorem J_loadElemS {Hs : List HP} {t : TypeId} {x : Operand} {b o off nn cap : Nat} {ty' : Ty} {es cs : List Value} {A : HP} (i idx : Nat) (hd : Nat.blt d n = true) (hx : ev L x = some (.pointer (some ⟨b, off, none⟩)))
    (hi : getL Hs i = some A) (hv : Vw A (.slice (some ⟨b, o, none⟩) nn cap) nn cs) (hoff : off = o + idx) (hes : ∀ j v, es[j]? = some v → cs[idx + j]? = some v) (ht : U.get t = some ty') (hg : ty'.isAgg = true) (hl : Nat.beq es.length ty'.info.size = true)
    (h : J P f n R G (fun w => Sat G w Hs) all rest k ((d, .agg es.toArray) :: L) H) : J P f n R G (fun w => Sat G w Hs) all (.cons true true ⟨some d, .load t x, ty, pos, af, gd⟩ rest) k L H :=
  J_readS hd (fun a w ha hw => by
    have hc : ∀ j v, es[j]? = some v → w.cell? ⟨b, off + j, none⟩ = some v := fun j v hj => by
      obtain ⟨h, hh, hA⟩ := Sat.getA hw hi
      have := hv.cell (hes j v hj) h hA
      rw [hoff, show o + idx + j = o + (idx + j) by omega]
      exact cell_of_hcell hh this
    simp [execOp, ha.ev hx, run_loadAgg (P := P) ht hg (Nat.eq_of_beq_eq_true hl) hc]) h
end
theorem eqS_dec (a b : ByteArray) : eqS a b = decide (a = b) := by
  rw [Bool.eq_iff_iff, eqS_iff]; simp
end Go.SL

/- Engine, part K: rows of any cells that nobody writes any more. Nothing here names a program. -/
set_option linter.unusedVariables false
set_option linter.unusedSimpArgs false
namespace Go.SL
/-- The slice v holds the cells cs, n elements of s cells, in one of these rows. -/
def RIn (M : Arrs) (s : Nat) (v : Value) (n : Nat) (cs : List Value) : Prop :=
  cs.length = n * s ∧ ∃ a cap, v = .slice a n cap ∧ n ≤ cap ∧ (n = 0 ∨ ∃ b o row, a = Option.some ⟨b, o, none⟩ ∧ (b, row) ∈ M ∧ (row.drop o).take cs.length = cs)
theorem RIn.mono {M M' : Arrs} {s n : Nat} {v : Value} {cs : List Value} (h : RIn M s v n cs) (hs : ∀ x ∈ M, x ∈ M') : RIn M' s v n cs := by
  obtain ⟨hl, a, cap, hv, hc, h0 | ⟨b, o, row, ha, hm, ht⟩⟩ := h
  · exact ⟨hl, a, cap, hv, hc, .inl h0⟩
  · exact ⟨hl, a, cap, hv, hc, .inr ⟨b, o, row, ha, hs _ hm, ht⟩⟩
theorem RIn.nil (M : Arrs) (s : Nat) (a : Option Addr) (cap : Nat) : RIn M s (.slice a 0 cap) 0 [] := ⟨by simp, a, cap, rfl, Nat.zero_le _, .inl rfl⟩
theorem RIn.shape {M : Arrs} {s n : Nat} {v : Value} {cs : List Value} (h : RIn M s v n cs) : ∃ a cap, v = .slice a n cap ∧ n ≤ cap := by
  obtain ⟨_, a, cap, hv, hc, _⟩ := h; exact ⟨a, cap, hv, hc⟩
theorem RIn.view {M : Arrs} {s n : Nat} {v : Value} {cs : List Value} (h : RIn M s v n cs) (e : TypeId) : Vw (arrS e M) v n cs := by
  obtain ⟨hl, a, cap, rfl, hc, h0 | ⟨b, o, row, ha, hm, ht⟩⟩ := h
  · have : cs = [] := List.eq_nil_of_length_eq_zero (by rw [hl, h0, Nat.zero_mul])
    subst h0 this; exact ⟨a, cap, rfl, .inl rfl⟩
  · have h1 : Vw (pts b (cl row e)) (.slice a n cap) n cs := by rw [ha]; exact Vw.pts ht
    exact h1.mono fun h hs => Sep_mem (List.mem_map.2 ⟨(b, row), hm, rfl⟩) hs
/-- A slice of its own becomes one of these. -/
theorem row_slcO (e : TypeId) (s n : Nat) (v : Value) (cs : List Value) (M : Arrs) : ∀ h, star (slc e s v n cs) (arrS e M) h → ∃ M', (RIn M' s v n cs ∧ ∀ x ∈ M, x ∈ M') ∧ Sep [arrS e M'] h := by
  rintro h ⟨h1, h2, ⟨hl, ⟨a, rfl, hn, he⟩ | ⟨b, o, cap, pre, junk, rfl, hp, hn, hc, hpt⟩⟩, hM, hd, hj⟩
  · have : cs = [] := List.eq_nil_of_length_eq_zero (by rw [hl, hn, Nat.zero_mul])
    subst hn this
    exact ⟨M, ⟨RIn.nil M s a 0, fun _ h => h⟩, Sep_one' (emp_star ⟨h1, h2, he, hM, hd, hj⟩)⟩
  · refine ⟨(b, pre ++ cs ++ junk) :: M, ⟨⟨hl, _, cap, rfl, hn, .inr ⟨b, o, pre ++ cs ++ junk, rfl, by simp, ?_⟩⟩, fun x hx => by simp [hx]⟩, Sep_one' ⟨h1, h2, hpt, hM, hd, hj⟩⟩
    subst hp
    rw [List.append_assoc, List.drop_left, List.take_left]
/-- A contract over heaps that say the same. -/
theorem Ctr.conv {P : Program} {f : FuncId} {args : List Value} {Pre Pre' : List HP} {Post Post' : Value → List HP → Prop} (c : Ctr P f args Pre Post) (h : Ent Pre' Pre) (hp : ∀ v H, Post v H → ∃ H', Post' v H' ∧ Ent H H') : Ctr P f args Pre' Post' :=
  ⟨c.1, fun G w F hw => (c.2 G w F (hw.ent (Ent.append F h))).mono fun e w' h' => let ⟨v, H, he, hpo, hs⟩ := h'; let ⟨H', hq, hE⟩ := hp v H hpo; ⟨v, H', he, hq, hs.ent (Ent.append F hE)⟩⟩
theorem Ctr.frame {P : Program} {f : FuncId} {args : List Value} {Pre : List HP} {Post : Value → List HP → Prop} (X : List HP) (c : Ctr P f args Pre Post) : Ctr P f args (Pre ++ X) (fun v H => ∃ H', Post v H' ∧ H = H' ++ X) :=
  ⟨c.1, fun G w F hw => (c.2 G w (X ++ F) (by rw [List.append_assoc] at hw; exact hw)).mono fun e w' h' => let ⟨v, H, he, hpo, hs⟩ := h'; ⟨v, H ++ X, he, ⟨H, hpo, rfl⟩, by rw [List.append_assoc]; exact hs⟩⟩
theorem Ctr.frame1 {P : Program} {f : FuncId} {args : List Value} {v : Value} (X : HP) (c : Ctr P f args [] (fun r H => r = v ∧ H = [])) : Ctr P f args [X] (fun r H => r = v ∧ H = [X]) :=
  Ctr.post (Ctr.frame [X] c) (by rintro r H ⟨H', ⟨rfl, rfl⟩, rfl⟩; exact ⟨rfl, rfl⟩)
end Go.SL

/- Engine, part Z: from a contract that leaves all old memory to the given row's walk; arguments as views. Nothing here names a program. -/
set_option linter.unusedSimpArgs false
set_option linter.unusedVariables false
namespace Go.SL
open Go.RowKit

/-- All memory as it is. -/
def old (W : World) : HP := fun h => ∀ b, h b = W.heap[b]?
def glob (W : World) : Glob := { tape := W.tape, os := W.os, output := W.output }
theorem Sat_old (W : World) : Sat (glob W) W [old W] := ⟨⟨rfl, Nat.zero_le _⟩, rfl, rfl, fun b => W.heap[b]?, fun _ _ h => h, Sep_one' fun _ => rfl⟩
theorem below_of_sat {W W' : World} (h : Sat (glob W) W' [old W]) : Below W.heap.size W W' := by
  obtain ⟨h1, h2, h3, h0, hw, hs⟩ := h
  have ho := Sep_one hs
  have hb : ∀ k, k < W.heap.size → W'.heap[k]? = W.heap[k]? := fun k hk => by
    have e : W.heap[k]? = some W.heap[k] := by simp [hk]
    rw [e]
    exact hw k _ (by rw [ho k, e])
  refine ⟨h2, h1.1, h3, ?_, hb⟩
  rcases Nat.eq_zero_or_pos W.heap.size with h0 | h0
  · omega
  · have := hb (W.heap.size - 1) (by omega)
    have e : W.heap[W.heap.size - 1]? = some W.heap[W.heap.size - 1] := by simp [h0]
    rw [e] at this
    have := (Array.getElem?_eq_some_iff.1 this).1
    omega
theorem row_walk {P : Program} {f : FuncId} {args : List Value} {W : World} (c : Ctr P f args [old W] (fun v H => v = .bool true ∧ H = [old W])) :
    Calls P f args.toArray W fun e W' => e = .returned (.bool true) ∧ Below W.heap.size W W' :=
  (c.2 (glob W) W [] (Sat_old W)).mono fun e W' h => by
    obtain ⟨v, H, rfl, ⟨rfl, rfl⟩, hs⟩ := h
    exact ⟨rfl, below_of_sat hs⟩

theorem hcell_of_cell {W : World} {h : Hp} {b off : Nat} {v : Value} (ho : old W h) (hc : W.cell? ⟨b, off, none⟩ = some v) : hcell h b off = some v := by
  unfold hcell
  rw [ho b]
  unfold World.cell? at hc
  simp only at hc
  split at hc
  · rename_i c _ _ he
    rw [he]
    simpa using hc
  · cases hc
/-- A row of bytes that came in. -/
theorem bytes_view {W : World} {a : Addr} {len cap : Nat} {zs : List Int} (hl : len ≤ zs.length) (hcell : ∀ i, i < zs.length → W.cell? (a.add i) = some (.int .u8 (zs.getD i 0))) (hwf : ∀ n ∈ zs, (Lit.int .u8 n).wf = true) :
    ∃ bs : List UInt8, bs.length = len ∧ Vw (old W) (.slice (some a) len cap) len (bV bs) := by
  refine ⟨(zs.take len).map fun z => UInt8.ofNat z.toNat, by simp; omega, some a, cap, rfl, ?_⟩
  rcases Nat.eq_zero_or_pos len with h0 | h0
  · left; subst h0; simp [bV]
  · right
    obtain ⟨b, o, spot⟩ := a
    have hsp : spot = none := by simpa [Addr.add] using World.cell?_spot (hcell 0 (by omega))
    subst hsp
    refine ⟨b, o, rfl, fun h ho j c hj => ?_⟩
    have hjl : j < len := by
      rcases Nat.lt_or_ge j len with h | h
      · exact h
      · rw [List.getElem?_eq_none (by simp [bV]; omega)] at hj; cases hj
    have h1 := hcell j (by omega)
    rw [Addr.add_eq] at h1
    have h2 := hcell_of_cell ho h1
    rw [h2]
    have hm : zs[j]'(by omega) ∈ zs := List.getElem_mem _
    have hw := hwf _ hm
    have hb : 0 ≤ zs[j]'(by omega) ∧ zs[j]'(by omega) < 256 := by
      simp only [Lit.wf, Bool.and_eq_true, decide_eq_true_eq] at hw
      have e1 : IntKind.u8.min = 0 := by decide
      have e2 : IntKind.u8.max = 255 := by decide
      omega
    simp only [bV, List.map_map, List.getElem?_map, List.getElem?_take, hjl, if_true] at hj
    rw [List.getElem?_eq_getElem (by omega)] at hj
    simp only [Option.map_some, Option.some.injEq, Function.comp] at hj
    rw [← hj, List.getD_eq_getElem?_getD, List.getElem?_eq_getElem (by omega)]
    simp only [Option.getD_some, u8, UInt8.toNat_ofNat', Option.some.injEq]
    congr 1
    omega
theorem nil_view (W : World) : Vw (old W) (.slice none 0 0) 0 (bV []) := ⟨none, 0, rfl, .inl rfl⟩
theorem i64_range {z : Int} (h : (Lit.int .i64 z).wf = true) : -9223372036854775808 ≤ z ∧ z ≤ 9223372036854775807 := by
  simp only [Lit.wf, Bool.and_eq_true, decide_eq_true_eq] at h
  have e1 : IntKind.i64.min = -9223372036854775808 := by decide
  have e2 : IntKind.i64.max = 9223372036854775807 := by decide
  omega
end Go.SL

/- Engine, part S: rows and arrays of numbers that came in. Nothing here names a program. -/
set_option linter.unusedVariables false
set_option linter.unusedSimpArgs false
namespace Go.SL
open Go Go.RowKit Go.ChangeShapes Go.WideShapes
def iV (l : List Int) : List Value := l.map (Value.int .i64)
theorem iV_get {l : List Int} {i : Nat} {x : Int} (h : l[i]? = some x) : (iV l)[i]? = some (.int .i64 x) := by simp [iV, h]
theorem iV_len (l : List Int) : (iV l).length = l.length := by simp [iV]
theorem ine {l : List Int} {i : Nat} (h : i < l.length) : iV l ≠ [] := fun e => by have := congrArg List.length e; simp [iV] at this; rw [this] at h; simp at h
abbrev i64 (x : Int) : Prop := -9223372036854775808 ≤ x ∧ x ≤ 9223372036854775807
/-- A row of numbers that came in. -/
theorem ints_view {W : World} {a : Addr} {len cap : Nat} {zs : List Int} (hl : len ≤ zs.length) (hcell : ∀ i, i < zs.length → W.cell? (a.add i) = some (.int .i64 (zs.getD i 0))) (hwf : ∀ n ∈ zs, (Lit.int .i64 n).wf = true) :
    ∃ l : List Int, l.length = len ∧ Vw (old W) (.slice (some a) len cap) len (iV l) ∧ ∀ x ∈ l, i64 x := by
  refine ⟨zs.take len, by simp; omega, ⟨some a, cap, rfl, ?_⟩, fun x hx => i64_range (hwf x (List.mem_of_mem_take hx))⟩
  rcases Nat.eq_zero_or_pos len with h0 | h0
  · left; subst h0; simp [iV]
  · right
    obtain ⟨b, o, spot⟩ := a
    have hsp : spot = none := by simpa [Addr.add] using World.cell?_spot (hcell 0 (by omega))
    subst hsp
    refine ⟨b, o, rfl, fun h ho j c hj => ?_⟩
    have hjl : j < len := by
      rcases Nat.lt_or_ge j len with h | h
      · exact h
      · rw [List.getElem?_eq_none (by simp [iV]; omega)] at hj; cases hj
    have h1 := hcell j (by omega)
    rw [Addr.add_eq] at h1
    have h2 := hcell_of_cell ho h1
    rw [h2]
    simp only [iV, List.getElem?_map, List.getElem?_take, hjl, if_true] at hj
    rw [List.getElem?_eq_getElem (by omega)] at hj
    simp only [Option.map_some, Option.some.injEq] at hj
    rw [← hj, List.getD_eq_getElem?_getD, List.getElem?_eq_getElem (by omega)]
    rfl
def aggTy : Option TypeDesc → Bool
  | some (.struct _) => true
  | some (.array _ _) => true
  | _ => false
theorem open_len {H : Type} {enc : TypeId × Value → H} {P : Program} {W : World} {base : Nat} {spare : Nat → Bool} {held : Bool} {fuel : Nat} {t e : TypeId} {a : Option Addr} {len cap : Nat} {d : DataW H} {p : List MemPlace} (ht : P.underlying t = some (.slice e)) (h : DataW.trod enc P W base spare held fuel t [.slice a len cap] = some (d, p)) :
    len = 0 ∨ ∃ el sp, d = .slice el sp ∧ el.length = len := by
  rcases Go.Deep.open_slice ht h with ⟨hcs, _⟩ | ⟨a', len', cap', m, n, D, Pl, hcs, hb, hl, hm, hmm, hx, _⟩
  · simp only [List.cons.injEq, Value.slice.injEq, and_true] at hcs; exact .inl hcs.2.1
  · simp only [List.cons.injEq, Value.slice.injEq, and_true] at hcs
    simp only [Prod.mk.injEq] at hx
    exact .inr ⟨_, _, hx.1, by simp [hcs.2.1]⟩
theorem okWide_agg {P : Program} {w : World} {r : Reach} {base : Nat} {t : TypeId} {v : Value} (ht : aggTy (P.underlying t) = true) (h : Value.okWide P w r base t v) : ∃ cs, v = .agg cs := by
  unfold Value.okWide at h
  unfold aggTy at ht
  split at h
  · obtain ⟨cs, h1, _⟩ := h; exact ⟨cs, h1⟩
  · obtain ⟨cs, h1, _⟩ := h; exact ⟨cs, h1⟩
  · split at ht
    · rename_i h1 h2 _ _ h3; exact absurd h3 (h1 _)
    · rename_i h1 h2 _ _ _ h3; exact absurd h3 (h2 _ _)
    · cases ht
/-- A row of numbers that came in, as a slice. -/
theorem open_intsV {P : Program} {H : Type} {enc : TypeId × Value → H} {W : World} {base : Nat} {spare : Nat → Bool} {held : Bool} {fuel : Nat} {t e : TypeId} {v : Value} {x : DataW H × List MemPlace} (ht : P.underlying t = some (.slice e)) (he : P.underlying e = some (.int .i64)) (hc : P.cellsOf e = 1) (h : DataW.trod enc P W base spare held fuel t [v] = some x) :
    ∃ l : List Int, Vw (old W) v l.length (iV l) ∧ l.length ≤ 9223372036854775807 ∧ ∀ x ∈ l, i64 x := by
  have hmx : maxLen = 9223372036854775807 := by decide
  rcases open_ints ht he hc h with ⟨hcs, _⟩ | ⟨x, l, c, zs, hcs, _, hl, hm, hz, _, hcell, hwz⟩
  · simp only [List.cons.injEq, and_true] at hcs
    subst hcs
    exact ⟨[], ⟨none, 0, rfl, .inl rfl⟩, by simp, by simp⟩
  · simp only [List.cons.injEq, and_true] at hcs
    subst hcs
    obtain ⟨bs, h1, h2, h3⟩ := ints_view (len := l) (cap := c) (by split at hz <;> omega) hcell hwz
    subst h1
    exact ⟨bs, h2, by omega, h3⟩
/-- An array of numbers that came in. -/
theorem open_arrI {P : Program} {H : Type} {enc : TypeId × Value → H} {W : World} {base : Nat} {spare : Nat → Bool} {held : Bool} {fuel n : Nat} {t e : TypeId} {cs : Array Value} {x : DataW H × List MemPlace} (ht : P.underlying t = some (.array n e)) (he : P.underlying e = some (.int .i64)) (hc : P.cellsOf e = 1) (hct : P.cellsOf t = n) (h : DataW.trod enc P W base spare held fuel t (Value.agg cs).cells.toList = some x) :
    ∃ l : List Int, l.length = n ∧ cs = (iV l).toArray ∧ ∀ x ∈ l, i64 x := by
  obtain ⟨xs, m, _, _, hlen, hxl, hf⟩ := DataW.trod_array ht h
  rw [hct] at hlen
  obtain ⟨l, rfl⟩ : ∃ l : List Value, cs = l.toArray := ⟨cs.toList, by simp⟩
  simp only [Value.cells] at hlen hf
  have key : ∀ i, i < n → ∃ z : Int, l[i]? = some (.int .i64 z) ∧ i64 z := fun i hi => by
    have h1 := hf i hi
    obtain ⟨y, hy⟩ : ∃ y, xs[i]? = some y := ⟨xs[i]'(by rw [hxl]; exact hi), by simp⟩
    rw [hy, hc, Nat.mul_one] at h1
    obtain ⟨z, r, _, w⟩ := DataW.trod_int he h1
    refine ⟨z, ?_, i64_range w⟩
    have := congrArg (fun l : List Value => l[0]?) r
    simpa using this
  refine ⟨(List.range n).map fun i => match l[i]? with | Option.some (Value.int _ z) => z | _ => 0, by simp, ?_, ?_⟩
  · congr 1
    apply List.ext_getElem?
    intro i
    rcases Nat.lt_or_ge i n with hi | hi
    · obtain ⟨z, hz, _⟩ := key i hi
      simp [iV, hi, hz]
    · rw [List.getElem?_eq_none (by simpa using hlen ▸ hi), List.getElem?_eq_none (by simp [iV]; exact hi)]
  · intro x hx
    obtain ⟨i, hi, rfl⟩ := List.mem_map.1 hx
    obtain ⟨z, hz, hr⟩ := key i (by simpa using hi)
    rw [hz]; exact hr
end Go.SL

/- Engine, part T: the end of a call whose first result lies in a cell. Nothing here names a program. -/
set_option linter.unusedVariables false
set_option linter.unusedSimpArgs false
namespace Go.SL
open Go
theorem K_returnC {P : Program} {U : Tr} [hU : TabOk P U] {f : FuncId} {n : Nat} {R : Ending → World → Prop} {G : Glob} {k k0 : List Item} {L : Lst} {H : List HP} {fn : Func} {F : List HP} {Post : Value → List HP → Prop} {p q b : Nat} {t e : TypeId} {ty' : Ty} {cs : List Value} {u : Value} (i : Nat)
    (hR : Ends R G F Post) (hf : P.funcs[f]? = some fn) (hk : advK 1000 k0 = .mk (.code .ret :: k)) (hfr : fn.results.toList = [.cell p t, .tmp q]) (hp : fget L p = some (.pointer (some ⟨b, 0, none⟩))) (hq : fget L q = some u)
    (ht : U.get t = some ty') (hg : ty'.isAgg = true) (hl : Nat.beq cs.length ty'.info.size = true) (hi : getL H i = some (pts b (cl cs e))) {Hq : List HP}
    (hpost : Post (.tuple #[.agg cs.toArray, u]) Hq) (he : Ent H (Hq ++ F)) : K P f n R G k0 L H := by
  refine K_advK 1000 hk ?_
  intro a w ha hw cs'
  have hc : ∀ j v, cs[j]? = some v → w.cell? ⟨b, 0 + j, none⟩ = some v := fun j v hj => by rw [cell_of_block (hw.getP hi), Nat.zero_add]; exact hj
  have hld := run_loadAgg (P := P) (w := w) ht hg (Nat.eq_of_beq_eq_true hl) hc
  have hld' : (loadVar t ⟨b, 0, none⟩).run P w = .ok (.agg cs.toArray) w := by simpa [Instr.loadAt, Instr.sureAddr] using hld
  have g1 : a.tmps.getD p undef = .pointer (some ⟨b, 0, none⟩) := by simp [Array.getD_eq_getD_getElem?, ha.get hp]
  have g2 : a.tmps.getD q undef = u := by simp [Array.getD_eq_getD_getElem?, ha.get hq]
  have hrun : (results fn a.tmps).run P w = .ok (.tuple #[.agg cs.toArray, u]) w := by
    rw [results_eq, Array.mapM_eq_mapM_toList, hfr]
    simp only [Sem.run_bind, Sem.run_map, List.mapM_cons, List.mapM_nil, resF, g1, g2, asAddr, Sem.run_pure, Result.andThen_ok, hld']
    simp
  rw [hR.1.1]
  exact ⟨_, w, _, hR.2 _ _ w hpost (hw.ent he), .one (stepR_ret rfl), rfl, rfl, by show a.defers = []; rw [ha.2, hR.1.2]; rfl, rfl, fn, hf, hrun⟩
end Go.SL

/- Go's library at numbers: cmp, Index, Contains, Clone, Collect. -/
set_option linter.unusedVariables false
set_option linter.unusedSimpArgs false
namespace Go.Proofs.Ythcjmhlmoamjpaa
open Go Go.SL
def cmpI (x y : Int) : Int := if x < y then -1 else if y < x then 1 else 0
def orL : List Int → Int
  | [] => 0
  | x :: l => if x = 0 then orL l else x
theorem orL_zeros : ∀ (l : List Int) (i : Nat), (∀ y ∈ l.take i, y = 0) → orL l = orL (l.drop i)
  | [], i, _ => by simp
  | x :: l, 0, _ => rfl
  | x :: l, i + 1, h => by
    have hx : x = 0 := h x (by simp)
    rw [List.drop_succ_cons, ← orL_zeros l i (fun y hy => h y (by simp [hy]))]
    simp [orL, hx]
theorem iV_one (l : List Int) : ∀ v ∈ iV l, v.oneCell' = true := by
  intro v hv
  obtain ⟨x, _, rfl⟩ := List.mem_map.1 hv
  rfl
attribute [local irreducible] J K Ctr Ends pts slc mapR mapI sbRow stock arrS loopP CtrY

theorem isNaN_any (x : Int) : Ctr Try.prog 33 [.int .i64 x] [] (fun r H => r = .bool false ∧ H = []) := by
  refine Ctr.enter Try.func33 (by kernel_rfl) rfl Try.ntmps33 rfl rfl ?_
  intro G F R hE
  (refine go ?_)
  (first | refine J_slot 2 ((.bool false)) rfl ((by simp)) ?_ | refine K_slot 2 ((.bool false)) rfl ((by simp)) ?_)
  (first | refine K_return hE Try.func33 rfl _ rfl ⟨rfl, rfl⟩ entA | refine K_fallEnd hE Try.func33 rfl _ rfl ⟨rfl, rfl⟩ entA)
theorem Compare_any (x y : Int) : Ctr Try.prog 17 [.int .i64 x, .int .i64 y] [] (fun r H => r = .int .i64 (cmpI x y) ∧ H = []) := by
  refine Ctr.enter Try.func17 (by kernel_rfl) rfl Try.ntmps17 rfl rfl ?_
  intro G F R hE
  (refine go ?_)
  (first | refine J_callE rfl rfl rfl rfl (isNaN_any x) entA ?_ (fun _ _ _ _ _ => trivial) | refine J_call0E rfl rfl rfl (isNaN_any x) entA ?_ (fun _ _ _ _ _ => trivial) | (refine go ?_; first | refine J_callE rfl rfl rfl rfl (isNaN_any x) entA ?_ (fun _ _ _ _ _ => trivial) | refine J_call0E rfl rfl rfl (isNaN_any x) entA ?_ (fun _ _ _ _ _ => trivial)))
  rintro _ _ ⟨rfl, rfl⟩
  (refine go ?_)
  (first | refine J_callE rfl rfl rfl rfl (isNaN_any y) entA ?_ (fun _ _ _ _ _ => trivial) | refine J_call0E rfl rfl rfl (isNaN_any y) entA ?_ (fun _ _ _ _ _ => trivial) | (refine go ?_; first | refine J_callE rfl rfl rfl rfl (isNaN_any y) entA ?_ (fun _ _ _ _ _ => trivial) | refine J_call0E rfl rfl rfl (isNaN_any y) entA ?_ (fun _ _ _ _ _ => trivial)))
  rintro _ _ ⟨rfl, rfl⟩
  (refine go ?_)
  refine K_condP rfl rfl ?_ ?_
  · intro h
    (refine go ?_)
    (first | refine K_return hE Try.func17 rfl _ rfl ⟨by rw [cmpI, if_pos h]; rfl, rfl⟩ entA | refine K_fallEnd hE Try.func17 rfl _ rfl ⟨by rw [cmpI, if_pos h]; rfl, rfl⟩ entA)
  intro h
  (refine go ?_)
  refine K_condP rfl rfl ?_ ?_
  · intro h2
    (refine go ?_)
    (first | refine K_return hE Try.func17 rfl _ rfl ⟨by rw [cmpI, if_neg h, if_pos h2]; rfl, rfl⟩ entA | refine K_fallEnd hE Try.func17 rfl _ rfl ⟨by rw [cmpI, if_neg h, if_pos h2]; rfl, rfl⟩ entA)
  intro h2
  (refine go ?_)
  (first | refine K_return hE Try.func17 rfl _ rfl ⟨by rw [cmpI, if_neg h, if_neg h2]; rfl, rfl⟩ entA | refine K_fallEnd hE Try.func17 rfl _ rfl ⟨by rw [cmpI, if_neg h, if_neg h2]; rfl, rfl⟩ entA)
theorem Or_any (A : HP) (v : Value) (l : List Int) (hv : Vw A v l.length (iV l)) (hl : l.length ≤ 1000000000) : Ctr Try.prog 16 [v] [A] (fun r H => r = .int .i64 (orL l) ∧ H = [A]) := by
  obtain ⟨a, c, rfl⟩ := hv.shape
  refine Ctr.enter Try.func16 (by kernel_rfl) rfl Try.ntmps16 rfl rfl ?_
  intro G F R hE
  (refine go ?_)
  refine K_loop (fun i : Nat => i ≤ l.length ∧ ∀ y ∈ l.take i, y = 0) (fun i => l.length - i) (fun i => [(3, .int .i64 0), (6, .slice a l.length c), (7, .int .i64 l.length), (8, .int .i64 i)]) (fun _ => A :: F) 0 ⟨Nat.zero_le _, by simp⟩ rfl (by repeat (first | exact keep_nil | refine keep_cons rfl ?_)) entA ?_
  rintro i ⟨hi, hb⟩ ih
  (refine go ?_)
  refine K_condP rfl rfl ?_ ?_
  · intro hlt
    have hi' : i < l.length := by omega
    obtain ⟨x, hx⟩ : ∃ x, l[i]? = some x := ⟨l[i], by simp [hi']⟩
    obtain ⟨b, o, c', he⟩ := hv.some (ine hi')
    simp only [Value.slice.injEq, true_and] at he
    obtain ⟨rfl, rfl⟩ := he
    (refine go ?_)
    refine J_at1 (U := tab) i rfl rfl rfl rfl rfl rfl rfl rfl hi' ?_
    refine J_loadAt (U := tab) 0 i rfl rfl rfl hv rfl (show (iV l)[i]? = some (.int .i64 x) from by simp [iV, hx]) rfl rfl ?_
    (refine go ?_)
    refine K_condP rfl rfl ?_ ?_
    · intro h
      (refine go ?_)
      have h1 : orL l = x := by
        rw [orL_zeros l i hb, List.drop_eq_getElem_cons hi']
        have : l[i] = x := by rw [List.getElem?_eq_getElem hi'] at hx; exact Option.some.inj hx
        rw [this]
        simp only [orL]
        rw [if_neg h]
      (first | refine K_return hE Try.func16 rfl _ rfl ⟨by rw [h1]; rfl, rfl⟩ entA | refine K_fallEnd hE Try.func16 rfl _ rfl ⟨by rw [h1]; rfl, rfl⟩ entA)
    intro h
    (refine go ?_)
    refine K_again ih (i + 1) rfl (⟨by omega, fun y hy => by
      rw [List.take_add_one, hx] at hy
      rcases List.mem_append.1 hy with h' | h'
      · exact hb y h'
      · simp at h'; subst h'; exact Decidable.not_not.1 h⟩) (by omega) (by repeat (first | exact keep_nil | refine keep_cons rfl ?_)) entA
  intro hge
  (refine go ?_)
  have h1 : orL l = 0 := by
    rw [orL_zeros l i hb, List.drop_of_length_le (by omega)]; rfl
  (first | refine K_return hE Try.func16 rfl _ rfl ⟨by rw [h1]; rfl, rfl⟩ entA | refine K_fallEnd hE Try.func16 rfl _ rfl ⟨by rw [h1]; rfl, rfl⟩ entA)
theorem idx_any {α : Type} (p : α → Bool) (l : List α) : decide (0 ≤ idxI p l) = l.any p := by
  rw [show decide (0 ≤ idxI p l) = decide (¬ idxI p l < 0) from by rw [decide_eq_decide]; omega]
  rw [Bool.eq_iff_iff, decide_eq_true_iff, idxI_neg (p := p) (l := l), Bool.not_eq_false]
theorem idx_mem (t : Int) (l : List Int) : decide (0 ≤ idxI (fun x => decide (x = t)) l) = decide (t ∈ l) := by
  rw [idx_any, Bool.eq_iff_iff, decide_eq_true_iff, List.any_eq_true]
  constructor
  · rintro ⟨x, hx, h⟩; have := of_decide_eq_true h; subst this; exact hx
  · intro h; exact ⟨t, h, decide_eq_true rfl⟩
theorem IndexI_any (A : HP) (v : Value) (l : List Int) (t : Int) (hv : Vw A v l.length (iV l)) (hlen : l.length ≤ 1000000000) :
    Ctr Try.prog 52 [v, .int .i64 t] [A] (fun r H => r = .int .i64 (idxI (fun x => decide (x = t)) l) ∧ H = [A]) := by
  obtain ⟨a, c0, rfl⟩ := hv.shape
  refine Ctr.enter Try.func52 (by kernel_rfl) rfl Try.ntmps52 rfl rfl ?_
  intro G F R hE
  (refine go ?_)
  refine K_loop (fun i : Nat => i ≤ l.length ∧ ∀ y ∈ l.take i, decide (y = t) = false) (fun i => l.length - i) (fun i => [(0, .slice a l.length c0), (1, .int .i64 t), (7, .int .i64 l.length), (8, .int .i64 i)]) (fun _ => A :: F) 0 ⟨by simp, by simp⟩ rfl (by repeat (first | exact keep_nil | refine keep_cons rfl ?_)) entA ?_
  rintro i ⟨hi, hb⟩ ih
  (refine go ?_)
  refine K_condP rfl rfl ?_ ?_
  · intro hlt
    have hi' : i < l.length := by omega
    obtain ⟨x, hx⟩ : ∃ x, l[i]? = some x := ⟨l[i], by simp [hi']⟩
    obtain ⟨b, o, c', he⟩ := hv.some (ine hi')
    simp only [Value.slice.injEq, true_and] at he
    obtain ⟨rfl, rfl⟩ := he
    (refine go ?_)
    refine J_at1 (U := tab) i rfl rfl rfl rfl rfl rfl rfl rfl hi' ?_
    refine J_loadAt (U := tab) 0 i rfl rfl rfl hv rfl (iV_get hx) rfl rfl ?_
    (refine go ?_)
    refine K_condP rfl rfl ?_ ?_
    · intro h
      (refine go ?_)
      (first | refine K_return hE Try.func52 rfl _ rfl ⟨by rw [idxI_some hx (decide_eq_true h.symm) hb]; rfl, rfl⟩ entA | refine K_fallEnd hE Try.func52 rfl _ rfl ⟨by rw [idxI_some hx (decide_eq_true h.symm) hb]; rfl, rfl⟩ entA)
    intro h
    (refine go ?_)
    refine K_again ih (i + 1) rfl (⟨by omega, allTake hb hx (decide_eq_false fun e => h e.symm)⟩) (by omega) (by repeat (first | exact keep_nil | refine keep_cons rfl ?_)) entA
  intro hge
  (refine go ?_)
  have : i = l.length := by omega
  subst this
  (first | refine K_return hE Try.func52 rfl _ rfl ⟨by rw [idxI_none (fun x hx => hb x (by simpa using hx))]; rfl, rfl⟩ entA | refine K_fallEnd hE Try.func52 rfl _ rfl ⟨by rw [idxI_none (fun x hx => hb x (by simpa using hx))]; rfl, rfl⟩ entA)
theorem ContainsI_any (A : HP) (v : Value) (l : List Int) (t : Int) (hv : Vw A v l.length (iV l)) (hlen : l.length ≤ 1000000000) :
    Ctr Try.prog 40 [v, .int .i64 t] [A] (fun r H => r = .bool (decide (t ∈ l)) ∧ H = [A]) := by
  refine Ctr.enter Try.func40 (by kernel_rfl) rfl Try.ntmps40 rfl rfl ?_
  intro G F R hE
  (refine go ?_)
  (first | refine J_callE rfl rfl rfl rfl (IndexI_any A v l t hv hlen) entA ?_ (fun _ _ _ _ _ => trivial) | refine J_call0E rfl rfl rfl (IndexI_any A v l t hv hlen) entA ?_ (fun _ _ _ _ _ => trivial) | (refine go ?_; first | refine J_callE rfl rfl rfl rfl (IndexI_any A v l t hv hlen) entA ?_ (fun _ _ _ _ _ => trivial) | refine J_call0E rfl rfl rfl (IndexI_any A v l t hv hlen) entA ?_ (fun _ _ _ _ _ => trivial)))
  rintro _ _ ⟨rfl, rfl⟩
  (refine go ?_)
  (first | refine J_slot 4 ((.bool (decide (t ∈ l)))) rfl ((congrArg Value.bool (idx_mem t l))) ?_ | refine K_slot 4 ((.bool (decide (t ∈ l)))) rfl ((congrArg Value.bool (idx_mem t l))) ?_)
  (first | refine K_return hE Try.func40 rfl _ rfl ⟨rfl, rfl⟩ entA | refine K_fallEnd hE Try.func40 rfl _ rfl ⟨rfl, rfl⟩ entA)
theorem IndexFunc_int (A X : HP) (v : Value) (l : List Int) (hv : Vw A v l.length (iV l)) (hlen : l.length ≤ 1000000000) (g : FuncId) (cap : List Value) (p : Int → Bool)
    (hf : ∀ x ∈ l, Ctr Try.prog g (.int .i64 x :: cap) [X] (fun v H => v = .bool (p x) ∧ H = [X])) :
    Ctr Try.prog 77 [v, .func (.func g) #[] cap.toArray] [A, X] (fun r H => r = .int .i64 (idxI p l) ∧ H = [A, X]) := by
  obtain ⟨a, c0, rfl⟩ := hv.shape
  refine Ctr.enter Try.func77 (by kernel_rfl) rfl Try.ntmps77 rfl rfl ?_
  intro G F R hR
  (refine go ?_)
  refine K_loop (fun i : Nat => i ≤ l.length ∧ ∀ y ∈ l.take i, p y = false) (fun i => l.length - i) (fun i => [(0, .slice a l.length c0), (1, .func (.func g) #[] cap.toArray), (7, .int .i64 l.length), (8, .int .i64 i)]) (fun _ => [A, X] ++ F) 0 ⟨by simp, by simp⟩ rfl (by repeat (first | exact keep_nil | refine keep_cons rfl ?_)) (Ent.refl _) ?_
  rintro i ⟨hi, hb⟩ ih
  (refine go ?_)
  refine K_condP rfl rfl ?_ ?_
  · intro hlt
    (refine go ?_)
    have hi' : i < l.length := by omega
    have hx : l[i]? = some l[i] := by simp [hi']
    generalize hxx : l[i] = x at hx
    obtain ⟨b, o, cap', hsl⟩ := hv.some (ine hi')
    simp only [Value.slice.injEq] at hsl
    obtain ⟨rfl, _, rfl⟩ := hsl
    refine J_at1 (U := tab) i rfl rfl rfl rfl rfl rfl rfl rfl hi' ?_
    refine J_loadAt (U := tab) 0 i rfl rfl rfl hv rfl (iV_get hx) rfl rfl ?_
    refine J_call [1] rfl rfl rfl rfl (hf x (List.mem_of_getElem? hx)) rfl (fun _ _ _ _ _ => trivial) ?_
    rintro _ _ ⟨rfl, rfl⟩
    (refine go ?_)
    refine K_condA rfl rfl ?_ ?_
    · intro hp
      (refine go ?_)
      refine K_return hR Try.func77 rfl _ rfl ⟨by rw [idxI_some hx hp hb]; rfl, rfl⟩ (Ent.fin [1, 0] 0 rfl rfl)
    · intro hp
      (refine go ?_)
      refine K_again ih (i + 1) rfl ⟨by omega, allTake hb hx hp⟩ (by omega) (by repeat (first | exact keep_nil | refine keep_cons rfl ?_)) (Ent.pick [1, 0] rfl)
  · intro hge
    (refine go ?_)
    have : i = l.length := by omega
    subst this
    refine K_return hR Try.func77 rfl _ rfl ⟨by rw [idxI_none (fun x hx => hb x (by simpa using hx))]; rfl, rfl⟩ (Ent.fin [0, 1] 0 rfl rfl)

theorem ContainsFunc_int (A X : HP) (v : Value) (l : List Int) (hv : Vw A v l.length (iV l)) (hlen : l.length ≤ 1000000000) (g : FuncId) (cap : List Value) (p : Int → Bool)
    (hf : ∀ x ∈ l, Ctr Try.prog g (.int .i64 x :: cap) [X] (fun v H => v = .bool (p x) ∧ H = [X])) :
    Ctr Try.prog 56 [v, .func (.func g) #[] cap.toArray] [A, X] (fun r H => r = .bool (l.any p) ∧ H = [A, X]) := by
  refine Ctr.enter Try.func56 (by kernel_rfl) rfl Try.ntmps56 rfl rfl ?_
  intro G F R hE
  (refine go ?_)
  (first | refine J_callE rfl rfl rfl rfl (IndexFunc_int A X v l hv hlen g cap p hf) entA ?_ (fun _ _ _ _ _ => trivial) | refine J_call0E rfl rfl rfl (IndexFunc_int A X v l hv hlen g cap p hf) entA ?_ (fun _ _ _ _ _ => trivial) | (refine go ?_; first | refine J_callE rfl rfl rfl rfl (IndexFunc_int A X v l hv hlen g cap p hf) entA ?_ (fun _ _ _ _ _ => trivial) | refine J_call0E rfl rfl rfl (IndexFunc_int A X v l hv hlen g cap p hf) entA ?_ (fun _ _ _ _ _ => trivial)))
  rintro _ _ ⟨rfl, rfl⟩
  (refine go ?_)
  (first | refine J_slot 4 ((.bool (l.any p))) rfl ((congrArg Value.bool (idx_any p l))) ?_ | refine K_slot 4 ((.bool (l.any p))) rfl ((congrArg Value.bool (idx_any p l))) ?_)
  (first | refine K_return hE Try.func56 rfl _ rfl ⟨rfl, rfl⟩ entA | refine K_fallEnd hE Try.func56 rfl _ rfl ⟨rfl, rfl⟩ entA)
theorem Clone_int (A : HP) (v : Value) (W : List Int) (hv : Vw A v W.length (iV W)) (hlen : W.length ≤ 1000000000) :
    Ctr Try.prog 47 [v] [A] (fun r H => H = [slc 3 1 r W.length (iV W), A]) := by
  obtain ⟨a, c0, rfl⟩ := hv.shape
  cases a with
  | none =>
    have hb : W = [] := by
      obtain ⟨a, cap, h1, h2 | ⟨b, o, h2, _⟩⟩ := hv
      · have := congrArg List.length h2
        rw [iV_len] at this
        exact List.eq_nil_of_length_eq_zero (by simpa using this)
      · simp only [Value.slice.injEq] at h1; rw [← h1.1] at h2; cases h2
    subst hb
    refine Ctr.enter Try.func47 (by kernel_rfl) rfl Try.ntmps47 rfl rfl ?_
    intro G F R hR
    (refine go ?_)
    have he : c0 = c0 := rfl
    refine K_ent (slc_lift 3 1 none _) ?_
    refine K_return hR Try.func47 rfl _ rfl rfl (Ent.fin [0, 1] 0 rfl rfl)
  | some a =>
    refine Ctr.enter Try.func47 (by kernel_rfl) rfl Try.ntmps47 rfl rfl ?_
    intro G F R hR
    (refine go ?_)
    refine J_buildSlice1 (U := tab) (cs := []) rfl rfl rfl rfl rfl rfl rfl rfl rfl (fun _ _ _ => trivial) ?_
    intro b0
    (refine go ?_)
    refine J_ent (slc_row 3 1 b0 0 0 [] [] _ rfl (Nat.le_refl _) (by simp)) ?_
    refine J_append (U := tab) (mm := W.length) (news := iV W) 0 1 rfl rfl rfl rfl rfl rfl rfl rfl rfl rfl rfl rfl hv (by show _ = _ * 1; rw [iV_len]; omega) (iV_one W) (by omega) (by show _ * 8 ≤ _; omega) (fun _ => rfl) (fun _ _ _ => trivial) ?_
    intro v'
    have e1 : (0 : Nat) + W.length = W.length := by omega
    rw [e1, List.nil_append]
    (refine go ?_)
    refine K_return hR Try.func47 rfl _ rfl rfl (Ent.fin [0, 1] 0 rfl rfl)
/-- A function that yields numbers: which (Q), over what heap. -/
def IterI (g : FuncId) (cap : List Value) (N : Nat) (Pre Post : List HP) (Q : List Int → Prop) : Prop :=
  ∀ (l : Nat) (Lp : HP) (Inv : List Int → HP), (∀ done x, done.length < N → CtrY Try.prog l [.int .i64 x] [Lp, Inv done] (fun v H => v = .bool true ∧ H = [Lp, Inv (done ++ [x])])) →
    Ctr Try.prog g (.func (.yield l) #[] #[] :: cap) (Lp :: Inv [] :: Pre) (fun _ H => ∃ xs, Q xs ∧ H = Lp :: Inv xs :: Post)
/-- A slice of numbers in a variable. -/
def II (bs : Nat) (ks : List Int) : HP := fun h => ∃ v : Value, True ∧ Sep [pts bs (cl [v] 52), slc 3 1 v ks.length (iV ks)] h
theorem II_open (bs : Nat) (ks : List Int) : ∀ h, II bs ks h → ∃ v, True ∧ Sep [pts bs (cl [v] 52), slc 3 1 v ks.length (iV ks)] h := fun h hs => hs
theorem II_close (bs : Nat) (ks : List Int) (v : Value) (H : List HP) : Ent (pts bs (cl [v] 52) :: slc 3 1 v ks.length (iV ks) :: H) (II bs ks :: H) :=
  Ent.fold (A := II bs ks) (B := [pts bs (cl [v] 52), slc 3 1 v ks.length (iV ks)]) fun h hs => ⟨h, sub.refl h, v, trivial, hs⟩
attribute [local irreducible] II
theorem AppendSeqI_any (g : FuncId) (cap : List Value) (N : Nat) (Pre Post : List HP) (Q : List Int → Prop) (hN : N ≤ 1000000000) (hi : IterI g cap N Pre Post Q) :
    Ctr Try.prog 49 [.slice none 0 0, .func (.func g) #[] cap.toArray] Pre (fun r H => ∃ xs, Q xs ∧ H = slc 3 1 r xs.length (iV xs) :: Post) := by
  refine Ctr.enter Try.func49 (by kernel_rfl) rfl Try.ntmps49 rfl rfl ?_
  intro G F R hE
  refine K_regionA rfl ?_
  refine J_box rfl rfl (fun _ _ _ => trivial) ?_
  intro bs
  (refine go ?_)
  refine K_adv1 rfl ?_
  refine K_ent (Ent.trans (Ent.cons _ (slc_lift 3 1 none _)) (II_close bs [] (.slice none 0 0) _)) ?_
  refine K_range (Fr := F) (Pre := fun _ _ => II bs [] :: Pre) (Post := ?Po) rfl hE.1.1 rfl ?c (fun l r => Ent.refl _) ?hend
  case c =>
    intro l r
    refine hi l _ (fun dn => II bs dn) ?_
    intro dn k hlt
    refine CtrY.of_K rfl rfl ?_
    intro G2 F2 R2 hY
    (refine go ?_)
    refine K_beginRound rfl hY ?_
    refine K_ent (Ent.pick [1] rfl) ?_
    refine K_open (II_open bs dn) ?_
    rintro v -
    refine K_shape 1 rfl ?_
    rintro va vc rfl
    (refine go ?_)
    refine J_buildSlice1 (U := tab) (cs := iV [k]) rfl rfl rfl rfl rfl rfl rfl rfl rfl (fun _ _ _ => trivial) ?_
    intro row
    (refine go ?_)
    refine J_append (U := tab) (mm := 1) (news := iV [k]) 2 0 rfl rfl rfl rfl rfl rfl rfl rfl rfl rfl rfl rfl (Vw.pts rfl) rfl (iV_one _) (by omega) (by show (_ + 1) * 8 ≤ _; omega) (fun _ => rfl) (fun _ _ _ => trivial) ?_
    intro v1
    rw [show iV dn ++ iV [k] = iV (dn ++ [k]) from by simp [iV], show dn.length + 1 = (dn ++ [k]).length from by simp]
    (first | refine J_shape 2 rfl ?_ | refine K_shape 2 rfl ?_)
    rintro va2 vc2 rfl
    (refine go ?_)
    refine K_ent (Ent.trans entA (II_close bs (dn ++ [k]) (.slice va2 (dn ++ [k]).length vc2) _)) ?_
    refine K_roundEnd hY rfl entA ⟨rfl, rfl⟩
  intro l r v H hpost
  obtain ⟨xs, hq, rfl⟩ := hpost
  refine ⟨_, _, _, rfl, by decide, ?_⟩
  rw [hE.1.2]
  refine K_open (II_open bs xs) ?_
  rintro w -
  (refine go ?_)
  refine K_returnM hE Try.func49 rfl _ rfl ⟨xs, hq, rfl⟩ ?_
  exact (Ent.drop _ _).trans (Ent.perm (((List.perm_middle (a := pts r (.deferred (some []))) (l₁ := Post) (l₂ := F)).cons _).trans (List.Perm.swap _ _ _)))
theorem CollectI_any (g : FuncId) (cap : List Value) (N : Nat) (Pre Post : List HP) (Q : List Int → Prop) (hN : N ≤ 1000000000) (hi : IterI g cap N Pre Post Q) :
    Ctr Try.prog 37 [.func (.func g) #[] cap.toArray] Pre (fun r H => ∃ xs, Q xs ∧ H = slc 3 1 r xs.length (iV xs) :: Post) := by
  refine Ctr.enter Try.func37 (by kernel_rfl) rfl Try.ntmps37 rfl rfl ?_
  intro G F R hE
  (refine go ?_)
  (first | refine J_callE rfl rfl rfl rfl (AppendSeqI_any g cap N Pre Post Q hN hi) entA ?_ (fun _ _ _ _ _ => trivial) | refine J_call0E rfl rfl rfl (AppendSeqI_any g cap N Pre Post Q hN hi) entA ?_ (fun _ _ _ _ _ => trivial) | (refine go ?_; first | refine J_callE rfl rfl rfl rfl (AppendSeqI_any g cap N Pre Post Q hN hi) entA ?_ (fun _ _ _ _ _ => trivial) | refine J_call0E rfl rfl rfl (AppendSeqI_any g cap N Pre Post Q hN hi) entA ?_ (fun _ _ _ _ _ => trivial)))
  rintro w _ ⟨xs, hq, rfl⟩
  (refine go ?_)
  (first | refine K_return hE Try.func37 rfl _ rfl ⟨xs, hq, rfl⟩ entA | refine K_fallEnd hE Try.func37 rfl _ rfl ⟨xs, hq, rfl⟩ entA)
end Go.Proofs.Ythcjmhlmoamjpaa

/- member, plain: views of who lives. -/
set_option linter.unusedVariables false
set_option linter.unusedSimpArgs false
namespace Go.Proofs.Ythcjmhlmoamjpaa
open Go Go.SL
/-- A view: itself, how many it may know, these (each Id once). -/
structure VM where
  self : Mem
  most : Int
  ks : List Mem
def newerA (m o : Mem) : Bool := decide (0 < orL [cmpI m.inc o.inc, cmpI m.st o.st])
theorem cmpI_cases (x y : Int) : (x < y ∧ cmpI x y = -1) ∨ (x = y ∧ cmpI x y = 0) ∨ (y < x ∧ cmpI x y = 1) := by
  unfold cmpI
  split
  · exact .inl ⟨by assumption, rfl⟩
  · split
    · exact .inr (.inr ⟨by assumption, rfl⟩)
    · exact .inr (.inl ⟨by omega, rfl⟩)
theorem newerA_iff {m o : Mem} : newerA m o = true ↔ o.inc < m.inc ∨ (m.inc = o.inc ∧ o.st < m.st) := by
  unfold newerA
  rw [decide_eq_true_iff]
  rcases cmpI_cases m.inc o.inc with ⟨h1, e1⟩ | ⟨h1, e1⟩ | ⟨h1, e1⟩ <;> rcases cmpI_cases m.st o.st with ⟨h2, e2⟩ | ⟨h2, e2⟩ | ⟨h2, e2⟩ <;> rw [e1, e2] <;> simp [orL] <;> omega
def findM (ks : List Mem) (id : Int) : Option Mem := ks.find? fun x => decide (x.id = id)
def setM (ks : List Mem) (m : Mem) : List Mem := if m.id ∈ ks.map Mem.id then ks.map (fun x => if x.id = m.id then m else x) else ks ++ [m]
def okHear (m : Mem) (now : Int) : Bool := inA m.id 1 65536 && inA m.inc 0 1073741824 && inA m.st 1 3 && inA now 0 1099511627776
def hearA (V : VM) (m : Mem) (now : Int) : (Bool × Int) × VM :=
  if okHear m now = false then ((false, 1), V)
  else if m.id = V.self.id then (if newerA m V.self then ((true, 0), { V with self := { V.self with inc := min (m.inc + 1) 1073741824 } }) else ((false, 0), V))
  else match findM V.ks m.id with
  | some o => if newerA m o then ((true, 0), { V with ks := setM V.ks { m with since := now } }) else ((false, 0), V)
  | none => if m.st = 3 then ((false, 0), V) else ((true, 0), { V with ks := setM V.ks { m with since := now } })
def mmV (x : Mem) : Value := .agg (mmC x).toArray
def esM (ks : List Mem) : List (Int × Value) := ks.map fun x => (x.id, mmV x)
theorem esM_keys (ks : List Mem) : (esM ks).map (·.1) = ks.map Mem.id := by simp [esM]
theorem esM_look (ks : List Mem) (k : Int) : alook (esM ks) k = (findM ks k).map mmV := by
  unfold alook esM findM
  rw [List.find?_map, Option.map_map]
  rfl
theorem esM_set (ks : List Mem) (m : Mem) : aset (esM ks) m.id (mmV m) = esM (setM ks m) := by
  unfold aset setM
  rw [esM_keys]
  split
  · unfold esM
    rw [List.map_map, List.map_map]
    apply List.map_congr_left
    intro x hx
    simp only [Function.comp]
    split <;> rfl
  · unfold esM; rw [List.map_append]; rfl
theorem setM_len (ks : List Mem) (m : Mem) : (setM ks m).length ≤ ks.length + 1 := by
  unfold setM
  split
  · rw [List.length_map]; omega
  · simp
/-- A view in memory. -/
def viewH (bv : Nat) (V : VM) : HP := fun h => ∃ bm : Nat, True ∧ Sep [pts bv (cl (mmC V.self ++ [.int .i64 V.most, .map (some bm)]) 42), mapR (Value.int .i64) bm (esM V.ks)] h
theorem viewH_open (bv : Nat) (V : VM) : ∀ h, viewH bv V h → ∃ bm : Nat, True ∧ Sep [pts bv (cl (mmC V.self ++ [.int .i64 V.most, .map (some bm)]) 42), mapR (Value.int .i64) bm (esM V.ks)] h := fun h hs => hs
theorem viewH_close (bv bm : Nat) (V : VM) (H : List HP) : Ent (pts bv (cl (mmC V.self ++ [.int .i64 V.most, .map (some bm)]) 42) :: mapR (Value.int .i64) bm (esM V.ks) :: H) (viewH bv V :: H) :=
  Ent.fold (A := viewH bv V) (B := [pts bv (cl (mmC V.self ++ [.int .i64 V.most, .map (some bm)]) 42), mapR (Value.int .i64) bm (esM V.ks)]) fun h hs => ⟨h, sub.refl h, bm, trivial, hs⟩
theorem kIntM : KeyOk Try.prog 3 (Value.int .i64) := keyInt Try.underlying3
attribute [local irreducible] J K Ctr Ends pts slc mapR mapI sbRow stock arrS loopP CtrY viewH

theorem mwithin_any (n lo hi : Int) : Ctr Try.prog 9 [.int .i64 n, .int .i64 lo, .int .i64 hi] [] (fun r H => r = .bool (inA n lo hi) ∧ H = []) := by
  refine Ctr.enter Try.func9 (by kernel_rfl) rfl Try.ntmps9 rfl rfl ?_
  intro G F R hE
  repeat' (first | (with_reducible intro _hh) | refine go1 ?_ | refine J_fork ?_ ?_ | refine J_gsP rfl rfl rfl rfl ?_ ?_ | refine K_condP rfl rfl ?_ ?_)
  · (first | refine K_return hE Try.func9 rfl _ rfl ⟨(by unfold inA; rw [decide_eq_true (show lo ≤ n from _hh), Bool.true_and]; rfl), rfl⟩ entA | refine K_fallEnd hE Try.func9 rfl _ rfl ⟨(by unfold inA; rw [decide_eq_true (show lo ≤ n from _hh), Bool.true_and]; rfl), rfl⟩ entA)
  · (first | refine K_return hE Try.func9 rfl _ rfl ⟨(by unfold inA; rw [decide_eq_false (show ¬ lo ≤ n from _hh), Bool.false_and]; rfl), rfl⟩ entA | refine K_fallEnd hE Try.func9 rfl _ rfl ⟨(by unfold inA; rw [decide_eq_false (show ¬ lo ≤ n from _hh), Bool.false_and]; rfl), rfl⟩ entA)
theorem newer_any (m o : Mem) : Ctr Try.prog 10 [.agg (mmC m).toArray, .agg (mmC o).toArray] [] (fun r H => r = .bool (newerA m o) ∧ H = []) := by
  refine Ctr.enter Try.func10 (by kernel_rfl) rfl Try.ntmps10 rfl rfl ?_
  intro G F R hE
  refine K_regionA rfl ?_
  refine J_box rfl rfl (fun _ _ _ => trivial) ?_
  intro bx
  refine J_box rfl rfl (fun _ _ _ => trivial) ?_
  intro by_
  (refine go ?_)
  refine K_drawA (fun w => Sat G w ([pts bx (cl (cellsL (Value.agg (mmC m).toArray)) 30), pts by_ (cl (cellsL (Value.agg (mmC o).toArray)) 30)])) (.st 0 (.st 1 (.st 2 (.st 3 (.st 5 (.st 6 (.st 7 (.st 8 (.act 4 (.act 9 (.act 10 (.act 11 (.st 12 (.st 13 .nil)))))))))))))) rfl (by kernel_rfl) (by kernel_rfl) (by kernel_rfl) (fun w hw => hw.ent entA) ?_
  (refine go ?_)
  (first | refine J_callE rfl rfl rfl rfl (Compare_any m.inc o.inc) entA ?_ (fun _ _ w hp hw => by obtain ⟨rfl, rfl⟩ := hp; exact hw.ent entA) | refine J_call0E rfl rfl rfl (Compare_any m.inc o.inc) entA ?_ (fun _ _ w hp hw => by obtain ⟨rfl, rfl⟩ := hp; exact hw.ent entA))
  rintro _ _ ⟨rfl, rfl⟩
  (refine go ?_)
  (first | refine J_callE rfl rfl rfl rfl (Compare_any m.st o.st) entA ?_ (fun _ _ w hp hw => by obtain ⟨rfl, rfl⟩ := hp; exact hw.ent entA) | refine J_call0E rfl rfl rfl (Compare_any m.st o.st) entA ?_ (fun _ _ w hp hw => by obtain ⟨rfl, rfl⟩ := hp; exact hw.ent entA))
  rintro _ _ ⟨rfl, rfl⟩
  (refine go ?_)
  refine J_buildSlice1 (U := tab) (cs := iV [cmpI m.inc o.inc, cmpI m.st o.st]) rfl rfl rfl rfl rfl rfl rfl rfl rfl (fun _ w hw => hw.ent entA) ?_
  intro b
  (refine go ?_)
  (first | refine J_callE rfl rfl rfl rfl (Or_any _ _ [cmpI m.inc o.inc, cmpI m.st o.st] (Vw.pts rfl) (by simp)) entA ?_ (fun _ _ w hp hw => by obtain ⟨rfl, rfl⟩ := hp; exact hw.ent entA) | refine J_call0E rfl rfl rfl (Or_any _ _ [cmpI m.inc o.inc, cmpI m.st o.st] (Vw.pts rfl) (by simp)) entA ?_ (fun _ _ w hp hw => by obtain ⟨rfl, rfl⟩ := hp; exact hw.ent entA))
  rintro _ _ ⟨rfl, rfl⟩
  (refine go ?_)
  (first | refine K_return hE Try.func10 rfl _ rfl ⟨rfl, rfl⟩ entA | refine K_fallEnd hE Try.func10 rfl _ rfl ⟨rfl, rfl⟩ entA)
theorem mNew_any (self most : Int) (hs : inA self 1 65536 = true) (hm : inA most 1 64 = true) :
    Ctr Try.prog 4 [.int .i64 self, .int .i64 most] [] (fun r H => ∃ bv, r = .tuple #[ptr bv, .int .i64 0] ∧ H = [viewH bv ⟨⟨self, 0, 1, 0⟩, most, []⟩]) := by
  refine Ctr.enter Try.func4 (by kernel_rfl) rfl Try.ntmps4 rfl rfl ?_
  intro G F R hE
  (refine go ?_)
  (first | refine J_callE rfl rfl rfl rfl (mwithin_any self 1 65536) entA ?_ (fun _ _ _ _ _ => trivial) | refine J_call0E rfl rfl rfl (mwithin_any self 1 65536) entA ?_ (fun _ _ _ _ _ => trivial) | (refine go ?_; first | refine J_callE rfl rfl rfl rfl (mwithin_any self 1 65536) entA ?_ (fun _ _ _ _ _ => trivial) | refine J_call0E rfl rfl rfl (mwithin_any self 1 65536) entA ?_ (fun _ _ _ _ _ => trivial)))
  rintro _ _ ⟨rfl, rfl⟩
  rw [hs]
  (refine go ?_)
  (first | refine J_callE rfl rfl rfl rfl (mwithin_any most 1 64) entA ?_ (fun _ _ _ _ _ => trivial) | refine J_call0E rfl rfl rfl (mwithin_any most 1 64) entA ?_ (fun _ _ _ _ _ => trivial) | (refine go ?_; first | refine J_callE rfl rfl rfl rfl (mwithin_any most 1 64) entA ?_ (fun _ _ _ _ _ => trivial) | refine J_call0E rfl rfl rfl (mwithin_any most 1 64) entA ?_ (fun _ _ _ _ _ => trivial)))
  rintro _ _ ⟨rfl, rfl⟩
  rw [hm]
  (refine go ?_)
  refine J_makeMap rfl (fun _ _ _ => trivial) ?_
  intro bm
  (refine go ?_)
  refine J_box rfl rfl (fun _ _ _ => trivial) ?_
  intro bv
  (refine go ?_)
  refine K_ent (Ent.trans (Ent.pick [1] rfl) (Ent.head (B := [mapR (Value.int .i64) bm [] ]) (fun h hs => ⟨h, sub.refl h, Sep_one' (mapR_new _ bm h hs)⟩))) ?_
  refine K_ent (Ent.trans (Ent.pick [1, 0] rfl) (viewH_close bv bm ⟨⟨self, 0, 1, 0⟩, most, []⟩ _)) ?_
  (first | refine K_return hE Try.func4 rfl _ rfl ⟨bv, rfl, rfl⟩ entA | refine K_fallEnd hE Try.func4 rfl _ rfl ⟨bv, rfl, rfl⟩ entA)
theorem Of_any (bv : Nat) (V : VM) (id : Int) : Ctr Try.prog 8 [ptr bv, .int .i64 id] [viewH bv V] (fun r H => r = (match findM V.ks id with
      | some x => .tuple #[mmV x, .bool true]
      | none => .tuple #[mmV ⟨0, 0, 0, 0⟩, .bool false]) ∧ H = [viewH bv V]) := by
  refine Ctr.enter Try.func8 (by kernel_rfl) rfl Try.ntmps8 rfl rfl ?_
  intro G F R hE
  refine K_open (viewH_open bv V) ?_
  rintro bm -
  refine K_regionA rfl ?_
  refine J_alloc (U := tab) rfl rfl rfl (fun _ _ _ => trivial) ?_
  intro b4
  (refine go ?_)
  refine J_lookupOk (U := tab) (es := esM V.ks) (key := id) 2 rfl kIntM rfl rfl rfl rfl rfl rfl rfl rfl ?_
  rw [esM_look]
  cases hf : findM V.ks id with
  | none =>
    rw [hf] at hE
    simp only [Option.map_none, Option.getD_none, Option.isSome_none]
    (refine go ?_)
    refine J_alloc (U := tab) rfl rfl rfl (fun _ _ _ => trivial) ?_
    intro b6
    (refine go ?_)
    refine J_loadAgg (U := tab) 0 rfl rfl rfl rfl rfl rfl ?_
    (refine go ?_)
    refine K_ent (Ent.trans (Ent.pick [2, 3] rfl) (viewH_close bv bm V _)) ?_
    refine K_returnC (U := tab) (cs := mmC ⟨0, 0, 0, 0⟩) 2 hE Try.func8 rfl rfl rfl rfl rfl rfl rfl rfl ⟨rfl, rfl⟩ entA
  | some x =>
    rw [hf] at hE
    simp only [Option.map_some, Option.getD_some, Option.isSome_some]
    (refine go ?_)
    refine J_alloc (U := tab) rfl rfl rfl (fun _ _ _ => trivial) ?_
    intro b6
    (refine go ?_)
    refine J_loadAgg (U := tab) 0 rfl rfl rfl rfl rfl rfl ?_
    (refine go ?_)
    refine K_ent (Ent.trans (Ent.pick [2, 3] rfl) (viewH_close bv bm V _)) ?_
    refine K_returnC (U := tab) (cs := mmC x) 2 hE Try.func8 rfl rfl rfl rfl rfl rfl rfl rfl ⟨rfl, rfl⟩ entA
end Go.Proofs.Ythcjmhlmoamjpaa

/- member, part a: Hear, where there is room. -/
set_option linter.unusedVariables false
set_option linter.unusedSimpArgs false
namespace Go.Proofs.Ythcjmhlmoamjpaa
open Go Go.SL
attribute [local irreducible] J K Ctr Ends pts slc mapR mapI sbRow stock arrS loopP CtrY viewH

set_option maxRecDepth 20000 in
set_option maxHeartbeats 1000000 in
theorem Hear_any (bv : Nat) (V : VM) (m : Mem) (now : Int) (hroom : (V.ks.length : Int) + 1 ≤ V.most) (hmost : V.most ≤ 1000000) (hself : -1000000000000 ≤ V.self.inc ∧ V.self.inc ≤ 1000000000000) :
    Ctr Try.prog 5 [ptr bv, .agg (mmC m).toArray, .int .i64 now] [viewH bv V] (fun r H => r = .tuple #[.bool (hearA V m now).1.1, .int .i64 (hearA V m now).1.2] ∧ H = [viewH bv (hearA V m now).2]) := by
  refine Ctr.enter Try.func5 (by kernel_rfl) rfl Try.ntmps5 rfl rfl ?_
  intro G F R hE
  refine K_regionA rfl ?_
  refine J_box rfl rfl (fun _ _ _ => trivial) ?_
  intro b4
  (refine go ?_)
  (first | refine J_callE rfl rfl rfl rfl (mwithin_any m.id 1 65536) entA ?_ (fun _ _ _ _ _ => trivial) | refine J_call0E rfl rfl rfl (mwithin_any m.id 1 65536) entA ?_ (fun _ _ _ _ _ => trivial) | (refine go ?_; first | refine J_callE rfl rfl rfl rfl (mwithin_any m.id 1 65536) entA ?_ (fun _ _ _ _ _ => trivial) | refine J_call0E rfl rfl rfl (mwithin_any m.id 1 65536) entA ?_ (fun _ _ _ _ _ => trivial)))
  rintro _ _ ⟨rfl, rfl⟩
  have hok : okHear m now = (inA m.id 1 65536 && inA m.inc 0 1073741824 && inA m.st 1 3 && inA now 0 1099511627776) := rfl
  have hbad : okHear m now = false → hearA V m now = ((false, 1), V) := fun h => by unfold hearA; rw [if_pos h]
  cases h1 : inA m.id 1 65536 with
  | false =>
    rw [hbad (by rw [hok, h1]; rfl)] at hE
    (refine go ?_)
    (first | refine K_return hE Try.func5 rfl _ rfl ⟨rfl, rfl⟩ entA | refine K_fallEnd hE Try.func5 rfl _ rfl ⟨rfl, rfl⟩ entA)
  | true =>
  (refine go ?_)
  (first | refine J_callE rfl rfl rfl rfl (mwithin_any m.inc 0 1073741824) entA ?_ (fun _ _ _ _ _ => trivial) | refine J_call0E rfl rfl rfl (mwithin_any m.inc 0 1073741824) entA ?_ (fun _ _ _ _ _ => trivial) | (refine go ?_; first | refine J_callE rfl rfl rfl rfl (mwithin_any m.inc 0 1073741824) entA ?_ (fun _ _ _ _ _ => trivial) | refine J_call0E rfl rfl rfl (mwithin_any m.inc 0 1073741824) entA ?_ (fun _ _ _ _ _ => trivial)))
  rintro _ _ ⟨rfl, rfl⟩
  cases h2 : inA m.inc 0 1073741824 with
  | false =>
    rw [hbad (by rw [hok, h1, h2]; rfl)] at hE
    (refine go ?_)
    (first | refine K_return hE Try.func5 rfl _ rfl ⟨rfl, rfl⟩ entA | refine K_fallEnd hE Try.func5 rfl _ rfl ⟨rfl, rfl⟩ entA)
  | true =>
  (refine go ?_)
  (first | refine J_callE rfl rfl rfl rfl (mwithin_any m.st 1 3) entA ?_ (fun _ _ _ _ _ => trivial) | refine J_call0E rfl rfl rfl (mwithin_any m.st 1 3) entA ?_ (fun _ _ _ _ _ => trivial) | (refine go ?_; first | refine J_callE rfl rfl rfl rfl (mwithin_any m.st 1 3) entA ?_ (fun _ _ _ _ _ => trivial) | refine J_call0E rfl rfl rfl (mwithin_any m.st 1 3) entA ?_ (fun _ _ _ _ _ => trivial)))
  rintro _ _ ⟨rfl, rfl⟩
  cases h3 : inA m.st 1 3 with
  | false =>
    rw [hbad (by rw [hok, h1, h2, h3]; rfl)] at hE
    (refine go ?_)
    (first | refine K_return hE Try.func5 rfl _ rfl ⟨rfl, rfl⟩ entA | refine K_fallEnd hE Try.func5 rfl _ rfl ⟨rfl, rfl⟩ entA)
  | true =>
  (refine go ?_)
  (first | refine J_callE rfl rfl rfl rfl (mwithin_any now 0 1099511627776) entA ?_ (fun _ _ _ _ _ => trivial) | refine J_call0E rfl rfl rfl (mwithin_any now 0 1099511627776) entA ?_ (fun _ _ _ _ _ => trivial) | (refine go ?_; first | refine J_callE rfl rfl rfl rfl (mwithin_any now 0 1099511627776) entA ?_ (fun _ _ _ _ _ => trivial) | refine J_call0E rfl rfl rfl (mwithin_any now 0 1099511627776) entA ?_ (fun _ _ _ _ _ => trivial)))
  rintro _ _ ⟨rfl, rfl⟩
  cases h4 : inA now 0 1099511627776 with
  | false =>
    rw [hbad (by rw [hok, h1, h2, h3, h4]; rfl)] at hE
    (refine go ?_)
    (first | refine K_return hE Try.func5 rfl _ rfl ⟨rfl, rfl⟩ entA | refine K_fallEnd hE Try.func5 rfl _ rfl ⟨rfl, rfl⟩ entA)
  | true =>
  have hok1 : okHear m now = true := by rw [hok, h1, h2, h3, h4]; rfl
  obtain ⟨i1, i2⟩ := inA_iff.1 h2
  (refine go ?_)
  refine K_ent (Ent.pick [1] rfl) ?_
  refine K_open (viewH_open bv V) ?_
  rintro bm -
  refine K_drawA (fun w => Sat G w ([pts bv (cl (mmC V.self ++ [.int .i64 V.most, .map (some bm)]) 42), pts b4 (cl (mmC m) 30)])) (sts 0 8 .nil) rfl (by kernel_rfl) (by kernel_rfl) (by kernel_rfl) (fun w hw => hw.ent entA) ?_
  (refine go ?_)
  refine K_condP rfl rfl ?_ ?_
  · intro heq
    have hh : hearA V m now = if newerA m V.self then ((true, 0), { V with self := { V.self with inc := min (m.inc + 1) 1073741824 } }) else ((false, 0), V) := by
      unfold hearA; rw [if_neg (by rw [hok1]; simp), if_pos heq]
    refine K_drawA (fun w => Sat G w ([pts bv (cl (mmC V.self ++ [.int .i64 V.most, .map (some bm)]) 42), pts b4 (cl (mmC m) 30)])) (.st 0 (.st 1 (.st 2 (.st 3 (.st 4 (.act 5 (.st 6 .nil))))))) rfl (by kernel_rfl) (by kernel_rfl) (by kernel_rfl) (fun w hw => hw.ent entA) ?_
    (refine go ?_)
    refine J_isLoad ?_
    refine J_loadElemS (U := tab) (es := mmC m) 1 0 rfl rfl rfl (show Vw (pts b4 (cl (mmC m) 30)) (.slice (some ⟨b4, 0, none⟩) 4 4) 4 (mmC m) from Vw.pts rfl) rfl (fun j v hj => by rw [Nat.zero_add]; exact hj) rfl rfl rfl ?_
    (refine go ?_)
    refine J_isLoad ?_
    refine J_loadElemS (U := tab) (es := mmC V.self) 0 0 rfl rfl rfl (show Vw (pts bv (cl (mmC V.self ++ [.int .i64 V.most, .map (some bm)]) 42)) (.slice (some ⟨bv, 0, none⟩) 4 4) 4 (mmC V.self) from Vw.pts rfl) rfl (fun j v hj => by rw [Nat.zero_add]; exact hj) rfl rfl rfl ?_
    (refine go ?_)
    (first | refine J_callE rfl rfl rfl rfl (newer_any m V.self) entA ?_ (fun _ _ w hp hw => by obtain ⟨rfl, rfl⟩ := hp; exact hw.ent entA) | refine J_call0E rfl rfl rfl (newer_any m V.self) entA ?_ (fun _ _ w hp hw => by obtain ⟨rfl, rfl⟩ := hp; exact hw.ent entA))
    rintro _ _ ⟨rfl, rfl⟩
    cases hn : newerA m V.self with
    | false =>
      rw [hh, if_neg (by rw [hn]; simp)] at hE
      (refine go ?_)
      refine K_ent (Ent.trans entA (viewH_close bv bm V _)) ?_
      (first | refine K_return hE Try.func5 rfl _ rfl ⟨rfl, rfl⟩ entA | refine K_fallEnd hE Try.func5 rfl _ rfl ⟨rfl, rfl⟩ entA)
    | true =>
      rw [hh, if_pos hn] at hE
      (refine go ?_)
      refine K_ent (Ent.trans entA (viewH_close bv bm { V with self := { V.self with inc := min (m.inc + 1) 1073741824 } } _)) ?_
      (first | refine K_return hE Try.func5 rfl _ rfl ⟨rfl, rfl⟩ entA | refine K_fallEnd hE Try.func5 rfl _ rfl ⟨rfl, rfl⟩ entA)
  intro hne
  have hh : hearA V m now = match findM V.ks m.id with
      | some o => if newerA m o then ((true, 0), { V with ks := setM V.ks { m with since := now } }) else ((false, 0), V)
      | none => if m.st = 3 then ((false, 0), V) else ((true, 0), { V with ks := setM V.ks { m with since := now } }) := by
    unfold hearA; rw [if_neg (by rw [hok1]; simp), if_neg hne]
    all_goals (cases findM V.ks m.id <;> rfl)
  have hsl := setM_len V.ks { m with since := now }
  refine K_drawA (fun w => Sat G w ([pts bv (cl (mmC V.self ++ [.int .i64 V.most, .map (some bm)]) 42), pts b4 (cl (mmC m) 30), mapR (Value.int .i64) bm (esM V.ks)])) (.st 0 (.st 1 (.st 2 (.st 3 (.st 4 (.st 5 (.st 6 (.st 7 (.st 8 (.st 9 (.act 10 (.act 11 (.st 12 .nil))))))))))))) rfl (by kernel_rfl) (by kernel_rfl) (by kernel_rfl) (fun w hw => hw.ent entA) ?_
  (refine go ?_)
  refine J_lookupOkS (U := tab) (es := esM V.ks) (key := m.id) rfl kIntM rfl rfl rfl rfl rfl rfl rfl (fun w hw => hw.getMap (i := 2) rfl) ?_
  rw [esM_look]
  cases hf : findM V.ks m.id with
  | none =>
    rw [hf] at hh
    simp only at hh
    simp only [Option.map_none, Option.getD_none, Option.isSome_none]
    (refine go ?_)
    refine J_alloc (U := tab) rfl rfl rfl (fun _ w hw => hw.ent entA) ?_
    intro b9
    (refine go ?_)
    refine J_isStore ?_
    refine J_store (U := tab) 0 (fun w hw => hw.ent entA) rfl rfl rfl rfl rfl rfl rfl rfl rfl ?_
    (refine go ?_)
    refine K_condP rfl rfl ?_ ?_
    · intro hdead
      rw [hh, if_pos hdead] at hE
      (refine go ?_)
      refine K_ent (Ent.trans entA (viewH_close bv bm V _)) ?_
      (first | refine K_return hE Try.func5 rfl _ rfl ⟨rfl, rfl⟩ entA | refine K_fallEnd hE Try.func5 rfl _ rfl ⟨rfl, rfl⟩ entA)
    intro hal
    rw [hh, if_neg hal] at hE
    (refine go ?_)
    obtain ⟨m', hm'⟩ : ∃ m' : Mem, m' = { m with since := now } := ⟨_, rfl⟩
    refine K_drawA (fun w => Sat G w ([pts bv (cl (mmC V.self ++ [.int .i64 V.most, .map (some bm)]) 42), pts b4 (cl (mmC { m with since := now }) 30)])) (sts 0 7 (.act 7 .nil)) rfl (by kernel_rfl) (by kernel_rfl) (by kernel_rfl) (fun w hw => hw.ent entA) ?_
    (refine go ?_)
    refine J_isLoad ?_
    refine J_loadElemS (U := tab) (es := mmC { m with since := now }) 1 0 rfl rfl rfl (show Vw (pts b4 (cl (mmC { m with since := now }) 30)) (.slice (some ⟨b4, 0, none⟩) 4 4) 4 (mmC { m with since := now }) from Vw.pts rfl) rfl (fun j v hj => by rw [Nat.zero_add]; exact hj) rfl rfl rfl ?_
    (refine go ?_)
    refine J_mapUpdate (U := tab) (es := esM V.ks) (key := ({ m with since := now } : Mem).id) (v := mmV { m with since := now }) 2 kIntM (fun _ _ => trivial) rfl rfl rfl rfl rfl rfl rfl rfl ?_
    rw [esM_set]
    (refine go ?_)
    have hel : (esM (setM V.ks { m with since := now })).length = (setM V.ks { m with since := now }).length := List.length_map _
    refine K_drawA (fun w => Sat G w ([pts bv (cl (mmC V.self ++ [.int .i64 V.most, .map (some bm)]) 42), mapR (Value.int .i64) bm (esM (setM V.ks { m with since := now }))])) (sts 0 10 .nil) rfl (by kernel_rfl) (by kernel_rfl) (by kernel_rfl) (fun w hw => hw.ent entA) ?_
    (refine go ?_)
    refine J_lenMapS (U := tab) (es := esM (setM V.ks { m with since := now })) rfl rfl rfl rfl (fun w hw => hw.getMap (i := 1) rfl) ?_
    (refine go ?_)
    refine K_condP rfl rfl ?_ ?_
    · intro hbig
      exfalso
      rw [hel] at hbig
      omega
    intro _
    (refine go ?_)
    refine K_ent (Ent.trans entA (viewH_close bv bm { V with ks := setM V.ks { m with since := now } } _)) ?_
    (first | refine K_return hE Try.func5 rfl _ rfl ⟨rfl, rfl⟩ entA | refine K_fallEnd hE Try.func5 rfl _ rfl ⟨rfl, rfl⟩ entA)
  | some o =>
    rw [hf] at hh
    simp only at hh
    simp only [Option.map_some, Option.getD_some, Option.isSome_some]
    (refine go ?_)
    refine J_alloc (U := tab) rfl rfl rfl (fun _ w hw => hw.ent entA) ?_
    intro b9
    (refine go ?_)
    refine J_isStore ?_
    refine J_store (U := tab) 0 (fun w hw => hw.ent entA) rfl rfl rfl rfl rfl rfl rfl rfl rfl ?_
    (refine go ?_)
    refine J_loadAgg (U := tab) 3 rfl rfl rfl rfl rfl rfl ?_
    (refine go ?_)
    refine J_loadAgg (U := tab) 0 rfl rfl rfl rfl rfl rfl ?_
    (refine go ?_)
    (first | refine J_callE rfl rfl rfl rfl (newer_any m o) entA ?_ (fun _ _ _ _ _ => trivial) | refine J_call0E rfl rfl rfl (newer_any m o) entA ?_ (fun _ _ _ _ _ => trivial) | (refine go ?_; first | refine J_callE rfl rfl rfl rfl (newer_any m o) entA ?_ (fun _ _ _ _ _ => trivial) | refine J_call0E rfl rfl rfl (newer_any m o) entA ?_ (fun _ _ _ _ _ => trivial)))
    rintro _ _ ⟨rfl, rfl⟩
    cases hn : newerA m o with
    | false =>
      rw [hh, if_neg (by rw [hn]; simp)] at hE
      (refine go ?_)
      refine K_ent (Ent.trans entA (viewH_close bv bm V _)) ?_
      (first | refine K_return hE Try.func5 rfl _ rfl ⟨rfl, rfl⟩ entA | refine K_fallEnd hE Try.func5 rfl _ rfl ⟨rfl, rfl⟩ entA)
    | true =>
    rw [hh, if_pos hn] at hE
    (refine go ?_)
    obtain ⟨m', hm'⟩ : ∃ m' : Mem, m' = { m with since := now } := ⟨_, rfl⟩
    refine K_drawA (fun w => Sat G w ([pts bv (cl (mmC V.self ++ [.int .i64 V.most, .map (some bm)]) 42), pts b4 (cl (mmC { m with since := now }) 30)])) (sts 0 7 (.act 7 .nil)) rfl (by kernel_rfl) (by kernel_rfl) (by kernel_rfl) (fun w hw => hw.ent entA) ?_
    (refine go ?_)
    refine J_isLoad ?_
    refine J_loadElemS (U := tab) (es := mmC { m with since := now }) 1 0 rfl rfl rfl (show Vw (pts b4 (cl (mmC { m with since := now }) 30)) (.slice (some ⟨b4, 0, none⟩) 4 4) 4 (mmC { m with since := now }) from Vw.pts rfl) rfl (fun j v hj => by rw [Nat.zero_add]; exact hj) rfl rfl rfl ?_
    (refine go ?_)
    refine J_mapUpdate (U := tab) (es := esM V.ks) (key := ({ m with since := now } : Mem).id) (v := mmV { m with since := now }) 2 kIntM (fun _ _ => trivial) rfl rfl rfl rfl rfl rfl rfl rfl ?_
    rw [esM_set]
    (refine go ?_)
    have hel : (esM (setM V.ks { m with since := now })).length = (setM V.ks { m with since := now }).length := List.length_map _
    refine K_drawA (fun w => Sat G w ([pts bv (cl (mmC V.self ++ [.int .i64 V.most, .map (some bm)]) 42), mapR (Value.int .i64) bm (esM (setM V.ks { m with since := now }))])) (sts 0 10 .nil) rfl (by kernel_rfl) (by kernel_rfl) (by kernel_rfl) (fun w hw => hw.ent entA) ?_
    (refine go ?_)
    refine J_lenMapS (U := tab) (es := esM (setM V.ks { m with since := now })) rfl rfl rfl rfl (fun w hw => hw.getMap (i := 1) rfl) ?_
    (refine go ?_)
    refine K_condP rfl rfl ?_ ?_
    · intro hbig
      exfalso
      rw [hel] at hbig
      omega
    intro _
    (refine go ?_)
    refine K_ent (Ent.trans entA (viewH_close bv bm { V with ks := setM V.ks { m with since := now } } _)) ?_
    (first | refine K_return hE Try.func5 rfl _ rfl ⟨rfl, rfl⟩ entA | refine K_fallEnd hE Try.func5 rfl _ rfl ⟨rfl, rfl⟩ entA)
end Go.Proofs.Ythcjmhlmoamjpaa

