/- journal, part a: numbers as bytes; Repeat; heads. -/
import Derived.Test.YtpdmbmnhgcnelaaEngM
import Derived.Test.YtpdmbmnhgcnelaaEngY
import Derived.Test.YtpdmbmnhgcnelaaEngX
import Derived.Test.YtpdmbmnhgcnelaaEngO
import Derived.Test.YtpdmbmnhgcnelaaEngP
import Derived.Test.YtpdmbmnhgcnelaaEngR
import Derived.Test.YtpdmbmnhgcnelaaFs
import Derived.Test.YtpdmbmnhgcnelaaFr
set_option linter.unusedVariables false
set_option linter.unusedSimpArgs false
namespace Go.Proofs.Ytpdmbmnhgcnelaa
open Go Go.SL
attribute [local irreducible] J K Ctr Ends pts slc mapR mapI sbRow stock arrS loopP

theorem number_any (n : Nat) (h : n < 9223372036854775808) : Ctr Try.prog 87 [.int .i64 (n : Int)] [] (fun v H => ∃ b, v = .slice (some ⟨b, 0, none⟩) 4 4 ∧ H = [pts b (cl (bV (le4 n)) 5)]) := by
  refine Ctr.enter Try.func87 (by kernel_rfl) rfl Try.ntmps87 rfl rfl ?_
  intro G F R hE
  (repeat (first | refine go1 ?_ | refine J_fork ?_ ?_ | refine J_convW (U := tab) rfl rfl rfl rfl rfl rfl ?_ | refine J_shr rfl rfl rfl (by omega) ?_))
  refine J_slot 4 (u8 (UInt8.ofNat n)) rfl (conv_u8 n) ?_
  refine J_slot 7 (u8 (UInt8.ofNat (n / 256))) rfl (by rw [show (n : Int) / 2 ^ (min (Int.toNat 8) IntKind.i64.bits) = ((n / 256 : Nat) : Int) from by show (n : Int) / 256 = _; omega]; exact conv_u8 _) ?_
  refine J_slot 10 (u8 (UInt8.ofNat (n / 65536))) rfl (by rw [show (n : Int) / 2 ^ (min (Int.toNat 16) IntKind.i64.bits) = ((n / 65536 : Nat) : Int) from by show (n : Int) / 65536 = _; omega]; exact conv_u8 _) ?_
  refine J_slot 13 (u8 (UInt8.ofNat (n / 16777216))) rfl (by rw [show (n : Int) / 2 ^ (min (Int.toNat 24) IntKind.i64.bits) = ((n / 16777216 : Nat) : Int) from by show (n : Int) / 16777216 = _; omega]; exact conv_u8 _) ?_
  refine J_buildSlice1 (U := tab) (cs := bV (le4 n)) rfl rfl rfl rfl rfl rfl rfl rfl rfl (fun _ _ _ => trivial) ?_
  intro b
  (refine go ?_)
  (first | refine K_return hE Try.func87 rfl _ rfl ⟨b, rfl, rfl⟩ entA | refine K_fallEnd hE Try.func87 rfl _ rfl ⟨b, rfl, rfl⟩ entA)
theorem bV_at {A : HP} {v : Value} {bs : List UInt8} (hv : Vw A v bs.length (bV bs)) (h : 0 < bs.length) : ∃ b o c, v = .slice (some ⟨b, o, none⟩) bs.length c := hv.some (by cases bs with
  | nil => simp at h
  | cons x l => simp [bV])
theorem bV_getD {bs : List UInt8} {i : Nat} (h : i < bs.length) : (bV bs)[i]? = some (u8 (bs.getD i 0)) := by
  rw [List.getD_eq_getElem?_getD]
  simp [bV, h]
theorem shl_slot {x q : Nat} (y : Nat) (h : x * 2 ^ (min q 64) = y) (hy : y < 9223372036854775808) : Value.int .i64 (IntKind.i64.wrap ((x : Int) * 2 ^ (min ((q : Int).toNat) IntKind.i64.bits))) = .int .i64 (y : Int) := by
  have e : (x : Int) * 2 ^ (min ((q : Int).toNat) IntKind.i64.bits) = (y : Int) := by
    show (x : Int) * 2 ^ (min q 64) = _
    rw [← h]; push_cast; rfl
  rw [e, wrap_in (by simp only [inK]; omega)]
set_option maxRecDepth 20000 in
theorem told_any (A : HP) (v : Value) (bs : List UInt8) (hv : Vw A v bs.length (bV bs)) (h : 4 ≤ bs.length) : Ctr Try.prog 64 [v] [A] (fun r H => r = .int .i64 (leN bs : Int) ∧ H = [A]) := by
  obtain ⟨b, o, c, rfl⟩ := bV_at hv (by omega)
  have hx : ∀ x : UInt8, x.toNat < 256 := fun x => x.toNat_lt
  have h0 := hx (bs.getD 0 0); have h1 := hx (bs.getD 1 0); have h2 := hx (bs.getD 2 0); have h3 := hx (bs.getD 3 0)
  refine Ctr.enter Try.func64 (by kernel_rfl) rfl Try.ntmps64 rfl rfl ?_
  intro G F R hE
  (refine go ?_)
  refine K_drawA (fun w => Sat G w ([A])) (sts 0 23 .nil) rfl (by kernel_rfl) (by kernel_rfl) (by kernel_rfl) (fun w hw => hw.ent entA) ?_
  (refine go ?_)
  refine J_at1 (U := tab) 0 rfl rfl rfl rfl rfl rfl rfl rfl (by omega) ?_
  refine J_loadAtS (U := tab) 0 0 rfl rfl rfl hv rfl (bV_getD (by omega)) rfl rfl ?_
  (refine go ?_)
  refine J_at1 (U := tab) 1 rfl rfl rfl rfl rfl rfl rfl rfl (by omega) ?_
  refine J_loadAtS (U := tab) 0 1 rfl rfl rfl hv rfl (bV_getD (by omega)) rfl rfl ?_
  (refine go ?_)
  refine J_shlW rfl rfl rfl (by omega) ?_
  refine J_slot 11 (.int .i64 (((bs.getD 1 0).toNat * 2 ^ 8 : Nat) : Int)) rfl (shl_slot (q := 8) _ rfl (by omega)) ?_
  (refine go ?_)
  refine J_slot 12 (.int .i64 (((bs.getD 0 0).toNat + (bs.getD 1 0).toNat * 2 ^ 8 : Nat) : Int)) rfl (congrArg (Value.int .i64) (or_i64 (by omega) (by omega))) ?_
  refine J_at1 (U := tab) 2 rfl rfl rfl rfl rfl rfl rfl rfl (by omega) ?_
  refine J_loadAtS (U := tab) 0 2 rfl rfl rfl hv rfl (bV_getD (by omega)) rfl rfl ?_
  (refine go ?_)
  refine J_shlW rfl rfl rfl (by omega) ?_
  refine J_slot 17 (.int .i64 (((bs.getD 2 0).toNat * 2 ^ 16 : Nat) : Int)) rfl (shl_slot (q := 16) _ rfl (by omega)) ?_
  (refine go ?_)
  refine J_slot 18 (.int .i64 (((bs.getD 0 0).toNat + (bs.getD 1 0).toNat * 2 ^ 8 + (bs.getD 2 0).toNat * 2 ^ 16 : Nat) : Int)) rfl (congrArg (Value.int .i64) (or_i64 (by omega) (by omega))) ?_
  refine J_at1 (U := tab) 3 rfl rfl rfl rfl rfl rfl rfl rfl (by omega) ?_
  refine J_loadAtS (U := tab) 0 3 rfl rfl rfl hv rfl (bV_getD (by omega)) rfl rfl ?_
  (refine go ?_)
  refine J_shlW rfl rfl rfl (by omega) ?_
  refine J_slot 23 (.int .i64 (((bs.getD 3 0).toNat * 2 ^ 24 : Nat) : Int)) rfl (shl_slot (q := 24) _ rfl (by omega)) ?_
  (refine go ?_)
  refine K_slot 2 (.int .i64 (leN bs : Int)) rfl (congrArg (Value.int .i64) (or_i64 (by omega) (by omega))) ?_
  (first | refine K_return hE Try.func64 rfl _ rfl ⟨rfl, rfl⟩ entA | refine K_fallEnd hE Try.func64 rfl _ rfl ⟨rfl, rfl⟩ entA)
theorem Equal_any (A B : HP) (v1 v2 : Value) (b1 b2 : List UInt8) (h1 : Vw A v1 b1.length (bV b1)) (h2 : Vw B v2 b2.length (bV b2)) : Ctr Try.prog 65 [v1, v2] [A, B] (fun r H => r = .bool (decide (b1 = b2)) ∧ H = [A, B]) := by
  obtain ⟨a1, c1, rfl⟩ := h1.shape
  obtain ⟨a2, c2, rfl⟩ := h2.shape
  refine Ctr.enter Try.func65 (by kernel_rfl) rfl Try.ntmps65 rfl rfl ?_
  intro G F R hE
  (refine go ?_)
  refine J_toStr (U := tab) 0 rfl rfl rfl rfl rfl rfl rfl rfl rfl h1 ?_
  (refine go ?_)
  refine J_toStr (U := tab) 1 rfl rfl rfl rfl rfl rfl rfl rfl rfl h2 ?_
  (refine go ?_)
  rw [eqS_strOf]
  (first | refine K_return hE Try.func65 rfl _ rfl ⟨rfl, rfl⟩ entA | refine K_fallEnd hE Try.func65 rfl _ rfl ⟨rfl, rfl⟩ entA)
set_option maxRecDepth 20000 in
theorem Mul64_any (a b : Nat) (ha : a < 4294967296) (hb : b < 4294967296) : Ctr Try.prog 102 [.int .u64 (a : Int), .int .u64 (b : Int)] [] (fun r H => r = .tuple #[.int .u64 0, .int .u64 ((a * b : Nat) : Int)] ∧ H = []) := by
  have hab : a * b < 18446744073709551616 := Nat.lt_of_lt_of_le (Nat.mul_lt_mul'' ha hb) (by omega)
  have hw : ∀ x : Nat, x < 18446744073709551616 → IntKind.u64.wrap (x : Int) = (x : Int) := fun x hx => wrap_in (by simp only [inK]; omega)
  have hm : ∀ x : Nat, x < 4294967296 → IntKind.u64.wrap ((BitVec.ofInt IntKind.u64.bits (x : Int) &&& BitVec.ofInt IntKind.u64.bits 4294967295).toNat : Int) = (x : Int) := fun x hx => by
    have := and_mask_u64 x 32 (by omega) (by omega)
    rw [show ((2 ^ 32 - 1 : Nat) : Int) = 4294967295 from rfl, show x % 2 ^ 32 = x from by omega] at this
    exact this
  have hs : ∀ x : Nat, x < 4294967296 → (x : Int) / 2 ^ (min (Int.toNat 32) IntKind.u64.bits) = 0 := fun x hx => by show (x : Int) / 4294967296 = 0; omega
  refine Ctr.enter Try.func102 (by kernel_rfl) rfl Try.ntmps102 rfl rfl ?_
  intro G F R hE
  (refine go ?_)
  refine J_slot 6 (.int .u64 (a : Int)) rfl (congrArg (Value.int .u64) (hm a ha)) ?_
  refine J_shr rfl rfl rfl (by omega) ?_
  refine J_slot 17 (.int .u64 0) rfl (congrArg (Value.int .u64) (hs a ha)) ?_
  (refine go ?_)
  refine J_slot 8 (.int .u64 (b : Int)) rfl (congrArg (Value.int .u64) (hm b hb)) ?_
  refine J_shr rfl rfl rfl (by omega) ?_
  refine J_slot 21 (.int .u64 0) rfl (congrArg (Value.int .u64) (hs b hb)) ?_
  (refine go ?_)
  refine J_mul rfl rfl rfl (by rw [← Int.natCast_mul]; simp only [inK]; omega) ?_
  refine J_slot 24 (.int .u64 ((a * b : Nat) : Int)) rfl (by rw [Int.natCast_mul]) ?_
  (refine go ?_)
  refine J_mul rfl rfl rfl (by simp [inK]) ?_
  refine J_slot 27 (.int .u64 0) rfl (by simp) ?_
  (refine go ?_)
  refine J_shr rfl rfl rfl (by omega) ?_
  refine J_slot 29 (.int .u64 ((a * b / 4294967296 : Nat) : Int)) rfl (congrArg (Value.int .u64) (by show ((a * b : Nat) : Int) / 4294967296 = _; omega)) ?_
  (refine go ?_)
  refine J_slot 11 (.int .u64 ((a * b / 4294967296 : Nat) : Int)) rfl (congrArg (Value.int .u64) (by omega)) ?_
  (refine go ?_)
  have hq : a * b / 4294967296 < 4294967296 := by omega
  refine J_slot 12 (.int .u64 ((a * b / 4294967296 : Nat) : Int)) rfl (congrArg (Value.int .u64) (by rw [show (0 : Int) + ((a * b / 4294967296 : Nat) : Int) = ((a * b / 4294967296 : Nat) : Int) from by omega]; exact hm _ hq)) ?_
  refine J_shr rfl rfl rfl (by omega) ?_
  refine J_slot 34 (.int .u64 0) rfl (congrArg (Value.int .u64) (by simp only [Int.zero_add, Int.add_zero]; exact hs _ hq)) ?_
  (refine go ?_)
  refine J_mul rfl rfl rfl (by simp [inK]) ?_
  refine J_slot 38 (.int .u64 0) rfl (by simp) ?_
  (refine go ?_)
  refine J_mul rfl rfl rfl (by simp [inK]) ?_
  refine J_slot 42 (.int .u64 0) rfl (by simp) ?_
  (refine go ?_)
  refine J_shr rfl rfl rfl (by omega) ?_
  refine J_slot 46 (.int .u64 0) rfl (congrArg (Value.int .u64) (by rw [show ((a * b / 4294967296 : Nat) : Int) + 0 = ((a * b / 4294967296 : Nat) : Int) from by omega]; exact hs (a * b / 4294967296) hq)) ?_
  (refine go ?_)
  refine J_mul rfl rfl rfl (by rw [← Int.natCast_mul]; simp only [inK]; omega) ?_
  refine J_slot 50 (.int .u64 ((a * b : Nat) : Int)) rfl (by rw [Int.natCast_mul]) ?_
  (refine go ?_)
  (first | refine K_return hE Try.func102 rfl _ rfl ⟨rfl, rfl⟩ entA | refine K_fallEnd hE Try.func102 rfl _ rfl ⟨rfl, rfl⟩ entA)
theorem Mul_any (a b : Nat) (ha : a < 4294967296) (hb : b < 4294967296) : Ctr Try.prog 97 [.int .u64 (a : Int), .int .u64 (b : Int)] [] (fun r H => r = .tuple #[.int .u64 0, .int .u64 ((a * b : Nat) : Int)] ∧ H = []) := by
  refine Ctr.enter Try.func97 (by kernel_rfl) rfl Try.ntmps97 rfl rfl ?_
  intro G F R hE
  (refine go ?_)
  (first | refine J_callE rfl rfl rfl rfl (Mul64_any a b ha hb) entA ?_ (fun _ _ _ _ _ => trivial) | refine J_call0E rfl rfl rfl (Mul64_any a b ha hb) entA ?_ (fun _ _ _ _ _ => trivial) | (refine go ?_; first | refine J_callE rfl rfl rfl rfl (Mul64_any a b ha hb) entA ?_ (fun _ _ _ _ _ => trivial) | refine J_call0E rfl rfl rfl (Mul64_any a b ha hb) entA ?_ (fun _ _ _ _ _ => trivial)))
  rintro _ _ ⟨rfl, rfl⟩
  (refine go ?_)
  (first | refine K_return hE Try.func97 rfl _ rfl ⟨rfl, rfl⟩ entA | refine K_fallEnd hE Try.func97 rfl _ rfl ⟨rfl, rfl⟩ entA)
set_option maxRecDepth 20000 in
theorem Repeat2_any (v : Value) (bs : List UInt8) (h0 : 0 < bs.length) (hl : bs.length ≤ 1000) :
    Ctr Try.prog 86 [v, .int .i64 2] [slc 5 1 v bs.length (bV bs)] (fun r H => H = [slc 5 1 r (bs ++ bs).length (bV (bs ++ bs))]) := by
  refine Ctr.enter Try.func86 (by kernel_rfl) rfl Try.ntmps86 rfl rfl ?_
  intro G F R hE
  refine K_slcF 0 rfl h0 ?_
  rintro b o c rfl hc _ hvw
  (refine go ?_)
  (first | refine J_callE rfl rfl rfl rfl (Mul_any bs.length 2 (by omega) (by omega)) entA ?_ (fun _ _ _ _ _ => trivial) | refine J_call0E rfl rfl rfl (Mul_any bs.length 2 (by omega) (by omega)) entA ?_ (fun _ _ _ _ _ => trivial) | (refine go ?_; first | refine J_callE rfl rfl rfl rfl (Mul_any bs.length 2 (by omega) (by omega)) entA ?_ (fun _ _ _ _ _ => trivial) | refine J_call0E rfl rfl rfl (Mul_any bs.length 2 (by omega) (by omega)) entA ?_ (fun _ _ _ _ _ => trivial)))
  rintro _ _ ⟨rfl, rfl⟩
  repeat' (first | (with_reducible intro _hh) | refine go1 ?_ | refine J_fork ?_ ?_ | refine J_gsP rfl rfl rfl rfl ?_ ?_ | refine K_condP rfl rfl ?_ ?_)
  any_goals (exfalso; omega)
  obtain ⟨N, hN⟩ : ∃ N, N = bs.length * 2 := ⟨_, rfl⟩
  rw [← hN]
  refine J_makeNoZero (U := tab) (t := 22) (elem := 5) (q := N) rfl Try.func98 rfl rfl (by kernel_rfl) rfl rfl rfl rfl (by omega) (fun _ _ _ _ => trivial) ?_
  intro nb c2 l hc2 hl2
  (refine go ?_)
  refine J_slice3n (U := tab) (q := (N : Int)) (r := (N : Int)) rfl rfl rfl rfl rfl rfl rfl (by omega) (by omega) (by omega) ?_
  refine J_slot 57 (.slice (some ⟨nb, 0, none⟩) N N) rfl (by rw [show ((N : Int)).toNat = N from by omega]; rw [sliceAt_zero]) ?_
  (refine go ?_)
  refine J_copyT (U := tab) (src := bV bs) (mm := bs.length) (l' := bV bs ++ l.drop bs.length) 0 1 rfl rfl rfl rfl rfl rfl rfl rfl hvw (by show _ = _ * 1; rw [bV_length]; omega) (fun u hu => bV_one bs u (List.mem_of_mem_take hu)) (by show 0 + _ * 1 ≤ _; omega) ?_ rfl (fun _ _ => trivial) ?_
  · show _ = List.take 0 l ++ List.take (min bs.length N * 1) (bV bs) ++ List.drop (0 + min bs.length N * 1) l
    rw [show min bs.length N * 1 = bs.length from by omega, List.take_of_length_le (l := bV bs) (by rw [bV_length]; omega)]
    simp
  rw [show ((min bs.length N : Nat) : Int) = (bs.length : Int) from by omega]
  (refine go ?_)
  refine K_loop (fun _ : Bool => True) (fun s => bif s then 0 else 1)
    (fun s => [(7, .int .i64 (N : Int)), (8, .int .i64 (N : Int)), (9, .slice (some ⟨nb, 0, none⟩) N N), (10, .int .i64 ((bif s then N else bs.length : Nat) : Int))])
    (fun s => pts nb (cl (bif s then bV (bs ++ bs) ++ l.drop N else bV bs ++ l.drop bs.length) 5) :: F) false trivial rfl (by repeat (first | exact keep_nil | refine keep_cons rfl ?_)) entA ?_
  rintro s _ ih
  cases s with
  | true =>
    repeat' (first | (with_reducible intro _hh) | refine go1 ?_ | refine J_fork ?_ ?_ | refine J_gsP rfl rfl rfl rfl ?_ ?_ | refine K_condP rfl rfl ?_ ?_)
    any_goals (exfalso; simp only [cond_true] at *; omega)
    simp only [cond_true]
    refine K_ent (slc_row 5 1 nb N N (bV (bs ++ bs)) (l.drop N) _ (by rw [bV_length, List.length_append]; omega) (Nat.le_refl _) (by rw [bV_length, List.length_append, List.length_drop]; omega)) ?_
    rw [show N = (bs ++ bs).length from by rw [List.length_append]; omega]
    (first | refine K_return hE Try.func86 rfl _ rfl rfl entA | refine K_fallEnd hE Try.func86 rfl _ rfl rfl entA)
  | false =>
    repeat' (first | (with_reducible intro _hh) | refine go1 ?_ | refine J_fork ?_ ?_ | refine J_gsP rfl rfl rfl rfl ?_ ?_ | refine K_condP rfl rfl ?_ ?_)
    any_goals (exfalso; simp only [cond_false] at *; omega)
    simp only [cond_false]
    rw [show min (bs.length : Int) (N : Int) = (bs.length : Int) from by omega]
    refine K_drawA (fun w => Sat G w ([])) (sts 0 7 (.act 7 (sts 8 2 .nil))) rfl (by kernel_rfl) (by kernel_rfl) (by kernel_rfl) (fun w hw => hw.ent entA) ?_
    (refine go ?_)
    refine J_sliceAny (U := tab) (p := (bs.length : Int)) (q := (N : Int)) rfl rfl rfl rfl rfl rfl rfl (by omega) (by omega) (.inl rfl) ?_
    refine J_slot 70 (.slice (some ⟨nb, bs.length, none⟩) bs.length bs.length) rfl (by rw [show ((N : Int)).toNat = N from by omega, show ((bs.length : Int)).toNat = bs.length from by omega, show N - bs.length = bs.length from by omega]; show Value.slice (sliceAt _ N bs.length 1) _ _ = _; rw [sliceAt_some _ _ _ _ _ (by omega), Nat.zero_add, Nat.mul_one]) ?_
    (refine go ?_)
    refine J_sliceAny (U := tab) (p := 0) (q := (bs.length : Int)) rfl rfl rfl rfl rfl rfl rfl (by omega) (by omega) (.inr (by omega)) ?_
    refine J_slot 73 (.slice (some ⟨nb, 0, none⟩) bs.length N) rfl (by rw [show (0 : Int).toNat = 0 from rfl, show ((bs.length : Int)).toNat = bs.length from by omega, sliceAt_zero]; rfl) ?_
    refine J_copyT (U := tab) (src := bV bs) (mm := bs.length) (l' := bV (bs ++ bs) ++ l.drop N) 0 0 rfl rfl rfl rfl rfl rfl rfl rfl (Vw.pts (by simp)) (by show _ = _ * 1; rw [bV_length]; omega) (fun u hu => bV_one bs u (List.mem_of_mem_take hu)) (by show bs.length + _ * 1 ≤ _; rw [List.length_append, bV_length, List.length_drop]; omega) ?_ rfl (fun _ hw => hw.ent (Ent.toNil _)) ?_
    · show _ = List.take bs.length _ ++ List.take (min bs.length bs.length * 1) (bV bs) ++ List.drop (bs.length + min bs.length bs.length * 1) _
      rw [show min bs.length bs.length * 1 = bs.length from by omega, List.take_of_length_le (l := bV bs) (by rw [bV_length]; omega), List.take_left' (bV_length bs), List.drop_append, bV_length, show (bV bs).drop (bs.length + bs.length) = [] from List.drop_eq_nil_of_le (by rw [bV_length]; omega), List.drop_drop, show bs.length + (bs.length + bs.length - bs.length) = N from by omega]
      simp [bV]
    rw [show ((min bs.length bs.length : Nat) : Int) = (bs.length : Int) from by omega]
    (refine go ?_)
    refine K_slot 10 (.int .i64 (N : Int)) rfl (congrArg (Value.int .i64) (by omega)) ?_
    refine K_again ih true rfl trivial (by simp) (by repeat (first | exact keep_nil | refine keep_cons rfl ?_)) entA
/-- A head: of a number and of a length, twice. -/
def headL (n m : Nat) : List UInt8 := (le4 n ++ le4 m) ++ (le4 n ++ le4 m)
theorem headL_len (n m : Nat) : (headL n m).length = 16 := rfl
theorem head_any (n m : Nat) (h : n < 9223372036854775808) (h2 : m < 9223372036854775808) : Ctr Try.prog 56 [.int .i64 (n : Int), .int .i64 (m : Int)] [] (fun r H => H = [slc 5 1 r (headL n m).length (bV (headL n m))]) := by
  refine Ctr.enter Try.func56 (by kernel_rfl) rfl Try.ntmps56 rfl rfl ?_
  intro G F R hE
  (refine go ?_)
  (first | refine J_callE rfl rfl rfl rfl (number_any n h) entA ?_ (fun _ _ _ _ _ => trivial) | refine J_call0E rfl rfl rfl (number_any n h) entA ?_ (fun _ _ _ _ _ => trivial) | (refine go ?_; first | refine J_callE rfl rfl rfl rfl (number_any n h) entA ?_ (fun _ _ _ _ _ => trivial) | refine J_call0E rfl rfl rfl (number_any n h) entA ?_ (fun _ _ _ _ _ => trivial)))
  rintro _ _ ⟨b1, rfl, rfl⟩
  (refine go ?_)
  (first | refine J_callE rfl rfl rfl rfl (number_any m h2) entA ?_ (fun _ _ _ _ _ => trivial) | refine J_call0E rfl rfl rfl (number_any m h2) entA ?_ (fun _ _ _ _ _ => trivial) | (refine go ?_; first | refine J_callE rfl rfl rfl rfl (number_any m h2) entA ?_ (fun _ _ _ _ _ => trivial) | refine J_call0E rfl rfl rfl (number_any m h2) entA ?_ (fun _ _ _ _ _ => trivial)))
  rintro _ _ ⟨b2, rfl, rfl⟩
  (first | refine K_ent (Ent.pick [1] rfl) ?_ | refine J_ent (Ent.pick [1] rfl) ?_)
  (first | refine K_ent (slc_row 5 1 b1 4 4 (bV (le4 n)) [] _ rfl (Nat.le_refl _) (by simp [bV_length, le4_len])) ?_ | refine J_ent (slc_row 5 1 b1 4 4 (bV (le4 n)) [] _ rfl (Nat.le_refl _) (by simp [bV_length, le4_len])) ?_)
  refine J_append (U := tab) (mm := 4) (news := bV (le4 m)) 0 1 rfl rfl rfl rfl rfl rfl rfl rfl rfl rfl rfl rfl (Vw.pts rfl) rfl (bV_one _) (by omega) (by show (4 + 4) * 1 ≤ _; omega) (fun _ => rfl) (fun _ _ _ => trivial) ?_
  intro v1
  rw [show bV (le4 n) ++ bV (le4 m) = bV (le4 n ++ le4 m) from by simp [bV], show 4 + 4 = (le4 n ++ le4 m).length from rfl]
  (first | refine J_callE rfl rfl rfl rfl (Repeat2_any v1 (le4 n ++ le4 m) (by simp [le4_len]) (by simp [le4_len])) entA ?_ (fun _ _ _ _ _ => trivial) | refine J_call0E rfl rfl rfl (Repeat2_any v1 (le4 n ++ le4 m) (by simp [le4_len]) (by simp [le4_len])) entA ?_ (fun _ _ _ _ _ => trivial) | (refine go ?_; first | refine J_callE rfl rfl rfl rfl (Repeat2_any v1 (le4 n ++ le4 m) (by simp [le4_len]) (by simp [le4_len])) entA ?_ (fun _ _ _ _ _ => trivial) | refine J_call0E rfl rfl rfl (Repeat2_any v1 (le4 n ++ le4 m) (by simp [le4_len]) (by simp [le4_len])) entA ?_ (fun _ _ _ _ _ => trivial)))
  rintro r _ rfl
  (refine go ?_)
  (first | refine K_return hE Try.func56 rfl _ rfl rfl entA | refine K_fallEnd hE Try.func56 rfl _ rfl rfl entA)
end Go.Proofs.Ytpdmbmnhgcnelaa
