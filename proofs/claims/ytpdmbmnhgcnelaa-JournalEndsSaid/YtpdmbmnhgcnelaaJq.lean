/- journal, part q: of the reference: number, Head, Uint, Record. -/
import Derived.Test.YtpdmbmnhgcnelaaJl
set_option linter.unusedVariables false
set_option linter.unusedSimpArgs false
namespace Go.Proofs.Ytpdmbmnhgcnelaa
open Go Go.SL
attribute [local irreducible] J K Ctr Ends pts slc mapR mapI sbRow stock arrS loopP CtrY diskA

theorem u8_ofInt (m : Nat) (z : Int) (h : z = ((m % 256 : Nat) : Int)) : Value.int .u8 z = u8 (UInt8.ofNat m) := by
  subst h; simp [u8, UInt8.toNat_ofNat']
theorem refNumber_any (n : Nat) (h : n < 4294967296) : Ctr Try.prog 49 [.int .i64 (n : Int)] [] (fun r H => ∃ b, r = .slice (some ⟨b, 0, none⟩) 4 4 ∧ H = [pts b (cl (bV (le4 n)) 5)]) := by
  refine Ctr.enter Try.func49 (by kernel_rfl) rfl Try.ntmps49 rfl rfl ?_
  intro G F R hE
  (repeat (first | refine go1 ?_ | refine J_fork ?_ ?_ | refine J_rem rfl rfl rfl (by omega) (by omega) ?_ | refine J_quo rfl rfl rfl (by omega) (by omega) (by simp only [inK]; omega) ?_ | refine J_convW (U := tab) rfl rfl rfl rfl rfl rfl ?_))
  refine J_slot 5 (u8 (UInt8.ofNat n)) rfl (u8_ofInt n _ (by omega)) ?_
  refine J_slot 9 (u8 (UInt8.ofNat (n / 256))) rfl (u8_ofInt (n / 256) _ (by omega)) ?_
  refine J_slot 13 (u8 (UInt8.ofNat (n / 65536))) rfl (u8_ofInt (n / 65536) _ (by omega)) ?_
  refine J_slot 16 (u8 (UInt8.ofNat (n / 16777216))) rfl (u8_ofInt (n / 16777216) _ (by omega)) ?_
  refine J_buildSlice1 (U := tab) (cs := bV (le4 n)) rfl rfl rfl rfl rfl rfl rfl rfl rfl (fun _ _ _ => trivial) ?_
  intro b
  (refine go ?_)
  (first | refine K_return hE Try.func49 rfl _ rfl ⟨b, rfl, rfl⟩ entA | refine K_fallEnd hE Try.func49 rfl _ rfl ⟨b, rfl, rfl⟩ entA)
set_option maxRecDepth 20000 in
theorem refHead_any (n m : Nat) (h : n < 4294967296) (h2 : m < 4294967296) : Ctr Try.prog 17 [.int .i64 (n : Int), .int .i64 (m : Int)] [] (fun r H => H = [slc 5 1 r (headL n m).length (bV (headL n m))]) := by
  refine Ctr.enter Try.func17 (by kernel_rfl) rfl Try.ntmps17 rfl rfl ?_
  intro G F R hE
  (refine go ?_)
  (first | refine J_callE rfl rfl rfl rfl (refNumber_any n h) entA ?_ (fun _ _ _ _ _ => trivial) | refine J_call0E rfl rfl rfl (refNumber_any n h) entA ?_ (fun _ _ _ _ _ => trivial) | (refine go ?_; first | refine J_callE rfl rfl rfl rfl (refNumber_any n h) entA ?_ (fun _ _ _ _ _ => trivial) | refine J_call0E rfl rfl rfl (refNumber_any n h) entA ?_ (fun _ _ _ _ _ => trivial)))
  rintro _ _ ⟨b1, rfl, rfl⟩
  (refine go ?_)
  (first | refine J_callE rfl rfl rfl rfl (refNumber_any m h2) entA ?_ (fun _ _ _ _ _ => trivial) | refine J_call0E rfl rfl rfl (refNumber_any m h2) entA ?_ (fun _ _ _ _ _ => trivial) | (refine go ?_; first | refine J_callE rfl rfl rfl rfl (refNumber_any m h2) entA ?_ (fun _ _ _ _ _ => trivial) | refine J_call0E rfl rfl rfl (refNumber_any m h2) entA ?_ (fun _ _ _ _ _ => trivial)))
  rintro _ _ ⟨b2, rfl, rfl⟩
  refine J_ent (Ent.pick [1, 0] rfl) ?_
  refine J_ent (slc_row 5 1 b1 4 4 (bV (le4 n)) [] _ rfl (Nat.le_refl _) (by simp [bV, le4])) ?_
  refine J_append (U := tab) (mm := 4) (news := bV (le4 m)) 0 1 rfl rfl rfl rfl rfl rfl rfl rfl rfl rfl rfl rfl (Vw.pts rfl) rfl (bV_one _) (by omega) (by show (_ + _) * 1 ≤ _; omega) (fun _ => rfl) (fun _ _ _ => trivial) ?_
  intro v1
  obtain ⟨t, ht⟩ : ∃ t, t = le4 n ++ le4 m := ⟨_, rfl⟩
  have htl : t.length = 8 := by rw [ht]; rfl
  rw [show bV (le4 n) ++ bV (le4 m) = bV t from by rw [ht]; simp [bV], show 4 + 4 = t.length from htl.symm]
  (first | refine J_shape 0 rfl ?_ | refine K_shape 0 rfl ?_)
  rintro va vc rfl
  refine J_slcB (bs := t) 0 rfl ?_
  intro hbt
  (refine go ?_)
  refine J_buildSlice1 (U := tab) (cs := []) rfl rfl rfl rfl rfl rfl rfl rfl rfl (fun _ _ _ => trivial) ?_
  intro b3
  refine J_ent (slc_row 5 1 b3 0 0 [] [] _ rfl (Nat.le_refl _) (by simp)) ?_
  (refine go ?_)
  refine J_append (U := tab) (mm := t.length) (news := bV t) 0 1 rfl rfl rfl rfl rfl rfl rfl rfl rfl rfl rfl rfl hbt.1 (by show _ = _ * 1; rw [bV_length]; omega) (bV_one _) (by omega) (by show (_ + _) * 1 ≤ _; omega) (fun _ => rfl) (fun _ _ _ => trivial) ?_
  intro v2
  (first | refine J_shape 0 rfl ?_ | refine K_shape 0 rfl ?_)
  rintro va2 vc2 rfl
  (refine go ?_)
  refine J_append (U := tab) (mm := t.length) (news := bV t) 0 1 rfl rfl rfl rfl rfl rfl rfl rfl rfl rfl rfl rfl hbt.1 (by show _ = _ * 1; rw [bV_length]; omega) (bV_one _) (by omega) (by show (_ + _) * 1 ≤ _; omega) (fun _ => rfl) (fun _ _ _ => trivial) ?_
  intro v3
  rw [show [] ++ bV t ++ bV t = bV (headL n m) from by rw [ht]; simp [bV, headL], show 0 + t.length + t.length = (headL n m).length from by rw [headL_len]; omega]
  (first | refine J_shape 0 rfl ?_ | refine K_shape 0 rfl ?_)
  rintro va3 vc3 rfl
  (refine go ?_)
  (first | refine K_return hE Try.func17 rfl _ rfl rfl entA | refine K_fallEnd hE Try.func17 rfl _ rfl rfl entA)
set_option maxRecDepth 20000 in
theorem refUint_any (n : Nat) (hn : n ≤ 1000000000000) : Ctr Try.prog 22 [.int .u64 (n : Int)] [] (fun r H => H = [slc 5 1 r (uv n).length (bV (uv n))]) := by
  have hnl := uv_len10 (n := n) (by omega)
  refine Ctr.enter Try.func22 (by kernel_rfl) rfl Try.ntmps22 rfl rfl ?_
  intro G F R hE
  (refine go ?_)
  refine K_ent (slc_lift 5 1 none _) ?_
  refine K_loop (fun y : Value × List UInt8 × Nat => y.2.2 ≤ n ∧ y.2.1 ++ uv y.2.2 = uv n) (fun y => y.2.2)
    (fun y => [(0, .int .u64 (y.2.2 : Int)), (3, y.1)])
    (fun y => slc 5 1 y.1 y.2.1.length (bV y.2.1) :: F) (.slice none 0 0, [], n) ⟨Nat.le_refl _, rfl⟩ rfl (by repeat (first | exact keep_nil | refine keep_cons rfl ?_)) entA ?_
  rintro ⟨v, acc, m⟩ ⟨hm, hacc⟩ ih
  simp only at hm hacc
  have hal : acc.length + (uv m).length = (uv n).length := by rw [← hacc, List.length_append]
  have hpos := uv_pos m
  (first | refine J_shape 0 rfl ?_ | refine K_shape 0 rfl ?_)
  intro va vc hvv
  simp only at hvv
  subst hvv
  simp only
  (refine go ?_)
  refine K_condP rfl rfl ?_ ?_
  · intro hbig
    have hm128 : ¬ m < 128 := by omega
    have huv := uv_big hm128
    have hul : (uv m).length = (uv (m / 128)).length + 1 := by rw [huv]; simp
    (repeat (first | refine go1 ?_ | refine J_fork ?_ ?_ | refine J_rem rfl rfl rfl (by omega) (by omega) ?_ | refine J_convW (U := tab) rfl rfl rfl rfl rfl rfl ?_))
    refine J_slot 10 (u8 (UInt8.ofNat (m % 128 + 128))) rfl (u8_ofInt (m % 128 + 128) _ (by omega)) ?_
    refine J_buildSlice1 (U := tab) (cs := bV [UInt8.ofNat (m % 128 + 128)]) rfl rfl rfl rfl rfl rfl rfl rfl rfl (fun _ _ _ => trivial) ?_
    intro b
    (refine go ?_)
    refine J_append (U := tab) (mm := 1) (news := bV [UInt8.ofNat (m % 128 + 128)]) 1 0 rfl rfl rfl rfl rfl rfl rfl rfl rfl rfl rfl rfl (Vw.pts rfl) rfl (bV_one _) (by omega) (by show (_ + _) * 1 ≤ _; omega) (fun _ => rfl) (fun _ _ _ => trivial) ?_
    intro v1
    rw [show bV acc ++ bV [UInt8.ofNat (m % 128 + 128)] = bV (acc ++ [UInt8.ofNat (m % 128 + 128)]) from by simp [bV], show acc.length + 1 = (acc ++ [UInt8.ofNat (m % 128 + 128)]).length from by simp]
    (first | refine J_shape 1 rfl ?_ | refine K_shape 1 rfl ?_)
    rintro va1 vc1 rfl
    (repeat (first | refine go1 ?_ | refine J_fork ?_ ?_ | refine J_quo rfl rfl rfl (by omega) (by omega) (by simp only [inK]; omega) ?_))
    (first | refine J_slot 0 ((.int .u64 ((m / 128 : Nat) : Int))) rfl ((congrArg (Value.int .u64) (by omega))) ?_ | refine K_slot 0 ((.int .u64 ((m / 128 : Nat) : Int))) rfl ((congrArg (Value.int .u64) (by omega))) ?_)
    refine K_again ih (.slice va1 (acc ++ [UInt8.ofNat (m % 128 + 128)]).length vc1, acc ++ [UInt8.ofNat (m % 128 + 128)], m / 128) rfl (⟨by simp only; omega, by simp only; rw [List.append_assoc, List.singleton_append, ← huv]; exact hacc⟩) (by simp only; omega) (by repeat (first | exact keep_nil | refine keep_cons rfl ?_)) entA
  intro hsm
  have hm128 : m < 128 := by omega
  have huv := uv_small hm128
  (repeat (first | refine go1 ?_ | refine J_fork ?_ ?_ | refine J_convW (U := tab) rfl rfl rfl rfl rfl rfl ?_))
  refine J_slot 17 (u8 (UInt8.ofNat m)) rfl (u8_ofInt m _ (by omega)) ?_
  refine J_buildSlice1 (U := tab) (cs := bV [UInt8.ofNat m]) rfl rfl rfl rfl rfl rfl rfl rfl rfl (fun _ _ _ => trivial) ?_
  intro b
  (refine go ?_)
  refine J_append (U := tab) (mm := 1) (news := bV [UInt8.ofNat m]) 1 0 rfl rfl rfl rfl rfl rfl rfl rfl rfl rfl rfl rfl (Vw.pts rfl) rfl (bV_one _) (by omega) (by show (_ + _) * 1 ≤ _; omega) (fun _ => rfl) (fun _ _ _ => trivial) ?_
  intro v1
  rw [show bV acc ++ bV [UInt8.ofNat m] = bV (uv n) from by rw [← hacc, huv]; simp [bV], show acc.length + 1 = (uv n).length from by rw [← hacc, huv]; simp]
  (first | refine J_shape 1 rfl ?_ | refine K_shape 1 rfl ?_)
  rintro va1 vc1 rfl
  (refine go ?_)
  (first | refine K_return hE Try.func22 rfl _ rfl rfl entA | refine K_fallEnd hE Try.func22 rfl _ rfl rfl entA)
theorem refRecord_any (A : HP) (v : Value) (bs : List UInt8) (hv : BAt A v bs) (hl : bs.length ≤ 1000000000000) :
    Ctr Try.prog 9 [v] [A] (fun r H => H = [slc 5 1 r (encL bs).length (bV (encL bs)), A]) := by
  obtain ⟨a, c, rfl, hc⟩ := hv.2
  refine Ctr.enter Try.func9 (by kernel_rfl) rfl Try.ntmps9 rfl rfl ?_
  intro G F R hE
  (refine go ?_)
  (first | refine J_callE rfl rfl rfl rfl (refUint_any bs.length (by omega)) entA ?_ (fun _ _ _ _ _ => trivial) | refine J_call0E rfl rfl rfl (refUint_any bs.length (by omega)) entA ?_ (fun _ _ _ _ _ => trivial) | (refine go ?_; first | refine J_callE rfl rfl rfl rfl (refUint_any bs.length (by omega)) entA ?_ (fun _ _ _ _ _ => trivial) | refine J_call0E rfl rfl rfl (refUint_any bs.length (by omega)) entA ?_ (fun _ _ _ _ _ => trivial)))
  rintro r _ rfl
  (first | refine J_shape 0 rfl ?_ | refine K_shape 0 rfl ?_)
  rintro ra rc rfl
  (refine go ?_)
  have hu := uv_len10 (n := bs.length) (by omega)
  refine J_append (U := tab) (mm := bs.length) (news := bV bs) 0 1 rfl rfl rfl rfl rfl rfl rfl rfl rfl rfl rfl rfl hv.1 (by show _ = _ * 1; rw [bV_length]; omega) (bV_one _) (by omega) (by show (_ + _) * 1 ≤ _; omega) (fun _ => rfl) (fun _ _ _ => trivial) ?_
  intro v1
  rw [show bV (uv bs.length) ++ bV bs = bV (encL bs) from by simp [bV, encL], show (uv bs.length).length + bs.length = (encL bs).length from by simp [encL]]
  (refine go ?_)
  (first | refine K_return hE Try.func9 rfl _ rfl rfl entA | refine K_fallEnd hE Try.func9 rfl _ rfl rfl entA)
end Go.Proofs.Ytpdmbmnhgcnelaa
