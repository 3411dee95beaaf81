/- Texts of one claim, joined: Ju0, Hk, Hl, Vs0, EngS, Vr, Br, EngV, EngCmp, Bt0, Bt, Bv. -/
import Derived.Test.YtpecmnaikjbanaaGreatDoorQBW3
import Derived.Test.YtpecmnaikjbanaaGreatDoorQBW4
import Derived.Test.YtpecmnaikjbanaaGreatDoorQBW5
import Derived.Test.YtpecmnaikjbanaaGreatDoorQBW6
import Derived.Test.YtpecmnaikjbanaaGreatDoorQBW7
import Derived.Test.YtpecmnaikjbanaaGreatDoorQBW9
import Derived.Test.YtpecmnaikjbanaaGreatDoorQBW10
import Derived.Test.YtpecmnaikjbanaaGreatDoorQBW12
import Derived.Test.YtpecmnaikjbanaaGreatDoorQBW13
import Derived.OpenShut
import Derived.Deep.Slices
import Derived.DataElems
import Derived.Shelf.SlSortCmp.NoneTotal
import Derived.Lib.Bytealg
import Derived.Sort.Statements
import Derived.Shelf.SlLaysF0
import Derived.Test.YtpecmnaikjbanaaGreatDoorChecked
/- of the reference: Uint. -/
set_option linter.unusedVariables false
set_option linter.unusedSimpArgs false
namespace Go.Proofs.YtpecmnaikjbanaaGreatDoor
open Go Go.SL
attribute [local irreducible] J K Ctr Ends pts slc mapR mapI sbRow stock arrS loopP CtrY
theorem u8_ofInt (m : Nat) (z : Int) (h : z = ((m % 256 : Nat) : Int)) : Value.int .u8 z = u8 (UInt8.ofNat m) := by
 subst h; simp [u8, UInt8.toNat_ofNat']
set_option maxRecDepth 20000 in
theorem refUint_any (n : Nat) (hn : n ≤ 1000000000000) : Ctr Tryz.prog 119 [.int .u64 (n : Int)] [] (fun r H => H = [slc 5 1 r (uv n).length (bV (uv n))]) := by
 have hnl := uv_len10 (n := n) (by omega)
 refine Ctr.enter Tryz.func119 (by kernel_rfl) rfl Tryz.ntmps119 rfl rfl ?_
 intro G F R hE
 refine go ?_
 refine K_ent (slc_lift 5 1 none _) ?_
 refine K_loop (fun y : Value × List UInt8 × Nat => y.2.2 ≤ n ∧ y.2.1 ++ uv y.2.2 = uv n) (fun y => y.2.2)
  (fun y => [(0, .int .u64 (y.2.2 : Int)), (3, y.1)])
  (fun y => slc 5 1 y.1 y.2.1.length (bV y.2.1) :: F) (.slice none 0 0, [], n) ⟨Nat.le_refl _, rfl⟩ rfl (by repeat (first | exact keep_nil | refine keep_cons rfl ?_)) entA ?_
 rintro ⟨v, acc, m⟩ ⟨hm, hacc⟩ ih
 simp only at hm hacc
 have hal : acc.length + (uv m).length = (uv n).length := by rw [← hacc, List.length_append]
 have hpos := uv_pos m
 (first | refine J_shape 0 rfl ?_ | refine K_shape 0 rfl ?_)
 intro va vc hvv
 simp only at hvv
 subst hvv
 simp only
 refine go ?_
 refine K_condP rfl rfl ?_ ?_
 ·intro hbig
  have hm128 : ¬ m < 128 := by omega
  have huv := uv_big hm128
  have hul : (uv m).length = (uv (m / 128)).length + 1 := by rw [huv]; simp
  (repeat (first | refine go1 ?_ | refine J_fork ?_ ?_ | refine J_rem rfl rfl rfl (by omega) (by omega) ?_ | refine J_convW (U := tab) rfl rfl rfl rfl rfl rfl ?_))
  refine J_slot 10 (u8 (UInt8.ofNat (m % 128 + 128))) rfl (u8_ofInt (m % 128 + 128) _ (by omega)) ?_
  refine J_buildSlice1 (U := tab) (cs := bV [UInt8.ofNat (m % 128 + 128)]) rfl rfl rfl rfl rfl rfl rfl rfl rfl (fun _ _ _ => trivial) ?_
  intro b
  refine go ?_
  refine J_append (U := tab) (mm := 1) (news := bV [UInt8.ofNat (m % 128 + 128)]) 1 0 rfl rfl rfl rfl rfl rfl rfl rfl rfl rfl rfl rfl (Vw.pts rfl) rfl (bV_one _) (by omega) (by show (_ + _) * 1 ≤ _; omega) (fun _ => rfl) (fun _ _ _ => trivial) ?_
  intro v1
  rw [show bV acc ++ bV [UInt8.ofNat (m % 128 + 128)] = bV (acc ++ [UInt8.ofNat (m % 128 + 128)]) from by simp [bV], show acc.length + 1 = (acc ++ [UInt8.ofNat (m % 128 + 128)]).length from by simp]
  (first | refine J_shape 1 rfl ?_ | refine K_shape 1 rfl ?_)
  rintro va1 vc1 rfl
  (repeat (first | refine go1 ?_ | refine J_fork ?_ ?_ | refine J_quo rfl rfl rfl (by omega) (by omega) (by simp only [inK]; omega) ?_))
  (first | refine J_slot 0 ((.int .u64 ((m / 128 : Nat) : Int))) rfl ((congrArg (Value.int .u64) (by omega))) ?_ | refine K_slot 0 ((.int .u64 ((m / 128 : Nat) : Int))) rfl ((congrArg (Value.int .u64) (by omega))) ?_)
  refine K_again ih (.slice va1 (acc ++ [UInt8.ofNat (m % 128 + 128)]).length vc1, acc ++ [UInt8.ofNat (m % 128 + 128)], m / 128) rfl (⟨by simp only; omega, by simp only; rw [List.append_assoc, List.singleton_append, ← huv]; exact hacc⟩) (by simp only; omega) (by repeat (first | exact keep_nil | refine keep_cons rfl ?_)) entA
 intro hsm
 have hm128 : m < 128 := by omega
 have huv := uv_small hm128
 (repeat (first | refine go1 ?_ | refine J_fork ?_ ?_ | refine J_convW (U := tab) rfl rfl rfl rfl rfl rfl ?_))
 refine J_slot 17 (u8 (UInt8.ofNat m)) rfl (u8_ofInt m _ (by omega)) ?_
 refine J_buildSlice1 (U := tab) (cs := bV [UInt8.ofNat m]) rfl rfl rfl rfl rfl rfl rfl rfl rfl (fun _ _ _ => trivial) ?_
 intro b
 refine go ?_
 refine J_append (U := tab) (mm := 1) (news := bV [UInt8.ofNat m]) 1 0 rfl rfl rfl rfl rfl rfl rfl rfl rfl rfl rfl rfl (Vw.pts rfl) rfl (bV_one _) (by omega) (by show (_ + _) * 1 ≤ _; omega) (fun _ => rfl) (fun _ _ _ => trivial) ?_
 intro v1
 rw [show bV acc ++ bV [UInt8.ofNat m] = bV (uv n) from by rw [← hacc, huv]; simp [bV], show acc.length + 1 = (uv n).length from by rw [← hacc, huv]; simp]
 (first | refine J_shape 1 rfl ?_ | refine K_shape 1 rfl ?_)
 rintro va1 vc1 rfl
 refine go ?_
 (first | refine K_return hE Tryz.func119 rfl _ rfl rfl entA | refine K_fallEnd hE Tryz.func119 rfl _ rfl rfl entA)
end Go.Proofs.YtpecmnaikjbanaaGreatDoor
/- of the reference: Encode of items. -/
namespace Go.Proofs.YtpecmnaikjbanaaGreatDoor
open Go Go.SL
attribute [local irreducible] J K Ctr Ends pts slc mapR mapI sbRow stock arrS loopP CtrY
set_option maxRecDepth 20000 in
theorem refEncode_any (X : HP) (v : Value) (l : List It) (hv : ItemsAt X v l) (hl : l.length ≤ 63) (hr : riseOk 0 (l.map It.p) = true) (hs : (recL (l.map It.p)).length ≤ 65536) :
    Ctr Tryz.prog 118 [v] [X] (fun r H => ∃ rv, r = .tuple #[rv, .int .i64 0] ∧ H = [slc 5 1 rv (recL (l.map It.p)).length (bV (recL (l.map It.p))), X]) := by
  obtain ⟨hvw, hvb⟩ := hv
  obtain ⟨a, c, rfl⟩ := hvw.shape
  refine Ctr.enter Tryz.func118 (by kernel_rfl) rfl Tryz.ntmps118 rfl rfl ?_
  intro G F R hE
  refine go ?_
  refine K_condP rfl rfl ?_ ?_
  · intro h; exfalso; omega
  intro _
  refine go ?_
  refine K_ent (slc_lift 5 1 none _) ?_
  refine K_loop (fun y : Nat × List UInt8 × Option Addr × Nat => y.1 ≤ l.length ∧ y.2.1 = recL ((l.map It.p).take y.1)) (fun y => l.length - y.1)
    (fun y => [(0, .slice a l.length c), (4, .slice y.2.2.1 y.2.1.length y.2.2.2), (5, .int .i64 (lastN (l.map It.p) y.1)), (6, .int .i64 (y.1 : Int))])
    (fun y => slc 5 1 (.slice y.2.2.1 y.2.1.length y.2.2.2) y.2.1.length (bV y.2.1) :: X :: F) (0, [], none, 0) ⟨Nat.zero_le _, rfl⟩ rfl (by repeat (first | exact keep_nil | refine keep_cons rfl ?_)) entA ?_
  rintro ⟨i, acc, a1, c1⟩ ⟨hi, hacc⟩ ih
  simp only at hi hacc
  dsimp only
  have hal := recL_take (l.map It.p) i
  rw [← hacc] at hal
  refine go ?_
  refine K_condP rfl rfl ?_ ?_
  case' refine_2 =>
    intro hge
    have hend : acc = recL (l.map It.p) := by rw [hacc, List.take_of_length_le (by rw [List.length_map]; omega)]
    subst hend
    refine go ?_
    (first | refine K_return hE Tryz.func118 rfl _ rfl ⟨_, rfl, rfl⟩ entA | refine K_fallEnd hE Tryz.func118 rfl _ rfl ⟨_, rfl, rfl⟩ entA)
  intro hlt
  have hi' : i < l.length := by omega
  obtain ⟨x, hx⟩ : ∃ x, l[i]? = some x := ⟨l[i], by simp⟩
  have hxp : (l.map It.p)[i]? = some x.p := by rw [List.getElem?_map, hx]; rfl
  obtain ⟨hr1, hr2⟩ := rise_get _ 0 i x.p hr hxp
  have hr1 : lastN (l.map It.p) i < x.n := hr1
  have hr2 : x.n ≤ 63 := hr2
  have hl2 := lastN_succ hxp
  have hbx := hvb x (List.mem_of_getElem? hx)
  obtain ⟨xn, xv, xb⟩ := x
  simp only at hr1 hr2 hbx
  have hl2 : lastN (l.map It.p) (i + 1) = xn := hl2
  obtain ⟨xa, xc, rfl, hxc⟩ := hbx.2
  have ht : recL ((l.map It.p).take (i + 1)) = acc ++ itemL (xn, xb) := by
    rw [List.take_add_one, hxp, Option.toList_some, recL_app, ← hacc]; simp [recL, It.p]
  have hal1 := recL_take (l.map It.p) (i + 1)
  rw [ht, List.length_append] at hal1
  have hit : (itemL (xn, xb)).length = 1 + (uv xb.length).length + xb.length := by simp only [itemL, List.length_cons, List.length_append]; omega
  obtain ⟨b, o, c', he⟩ := hvw.some (by rw [← List.length_pos_iff, chunk_len itC_len]; omega)
  simp only [Value.slice.injEq, true_and] at he
  obtain ⟨rfl, rfl⟩ := he
  have e0 : (l.flatMap itC)[i * 2 + 0]? = some (.int .i64 xn) := chunk_get itC_len hx 0 (by omega)
  have e1 : (l.flatMap itC)[i * 2 + 1]? = some (.slice xa xb.length xc) := chunk_get itC_len hx 1 (by omega)
  obtain ⟨xm, rfl⟩ : ∃ m : Nat, xn = m := ⟨xn.toNat, by
    have : 0 < xn := rise_pos _ 0 hr (Int.le_refl _) _ (List.mem_of_getElem? hxp)
    omega⟩
  repeat' (first | (with_reducible intro _hh) | refine go1 ?_ | refine J_fork ?_ ?_ | refine J_gsP rfl rfl rfl rfl ?_ ?_ | refine K_condP rfl rfl ?_ ?_ | refine J_at (U := tab) i 2 rfl rfl rfl rfl rfl rfl rfl rfl hi' ?_ | (refine J_isLoad ?_; first | refine J_loadAt (U := tab) 1 (i * 2 + 0) rfl rfl rfl hvw (Nat.add_assoc _ _ _) e0 rfl rfl ?_ | refine J_loadAt (U := tab) 1 (i * 2 + 1) rfl rfl rfl hvw (Nat.add_assoc _ _ _) e1 rfl rfl ?_))
  any_goals (exfalso; omega)
  (repeat (first | refine go1 ?_ | refine J_fork ?_ ?_ | refine J_at (U := tab) i 2 rfl rfl rfl rfl rfl rfl rfl rfl hi' ?_ | (refine J_isLoad ?_; first | refine J_loadAt (U := tab) 1 (i * 2 + 0) rfl rfl rfl hvw (Nat.add_assoc _ _ _) e0 rfl rfl ?_ | refine J_loadAt (U := tab) 1 (i * 2 + 1) rfl rfl rfl hvw (Nat.add_assoc _ _ _) e1 rfl rfl ?_)))
  (first | refine J_slot 47 ((u8 (UInt8.ofNat xm))) rfl ((u8_ofInt xm _ (by omega))) ?_ | refine K_slot 47 ((u8 (UInt8.ofNat xm))) rfl ((u8_ofInt xm _ (by omega))) ?_)
  refine go ?_
  refine J_buildSlice1 (U := tab) (cs := bV [UInt8.ofNat xm]) rfl rfl rfl rfl rfl rfl rfl rfl rfl (fun _ _ _ => trivial) ?_
  intro row
  refine go ?_
  refine J_append (U := tab) (mm := 1) (news := bV [UInt8.ofNat xm]) 1 0 rfl rfl rfl rfl rfl rfl rfl rfl rfl rfl rfl rfl (Vw.pts rfl) rfl (bV_one _) (by omega) (by show (_ + _) * 1 ≤ _; omega) (fun _ => rfl) (fun _ _ _ => trivial) ?_
  intro v1
  rw [show bV acc ++ bV [UInt8.ofNat xm] = bV (acc ++ [UInt8.ofNat xm]) from by simp [bV], show acc.length + 1 = (acc ++ [UInt8.ofNat xm]).length from by simp]
  (first | refine J_shape 1 rfl ?_ | refine K_shape 1 rfl ?_)
  rintro a2 c2 rfl
  (first | refine K_ent (H' := slc 5 1 (.slice a2 (acc ++ [UInt8.ofNat xm]).length c2) (acc ++ [UInt8.ofNat xm]).length (bV (acc ++ [UInt8.ofNat xm])) :: X :: F) entA ?_ | refine J_ent (H' := slc 5 1 (.slice a2 (acc ++ [UInt8.ofNat xm]).length c2) (acc ++ [UInt8.ofNat xm]).length (bV (acc ++ [UInt8.ofNat xm])) :: X :: F) entA ?_)
  (repeat (first | refine go1 ?_ | refine J_fork ?_ ?_ | refine J_at (U := tab) i 2 rfl rfl rfl rfl rfl rfl rfl rfl hi' ?_ | (refine J_isLoad ?_; refine J_loadAt (U := tab) 1 (i * 2 + 1) rfl rfl rfl hvw (Nat.add_assoc _ _ _) e1 rfl rfl ?_)))
  ((try refine go ?_); first | refine J_callE rfl rfl rfl rfl (refUint_any xb.length (by omega)) entA ?_ (fun _ _ _ _ _ => trivial) | refine J_call0E rfl rfl rfl (refUint_any xb.length (by omega)) entA ?_ (fun _ _ _ _ _ => trivial))
  rintro r _ rfl
  (first | refine J_shape 0 rfl ?_ | refine K_shape 0 rfl ?_)
  rintro ra rc rfl
  refine J_slcVw 0 rfl ?_
  intro hbr
  refine go ?_
  refine J_append (U := tab) (mm := (uv xb.length).length) (news := bV (uv xb.length)) 1 0 rfl rfl rfl rfl rfl rfl rfl rfl rfl rfl rfl rfl hbr (by show _ = _ * 1; rw [bV_length]; omega) (bV_one _) (by simp only [List.length_append, List.length_singleton]; omega) (by show (_ + _) * 1 ≤ _; simp only [List.length_append, List.length_singleton]; omega) (fun _ => rfl) (fun _ _ _ => trivial) ?_
  intro v2
  rw [show bV (acc ++ [UInt8.ofNat xm]) ++ bV (uv xb.length) = bV (acc ++ [UInt8.ofNat xm] ++ uv xb.length) from by simp [bV], show (acc ++ [UInt8.ofNat xm]).length + (uv xb.length).length = (acc ++ [UInt8.ofNat xm] ++ uv xb.length).length from by simp; omega]
  (first | refine J_shape 1 rfl ?_ | refine K_shape 1 rfl ?_)
  rintro a3 c3 rfl
  (first | refine K_ent (H' := slc 5 1 (.slice a3 (acc ++ [UInt8.ofNat xm] ++ uv xb.length).length c3) (acc ++ [UInt8.ofNat xm] ++ uv xb.length).length (bV (acc ++ [UInt8.ofNat xm] ++ uv xb.length)) :: X :: F) entA ?_ | refine J_ent (H' := slc 5 1 (.slice a3 (acc ++ [UInt8.ofNat xm] ++ uv xb.length).length c3) (acc ++ [UInt8.ofNat xm] ++ uv xb.length).length (bV (acc ++ [UInt8.ofNat xm] ++ uv xb.length)) :: X :: F) entA ?_)
  (repeat (first | refine go1 ?_ | refine J_fork ?_ ?_ | refine J_at (U := tab) i 2 rfl rfl rfl rfl rfl rfl rfl rfl hi' ?_ | (refine J_isLoad ?_; refine J_loadAt (U := tab) 1 (i * 2 + 1) rfl rfl rfl hvw (Nat.add_assoc _ _ _) e1 rfl rfl ?_)))
  refine J_append (U := tab) (mm := xb.length) (news := bV xb) 0 1 rfl rfl rfl rfl rfl rfl rfl rfl rfl rfl rfl rfl hbx.1 (by show _ = _ * 1; rw [bV_length]; omega) (bV_one _) (by simp only [List.length_append, List.length_singleton]; omega) (by show (_ + _) * 1 ≤ _; simp only [List.length_append, List.length_singleton]; omega) (fun _ => rfl) (fun _ _ _ => trivial) ?_
  intro v3
  rw [show bV (acc ++ [UInt8.ofNat xm] ++ uv xb.length) ++ bV xb = bV (acc ++ itemL (xm, xb)) from by simp [bV, itemL], show (acc ++ [UInt8.ofNat xm] ++ uv xb.length).length + xb.length = (acc ++ itemL (xm, xb)).length from by simp [itemL]; omega]
  (first | refine J_shape 0 rfl ?_ | refine K_shape 0 rfl ?_)
  rintro a4 c4 rfl
  refine go ?_
  refine K_condP rfl rfl ?_ ?_
  · intro hbig; exfalso; simp only [List.length_append] at hbig; omega
  intro _
  refine go ?_
  (first | refine J_slot 5 ((.int .i64 (lastN (l.map It.p) (i + 1)))) rfl ((congrArg (Value.int .i64) hl2.symm)) ?_ | refine K_slot 5 ((.int .i64 (lastN (l.map It.p) (i + 1)))) rfl ((congrArg (Value.int .i64) hl2.symm)) ?_)
  refine K_again ih (i + 1, acc ++ itemL (xm, xb), a4, c4) rfl ⟨by simp only; omega, by simp only; rw [ht]⟩ (by simp only; omega) (by repeat (first | exact keep_nil | refine keep_cons rfl ?_)) entA
end Go.Proofs.YtpecmnaikjbanaaGreatDoor
/- of the reference: an image, as bytes, its name. -/
namespace Go.Proofs.YtpecmnaikjbanaaGreatDoor
open Go Go.SL
attribute [local irreducible] J K Ctr Ends pts slc mapR mapI sbRow stock arrS loopP CtrY Sha.chunks Sha.chunk Sha.rounds Sha.sched sumL taggedL GI leafL
theorem blp0g {x : Bl} {q : Nat} {w : Value} (h : (dC x.d)[q]? = some w) : (blC x)[q]? = some w := by
 have hq := (List.getElem?_eq_some_iff.1 h).1
 unfold blC
 rw [List.append_assoc, List.getElem?_append_left hq]
 exact h
theorem twiceB_snoc (l : List Bl) (x : Bl) : twiceB (l ++ [x]) = (twiceB l || l.any fun y => decide (y.d = x.d)) := by
 induction l with
 | nil => rfl
 | cons y l ih =>
  simp only [List.cons_append, twiceB, ih, List.any_append, List.any_cons, List.any_nil, Bool.or_false]
  by_cases h : x.d = y.d
  ·simp [h]
  ·have h2 : ¬ y.d = x.d := fun e => h e.symm
   simp only [h, h2, decide_false, Bool.or_false, Bool.false_or]
   rw [Bool.or_assoc]
set_option maxRecDepth 20000 in
set_option maxHeartbeats 1000000 in
theorem refImage_any (A : HP) (v : Value) (l : List Bl) (hv : Vw A v l.length (l.flatMap blC)) (hlen : l.length ≤ 9223372036854775807) :
  Ctr Tryz.prog 117 [imV v] [A] (fun r H => r = .int .i64 (imageB l : Int) ∧ H = [A]) := by
 obtain ⟨a, c, rfl⟩ := hv.shape
 have hrt := Right_ref
 unfold blV at hrt
 unfold imV
 refine Ctr.enter Tryz.func117 (by kernel_rfl) rfl Tryz.ntmps117 rfl rfl ?_
 intro G F R hE
 refine K_regionA rfl ?_
 refine J_box rfl rfl (fun _ _ _ => trivial) ?_
 intro b1
 by_cases hlo : l.length < 1 ∨ 16 < l.length
 ·have h1 : imageB l = 1 := by unfold imageB; rw [if_pos (by rcases hlo with h | h; exact .inl h; exact .inr (.inl h))]
  rw [h1] at hE
  repeat' (first | (with_reducible intro _hh) | refine go1 ?_ | refine J_fork ?_ ?_ | refine J_gsP rfl rfl rfl rfl ?_ ?_ | refine K_condP rfl rfl ?_ ?_)
  all_goals (first | (exfalso; omega) | skip)
  all_goals ((first | refine K_return hE Tryz.func117 rfl _ rfl ⟨rfl, rfl⟩ entA | refine K_fallEnd hE Tryz.func117 rfl _ rfl ⟨rfl, rfl⟩ entA))
 have hbad : ∀ (i : Nat) x, l[i]? = some x → rightB x = false → imageB l = 1 := fun i x hx hr => by
  unfold imageB
  rw [if_pos (.inr (.inr (List.any_eq_true.2 ⟨x, List.mem_of_getElem? hx, by rw [hr]; rfl⟩)))]
 repeat' (first | (with_reducible intro _hh) | refine go1 ?_ | refine J_fork ?_ ?_ | refine J_gsP rfl rfl rfl rfl ?_ ?_ | refine K_condP rfl rfl ?_ ?_)
 all_goals (first | (exfalso; omega) | skip)
 refine K_loop (fun y : Nat × Bool => y.1 ≤ l.length ∧ y.2 = twiceB (l.take y.1) ∧ ∀ x ∈ l.take y.1, rightB x = true) (fun y => l.length - y.1)
  (fun y => [(1, ptr b1), (3, .bool y.2), (4, .int .i64 (y.1 : Int))])
  (fun y => pts b1 (cl [.slice a l.length c] 55) :: A :: F) (0, false) ⟨Nat.zero_le _, rfl, by simp⟩ rfl (by repeat (first | exact keep_nil | refine keep_cons rfl ?_)) entA ?_
 rintro ⟨i, tw⟩ ⟨hi, htw, hrs⟩ ih
 simp only at hi htw hrs
 dsimp only
 refine go ?_
 refine K_condP rfl rfl ?_ ?_
 ·intro hlt
  have hi' : i < l.length := by omega
  obtain ⟨x, hx⟩ : ∃ x, l[i]? = some x := ⟨l[i], by simp⟩
  obtain ⟨b, o, cap', hsl⟩ := hv.some (blNe hi')
  simp only [Value.slice.injEq] at hsl
  obtain ⟨rfl, _, rfl⟩ := hsl
  refine go ?_
  refine J_at (U := tab) i 66 rfl rfl rfl rfl rfl rfl rfl rfl hi' ?_
  refine J_isLoad ?_
  refine J_loadElem (U := tab) (es := blC x) 1 (i * 66) rfl rfl rfl hv rfl (blE hx) rfl rfl rfl ?_
  ((try refine go ?_); first | refine J_callE rfl rfl rfl rfl (hrt x) entA ?_ (fun _ _ _ _ _ => trivial) | refine J_call0E rfl rfl rfl (hrt x) entA ?_ (fun _ _ _ _ _ => trivial))
  rintro _ _ ⟨rfl, rfl⟩
  cases hr : rightB x with
  | false =>
   rw [hbad i x hx hr] at hE
   refine go ?_
   (first | refine K_return hE Tryz.func117 rfl _ rfl ⟨rfl, rfl⟩ entA | refine K_fallEnd hE Tryz.func117 rfl _ rfl ⟨rfl, rfl⟩ entA)
  | true =>
   have hstep : twiceB (l.take (i + 1)) = (tw || (l.take i).any fun y => decide (y.d = x.d)) := by
    rw [List.take_add_one, hx, Option.toList_some, twiceB_snoc, ← htw]
   have hrs2 : ∀ y ∈ l.take (i + 1), rightB y = true := fun y hy => by
    rw [List.take_add_one, hx, Option.toList_some] at hy
    rcases List.mem_append.1 hy with h | h
    ·exact hrs y h
    ·rw [List.mem_singleton.1 h]; exact hr
   refine go ?_
   have ihO := ih
   clear ih
   refine K_loop (fun y : Nat × Bool => y.1 ≤ i ∧ y.2 = (tw || (l.take y.1).any fun z => decide (z.d = x.d))) (fun y => i - y.1)
    (fun y => [(1, ptr b1), (3, .bool y.2), (4, .int .i64 (i : Int)), (6, .int .i64 (y.1 : Int))])
    (fun y => pts b1 (cl [.slice (some ⟨b, o, none⟩) l.length c] 55) :: A :: F) (0, tw) ⟨Nat.zero_le _, by simp⟩ rfl (by repeat (first | exact keep_nil | refine keep_cons rfl ?_)) entA ?_
   rintro ⟨k, tk⟩ ⟨hk, htk⟩ ih
   simp only at hk htk
   dsimp only
   refine go ?_
   refine K_condP rfl rfl ?_ ?_
   ·intro hlt2
    have hk' : k < l.length := by omega
    have hki : k < i := by omega
    obtain ⟨y, hy⟩ : ∃ x, l[k]? = some x := ⟨l[k], by simp⟩
    have hks : (tw || (l.take (k + 1)).any fun z => decide (z.d = x.d)) = (tk || decide (y.d = x.d)) := by
     rw [List.take_add_one, hy, Option.toList_some, List.any_append, ← Bool.or_assoc, ← htk]; simp
    cases tk with
    | true =>
     rw [Bool.true_or] at hks
     refine K_drawA (fun w => Sat G w ([pts b1 (cl [.slice (some ⟨b, o, none⟩) l.length c] 55), A])) (.st 0 (.st 1 (.st 2 (.st 3 (.st 4 (.st 5 (.st 6 (.st 7 (.st 8 (.st 9 (.st 10 (.st 11 (.st 12 (.st 13 (.st 14 (.st 15 (.st 16 .nil))))))))))))))))) rfl (by kernel_rfl) (by kernel_rfl) (by kernel_rfl) (fun w hw => hw.ent entA) ?_
     refine go ?_
     refine K_again ih (k + 1, true) rfl ⟨by simp only; omega, hks.symm⟩ (by simp only; omega) (by repeat (first | exact keep_nil | refine keep_cons rfl ?_)) entA
    | false =>
     rw [Bool.false_or] at hks
     refine K_drawA (fun w => Sat G w ([pts b1 (cl [.slice (some ⟨b, o, none⟩) l.length c] 55), A])) (.st 0 (.st 1 (.st 2 (.st 3 (.st 4 (.st 5 (.st 6 (.st 7 (.st 8 (.st 9 (.st 10 (.st 11 (.st 12 (.st 13 (.st 14 (.st 15 (.st 16 .nil))))))))))))))))) rfl (by kernel_rfl) (by kernel_rfl) (by kernel_rfl) (fun w hw => hw.ent entA) ?_
     refine go ?_
     refine J_at (U := tab) k 66 rfl rfl rfl rfl rfl rfl rfl rfl hk' ?_
     refine go ?_
     refine J_isLoad ?_
     refine J_loadElemS (U := tab) (es := dC y.d) 1 (k * 66) rfl rfl rfl hv rfl (fun q w hq => blE hy q w (blp0g hq)) rfl rfl rfl ?_
     refine go ?_
     refine J_at (U := tab) i 66 rfl rfl rfl rfl rfl rfl rfl rfl hi' ?_
     refine go ?_
     refine J_isLoad ?_
     refine J_loadElemS (U := tab) (es := dC x.d) 1 (i * 66) rfl rfl rfl hv rfl (fun q w hq => blE hx q w (blp0g hq)) rfl rfl rfl ?_
     refine go ?_
     refine J_eqAgg (b := decide (y.d = x.d)) rfl rfl rfl guDg (fun w => eqDg y.d x.d w) ?_
     refine go ?_
     refine K_again ih (k + 1, decide (y.d = x.d)) rfl ⟨by simp only; omega, hks.symm⟩ (by simp only; omega) (by repeat (first | exact keep_nil | refine keep_cons rfl ?_)) entA
   ·intro hge2
    have hke : k = i := by omega
    rw [hke, ← hstep] at htk
    clear ih
    have ih := ihO
    refine go ?_
    refine K_again ih (i + 1, tk) rfl ⟨by simp only; omega, htk, hrs2⟩ (by simp only; omega) (by repeat (first | exact keep_nil | refine keep_cons rfl ?_)) entA
 ·intro hge
  have hie : i = l.length := by omega
  rw [hie, List.take_length] at htw hrs
  have hfin : imageB l = if tw then 5 else 0 := by
   unfold imageB
   rw [if_neg (by
    rintro (h | h | h)
    ·exact hlo (.inl h)
    ·exact hlo (.inr h)
    ·obtain ⟨z, hz, hz2⟩ := List.any_eq_true.1 h
     rw [hrs z hz] at hz2
     cases hz2), ← htw]
  clear ih
  cases tw with
  | true =>
   rw [hfin] at hE
   refine go ?_
   (first | refine K_return hE Tryz.func117 rfl _ rfl ⟨rfl, rfl⟩ entA | refine K_fallEnd hE Tryz.func117 rfl _ rfl ⟨rfl, rfl⟩ entA)
  | false =>
   rw [hfin] at hE
   refine go ?_
   (first | refine K_return hE Tryz.func117 rfl _ rfl ⟨rfl, rfl⟩ entA | refine K_fallEnd hE Tryz.func117 rfl _ rfl ⟨rfl, rfl⟩ entA)
set_option maxRecDepth 20000 in
set_option maxHeartbeats 1000000 in
theorem refEncodeI_any (A : HP) (v : Value) (l : List Bl) (hv : Vw A v l.length (l.flatMap blC)) (hlen : l.length ≤ 9223372036854775807) :
    Ctr Tryz.prog 79 [imV v] [A] (fun r H => (imageB l ≠ 0 ∧ r = .tuple #[.slice none 0 0, .int .i64 (imageB l : Int)] ∧ H = [A]) ∨
      ∃ rv, imageB l = 0 ∧ r = .tuple #[rv, .int .i64 0] ∧ H = [slc 5 1 rv (encB l).length (bV (encB l)), A]) := by
  have him := refImage_any A v l hv hlen
  obtain ⟨a, c, rfl⟩ := hv.shape
  unfold imV at him ⊢
  refine Ctr.enter Tryz.func79 (by kernel_rfl) rfl Tryz.ntmps79 rfl rfl ?_
  intro G F R hE
  refine K_regionA rfl ?_
  refine J_box rfl rfl (fun _ _ _ => trivial) ?_
  intro b1
  refine go ?_
  refine J_loadArr (U := tab) (l := [.slice a l.length c]) 0 rfl rfl rfl rfl rfl rfl ?_
  ((try refine go ?_); first | refine J_callE rfl rfl rfl rfl (him) entA ?_ (fun _ _ _ _ _ => trivial) | refine J_call0E rfl rfl rfl (him) entA ?_ (fun _ _ _ _ _ => trivial))
  rintro _ _ ⟨rfl, rfl⟩
  refine go ?_
  refine K_condP rfl rfl ?_ ?_
  · intro hne
    have hne' : imageB l ≠ 0 := by omega
    refine go ?_
    (first | refine K_return hE Tryz.func79 rfl _ rfl (.inl ⟨hne', rfl, rfl⟩) entA | refine K_fallEnd hE Tryz.func79 rfl _ rfl (.inl ⟨hne', rfl, rfl⟩) entA)
  intro heq
  have h0 : imageB l = 0 := by omega
  obtain ⟨hl16, hl1, hright⟩ := imageB_right h0
  refine go ?_
  refine K_ent (Ent.trans (Ent.resep [] _) (slc_lift 149 2 none _)) ?_
  refine K_loop (fun y : Nat × Its × Option Addr × Nat => y.1 ≤ l.length ∧ y.2.1.l.map It.p = itemsI 0 (l.take y.1) ∧ ∀ z ∈ y.2.1.l, BAt y.2.1.Z z.v z.b) (fun y => l.length - y.1)
    (fun y => [(1, ptr b1), (5, .slice y.2.2.1 y.2.1.l.length y.2.2.2), (6, .int .i64 (y.1 : Int))])
    (fun y => slc 149 2 (.slice y.2.2.1 y.2.1.l.length y.2.2.2) y.2.1.l.length (y.2.1.l.flatMap itC) :: y.2.1.Z :: A :: pts b1 (cl [.slice a l.length c] 55) :: F) (0, ⟨[], Sep []⟩, none, 0) ⟨Nat.zero_le _, rfl, by simp⟩ rfl (by repeat (first | exact keep_nil | refine keep_cons rfl ?_)) entA ?_
  rintro ⟨i, ⟨its, Z⟩, ia, ic⟩ ⟨hi, hip, hib⟩ ih
  simp only at hi hip hib
  dsimp only
  have hitl : its.length = i := by
    have := congrArg List.length hip
    rw [List.length_map, itemsI_length, List.length_take] at this; omega
  refine go ?_
  refine K_condP rfl rfl ?_ ?_
  · intro hlt
    have hi' : i < l.length := by omega
    obtain ⟨x, hx⟩ : ∃ x, l[i]? = some x := ⟨l[i], by simp⟩
    have hxr := hright x (List.mem_of_getElem? hx)
    have hxr' := hxr
    simp only [rightB, decide_eq_true_eq] at hxr'
    obtain ⟨sz, hsz⟩ : ∃ m : Nat, x.size = m := ⟨x.size.toNat, by omega⟩
    obtain ⟨pc, hpc⟩ : ∃ m : Nat, x.piece = m := ⟨x.piece.toNat, by omega⟩
    obtain ⟨b, o, cap', hsl⟩ := hv.some (blNe hi')
    simp only [Value.slice.injEq] at hsl
    obtain ⟨rfl, _, rfl⟩ := hsl
    refine go ?_
    refine J_at (U := tab) i 66 rfl rfl rfl rfl rfl rfl rfl rfl hi' ?_
    refine J_isLoad ?_
    refine J_loadElem (U := tab) (es := blC x) 2 (i * 66) rfl rfl rfl hv rfl (blE hx) rfl rfl rfl ?_
    refine J_alloc (U := tab) rfl rfl rfl (fun _ _ _ => trivial) ?_
    intro b7
    refine go ?_
    refine K_drawA (fun w => Sat G w ([pts b7 (cl (blC x) 32)])) (.st 0 (.st 1 (.st 2 (.st 3 (.st 4 (.st 5 (.st 8 (.st 9 (.st 10 (.st 13 (.st 14 (.st 15 (.act 6 (.st 7 (.act 11 (.st 12 (.act 16 (.act 17 (.st 18 (.st 19 (.st 20 (.st 21 (.st 22 .nil))))))))))))))))))))))) rfl (by kernel_rfl) (by kernel_rfl) (by kernel_rfl) (fun w hw => hw.ent entA) ?_
    (repeat (first | refine go1 ?_ | refine J_fork ?_ ?_ | refine J_sliceArr (U := tab) rfl rfl rfl rfl rfl ?_))
    (first | refine J_slot 33 ((.int .u64 (sz : Int))) rfl ((congrArg (Value.int .u64) hsz)) ?_ | refine K_slot 33 ((.int .u64 (sz : Int))) rfl ((congrArg (Value.int .u64) hsz)) ?_)
    (first | refine J_slot 38 ((.int .u64 (pc : Int))) rfl ((congrArg (Value.int .u64) hpc)) ?_ | refine K_slot 38 ((.int .u64 (pc : Int))) rfl ((congrArg (Value.int .u64) hpc)) ?_)
    (first | refine J_callE rfl rfl rfl rfl (refUint_any sz (by omega)) entA ?_ (fun _ _ w hp hw => by obtain rfl := hp; exact hw.ent entA) | refine J_call0E rfl rfl rfl (refUint_any sz (by omega)) entA ?_ (fun _ _ w hp hw => by obtain rfl := hp; exact hw.ent entA))
    rintro r8 _ rfl
    (first | refine J_shape 0 rfl ?_ | refine K_shape 0 rfl ?_)
    rintro a8 c8 rfl
    refine go ?_
    (first | refine J_callE rfl rfl rfl rfl (refUint_any pc (by omega)) entA ?_ (fun _ _ w hp hw => by obtain rfl := hp; exact hw.ent entA) | refine J_call0E rfl rfl rfl (refUint_any pc (by omega)) entA ?_ (fun _ _ w hp hw => by obtain rfl := hp; exact hw.ent entA))
    rintro r9 _ rfl
    (first | refine J_shape 0 rfl ?_ | refine K_shape 0 rfl ?_)
    rintro a9 c9 rfl
    refine J_slcB (bs := uv pc) 0 rfl ?_
    intro hb9
    refine J_slcB (bs := uv sz) 1 rfl ?_
    intro hb8
    refine go ?_
    obtain ⟨it4, hit4⟩ : ∃ it4 : List It, it4 = [⟨1, .slice (some ⟨b7, 0, none⟩) 32 32, x.d.bs⟩, ⟨2, .slice a8 (uv sz).length c8, uv sz⟩, ⟨3, .slice a9 (uv pc).length c9, uv pc⟩, ⟨4, .slice (some ⟨b7, 34, none⟩) 32 32, x.root.bs⟩] := ⟨_, rfl⟩
    have hp4 : it4.map It.p = itemsB x := by rw [hit4]; simp only [itemsB, List.map_cons, List.map_nil, It.p, hsz, hpc, Int.toNat_natCast]
    have hrl := itemsB_len x hxr
    refine J_buildSlice1 (U := tab) (cs := it4.flatMap itC) rfl rfl rfl rfl rfl rfl rfl rfl (by rw [hit4]; rfl) (fun _ _ hw => hw.ent entA) ?_
    intro row
    have h4 : it4.length = 4 := by rw [hit4]; rfl
    have hItA : ItemsAt (Sep [pts row (cl (it4.flatMap itC) 149), pts b7 (cl (blC x) 32), slc 5 1 (.slice a8 (uv sz).length c8) (uv sz).length (bV (uv sz)), slc 5 1 (.slice a9 (uv pc).length c9) (uv pc).length (bV (uv pc))]) (.slice (some ⟨row, 0, none⟩) 4 4) it4 := by
      refine ⟨?_, fun y hy => ?_⟩
      · rw [h4]
        exact (Vw.pts (by rw [List.drop_zero, List.take_length])).mono (Sep_get (i := 0) rfl)
      · rw [hit4] at hy
        simp only [List.mem_cons, List.not_mem_nil, or_false] at hy
        rcases hy with rfl | rfl | rfl | rfl
        · exact (BAt.ptsO x.d.len (by rw [← dC_bV]; exact blp0 x)).mono (Sep_get (i := 1) rfl)
        · exact hb8.mono (Sep_get (i := 2) rfl)
        · exact hb9.mono (Sep_get (i := 3) rfl)
        · exact (BAt.ptsO x.root.len (by rw [← dC_bV]; exact blp3 x)).mono (Sep_get (i := 1) rfl)
    have hrise : riseOk 0 (it4.map It.p) = true := by rw [hp4]; simp [itemsB, riseOk]
    have henc := refEncode_any _ _ it4 hItA (by omega) hrise (by rw [hp4]; omega)
    rw [hp4] at henc
    clear hrise hItA hp4 h4
    clear hit4
    refine J_ent (Ent.trans (H2 := pts row (cl (it4.flatMap itC) 149) :: pts b7 (cl (blC x) 32) :: slc 5 1 (.slice a8 (uv sz).length c8) (uv sz).length (bV (uv sz)) :: slc 5 1 (.slice a9 (uv pc).length c9) (uv pc).length (bV (uv pc)) :: slc 149 2 (.slice ia its.length ic) its.length (its.flatMap itC) :: Z :: A :: pts b1 (cl [.slice (some ⟨b, o, none⟩) l.length c] 55) :: F) entA (Ent.resep [pts row (cl (it4.flatMap itC) 149), pts b7 (cl (blC x) 32), slc 5 1 (.slice a8 (uv sz).length c8) (uv sz).length (bV (uv sz)), slc 5 1 (.slice a9 (uv pc).length c9) (uv pc).length (bV (uv pc))] _)) ?_
    refine J_callE rfl rfl rfl rfl henc entA ?_ (fun _ _ w hp hw => by obtain ⟨_, _, rfl⟩ := hp; exact hw.ent (Ent.trans (Ent.pick [1] rfl) (Ent.trans (Ent.unsep [pts row (cl (it4.flatMap itC) 149), pts b7 (cl (blC x) 32), slc 5 1 (.slice a8 (uv sz).length c8) (uv sz).length (bV (uv sz)), slc 5 1 (.slice a9 (uv pc).length c9) (uv pc).length (bV (uv pc))] _) entA)))
    rintro _ _ ⟨rr, rfl, rfl⟩
    (first | refine J_shape 0 rfl ?_ | refine K_shape 0 rfl ?_)
    rintro ra rc rfl
    refine J_slcB (bs := recL (itemsB x)) 0 rfl ?_
    intro hbr
    refine go ?_
    (first | refine K_ent (H' := slc 5 1 (.slice ra (recL (itemsB x)).length rc) (recL (itemsB x)).length (bV (recL (itemsB x))) :: slc 149 2 (.slice ia its.length ic) its.length (its.flatMap itC) :: Z :: A :: pts b1 (cl [.slice (some ⟨b, o, none⟩) l.length c] 55) :: F) entA ?_ | refine J_ent (H' := slc 5 1 (.slice ra (recL (itemsB x)).length rc) (recL (itemsB x)).length (bV (recL (itemsB x))) :: slc 149 2 (.slice ia its.length ic) its.length (its.flatMap itC) :: Z :: A :: pts b1 (cl [.slice (some ⟨b, o, none⟩) l.length c] 55) :: F) entA ?_)
    refine J_buildSlice1 (U := tab) (cs := itC ⟨(i : Int) + 1, .slice ra (recL (itemsB x)).length rc, recL (itemsB x)⟩) rfl rfl rfl rfl rfl rfl rfl rfl rfl (fun _ _ _ => trivial) ?_
    intro row2
    refine go ?_
    refine J_append (U := tab) (mm := 1) (news := itC ⟨(i : Int) + 1, .slice ra (recL (itemsB x)).length rc, recL (itemsB x)⟩) 2 0 rfl rfl rfl rfl rfl rfl rfl rfl rfl rfl rfl rfl (Vw.pts rfl) rfl (by intro v hv; simp [itC] at hv; rcases hv with rfl | rfl <;> rfl) (by omega) (by show (_ + _) * 32 ≤ _; omega) (fun _ => rfl) (fun _ _ _ => trivial) ?_
    intro v1
    rw [show its.flatMap itC ++ itC (⟨(i : Int) + 1, .slice ra (recL (itemsB x)).length rc, recL (itemsB x)⟩ : It) = (its ++ [(⟨(i : Int) + 1, .slice ra (recL (itemsB x)).length rc, recL (itemsB x)⟩ : It)]).flatMap itC from by simp, show its.length + 1 = (its ++ [(⟨(i : Int) + 1, .slice ra (recL (itemsB x)).length rc, recL (itemsB x)⟩ : It)]).length from by simp]
    (first | refine J_shape 2 rfl ?_ | refine K_shape 2 rfl ?_)
    rintro ja jc rfl
    refine go ?_
    have hip2 : (its ++ [(⟨(i : Int) + 1, .slice ra (recL (itemsB x)).length rc, recL (itemsB x)⟩ : It)]).map It.p = itemsI 0 (l.take (i + 1)) := by
      rw [List.take_add_one, hx, List.map_append, hip]
      simp only [Option.toList_some, itemsI_app, List.length_take, Nat.min_eq_left hi, Nat.zero_add, List.map_cons, List.map_nil, It.p]
    refine K_ent (Ent.trans (H2 := slc 5 1 (.slice ra (recL (itemsB x)).length rc) (recL (itemsB x)).length (bV (recL (itemsB x))) :: Z :: slc 149 2 (.slice ja (its ++ [(⟨(i : Int) + 1, .slice ra (recL (itemsB x)).length rc, recL (itemsB x)⟩ : It)]).length jc) (its ++ [(⟨(i : Int) + 1, .slice ra (recL (itemsB x)).length rc, recL (itemsB x)⟩ : It)]).length ((its ++ [(⟨(i : Int) + 1, .slice ra (recL (itemsB x)).length rc, recL (itemsB x)⟩ : It)]).flatMap itC) :: A :: pts b1 (cl [.slice (some ⟨b, o, none⟩) l.length c] 55) :: F) entA (Ent.resep [slc 5 1 (.slice ra (recL (itemsB x)).length rc) (recL (itemsB x)).length (bV (recL (itemsB x))), Z] _)) ?_
    refine K_again ih (i + 1, ⟨its ++ [(⟨(i : Int) + 1, .slice ra (recL (itemsB x)).length rc, recL (itemsB x)⟩ : It)], Sep [slc 5 1 (.slice ra (recL (itemsB x)).length rc) (recL (itemsB x)).length (bV (recL (itemsB x))), Z]⟩, ja, jc) rfl ⟨by simp only; omega, hip2, fun z hz => by
      rcases List.mem_append.1 hz with h | h
      · exact (hib z h).mono (Sep_get (i := 1) rfl)
      · rw [List.mem_singleton.1 h]; exact hbr.mono (Sep_get (i := 0) rfl)⟩ (by simp only; omega) (by repeat (first | exact keep_nil | refine keep_cons rfl ?_)) entA
  · intro hge
    have hie : i = l.length := by omega
    subst hie
    rw [List.take_length] at hip
    have hel := encB_len h0
    unfold encB at hel
    have hrise := itemsI_rise l 0 (by omega)
    rw [← hip] at hel hrise
    refine K_slcVw 0 rfl ?_
    intro hvw
    have hItA : ItemsAt (Sep [slc 149 2 (.slice ia its.length ic) its.length (its.flatMap itC), Z]) (.slice ia its.length ic) its := ⟨hvw.mono (Sep_get (i := 0) rfl), fun y hy => (hib y hy).mono (Sep_get (i := 1) rfl)⟩
    have henc := refEncode_any _ _ its hItA (by omega) hrise (by omega)
    have hee : recL (its.map It.p) = encB l := by rw [hip]; rfl
    rw [hee] at henc
    clear ih
    refine go ?_
    refine J_ent (Ent.resep [_, _] _) ?_
    ((try refine go ?_); first | refine J_callE rfl rfl rfl rfl (henc) entA ?_ (fun _ _ _ _ _ => trivial) | refine J_call0E rfl rfl rfl (henc) entA ?_ (fun _ _ _ _ _ => trivial))
    rintro _ _ ⟨rr, rfl, rfl⟩
    refine go ?_
    (first | refine K_return hE Tryz.func79 rfl _ rfl (.inr ⟨rr, h0, rfl, rfl⟩) entA | refine K_fallEnd hE Tryz.func79 rfl _ rfl (.inr ⟨rr, h0, rfl, rfl⟩) entA)
set_option maxRecDepth 20000 in
theorem refName_any (A : HP) (v : Value) (l : List Bl) (hv : Vw A v l.length (l.flatMap blC)) (hlen : l.length ≤ 9223372036854775807) :
  Ctr Tryz.prog 28 [imV v] [A] (fun r H => r = (if imageB l = 0 then .tuple #[dV (nameB l), .int .i64 0] else .tuple #[dV Dg.zero, .int .i64 (imageB l : Int)]) ∧ H = [A]) := by
 have him := refEncodeI_any A v l hv hlen
 obtain ⟨a, c, rfl⟩ := hv.shape
 unfold imV at him ⊢
 refine Ctr.enter Tryz.func28 (by kernel_rfl) rfl Tryz.ntmps28 rfl rfl ?_
 intro G F R hE
 refine K_regionA rfl ?_
 refine J_box rfl rfl (fun _ _ _ => trivial) ?_
 intro b1
 refine J_alloc (U := tab) rfl rfl rfl (fun _ _ _ => trivial) ?_
 intro b2
 refine go ?_
 refine J_loadArr (U := tab) (l := [.slice a l.length c]) 1 rfl rfl rfl rfl rfl rfl ?_
 ((try refine go ?_); first | refine J_callE rfl rfl rfl rfl (him) entA ?_ (fun _ _ _ _ _ => trivial) | refine J_call0E rfl rfl rfl (him) entA ?_ (fun _ _ _ _ _ => trivial))
 rintro _ _ (⟨h0, rfl, rfl⟩ | ⟨rv, h0, rfl, rfl⟩)
 ·rw [if_neg h0] at hE
  refine go ?_
  refine K_condP rfl rfl ?_ ?_
  case' refine_2 => (intro h; exfalso; omega)
  intro _
  refine go ?_
  refine J_build0 (U := tab) rfl rfl rfl rfl rfl ?_
  refine go ?_
  (refine K_noMarks hE ?_; apply K_returnV (U := tab) hE Tryz.func28 rfl (Ent.refl _); (repeat (first | exact ResOk.nil | apply ResOk.tmp rfl | apply ResOk.agg 0 rfl rfl rfl rfl rfl | apply ResOk.agg 1 rfl rfl rfl rfl rfl | apply ResOk.agg 2 rfl rfl rfl rfl rfl | apply ResOk.agg 3 rfl rfl rfl rfl rfl | apply ResOk.agg 4 rfl rfl rfl rfl rfl | apply ResOk.agg 5 rfl rfl rfl rfl rfl | apply ResOk.agg 6 rfl rfl rfl rfl rfl | apply ResOk.agg 7 rfl rfl rfl rfl rfl | apply ResOk.agg 8 rfl rfl rfl rfl rfl | apply ResOk.one 0 rfl rfl rfl rfl | apply ResOk.one 1 rfl rfl rfl rfl | apply ResOk.one 2 rfl rfl rfl rfl | apply ResOk.one 3 rfl rfl rfl rfl | apply ResOk.one 4 rfl rfl rfl rfl | apply ResOk.one 5 rfl rfl rfl rfl | apply ResOk.one 6 rfl rfl rfl rfl)); exact ⟨rfl, rfl⟩; exact entA)
 ·rw [if_pos h0] at hE
  have hel := encB_len h0
  refine J_slcB (bs := encB l) 0 rfl ?_
  intro hbe
  refine go ?_
  ((try refine go ?_); first | refine J_callE rfl rfl rfl rfl (Sum_ref _ rv (encB l) hbe (by omega)) entA ?_ (fun _ _ _ _ _ => trivial) | refine J_call0E rfl rfl rfl (Sum_ref _ rv (encB l) hbe (by omega)) entA ?_ (fun _ _ _ _ _ => trivial))
  rintro _ _ ⟨rfl, rfl⟩
  refine go ?_
  (refine K_noMarks hE ?_; apply K_returnV (U := tab) hE Tryz.func28 rfl (Ent.refl _); (repeat (first | exact ResOk.nil | apply ResOk.tmp rfl | apply ResOk.agg 0 rfl rfl rfl rfl rfl | apply ResOk.agg 1 rfl rfl rfl rfl rfl | apply ResOk.agg 2 rfl rfl rfl rfl rfl | apply ResOk.agg 3 rfl rfl rfl rfl rfl | apply ResOk.agg 4 rfl rfl rfl rfl rfl | apply ResOk.agg 5 rfl rfl rfl rfl rfl | apply ResOk.agg 6 rfl rfl rfl rfl rfl | apply ResOk.agg 7 rfl rfl rfl rfl rfl | apply ResOk.agg 8 rfl rfl rfl rfl rfl | apply ResOk.one 0 rfl rfl rfl rfl | apply ResOk.one 1 rfl rfl rfl rfl | apply ResOk.one 2 rfl rfl rfl rfl | apply ResOk.one 3 rfl rfl rfl rfl | apply ResOk.one 4 rfl rfl rfl rfl | apply ResOk.one 5 rfl rfl rfl rfl | apply ResOk.one 6 rfl rfl rfl rfl)); exact ⟨rfl, rfl⟩; exact entA)
end Go.Proofs.YtpecmnaikjbanaaGreatDoor
/- of the reference: an image's name, in one shape. -/
namespace Go.Proofs.YtpecmnaikjbanaaGreatDoor
open Go Go.SL
def nmB (l : List Bl) : Dg := if imageB l = 0 then nameB l else Dg.zero
theorem refName2 (A : HP) (v : Value) (l : List Bl) (hv : Vw A v l.length (l.flatMap blC)) (hlen : l.length ≤ 9223372036854775807) :
  Ctr Tryz.prog 28 [imV v] [A] (fun r H => r = .tuple #[dV (nmB l), .int .i64 (imageB l : Int)] ∧ H = [A]) := by
 refine (refName_any A v l hv hlen).post ?_
 rintro r H ⟨rfl, rfl⟩
 refine ⟨?_, rfl⟩
 unfold nmB
 by_cases h : imageB l = 0
 ·rw [if_pos h, if_pos h, h]; rfl
 ·rw [if_neg h, if_neg h]
end Go.Proofs.YtpecmnaikjbanaaGreatDoor
/- Engine, part S: rows and arrays of numbers that came in. Nothing here names a program. -/
namespace Go.SL
open Go Go.RowKit Go.ChangeShapes Go.WideShapes
def iV (l : List Int) : List Value := l.map (Value.int .i64)
theorem iV_get {l : List Int} {i : Nat} {x : Int} (h : l[i]? = some x) : (iV l)[i]? = some (.int .i64 x) := by simp [iV, h]
theorem ine {l : List Int} {i : Nat} (h : i < l.length) : iV l ≠ [] := fun e => by have := congrArg List.length e; simp [iV] at this; rw [this] at h; simp at h
abbrev i64 (x : Int) : Prop := -9223372036854775808 ≤ x ∧ x ≤ 9223372036854775807
theorem ints_view {W : World} {a : Addr} {len cap : Nat} {zs : List Int} (hl : len ≤ zs.length) (hcell : ∀ i, i < zs.length → W.cell? (a.add i) = some (.int .i64 (zs.getD i 0))) (hwf : ∀ n ∈ zs, (Lit.int .i64 n).wf = true) :
  ∃ l : List Int, l.length = len ∧ Vw (old W) (.slice (some a) len cap) len (iV l) ∧ ∀ x ∈ l, i64 x := by
 refine ⟨zs.take len, by simp; omega, ⟨some a, cap, rfl, ?_⟩, fun x hx => i64_range (hwf x (List.mem_of_mem_take hx))⟩
 rcases Nat.eq_zero_or_pos len with h0 | h0
 ·left; subst h0; simp [iV]
 ·right
  obtain ⟨b, o, spot⟩ := a
  have hsp : spot = none := by simpa [Addr.add] using World.cell?_spot (hcell 0 (by omega))
  subst hsp
  refine ⟨b, o, rfl, fun h ho j c hj => ?_⟩
  have hjl : j < len := by
   rcases Nat.lt_or_ge j len with h | h
   ·exact h
   ·rw [List.getElem?_eq_none (by simp [iV]; omega)] at hj; cases hj
  have h1 := hcell j (by omega)
  rw [Addr.add_eq] at h1
  have h2 := hcell_of_cell ho h1
  rw [h2]
  simp only [iV, List.getElem?_map, List.getElem?_take, hjl, if_true] at hj
  rw [List.getElem?_eq_getElem (by omega)] at hj
  simp only [Option.map_some, Option.some.injEq] at hj
  rw [← hj, List.getD_eq_getElem?_getD, List.getElem?_eq_getElem (by omega)]
  rfl
theorem open_intsV {P : Program} {H : Type} {enc : TypeId × Value → H} {W : World} {base : Nat} {spare : Nat → Bool} {held : Bool} {fuel : Nat} {t e : TypeId} {v : Value} {x : DataW H × List MemPlace} (ht : P.underlying t = some (.slice e)) (he : P.underlying e = some (.int .i64)) (hc : P.cellsOf e = 1) (h : DataW.trod enc P W base spare held fuel t [v] = some x) :
  ∃ l : List Int, Vw (old W) v l.length (iV l) ∧ l.length ≤ 9223372036854775807 ∧ ∀ x ∈ l, i64 x := by
 have hmx : maxLen = 9223372036854775807 := by decide
 rcases open_ints ht he hc h with ⟨hcs, _⟩ | ⟨x, l, c, zs, hcs, _, hl, hm, hz, _, hcell, hwz⟩
 ·simp only [List.cons.injEq, and_true] at hcs
  subst hcs
  exact ⟨[], ⟨none, 0, rfl, .inl rfl⟩, by simp, by simp⟩
 ·simp only [List.cons.injEq, and_true] at hcs
  subst hcs
  obtain ⟨bs, h1, h2, h3⟩ := ints_view (len := l) (cap := c) (by split at hz <;> omega) hcell hwz
  subst h1
  exact ⟨bs, h2, by omega, h3⟩
end Go.SL
/- blobs, plain: a round of steps: how far a store has grown. -/
namespace Go.Proofs.YtpecmnaikjbanaaGreatDoor
open Go Go.SL
theorem CommitS_grow {l : List Bl} {s t : Sto} {e : Nat} (h : CommitS l s e t) : SGrow 10 s t := by
 unfold CommitS at h
 split at h
 ·exact h.2 ▸ SGrow.refl _ _
 split at h
 ·exact h.2 ▸ SGrow.refl _ _
 split at h
 ·exact h.2 ▸ SGrow.refl _ _
 split at h
 ·exact h.2 ▸ SGrow.refl _ _
 ·refine (grow_chgS (fun sp hsp A e B hh => ?_) h).mono ?_
  ·rcases List.mem_append.1 hsp with hsp | hsp
   ·rcases List.mem_append.1 hsp with hsp | hsp
    ·split at hsp
     ·rw [List.mem_singleton.1 hsp] at hh; exact grow_stRemove hh
     ·cases hsp
    ·simp only [List.mem_cons, List.not_mem_nil, or_false] at hsp
     rcases hsp with rfl | rfl
     ·exact grow_stCreate hh
     ·exact grow_stWrite hh
   ·simp only [moveS, List.mem_cons, List.not_mem_nil, or_false] at hsp
    rcases hsp with rfl | rfl | rfl
    ·exact grow_stSync hh
    ·exact grow_stRename hh
    ·exact grow_stSyncNames hh
  ·split <;> simp [moveS]
end Go.Proofs.YtpecmnaikjbanaaGreatDoor
/- blobs, part r: what is kept. -/
namespace Go.Proofs.YtpecmnaikjbanaaGreatDoor
open Go Go.SL
theorem alook_aset {κ : Type} [DecidableEq κ] (es : List (κ × Value)) (k d : κ) (v : Value) : alook (aset es k v) d = if d = k then some v else alook es d := by
 unfold aset
 by_cases hk : k ∈ es.map (·.1)
 ·rw [if_pos hk]
  unfold alook
  rw [List.find?_map]
  have hf : ((fun x : κ × Value => decide (x.1 = d)) ∘ fun x : κ × Value => if x.1 = k then (k, v) else x) = fun x => decide (x.1 = d) := by
   funext x
   simp only [Function.comp]
   have he : (if x.1 = k then (k, v) else x).1 = x.1 := by
    split
    ·rename_i h; exact h.symm
    ·rfl
   exact decide_eq_decide.2 (by rw [he])
  rw [hf]
  by_cases hd : d = k
  ·subst hd
   rw [if_pos rfl]
   obtain ⟨y, hy, hyd⟩ := List.mem_map.1 hk
   cases hx : es.find? (fun x => decide (x.1 = d)) with
   | none => have := List.find?_eq_none.1 hx y hy; simp [hyd] at this
   | some x =>
    have : x.1 = d := by simpa using List.find?_some hx
    simp [this]
  ·rw [if_neg hd]
   cases hx : es.find? (fun x => decide (x.1 = d)) with
   | none => rfl
   | some x =>
    have : x.1 = d := by simpa using List.find?_some hx
    have hne : ¬ x.1 = k := fun e => hd (this.symm.trans e)
    simp [hne]
 ·rw [if_neg hk]
  unfold alook
  rw [List.find?_append]
  by_cases hd : d = k
  ·subst hd
   rw [if_pos rfl]
   cases hx : es.find? (fun x => decide (x.1 = d)) with
   | none => simp
   | some x => exact absurd (List.mem_map.2 ⟨x, List.mem_of_find?_eq_some hx, by simpa using List.find?_some hx⟩) hk
  ·rw [if_neg hd]
   have : ¬ k = d := fun e => hd e.symm
   cases hx : es.find? (fun x => decide (x.1 = d)) <;> simp [this]
def KM (es : List (Dg × Value)) (l : List Dg) : Prop := ∀ d, alook es d = if d ∈ l then some (.bool true) else none
theorem KM.nil : KM [] [] := fun d => by simp [alook]
theorem KM.add {es : List (Dg × Value)} {l : List Dg} (h : KM es l) (d : Dg) : KM (aset es d (.bool true)) (l ++ [d]) := fun e => by
 rw [alook_aset, h e]
 by_cases he : e = d
 ·simp [he]
 ·simp [he]
attribute [local irreducible] J K Ctr Ends pts slc mapR mapI sbRow stock arrS loopP CtrY Sha.chunks Sha.chunk Sha.rounds Sha.sched sumL taggedL GI leafL diskA
set_option maxRecDepth 20000 in
set_option maxHeartbeats 1000000 in
theorem kept_any (bs bd : Nat) (q : Int) (mb : Nat) (brk : Bool) (A : Ab) : Ctr Tryz.prog 120 [ptr bs] [pts bs (cl (stC bd q mb brk) 92), diskA bd A]
  (fun r H => ∃ mk es, r = .map (some mk) ∧ KM es (keptF A) ∧ H = [mapR dV mk es, pts bs (cl (stC bd q mb brk) 92), diskA bd A]) := by
 have himg := fun d => ImageS_any bs bd q mb brk A d
 unfold dV at himg
 refine Ctr.enter Tryz.func120 (by kernel_rfl) rfl Tryz.ntmps120 rfl rfl ?_
 intro G F R hE
 refine K_diskA (bd := bd) (A := A) 1 rfl ?_
 intro hdk
 have hil : (imagesF A).length ≤ 200 := by
  have h1 := List.length_filterMap_le (hashN kI) (namesF A)
  have h2 := namesF_len hdk
  unfold imagesF
  omega
 have hkf : keptF A = (imagesF A).flatMap fun d => ((imageF A d).getD []).map (·.d) := rfl
 have hims := Images_any bs bd q mb brk A
 generalize imagesF A = l at hil hkf hims
 have hok := fun d l (h : imageF A d = some l) => imageF_ok h
 refine go ?_
 refine J_makeMap rfl (fun _ _ _ => trivial) ?_
 intro mk
 refine J_ent (Ent.fold (B := [_]) (A := mapR dV mk []) (fun h hs => ⟨h, sub.refl h, mapR_new dV mk h (Sep_one hs)⟩)) ?_
 refine go ?_
 ((try refine go ?_); first | refine J_callE rfl rfl rfl rfl (hims) entA ?_ (fun _ _ _ _ _ => trivial) | refine J_call0E rfl rfl rfl (hims) entA ?_ (fun _ _ _ _ _ => trivial))
 rintro r _ rfl
 (first | refine J_shape 0 rfl ?_ | refine K_shape 0 rfl ?_)
 rintro ra rc rfl
 refine J_slcVw 0 rfl ?_
 intro hvw
 refine go ?_
 refine K_loop (fun y : Nat × List (Dg × Value) => y.1 ≤ l.length ∧ KM y.2 ((l.take y.1).flatMap fun d => ((imageF A d).getD []).map (·.d))) (fun y => l.length - y.1)
  (fun y => [(0, ptr bs), (3, .map (some mk)), (12, .slice ra l.length rc), (13, .int .i64 (l.length : Int)), (14, .int .i64 (y.1 : Int))])
  (fun y => slc 30 32 (.slice ra l.length rc) l.length (l.flatMap dC) :: mapR dV mk y.2 :: pts bs (cl (stC bd q mb brk) 92) :: diskA bd A :: F) (0, []) ⟨Nat.zero_le _, KM.nil⟩ rfl (by repeat (first | exact keep_nil | refine keep_cons rfl ?_)) entA ?_
 rintro ⟨i, es⟩ ⟨hi, hkm⟩ ih
 simp only at hi hkm
 dsimp only
 refine go ?_
 refine K_condP rfl rfl ?_ ?_
 ·intro hlt
  have hi' : i < l.length := by omega
  obtain ⟨d, hx⟩ : ∃ x, l[i]? = some x := ⟨l[i], by simp⟩
  have hstep : (l.take (i + 1)).flatMap (fun d => ((imageF A d).getD []).map (·.d)) = (l.take i).flatMap (fun d => ((imageF A d).getD []).map (·.d)) ++ ((imageF A d).getD []).map (·.d) := by
   rw [List.take_add_one, hx]; simp
  have hdE : ∀ (q : Nat) (v : Value), (dC d)[q]? = some v → (l.flatMap dC)[i * 32 + q]? = some v := fun q v hq => by
   rw [chunk_get dC_len hx q (by rcases Nat.lt_or_ge q 32 with h | h; exact h; rw [List.getElem?_eq_none (by rw [dC_len]; exact h)] at hq; cases hq)]
   exact hq
  obtain ⟨b, o, cap', hsl⟩ := hvw.some (by rw [← List.length_pos_iff, chunk_len dC_len]; omega)
  simp only [Value.slice.injEq] at hsl
  obtain ⟨rfl, _, rfl⟩ := hsl
  refine go ?_
  refine J_at (U := tab) i 32 rfl rfl rfl rfl rfl rfl rfl rfl hi' ?_
  refine J_loadElem (U := tab) (es := dC d) 0 (i * 32) rfl rfl rfl hvw rfl hdE rfl rfl rfl ?_
  refine J_alloc (U := tab) rfl rfl rfl (fun _ _ _ => trivial) ?_
  intro b5
  refine go ?_
  refine J_loadArr (U := tab) (l := dC d) 0 rfl rfl rfl rfl rfl rfl ?_
  ((try refine go ?_); first | refine J_callE rfl rfl rfl rfl (himg d) entA ?_ (fun _ _ _ _ _ => trivial) | refine J_call0E rfl rfl rfl (himg d) entA ?_ (fun _ _ _ _ _ => trivial))
  rintro _ _ ⟨rv, rfl, rfl⟩
  obtain ⟨m, hm⟩ : ∃ m, m = (imageF A d).getD [] := ⟨_, rfl⟩
  have hml : m.length ≤ 16 := by
   rw [hm]
   cases himf : imageF A d with
   | none => simp
   | some x => simpa using (imageB_right (hok d x himf)).1
  rw [← hm] at hstep ⊢
  unfold imV
  (first | refine J_shape 0 rfl ?_ | refine K_shape 0 rfl ?_)
  rintro va vc rfl
  refine J_slcVw 0 rfl ?_
  intro hvm
  refine go ?_
  refine J_alloc (U := tab) rfl rfl rfl (fun _ _ _ => trivial) ?_
  intro b6
  refine go ?_
  have ihO := ih
  clear ih
  refine K_loop (fun y : Nat × List (Dg × Value) => y.1 ≤ m.length ∧ KM y.2 ((l.take i).flatMap (fun d => ((imageF A d).getD []).map (·.d)) ++ (m.take y.1).map (·.d))) (fun y => m.length - y.1)
   (fun y => [(0, ptr bs), (3, .map (some mk)), (12, .slice (some ⟨b, o, none⟩) l.length rc), (13, .int .i64 (l.length : Int)), (14, .int .i64 (i : Int)), (25, .slice va m.length vc), (26, .int .i64 (m.length : Int)), (27, .int .i64 (y.1 : Int))])
   (fun y => slc 32 66 (.slice va m.length vc) m.length (m.flatMap blC) :: slc 30 32 (.slice (some ⟨b, o, none⟩) l.length rc) l.length (l.flatMap dC) :: mapR dV mk y.2 :: pts bs (cl (stC bd q mb brk) 92) :: diskA bd A :: F) (0, es) ⟨Nat.zero_le _, by simpa using hkm⟩ rfl (by repeat (first | exact keep_nil | refine keep_cons rfl ?_)) entA ?_
  rintro ⟨j, es2⟩ ⟨hj, hkm2⟩ ih
  simp only at hj hkm2
  dsimp only
  refine go ?_
  refine K_condP rfl rfl ?_ ?_
  ·intro hlt2
   have hj' : j < m.length := by omega
   obtain ⟨y, hy⟩ : ∃ x, m[j]? = some x := ⟨m[j], by simp⟩
   have hkm3 := hkm2.add y.d
   rw [List.append_assoc, show (m.take j).map (·.d) ++ [y.d] = (m.take (j + 1)).map (·.d) from by rw [List.take_add_one, hy]; simp] at hkm3
   obtain ⟨b2, o2, cap2, hsl2⟩ := hvm.some (blNe hj')
   simp only [Value.slice.injEq] at hsl2
   obtain ⟨rfl, _, rfl⟩ := hsl2
   refine go ?_
   refine J_at (U := tab) j 66 rfl rfl rfl rfl rfl rfl rfl rfl hj' ?_
   refine J_loadElem (U := tab) (es := blC y) 0 (j * 66) rfl rfl rfl hvm rfl (blE hy) rfl rfl rfl ?_
   refine J_alloc (U := tab) rfl rfl rfl (fun _ _ _ => trivial) ?_
   intro b9
   refine go ?_
   refine J_loadAgg (U := tab) 0 rfl rfl rfl rfl rfl rfl ?_
   refine J_mapUpdate (U := tab) (es := es2) (key := y.d) (v := .bool true) 3 kDg (fun _ _ => trivial) rfl rfl rfl rfl rfl rfl rfl rfl ?_
   refine go ?_
   refine K_again ih (j + 1, aset es2 y.d (.bool true)) rfl ⟨by simp only; omega, hkm3⟩ (by simp only; omega) (by repeat (first | exact keep_nil | refine keep_cons rfl ?_)) entA
  ·intro hge2
   have hje : j = m.length := by omega
   rw [hje, List.take_length, ← hstep] at hkm2
   clear ih
   have ih := ihO
   refine go ?_
   refine K_again ih (i + 1, es2) rfl ⟨by simp only; omega, hkm2⟩ (by simp only; omega) (by repeat (first | exact keep_nil | refine keep_cons rfl ?_)) entA
 ·intro hge
  have hie : i = l.length := by omega
  rw [hie, List.take_length, ← hkf] at hkm
  clear ih
  refine go ?_
  (first | refine K_return hE Tryz.func120 rfl _ rfl ⟨mk, es, rfl, hkm, rfl⟩ entA | refine K_fallEnd hE Tryz.func120 rfl _ rfl ⟨mk, es, rfl, hkm, rfl⟩ entA)
end Go.Proofs.YtpecmnaikjbanaaGreatDoor
/- Engine, part V: the library's sort by a function, by the shelf's contracts. Nothing here names a program. -/
set_option linter.unusedSectionVars false
namespace Go.SL
open Go.Proofs Go.Shelf Go.RowKit Go.Lib Go.Sort
variable {P : Program} {ρ : Ren} {α : Type} [Inhabited α]
theorem cmpLays_of {g : FuncId} {cb : Array Value} {enc : α → List Value} {k : Nat} {cf : α → α → Int} (blk off size : Nat) (w : World)
  (hc : ∀ x y, Ctr P g (.agg (enc x).toArray :: .agg (enc y).toArray :: cb.toList) [] (fun r H => r = .int .i64 (cf x y) ∧ H = [])) : CmpLays P g cb enc k cf blk off size w := by
 intro m os dk hs x y
 generalize sortWorldK enc k w blk off m dk os = W
 have h1 : Sat { tape := W.tape, os := W.os, output := W.output, lo := W.drawn } W ([] ++ [old W]) := ⟨⟨rfl, Nat.le_refl _⟩, rfl, rfl, fun b => W.heap[b]?, fun _ _ h => h, Sep_one' fun _ => rfl⟩
 have h2 := (hc x y).2 _ W [old W] h1
 have he : (Value.agg (enc x).toArray :: Value.agg (enc y).toArray :: cb.toList).toArray = #[.agg (enc x).toArray, .agg (enc y).toArray] ++ cb := by
  apply Array.ext'; simp
 rw [he] at h2
 refine h2.mono ?_
 rintro e w' ⟨v, H, rfl, ⟨rfl, rfl⟩, hs'⟩
 exact ⟨rfl, grow_of_old hs'⟩
theorem flatK_list (enc : α → List Value) (k : Nat) (hk : ∀ x, (enc x).length = k) (d : Array α) : Sort.flatK enc k d = (d.toList.flatMap enc).toArray := by
 refine Sort.ext_get! (by simp [chunk_len hk]) fun t ht => ?_
 have ht' : t < d.size * k := by simpa using ht
 rw [Sort.get_flatK _ _ _ _ ht']
 have hk0 : 0 < k := by
  rcases Nat.eq_zero_or_pos k with h | h
  ·subst h; simp at ht'
  ·exact h
 have hq : t / k < d.size := Nat.div_lt_of_lt_mul (by rw [Nat.mul_comm]; exact ht')
 have hx : d.toList[t / k]? = some d[t / k]! := by
  rw [getElem!_pos d (t / k) hq]; simp [hq]
 have h1 := chunk_get hk hx (t % k) (Nat.mod_lt _ hk0)
 rw [Nat.div_add_mod' t k] at h1
 have hlt : t % k < (enc d[t / k]!).length := by rw [hk]; exact Nat.mod_lt _ hk0
 have hlt2 : t < (d.toList.flatMap enc).length := by rw [chunk_len hk]; simpa using ht'
 rw [getElem!_pos (enc d[t / k]!) (t % k) hlt, getElem!_pos (d.toList.flatMap enc).toArray t (by simpa using hlt2)]
 rw [List.getElem?_eq_getElem hlt2, List.getElem?_eq_getElem hlt] at h1
 exact (Option.some.inj h1).symm
theorem sortFunc_ctr (L : SlLaysF0.n6 P ρ) (k : Nat) (aE : ∀ w, (isAgg (ρ.t 24)).run P w = .ok true w) (zE : ∀ w, (Go.sizeOf (ρ.t 24)).run P w = .ok k w) (enc : α → List Value) (hk : ∀ x, (enc x).length = k) (h1 : ∀ x, ∀ v ∈ enc x, v.oneCell' = true) (cf : α → α → Int) (hO : SWO (ltOf cf)) (g : FuncId)
  (e : TypeId) (v : Value) (l : List α) (hen : P.funcs[ρ.f 6]?.map callable = some true) (eg : ∀ args w, (callFunc g args).run P w = .ok (.enter g args) w) (hc : ∀ x y, Ctr P g [.agg (enc x).toArray, .agg (enc y).toArray] [] (fun r H => r = .int .i64 (cf x y) ∧ H = []))
  (hsz : l.length < 4611686018427387904) (hT : ∀ x y, (ltOf cf) x y = false → (ltOf cf) y x = false → x = y) :
  Ctr P (ρ.f 6) [v, .func (.func g) #[] #[]] [slc e k v l.length (l.flatMap enc)] (fun r H => r = .tuple #[] ∧ H = [slc e k v l.length ((l.mergeSort fun x y => !(ltOf cf) y x).flatMap enc)]) := by
 refine ⟨hen, fun G w F hs => ?_⟩
 obtain ⟨t, o, u, hp, hpw, hA, hB, ⟨hl, hcase⟩, hBB, hd, he⟩ := hs
 rcases hcase with ⟨a0, rfl, hn, hemp⟩ | ⟨b, oo, cap, pre, junk, rfl, hpre, hn, hcap, hpt⟩
 ·have hl0 : l = [] := List.eq_nil_of_length_eq_zero hn
  subst hl0
  refine (AnyF.slices_SortFunc_none (P := P) (ρ := ρ) { L with } a0 0 (.func (.func g) #[] #[]) w).mono ?_
  rintro e' w' ⟨rfl, rfl⟩
  exact ⟨_, _, rfl, ⟨rfl, rfl⟩, t, o, u, hp, hpw, hA, hB, ⟨by simp, .inl ⟨a0, rfl, rfl, hemp⟩⟩, hBB, hd, he⟩
 ·have hs1 : Sat G w (pts b (cl (pre ++ l.flatMap enc ++ junk) e) :: F) := ⟨t, o, u, hp, hpw, hA, hB, hpt, hBB, hd, he⟩
  have hb := hs1.get (i := 0) rfl
  have hlt := hs1.lt (i := 0) rfl
  subst hpre
  have hH : Sort.HoldsK enc k w b pre.length l.toArray := by
   unfold Sort.HoldsK
   rw [flatK_list enc k hk]
   exact holds_mid hb
  have hS := AnyQ.slices_SortFunc_total L k aE zE enc hk h1 cf hO g #[] b pre.length cap l.toArray w eg (cmpLays_of b pre.length l.toArray.size w hc) hH hlt (by simpa using hsz) hT
  refine (by simpa using hS : Calls P (ρ.f 6) #[.slice (some ⟨b, pre.length, none⟩) l.length cap, .func (.func g) #[] #[]] w _).mono ?_
  rintro e' w' ⟨rfl, n, os, rfl⟩
  refine ⟨_, _, rfl, ⟨rfl, rfl⟩, ?_⟩
  have hml : (l.mergeSort fun x y => !(ltOf cf) y x).length = l.length := List.length_mergeSort _
  have h3 := (hs1.ahead n).mapB (Sort.putCells id pre.length (Sort.flatK enc k (l.mergeSort fun x y => !(ltOf cf) y x).toArray)) (l' := pre ++ (l.mergeSort fun x y => !(ltOf cf) y x).flatMap enc ++ junk) (by
   rw [flatK_list enc k hk]
   exact putCells_mid _ _ _ _ (by rw [chunk_len hk, chunk_len hk, hml]))
  have h4 := h3.grown os
  refine h4.ent ?_
  exact slc_closeN rfl hn (by rw [chunk_len hk, hml, ← hl]; exact hcap) (by rw [chunk_len hk, hml]) F
end Go.SL
/- Engine: two rows of bytes compared by bytealg.Compare; the order of their comparison. Nothing here names a program. -/
namespace Go.SL
open Go Go.Lib
theorem run_loadB {P : Program} {w : World} : ∀ (bs : List UInt8) (b o : Nat) (acc : ByteArray), (∀ j c, (bV bs)[j]? = some c → w.cell? ⟨b, o + j, none⟩ = some c) →
  (Extern.Bytes.loadBytes ⟨b, o, none⟩ bs.length acc).run P w = .ok ⟨acc.data ++ bs.toArray⟩ w
 | [], b, o, acc, _ => by simp [Extern.Bytes.loadBytes]
 | x :: l, b, o, acc, h => by
  have h0 : w.cell? ⟨b, o, none⟩ = some (.int .u8 (x.toNat : Int)) := h 0 _ rfl
  have ih := run_loadB (P := P) l b (o + 1) (acc.push (((x.toNat : Int)).toNat.toUInt8)) (fun j c hj => by
   have := h (j + 1) c (by simpa [bV] using hj)
   rwa [show o + 1 + j = o + (j + 1) from by omega])
  have e : (⟨b, o, none⟩ : Addr).add 1 = ⟨b, o + 1, none⟩ := Addr.add_eq _ _ _
  simp only [List.length_cons, Extern.Bytes.loadBytes, Sem.run_bind, run_load, h0, Result.andThen]
  rw [e, ih]
  congr 1
  apply ByteArray.ext
  simp [ByteArray.push]
theorem run_bytesOfV {P : Program} {A : HP} {v : Value} {bs : List UInt8} (hv : Vw A v bs.length (bV bs)) {G : Glob} {w : World} {H : List HP} (hw : Sat G w H) {i : Nat} (hi : getL H i = some A) : (Extern.Bytes.bytesOf v).run P w = .ok ⟨bs.toArray⟩ w := by
 obtain ⟨a0, cap, rfl, h0 | ⟨b, o, rfl, hc⟩⟩ := hv.cells hw hi
 ·have hb : bs = [] := by simpa [bV] using h0
  subst hb
  cases a0 with
  | none => rfl
  | some a1 => rfl
 ·have := run_loadB (P := P) bs b o .empty hc
  show (Extern.Bytes.loadBytes ⟨b, o, none⟩ bs.length .empty).run P w = _
  rw [this]
  congr 2
  simp
theorem run_cmpV {P : Program} {A B : HP} {v1 v2 : Value} {b1 b2 : List UInt8} (h1 : Vw A v1 b1.length (bV b1)) (h2 : Vw B v2 b2.length (bV b2)) {G : Glob} {w : World} {H : List HP} (hw : Sat G w H) {i j : Nat} (hi : getL H i = some A) (hj : getL H j = some B) :
  (Extern.BytealgCompare.compare #[v1, v2]).run P w = .ok (.int .i64 (compareBytes b1 b2)) w := by
 change Sem.run P (do pure (goInt (Extern.BytealgCompare.cmp (← Extern.Bytes.bytesOf v1) (← Extern.Bytes.bytesOf v2)))) w = _
 simp only [Sem.run_bind, run_bytesOfV h1 hw hi, run_bytesOfV h2 hw hj, Result.andThen, Sem.run_pure]
 rw [cmp_eq]
 rfl
section
variable {P : Program} {U : Tr} [hU : TabOk P U] {f : FuncId} {n : Nat} {R : Ending → World → Prop} {G : Glob} {k : List Item} {L : Lst} {H : List HP} {S : World → Prop} {all : Array Oper} {rest : Pl} {d : Tmp} {ty : TypeId} {pos : String} {af : Array Edge} {gd : Option (Nat × Bool)}
theorem J_cmpBytes {g : FuncId} {fn : Func} {args : Array Operand} {tys : Array TypeId} {A B : HP} {v1 v2 : Value} {b1 b2 : List UInt8} (i j : Nat) (hd : Nat.blt d n = true)
  (hf : P.funcs[g]? = some fn) (hb : fn.body = none) (hn : (fn.name == "runtime.NumGoroutine") = false) (hnx : (Extern.findNext fn).isNone = true) (he : Extern.find fn = some Extern.BytealgCompare.compare)
  (hargs : evs L args.toList [] = .mk [v1, v2]) (hi : getL H i = some A) (hj : getL H j = some B) (h1 : Vw A v1 b1.length (bV b1)) (h2 : Vw B v2 b2.length (bV b2))
  (h : J P f n R G S all rest k ((d, .int .i64 (compareBytes b1 b2)) :: L) H) :
  J P f n R G S all (.cons false true ⟨some d, .call { callee := .value (.func g), args := args, argTypes := tys }, ty, pos, af, gd⟩ rest) k L H := by
 refine J_read hd (fun a w ha hw => ?_) h
 have hav := evs_arr ha _ _ hargs
 simp only [execOp, resolve, Sem.run_bind, Act.eval, Deferred.ofValue, Sem.run_pure, Result.andThen_ok, invoke]
 rw [show Array.map (fun x => a.eval x) args = #[v1, v2] from hav]
 simp only [Array.empty_append, Array.append_empty]
 rw [run_extern hf hb hn hnx he, run_cmpV h1 h2 hw hi hj]
 rfl
end
/-! ## the order -/
theorem cmpB_self : ∀ a : List UInt8, compareBytes a a = 0
 | [] => rfl
 | x :: a => by
  unfold compareBytes
  rw [if_neg (UInt8.lt_irrefl x), if_neg (UInt8.lt_irrefl x)]
  exact cmpB_self a
theorem cmpB_eq : ∀ a b : List UInt8, compareBytes a b = 0 → a = b
 | [], [], _ => rfl
 | [], _ :: _, h => by simp [compareBytes] at h
 | _ :: _, [], h => by simp [compareBytes] at h
 | x :: a, y :: b, h => by
  unfold compareBytes at h
  split at h
  ·cases h
  split at h
  ·cases h
  rename_i h1 h2
  have : x = y := by
   have e1 : ¬ x.toNat < y.toNat := fun e => h1 (UInt8.lt_iff_toNat_lt.2 e)
   have e2 : ¬ y.toNat < x.toNat := fun e => h2 (UInt8.lt_iff_toNat_lt.2 e)
   exact UInt8.toNat_inj.1 (by omega)
  rw [this, cmpB_eq a b h]
theorem cmpB_anti : ∀ a b : List UInt8, compareBytes b a = - compareBytes a b
 | [], [] => rfl
 | [], _ :: _ => rfl
 | _ :: _, [] => rfl
 | x :: a, y :: b => by
  unfold compareBytes
  by_cases h1 : x < y
  ·have h2 : ¬ y < x := fun e => by rw [UInt8.lt_iff_toNat_lt] at h1 e; omega
   simp [h1, h2]
  ·by_cases h2 : y < x
   ·simp [h1, h2]
   ·simp only [h1, h2, if_false]
    exact cmpB_anti a b
theorem cmpB_trans : ∀ a b c : List UInt8, compareBytes a b < 0 → compareBytes b c < 0 → compareBytes a c < 0
 | [], [], c, h, _ => by simp [compareBytes] at h
 | [], _ :: _, [], _, h => by simp [compareBytes] at h
 | [], _ :: _, _ :: _, _, _ => by simp [compareBytes]
 | _ :: _, [], _, h, _ => by simp [compareBytes] at h
 | _ :: _, _ :: _, [], _, h => by simp [compareBytes] at h
 | x :: a, y :: b, z :: c, h1, h2 => by
  unfold compareBytes at h1 h2 ⊢
  simp only [UInt8.lt_iff_toNat_lt] at h1 h2 ⊢
  have ih := cmpB_trans a b c
  split at h1
  ·split at h2
   ·rw [if_pos (by omega)]; decide
   ·split at h2
    ·omega
    ·rw [if_pos (by omega)]; decide
  ·split at h1
   ·omega
   ·split at h2
    ·rw [if_pos (by omega)]; decide
    ·split at h2
     ·omega
     ·rw [if_neg (by omega), if_neg (by omega)]
      exact ih h1 h2
theorem cmpB_swo {α : Type} (g : α → List UInt8) : Sort.SWO (fun x y : α => decide (compareBytes (g x) (g y) < 0)) := by
 refine ⟨fun x => by simp [cmpB_self], fun x y z h1 h2 => ?_, fun x y z h1 h2 => ?_⟩
 ·rw [decide_eq_true_eq] at h1 h2 ⊢
  exact cmpB_trans _ _ _ h1 h2
 ·rw [decide_eq_false_iff_not] at h1 h2 ⊢
  have a1 := cmpB_anti (g x) (g y)
  have a2 := cmpB_anti (g y) (g z)
  have a3 := cmpB_anti (g x) (g z)
  intro h3
  rcases Int.lt_or_eq_of_le (show compareBytes (g y) (g x) ≤ 0 by omega) with h4 | h4
  ·have := cmpB_trans _ _ _ h4 h3
   omega
  ·rw [cmpB_eq _ _ h4] at h2
   omega
end Go.SL
/- The shelf's contracts laid at this seat (numbers as the kit's own command finds them). -/
namespace Go.Proofs.YtpecmnaikjbanaaGreatDoor
open Go Go.Shelf
def sortBl_ren : Go.Shelf.Ren := ⟨fun | 6 => 122 | 15 => 150 | 14 => 149 | 28 => 173 | 29 => 174 | 20 => 165 | 21 => 166 | 22 => 167 | 23 => 168 | 24 => 169 | 25 => 170 | 26 => 171 | 27 => 172 | 46 => 195 | 47 => 196 | 48 => 197 | 49 => 198 | 50 => 199 | 57 => 205 | n => n, fun | 22 => 50 | 24 => 32 | 25 => 154 | 3 => 3 | 39 => 120 | 0 => 0 | 53 => 129 | 55 => 128 | 4 => 4 | 46 => 201 | 45 => 200 | 50 => 205 | 5 => 5 | 9 => 9 | 66 => 223 | 70 => 227 | 76 => 232 | 77 => 233 | n => n, fun | n => n⟩
theorem sortBl : Go.Proofs.SlLaysF0.n6 Tryz.prog sortBl_ren := {
  mixed := by kernel_rfl,
  f6 := ⟨Tryz.f122.name, by decide, Tryz.func122.trans (congrArg some (by kernel_rfl))⟩,
  f14 := ⟨Tryz.f149.name, by decide, Tryz.func149.trans (congrArg some (by kernel_rfl))⟩,
  f15 := Tryz.func150.trans (congrArg some (by kernel_rfl)),
  f20 := ⟨Tryz.f165.name, by decide, Tryz.func165.trans (congrArg some (by kernel_rfl))⟩,
  f21 := ⟨Tryz.f166.name, by decide, Tryz.func166.trans (congrArg some (by kernel_rfl))⟩,
  f22 := ⟨Tryz.f167.name, by decide, Tryz.func167.trans (congrArg some (by kernel_rfl))⟩,
  f23 := ⟨Tryz.f168.name, by decide, Tryz.func168.trans (congrArg some (by kernel_rfl))⟩,
  f24 := ⟨Tryz.f169.name, by decide, Tryz.func169.trans (congrArg some (by kernel_rfl))⟩,
  f25 := ⟨Tryz.f170.name, by decide, Tryz.func170.trans (congrArg some (by kernel_rfl))⟩,
  f26 := ⟨Tryz.f171.name, by decide, Tryz.func171.trans (congrArg some (by kernel_rfl))⟩,
  f27 := ⟨Tryz.f172.name, by decide, Tryz.func172.trans (congrArg some (by kernel_rfl))⟩,
  f28 := Tryz.func173.trans (congrArg some (by kernel_rfl)),
  f29 := Tryz.func174.trans (congrArg some (by kernel_rfl)),
  f46 := ⟨Tryz.f195.name, by decide, Tryz.func195.trans (congrArg some (by kernel_rfl))⟩,
  f47 := Tryz.func196.trans (congrArg some (by kernel_rfl)),
  f48 := Tryz.func197.trans (congrArg some (by kernel_rfl)),
  f49 := ⟨Tryz.f198.name, by decide, Tryz.func198.trans (congrArg some (by kernel_rfl))⟩,
  f50 := ⟨Tryz.f199.name, by decide, Tryz.func199.trans (congrArg some (by kernel_rfl))⟩,
  f57 := ⟨Tryz.f205.name, by decide, Tryz.func205.trans (congrArg some (by kernel_rfl))⟩,
  t0 := Tryz.underlying0,
  a0 := Tryz.isAgg0,
  z0 := Tryz.sizeOf0,
  v0 := Tryz.zeroValue0,
  t3 := Tryz.underlying3,
  a3 := Tryz.isAgg3,
  z3 := Tryz.sizeOf3,
  v3 := Tryz.zeroValue3,
  t4 := Tryz.underlying4,
  a4 := Tryz.isAgg4,
  z4 := Tryz.sizeOf4,
  v4 := Tryz.zeroValue4,
  t5 := Tryz.underlying5,
  a5 := Tryz.isAgg5,
  z5 := Tryz.sizeOf5,
  v5 := Tryz.zeroValue5,
  t9 := Tryz.underlying9,
  a9 := Tryz.isAgg9,
  z9 := Tryz.sizeOf9,
  v9 := Tryz.zeroValue9,
  t22 := Tryz.underlying50,
  a22 := Tryz.isAgg50,
  z22 := Tryz.sizeOf50,
  v22 := Tryz.zeroValue50,
  t25 := Tryz.underlying154,
  a25 := Tryz.isAgg154,
  z25 := Tryz.sizeOf154,
  v25 := Tryz.zeroValue154,
  t39 := Tryz.underlying120,
  a39 := Tryz.isAgg120,
  z39 := Tryz.sizeOf120,
  v39 := Tryz.zeroValue120,
  t45 := Tryz.underlying200,
  a45 := Tryz.isAgg200,
  z45 := Tryz.sizeOf200,
  v45 := Tryz.zeroValue200,
  t46 := Tryz.underlying201,
  a46 := Tryz.isAgg201,
  z46 := Tryz.sizeOf201,
  v46 := Tryz.zeroValue201,
  t50 := Tryz.underlying205,
  a50 := Tryz.isAgg205,
  z50 := Tryz.sizeOf205,
  v50 := Tryz.zeroValue205,
  t53 := Tryz.underlying129,
  a53 := Tryz.isAgg129,
  z53 := Tryz.sizeOf129,
  v53 := Tryz.zeroValue129,
  t55 := Tryz.underlying128,
  a55 := Tryz.isAgg128,
  z55 := Tryz.sizeOf128,
  v55 := Tryz.zeroValue128,
  t66 := Tryz.underlying223,
  a66 := Tryz.isAgg223,
  z66 := Tryz.sizeOf223,
  v66 := Tryz.zeroValue223,
  t70 := Tryz.underlying227,
  a70 := Tryz.isAgg227,
  z70 := Tryz.sizeOf227,
  v70 := Tryz.zeroValue227,
  t76 := Tryz.underlying232,
  a76 := Tryz.isAgg232,
  z76 := Tryz.sizeOf232,
  v76 := Tryz.zeroValue232,
  t77 := Tryz.underlying233,
  a77 := Tryz.isAgg233,
  z77 := Tryz.sizeOf233,
  v77 := Tryz.zeroValue233 }
end Go.Proofs.YtpecmnaikjbanaaGreatDoor
/- blobs, part t: sweep. -/
namespace Go.Proofs.YtpecmnaikjbanaaGreatDoor
open Go Go.SL Go.Sort Go.Shelf
open Go.Lib (compareBytes)
attribute [local irreducible] J K Ctr Ends pts slc mapR mapI sbRow stock arrS loopP CtrY Sha.chunks Sha.chunk Sha.rounds Sha.sched sumL taggedL GI leafL diskA
theorem bCompare_any (A B : HP) (v1 v2 : Value) (b1 b2 : List UInt8) (h1 : Vw A v1 b1.length (bV b1)) (h2 : Vw B v2 b2.length (bV b2)) :
  Ctr Tryz.prog 151 [v1, v2] [A, B] (fun r H => r = .int .i64 (compareBytes b1 b2) ∧ H = [A, B]) := by
 refine Ctr.enter Tryz.func151 (by kernel_rfl) rfl Tryz.ntmps151 rfl rfl ?_
 intro G F R hE
 refine go ?_
 refine J_cmpBytes 0 1 rfl Tryz.func175 rfl rfl (by kernel_rfl) rfl rfl rfl rfl h1 h2 ?_
 refine go ?_
 (first | refine K_return hE Tryz.func151 rfl _ rfl ⟨rfl, rfl⟩ entA | refine K_fallEnd hE Tryz.func151 rfl _ rfl ⟨rfl, rfl⟩ entA)
def cfBl (x y : Bl) : Int := compareBytes x.d.bs y.d.bs
theorem dCompare_any (a b : Dg) : Ctr Tryz.prog 124 [dV a, dV b] [] (fun r H => r = .int .i64 (compareBytes a.bs b.bs) ∧ H = []) := by
 unfold dV
 refine Ctr.enter Tryz.func124 (by kernel_rfl) rfl Tryz.ntmps124 rfl rfl ?_
 intro G F R hE
 refine K_regionA rfl ?_
 refine J_box rfl rfl (fun _ _ _ => trivial) ?_
 intro b2
 refine J_box rfl rfl (fun _ _ _ => trivial) ?_
 intro b3
 refine go ?_
 refine K_drawA (fun w => Sat G w ([])) (.st 0 (.st 1 (.act 2 (.st 3 .nil)))) rfl (by kernel_rfl) (by kernel_rfl) (by kernel_rfl) (fun w hw => hw.ent entA) ?_
 refine go ?_
 refine J_sliceArr (U := tab) rfl rfl rfl rfl rfl ?_
 refine go ?_
 refine J_sliceArr (U := tab) rfl rfl rfl rfl rfl ?_
 have ha : Vw (pts b2 (cl (dC a) 30)) (.slice (some ⟨b2, 0, none⟩) 32 32) a.bs.length (bV a.bs) := (BAt.block a.len (dC_bV a)).1
 have hb : Vw (pts b3 (cl (dC b) 30)) (.slice (some ⟨b3, 0, none⟩) 32 32) b.bs.length (bV b.bs) := (BAt.block b.len (dC_bV b)).1
 (first | refine J_callE rfl rfl rfl rfl (bCompare_any _ _ _ _ a.bs b.bs ha hb) entA ?_ (fun _ _ w hp hw => by obtain ⟨rfl, rfl⟩ := hp; exact hw.ent entA) | refine J_call0E rfl rfl rfl (bCompare_any _ _ _ _ a.bs b.bs ha hb) entA ?_ (fun _ _ w hp hw => by obtain ⟨rfl, rfl⟩ := hp; exact hw.ent entA))
 rintro _ _ ⟨rfl, rfl⟩
 refine go ?_
 (first | refine K_return hE Tryz.func124 rfl _ rfl ⟨rfl, rfl⟩ entA | refine K_fallEnd hE Tryz.func124 rfl _ rfl ⟨rfl, rfl⟩ entA)
theorem sweep1_any (x y : Bl) : Ctr Tryz.prog 123 [blV x, blV y] [] (fun r H => r = .int .i64 (cfBl x y) ∧ H = []) := by
 have hc := dCompare_any x.d y.d
 unfold dV at hc
 unfold blV
 refine Ctr.enter Tryz.func123 (by kernel_rfl) rfl Tryz.ntmps123 rfl rfl ?_
 intro G F R hE
 refine K_regionA rfl ?_
 refine J_box rfl rfl (fun _ _ _ => trivial) ?_
 intro b2
 refine J_box rfl rfl (fun _ _ _ => trivial) ?_
 intro b3
 refine go ?_
 refine J_loadAgg (U := tab) 1 rfl rfl rfl rfl rfl rfl ?_
 refine go ?_
 refine J_loadAgg (U := tab) 0 rfl rfl rfl rfl rfl rfl ?_
 ((try refine go ?_); first | refine J_callE rfl rfl rfl rfl (hc) entA ?_ (fun _ _ _ _ _ => trivial) | refine J_call0E rfl rfl rfl (hc) entA ?_ (fun _ _ _ _ _ => trivial))
 rintro _ _ ⟨rfl, rfl⟩
 refine go ?_
 (first | refine K_return hE Tryz.func123 rfl _ rfl ⟨rfl, rfl⟩ entA | refine K_fallEnd hE Tryz.func123 rfl _ rfl ⟨rfl, rfl⟩ entA)
theorem twiceB_inj {l : List Bl} (h : twiceB l = false) : ∀ x ∈ l, ∀ y ∈ l, x.d = y.d → x = y := by
 induction l with
 | nil => intro x hx; cases hx
 | cons z l ih =>
  simp only [twiceB, Bool.or_eq_false_iff, List.any_eq_false, decide_eq_true_eq] at h
  intro x hx y hy hd
  rcases List.mem_cons.1 hx with e1 | hx
  ·rcases List.mem_cons.1 hy with e2 | hy
   ·rw [e1, e2]
   ·exact absurd (hd.symm.trans (by rw [e1])) (h.1 y hy)
  ·rcases List.mem_cons.1 hy with e2 | hy
   ·exact absurd (hd.trans (by rw [e2])) (h.1 x hx)
   ·exact ih h.2 x hx y hy hd
theorem imageB_once {l : List Bl} (h : imageB l = 0) : twiceB l = false := by
 unfold imageB at h
 split at h
 ·cases h
 ·split at h
  ·cases h
  ·rename_i h2; simpa using h2
theorem sortBl_any (v : Value) (l : List Bl) (hl : imageB l = 0) : Ctr Tryz.prog 122 [v, .func (.func 123) #[] #[] ] [slc 32 66 v l.length (l.flatMap blC)]
  (fun r H => r = .tuple #[] ∧ ∃ m : List Bl, m.Perm l ∧ H = [slc 32 66 v m.length (m.flatMap blC)]) := by
 obtain ⟨h16, h1, _⟩ := imageB_right hl
 have hinj := twiceB_inj (imageB_once hl)
 obtain ⟨z, hz⟩ : ∃ z, z ∈ l := by cases l with | nil => simp at h1 | cons z _ => exact ⟨z, List.mem_cons_self ..⟩
 haveI : Inhabited {x : Bl // x ∈ l} := ⟨⟨z, hz⟩⟩
 have hal : l.attach.length = l.length := List.length_attach
 have hfl : l.attach.flatMap (fun x => blC x.1) = l.flatMap blC := by
  have : (l.attach.map Subtype.val).flatMap blC = l.flatMap blC := by rw [List.attach_map_subtype_val]
  rw [List.flatMap_map] at this
  exact this
 have h := sortFunc_ctr (α := {x : Bl // x ∈ l}) (ρ := sortBl_ren) sortBl 66 Tryz.isAgg32 Tryz.sizeOf32 (fun x => blC x.1) (fun _ => rfl) (fun x v hv => by have := blC_one [x.1] v (by simpa using hv); exact this) (fun x y => cfBl x.1 y.1) (cmpB_swo (fun x : {x : Bl // x ∈ l} => x.1.d.bs)) 123 32 v l.attach (by kernel_rfl) (enters_of Tryz.func123 (by kernel_rfl) rfl) (fun x y => sweep1_any x.1 y.1) (by omega) (fun x y e1 e2 => by
  have a1 := cmpB_anti x.1.d.bs y.1.d.bs
  have e1 := of_decide_eq_false e1
  have e2 := of_decide_eq_false e2
  simp only [cfBl] at e1 e2
  have e3 := cmpB_eq x.1.d.bs y.1.d.bs (by omega)
  have e4 : x.1.d = y.1.d := by
   cases hx : x.1.d with
   | mk b hb => cases hy : y.1.d with
    | mk c hc => rw [hx, hy] at e3; simp only at e3; subst e3; rfl
  exact Subtype.ext (hinj _ x.2 _ y.2 e4))
 rw [hal, hfl] at h
 refine h.post ?_
 rintro r H ⟨rfl, rfl⟩
 refine ⟨rfl, (l.attach.mergeSort fun x y => !(ltOf fun x y : {x : Bl // x ∈ l} => cfBl x.1 y.1) y x).map Subtype.val, ?_, ?_⟩
 ·have h1 := (List.mergeSort_perm l.attach fun x y => !(ltOf fun x y : {x : Bl // x ∈ l} => cfBl x.1 y.1) y x).map Subtype.val
  rw [List.attach_map_subtype_val] at h1
  exact h1
 ·rw [List.length_map, List.length_mergeSort, hal, List.flatMap_map]
theorem CloneBl_any (A : HP) (v : Value) (l : List Bl) (hv : Vw A v l.length (l.flatMap blC)) (hl : l.length ≤ 1000000) :
  Ctr Tryz.prog 121 [v] [A] (fun r H => H = [slc 32 66 r l.length (l.flatMap blC), A]) := by
 obtain ⟨a, c, rfl⟩ := hv.shape
 refine Ctr.enter Tryz.func121 (by kernel_rfl) rfl Tryz.ntmps121 rfl rfl ?_
 intro G F R hE
 cases a with
 | none =>
  have hl0 : l = [] := by
   rcases Nat.eq_zero_or_pos l.length with h | h
   ·exact List.eq_nil_of_length_eq_zero h
   ·obtain ⟨b, o, cap', hsl⟩ := hv.some (blNe h)
    simp at hsl
  subst hl0
  refine go ?_
  refine K_ent (slc_lift 32 66 none _) ?_
  (first | refine K_return hE Tryz.func121 rfl _ rfl rfl entA | refine K_fallEnd hE Tryz.func121 rfl _ rfl rfl entA)
 | some a1 =>
  refine go ?_
  refine J_buildSlice1 (U := tab) (cs := []) rfl rfl rfl rfl rfl rfl rfl rfl rfl (fun _ _ _ => trivial) ?_
  intro b3
  refine J_ent (slc_row 32 66 b3 0 0 [] [] _ rfl (Nat.le_refl _) (by simp)) ?_
  refine go ?_
  refine J_append (U := tab) (mm := l.length) (news := l.flatMap blC) 0 1 rfl rfl rfl rfl rfl rfl rfl rfl rfl rfl rfl rfl hv (by rw [chunk_len blC_len]; rfl) (blC_one l) (by omega) (by show (0 + _) * 80 ≤ _; omega) (fun _ => rfl) (fun _ _ _ => trivial) ?_
  intro v1
  rw [Nat.zero_add, List.nil_append]
  refine go ?_
  (first | refine K_return hE Tryz.func121 rfl _ rfl rfl entA | refine K_fallEnd hE Tryz.func121 rfl _ rfl rfl entA)
set_option maxRecDepth 20000 in
set_option maxHeartbeats 1000000 in
theorem sweep_any (V : HP) (lv : Value) (l : List Bl) (hv : Vw V lv l.length (l.flatMap blC)) (hl : imageB l = 0) (bs bd : Nat) (q : Int) (mb : Nat) (brk : Bool) (A : Ab) (hst : A.states.length ≤ 900000000) :
  Ctr Tryz.prog 82 [ptr bs, imV lv] [pts bs (cl (stC bd q mb brk) 92), diskA bd A, V]
  (fun r H => ∃ (e : Nat) (B : Ab), r = .int .i64 (e : Int) ∧ H = [pts bs (cl (stC bd q mb brk) 92), diskA bd B, V] ∧ stSweep l A e B ∧ B.states.length ≤ A.states.length + 16 ∧ B.writes.length ≤ A.writes.length + 16) := by
 obtain ⟨h16, h1, _⟩ := imageB_right hl
 have hclone := CloneBl_any V lv l hv (by omega)
 obtain ⟨la, lc, rfl⟩ := hv.shape
 have hhas := fun A d => Has_any bs bd q mb brk A d
 have hfB := fun d => file_any kB d (by decide)
 unfold dV at hhas hfB
 unfold imV
 refine Ctr.enter Tryz.func82 (by kernel_rfl) rfl Tryz.ntmps82 rfl rfl ?_
 intro G F R hE
 refine K_regionA rfl ?_
 refine J_box rfl rfl (fun _ _ _ => trivial) ?_
 intro b3
 refine go ?_
 ((try refine go ?_); first | refine J_callE rfl rfl rfl rfl (kept_any bs bd q mb brk A) entA ?_ (fun _ _ _ _ _ => trivial) | refine J_call0E rfl rfl rfl (kept_any bs bd q mb brk A) entA ?_ (fun _ _ _ _ _ => trivial))
 rintro _ _ ⟨mk, es, rfl, hkm, rfl⟩
 refine go ?_
 ((try refine go ?_); first | refine J_callE rfl rfl rfl rfl (hclone) entA ?_ (fun _ _ _ _ _ => trivial) | refine J_call0E rfl rfl rfl (hclone) entA ?_ (fun _ _ _ _ _ => trivial))
 rintro rv _ rfl
 refine go ?_
 ((try refine go ?_); first | refine J_callE rfl rfl rfl rfl (sortBl_any rv l hl) entA ?_ (fun _ _ _ _ _ => trivial) | refine J_call0E rfl rfl rfl (sortBl_any rv l hl) entA ?_ (fun _ _ _ _ _ => trivial))
 rintro _ _ ⟨rfl, m, hmp, rfl⟩
 have hml : m.length = l.length := hmp.length_eq
 (first | refine J_shape 0 rfl ?_ | refine K_shape 0 rfl ?_)
 rintro va vc rfl
 refine J_slcVw 0 rfl ?_
 intro hvm
 refine go ?_
 refine K_loop (fun y : Nat × Ab => y.1 ≤ m.length ∧ y.2.states.length ≤ A.states.length + y.1 ∧ y.2.writes.length ≤ A.writes.length + y.1 ∧ ∀ e B, SweepL (keptF A) (m.drop y.1) y.2 e B → SweepL (keptF A) m A e B) (fun y => m.length - y.1)
  (fun y => [(0, ptr bs), (5, .map (some mk)), (17, .slice va m.length vc), (18, .int .i64 (m.length : Int)), (19, .int .i64 (y.1 : Int))])
  (fun y => slc 32 66 (.slice va m.length vc) m.length (m.flatMap blC) :: mapR dV mk es :: pts bs (cl (stC bd q mb brk) 92) :: diskA bd y.2 :: V :: F) (0, A) ⟨Nat.zero_le _, by simp, by simp, fun e B h => h⟩ rfl (by repeat (first | exact keep_nil | refine keep_cons rfl ?_)) entA ?_
 rintro ⟨i, B⟩ ⟨hi, hbs, hbw, hsc⟩ ih
 simp only at hi hbs hbw hsc
 dsimp only
 refine go ?_
 refine K_condP rfl rfl ?_ ?_
 ·intro hlt
  have hi' : i < m.length := by omega
  obtain ⟨y, hx⟩ : ∃ x, m[i]? = some x := ⟨m[i], by simp⟩
  have hdrop : m.drop i = y :: m.drop (i + 1) := by
   rw [List.drop_eq_getElem_cons hi']
   congr 1
   exact (List.getElem?_eq_some_iff.1 hx).2
  rw [hdrop] at hsc
  obtain ⟨b, o, cap', hsl⟩ := hvm.some (blNe hi')
  simp only [Value.slice.injEq] at hsl
  obtain ⟨rfl, _, rfl⟩ := hsl
  refine go ?_
  refine J_at (U := tab) i 66 rfl rfl rfl rfl rfl rfl rfl rfl hi' ?_
  refine J_loadElem (U := tab) (es := blC y) 0 (i * 66) rfl rfl rfl hvm rfl (blE hx) rfl rfl rfl ?_
  refine J_alloc (U := tab) rfl rfl rfl (fun _ _ _ => trivial) ?_
  intro b8
  refine go ?_
  refine J_loadAgg (U := tab) 0 rfl rfl rfl rfl rfl rfl ?_
  refine J_lookup (U := tab) (es := es) (key := y.d) 2 rfl kDg rfl rfl rfl rfl rfl rfl rfl rfl ?_
  rw [hkm y.d]
  by_cases hk : y.d ∈ keptF A
  ·have hsc2 : ∀ e B', SweepL (keptF A) (m.drop (i + 1)) B e B' → SweepL (keptF A) m A e B' := fun e B' h => hsc e B' (by unfold SweepL; rw [if_pos (.inl hk)]; exact h)
   rw [if_pos hk]
   refine go ?_
   refine K_again ih (i + 1, B) rfl ⟨by simp only; omega, by simp only; omega, by simp only; omega, hsc2⟩ (by simp only; omega) (by repeat (first | exact keep_nil | refine keep_cons rfl ?_)) entA
  ·rw [if_neg hk]
   refine go ?_
   refine J_loadAgg (U := tab) 0 rfl rfl rfl rfl rfl rfl ?_
   ((try refine go ?_); first | refine J_callE rfl rfl rfl rfl (hhas B y.d) entA ?_ (fun _ _ _ _ _ => trivial) | refine J_call0E rfl rfl rfl (hhas B y.d) entA ?_ (fun _ _ _ _ _ => trivial))
   rintro _ _ ⟨rfl, rfl⟩
   cases hh : hasF B (fileN kB y.d) with
   | false =>
    have hsc2 : ∀ e B', SweepL (keptF A) (m.drop (i + 1)) B e B' → SweepL (keptF A) m A e B' := fun e B' h => hsc e B' (by unfold SweepL; rw [if_pos (.inr hh)]; exact h)
    refine go ?_
    refine K_again ih (i + 1, B) rfl ⟨by simp only; omega, by simp only; omega, by simp only; omega, hsc2⟩ (by simp only; omega) (by repeat (first | exact keep_nil | refine keep_cons rfl ?_)) entA
   | true =>
    have hrem := Remove_dA bd B (fileN kB y.d) (by omega)
    obtain ⟨e1, B1, hrb⟩ : ∃ e1 B1, B.remove (isName (fileN kB y.d)) (fileN kB y.d) = (e1, B1) := ⟨_, _, rfl⟩
    rw [hrb] at hrem
    have hgr := grow_stRemove (A := B) (B := B1) (nm := fileN kB y.d) (e := e1) hrb.symm
    have hg1 := hgr.1
    have hg2 := hgr.2
    have hsc2 : ∀ e B', ((e1 ≠ 0 ∧ e = e1 ∧ B' = B1) ∨ (e1 = 0 ∧ SweepL (keptF A) (m.drop (i + 1)) B1 e B')) → SweepL (keptF A) m A e B' := fun e B' h => hsc e B' (by
     unfold SweepL
     rw [if_neg (by
      rintro (h | h)
      ·exact hk h
      ·rw [show hasF B (fB y) = true from hh] at h; cases h)]
     exact ⟨e1, B1, hrb.symm, h⟩)
    refine go ?_
    (first | refine K_ent (H' := pts b8 (cl (blC y) 32) :: slc 32 66 (.slice (some ⟨b, o, none⟩) m.length vc) m.length (m.flatMap blC) :: mapR dV mk es :: pts bs (cl (stC bd q mb brk) 92) :: diskA bd B :: V :: F) entA ?_ | refine J_ent (H' := pts b8 (cl (blC y) 32) :: slc 32 66 (.slice (some ⟨b, o, none⟩) m.length vc) m.length (m.flatMap blC) :: mapR dV mk es :: pts bs (cl (stC bd q mb brk) 92) :: diskA bd B :: V :: F) entA ?_)
    refine K_drawA (fun w => Sat G w ([pts b8 (cl (blC y) 32), pts bs (cl (stC bd q mb brk) 92)])) (.st 0 (.st 1 (.st 2 (.st 3 (.st 4 (.st 5 (.act 6 (.act 7 (.st 8 .nil))))))))) rfl (by kernel_rfl) (by kernel_rfl) (by kernel_rfl) (fun w hw => hw.ent entA) ?_
    refine go ?_
    refine J_loadAggS (U := tab) 0 rfl rfl rfl rfl rfl rfl ?_
    refine go ?_
    (first | refine J_callE rfl rfl rfl rfl (hfB y.d) entA ?_ (fun _ _ w hp hw => by obtain ⟨rfl, rfl⟩ := hp; exact hw.ent entA) | refine J_call0E rfl rfl rfl (hfB y.d) entA ?_ (fun _ _ w hp hw => by obtain ⟨rfl, rfl⟩ := hp; exact hw.ent entA))
    rintro _ _ ⟨rfl, rfl⟩
    refine go ?_
    (first | refine J_callE rfl rfl rfl rfl (hrem) entA ?_ (fun _ _ w hp hw => by obtain ⟨rfl, rfl⟩ := hp; exact hw.ent entA) | refine J_call0E rfl rfl rfl (hrem) entA ?_ (fun _ _ w hp hw => by obtain ⟨rfl, rfl⟩ := hp; exact hw.ent entA))
    rintro _ _ ⟨rfl, rfl⟩
    refine go ?_
    refine K_condP rfl rfl ?_ ?_
    ·intro hne
     have hne' : e1 ≠ 0 := by simp only at hne; omega
     refine go ?_
     refine K_ent (H' := pts bs (cl (stC bd q mb brk) 92) :: diskA bd B1 :: V :: F) entA ?_
     (first | refine K_return hE Tryz.func82 rfl _ rfl ⟨e1, B1, rfl, rfl, ⟨m, hmp, hsc2 e1 B1 (.inl ⟨hne', rfl, rfl⟩)⟩, by omega, by omega⟩ entA | refine K_fallEnd hE Tryz.func82 rfl _ rfl ⟨e1, B1, rfl, rfl, ⟨m, hmp, hsc2 e1 B1 (.inl ⟨hne', rfl, rfl⟩)⟩, by omega, by omega⟩ entA)
    ·intro heq
     have heq' : e1 = 0 := by simp only at heq; omega
     refine go ?_
     refine K_again ih (i + 1, B1) rfl ⟨by simp only; omega, by simp only; omega, by simp only; omega, fun e B' h => hsc2 e B' (.inr ⟨heq', h⟩)⟩ (by simp only; omega) (by repeat (first | exact keep_nil | refine keep_cons rfl ?_)) entA
 ·intro hge
  have hie : i = m.length := by omega
  rw [hie, List.drop_length] at hsc
  clear ih
  refine go ?_
  refine K_ent (H' := pts bs (cl (stC bd q mb brk) 92) :: diskA bd B :: V :: F) entA ?_
  (first | refine K_return hE Tryz.func82 rfl _ rfl ⟨0, B, rfl, rfl, ⟨m, hmp, hsc 0 B (by unfold SweepL; exact ⟨rfl, rfl⟩)⟩, by omega, by omega⟩ entA | refine K_fallEnd hE Tryz.func82 rfl _ rfl ⟨0, B, rfl, rfl, ⟨m, hmp, hsc 0 B (by unfold SweepL; exact ⟨rfl, rfl⟩)⟩, by omega, by omega⟩ entA)
end Go.Proofs.YtpecmnaikjbanaaGreatDoor
/- blobs, part v: Drop. -/
namespace Go.Proofs.YtpecmnaikjbanaaGreatDoor
open Go Go.SL
attribute [local irreducible] J K Ctr Ends pts slc mapR mapI sbRow stock arrS loopP CtrY Sha.chunks Sha.chunk Sha.rounds Sha.sched sumL taggedL GI leafL diskA
theorem drop1_any (bs bd b2 b3 : Nat) (q : Int) (mb : Nat) (brk : Bool) (d : Dg) (A : Ab) (hst : A.states.length ≤ 1000000000) :
  Ctr Tryz.prog 80 [ptr b2, ptr b3] (pts bs (cl (stC bd q mb brk) 92) :: diskA bd A :: [pts b3 (cl (dC d) 30), pts b2 (cl [ptr bs] 35)])
   (fun r H => ∃ (e : Nat) (B : Ab), r = .int .i64 (e : Int) ∧ H = pts bs (cl (stC bd q mb brk) 92) :: diskA bd B :: [pts b3 (cl (dC d) 30), pts b2 (cl [ptr bs] 35)] ∧ stRemove (fileN kI d) A e B) := by
 have hf := file_any kI d (by decide)
 unfold dV at hf
 refine Ctr.enter Tryz.func80 (by kernel_rfl) rfl Tryz.ntmps80 rfl rfl ?_
 intro G F R hE
 refine go ?_
 refine K_drawA (fun w => Sat G w ([pts bs (cl (stC bd q mb brk) 92), pts b2 (cl [ptr bs] 35), pts b3 (cl (dC d) 30)])) (.st 0 (.st 1 (.st 2 (.st 3 (.st 4 (.act 5 (.act 6 (.st 7 .nil)))))))) rfl (by kernel_rfl) (by kernel_rfl) (by kernel_rfl) (fun w hw => hw.ent entA) ?_
 refine go ?_
 refine J_loadArrS (U := tab) (l := dC d) 2 rfl rfl rfl rfl rfl rfl ?_
 refine go ?_
 (first | refine J_callE rfl rfl rfl rfl (hf) entA ?_ (fun _ _ w hp hw => by obtain ⟨rfl, rfl⟩ := hp; exact hw.ent entA) | refine J_call0E rfl rfl rfl (hf) entA ?_ (fun _ _ w hp hw => by obtain ⟨rfl, rfl⟩ := hp; exact hw.ent entA))
 rintro _ _ ⟨rfl, rfl⟩
 refine go ?_
 (first | refine J_callE rfl rfl rfl rfl (Remove_dA bd A (fileN kI d) hst) entA ?_ (fun _ _ w hp hw => by obtain ⟨rfl, rfl⟩ := hp; exact hw.ent entA) | refine J_call0E rfl rfl rfl (Remove_dA bd A (fileN kI d) hst) entA ?_ (fun _ _ w hp hw => by obtain ⟨rfl, rfl⟩ := hp; exact hw.ent entA))
 rintro _ _ ⟨rfl, rfl⟩
 refine go ?_
 (first | refine K_return hE Tryz.func80 rfl _ rfl ⟨_, _, rfl, rfl, rfl⟩ entA | refine K_fallEnd hE Tryz.func80 rfl _ rfl ⟨_, _, rfl, rfl, rfl⟩ entA)
theorem drop2_any (bs bd b2 b5 : Nat) (q : Int) (mb : Nat) (brk : Bool) (V : HP) (lv : Value) (l : List Bl) (hv : Vw V lv l.length (l.flatMap blC)) (hl : imageB l = 0) (A : Ab) (hst : A.states.length ≤ 900000000) :
  Ctr Tryz.prog 81 [ptr b2, ptr b5] (pts bs (cl (stC bd q mb brk) 92) :: diskA bd A :: [pts b2 (cl [ptr bs] 35), pts b5 (cl [lv] 55), V])
   (fun r H => ∃ (e : Nat) (B : Ab), r = .int .i64 (e : Int) ∧ H = pts bs (cl (stC bd q mb brk) 92) :: diskA bd B :: [pts b2 (cl [ptr bs] 35), pts b5 (cl [lv] 55), V] ∧ (stSweep l A e B ∧ B.states.length ≤ A.states.length + 16 ∧ B.writes.length ≤ A.writes.length + 16)) := by
 have hsw := sweep_any V lv l hv hl bs bd q mb brk A hst
 obtain ⟨a, c, rfl⟩ := hv.shape
 unfold imV at hsw
 refine Ctr.enter Tryz.func81 (by kernel_rfl) rfl Tryz.ntmps81 rfl rfl ?_
 intro G F R hE
 refine go ?_
 refine J_loadArr (U := tab) (l := [.slice a l.length c]) 3 rfl rfl rfl rfl rfl rfl ?_
 ((try refine go ?_); first | refine J_callE rfl rfl rfl rfl (hsw) entA ?_ (fun _ _ _ _ _ => trivial) | refine J_call0E rfl rfl rfl (hsw) entA ?_ (fun _ _ _ _ _ => trivial))
 rintro _ _ ⟨e, B, rfl, rfl, h1, h2, h3⟩
 refine go ?_
 refine K_ent (H' := pts bs (cl (stC bd q mb brk) 92) :: diskA bd B :: [pts b2 (cl [ptr bs] 35), pts b5 (cl [.slice a l.length c] 55), V] ++ F) entA ?_
 (first | refine K_return hE Tryz.func81 rfl _ rfl ⟨_, _, rfl, rfl, h1, h2, h3⟩ entA | refine K_fallEnd hE Tryz.func81 rfl _ rfl ⟨_, _, rfl, rfl, h1, h2, h3⟩ entA)
def drX (bs b2 b3 b5 : Nat) (d : Dg) (lv : Value) (l : List Bl) : List HP := [pts b3 (cl (dC d) 30), pts b2 (cl [ptr bs] 35), pts b5 (cl [lv] 55), slc 32 66 lv l.length (l.flatMap blC)]
def drF (bd b2 b3 b5 : Nat) : List Value := [.func (.func 80) #[] #[ptr b2, ptr b3], .func (.func 81) #[] #[ptr b2, ptr b5], .func (.func 51) #[ptr bd] #[] ]
theorem dr_steps (bs bd : Nat) (q : Int) (mb : Nat) (brk : Bool) (b2 b3 b5 : Nat) (d : Dg) (lv : Value) (l : List Bl) (hv : Vw (slc 32 66 lv l.length (l.flatMap blC)) lv l.length (l.flatMap blC)) (hl : imageB l = 0) (A : Ab) (hst : A.states.length ≤ 800000000) (hwl : A.writes.length ≤ 800000000) :
  All2 (StpOk (stX bs bd q mb brk (Sep (drX bs b2 b3 b5 d lv l))) A) (drF bd b2 b3 b5) [stRemove (fileN kI d), stSweep l, stSyncNames] := by
 refine All2.cons (All2.cons (All2.one ?_) ?_) ?_
 ·refine stpOk_of (by omega) (by omega) (fun y h1 h2 => ?_) (fun _ _ _ h => grow_stSyncNames h)
  exact names_X bs bd q mb brk (drX bs b2 b3 b5 d lv l) y
 ·refine ⟨_, _, _, rfl, fun j hj y hy => ?_⟩
  have h := ctr_stXl [pts b3 (cl (dC d) 30)] (Xs := [pts b2 (cl [ptr bs] 35), pts b5 (cl [lv] 55), slc 32 66 lv l.length (l.flatMap blC)]) (p := fun e B => stSweep l y e B ∧ B.states.length ≤ y.states.length + 16 ∧ B.writes.length ≤ y.writes.length + 16) (drop2_any bs bd b2 b5 q mb brk _ lv l hv hl y (by have := hy.1; omega))
  refine h.post ?_
  rintro r H ⟨e, B, rfl, rfl, h1, h2, h3⟩
  exact ⟨e, B, rfl, rfl, h1, fun _ => ⟨by have := hy.1; omega, by have := hy.2; omega⟩⟩
 ·refine stpOk_of (by omega) (by omega) (fun y h1 h2 => ?_) (fun _ _ _ h => grow_stRemove h)
  exact ctr_stXr (Xs := [pts b3 (cl (dC d) 30), pts b2 (cl [ptr bs] 35)]) [pts b5 (cl [lv] 55), slc 32 66 lv l.length (l.flatMap blC)] (p := stRemove (fileN kI d) y) (drop1_any bs bd b2 b3 q mb brk d y h1)
set_option maxRecDepth 20000 in
set_option maxHeartbeats 1000000 in
theorem Drop_bl (bs bd : Nat) (q : Int) (mb : Nat) (s : Sto) (d : Dg) (hst : s.A.states.length ≤ 800000000) (hwl : s.A.writes.length ≤ 800000000) :
  Ctr Tryz.prog 29 [ptr bs, dV d] (stoL bs bd q mb s)
  (fun r H => ∃ (e : Nat) (t : Sto), r = .int .i64 (e : Int) ∧ H = stoL bs bd q mb t ∧ DropS d s e t) := by
 obtain ⟨A, beg, brk⟩ := s
 simp only at hst hwl
 have himg := ImageS_any bs bd q mb brk A d
 unfold dV at himg ⊢
 refine Ctr.enter Tryz.func29 (by kernel_rfl) rfl Tryz.ntmps29 rfl rfl ?_
 intro G F R hE
 refine K_ent (H' := pts bs (cl (stC bd q mb brk) 92) :: mapR dV mb (begE beg) :: diskA bd A :: F) (Ent.refl _) ?_
 refine K_regionA rfl ?_
 refine J_box rfl rfl (fun _ _ _ => trivial) ?_
 intro b2
 refine J_box rfl rfl (fun _ _ _ => trivial) ?_
 intro b3
 cases brk with
 | true =>
  refine go ?_
  refine K_ent (H' := stoL bs bd q mb ⟨A, beg, true⟩ ++ F) entA ?_
  (first | refine K_return hE Tryz.func29 rfl _ rfl ⟨10, ⟨A, beg, true⟩, rfl, rfl, by unfold DropS; rw [if_pos rfl]; exact ⟨rfl, rfl⟩⟩ entA | refine K_fallEnd hE Tryz.func29 rfl _ rfl ⟨10, ⟨A, beg, true⟩, rfl, rfl, by unfold DropS; rw [if_pos rfl]; exact ⟨rfl, rfl⟩⟩ entA)
 | false =>
  refine go ?_
  refine J_loadArr (U := tab) (l := dC d) 0 rfl rfl rfl rfl rfl rfl ?_
  ((try refine go ?_); first | refine J_callE rfl rfl rfl rfl (himg) entA ?_ (fun _ _ _ _ _ => trivial) | refine J_call0E rfl rfl rfl (himg) entA ?_ (fun _ _ _ _ _ => trivial))
  rintro _ _ ⟨rv, rfl, rfl⟩
  unfold imV
  (first | refine J_shape 0 rfl ?_ | refine K_shape 0 rfl ?_)
  rintro ra rc rfl
  refine go ?_
  refine J_alloc (U := tab) rfl rfl rfl (fun _ _ _ => trivial) ?_
  intro b5
  refine go ?_
  cases him : imageF A d with
  | none =>
   have hD : DropS d ⟨A, beg, false⟩ 4 ⟨A, beg, false⟩ := by unfold DropS; rw [if_neg (by simp), him]; exact ⟨rfl, rfl⟩
   refine go ?_
   refine K_ent (H' := stoL bs bd q mb ⟨A, beg, false⟩ ++ F) entA ?_
   (first | refine K_return hE Tryz.func29 rfl _ rfl ⟨4, ⟨A, beg, false⟩, rfl, rfl, hD⟩ entA | refine K_fallEnd hE Tryz.func29 rfl _ rfl ⟨4, ⟨A, beg, false⟩, rfl, rfl, hD⟩ entA)
  | some l =>
   have hok := imageF_ok him
   have hD : ∀ e t, chgS [stRemove (fileN kI d), stSweep l, stSyncNames] ⟨A, beg, false⟩ e t → DropS d ⟨A, beg, false⟩ e t := fun e t h => by unfold DropS; rw [if_neg (by simp), him]; exact h
   simp only [Option.getD_some, Option.isSome_some]
   refine go ?_
   (first | refine K_ent (H' := slc 32 66 (.slice ra l.length rc) l.length (l.flatMap blC) :: pts b5 (cl [.slice ra l.length rc] 55) :: pts b3 (cl (dC d) 30) :: pts b2 (cl [ptr bs] 35) :: pts bs (cl (stC bd q mb false) 92) :: mapR dV mb (begE beg) :: diskA bd A :: F) entA ?_ | refine J_ent (H' := slc 32 66 (.slice ra l.length rc) l.length (l.flatMap blC) :: pts b5 (cl [.slice ra l.length rc] 55) :: pts b3 (cl (dC d) 30) :: pts b2 (cl [ptr bs] 35) :: pts bs (cl (stC bd q mb false) 92) :: mapR dV mb (begE beg) :: diskA bd A :: F) entA ?_)
   refine K_slcVw 0 rfl ?_
   intro hvl
   refine K_drawA (fun w => Sat G w [stE bs bd q mb, pts b2 (cl [ptr bs] 35)]) (.st 0 (.st 1 (.st 2 (.st 3 (.st 4 (.st 5 (.st 6 (.st 7 (.act 8 (.act 9 (.st 10 .nil))))))))))) rfl (by kernel_rfl) (by kernel_rfl) (by kernel_rfl) (fun w hw => hw.ent (Ent.trans (H2 := [pts bs (cl (stC bd q mb false) 92), pts b2 (cl [ptr bs] 35)]) entA (stE_in bs bd q mb _ _))) ?_
   refine go ?_
   refine J_isLoad ?_
   refine J_loadS (U := tab) rfl rfl (fun w hw => stE_cell hw) rfl rfl ?_
   refine go ?_
   refine J_buildSlice1 (U := tab) (cs := drF bd b2 b3 b5) rfl rfl rfl rfl rfl rfl rfl rfl rfl (fun _ w hw => by exact hw.ent (Ent.trans (H2 := [pts bs (cl (stC bd q mb false) 92), pts b2 (cl [ptr bs] 35)]) entA (stE_in bs bd q mb _ _))) ?_
   intro row
   have hch := changeA_any bs bd q mb false (Sep (drX bs b2 b3 b5 d (.slice ra l.length rc) l)) (pts row (cl (drF bd b2 b3 b5) 95)) (.slice (some ⟨row, 0, none⟩) 3 3) (drF bd b2 b3 b5) (Vw.pts rfl) (by show 3 ≤ _; omega) [stRemove (fileN kI d), stSweep l, stSyncNames] A (dr_steps bs bd q mb false b2 b3 b5 d _ l hvl hok A hst hwl)
   refine J_ent (H' := pts row (cl (drF bd b2 b3 b5) 95) :: stX bs bd q mb false (Sep (drX bs b2 b3 b5 d (.slice ra l.length rc) l)) A :: mapR dV mb (begE beg) :: F) (Ent.trans (H2 := pts bs (cl (stC bd q mb false) 92) :: diskA bd A :: (drX bs b2 b3 b5 d (.slice ra l.length rc) l ++ (pts row (cl (drF bd b2 b3 b5) 95) :: mapR dV mb (begE beg) :: F))) entA (Ent.trans (stX_in bs bd q mb false _ A _) entA)) ?_
   refine J_callE rfl rfl rfl rfl hch entA ?_ (fun _ _ w hp hw => by
    obtain ⟨e, B, rfl, rfl, hruns⟩ := hp
    exact hw.ent (Ent.trans (Ent.pick [1] rfl) (Ent.trans (stX_out bs bd q mb (or false (decide (e ≠ 0))) _ B _) (Ent.trans (H2 := [pts bs (cl (stC bd q mb (or false (decide (e ≠ 0)))) 92), pts b2 (cl [ptr bs] 35)]) entA (stE_in bs bd q mb _ _)))))
   rintro _ _ ⟨e, B, rfl, rfl, hruns⟩
   refine J_ent (Ent.trans (Ent.pick [1] rfl) (stX_out bs bd q mb (or false (decide (e ≠ 0))) _ B _)) ?_
   refine go ?_
   refine K_ent (H' := stoL bs bd q mb ⟨B, beg, or false (decide (e ≠ 0))⟩ ++ F) entA ?_
   (first | refine K_return hE Tryz.func29 rfl _ rfl ⟨e, ⟨B, beg, or false (decide (e ≠ 0))⟩, rfl, rfl, hD _ _ ⟨B, hruns, rfl⟩⟩ entA | refine K_fallEnd hE Tryz.func29 rfl _ rfl ⟨e, ⟨B, beg, or false (decide (e ≠ 0))⟩, rfl, rfl, hD _ _ ⟨B, hruns, rfl⟩⟩ entA)
end Go.Proofs.YtpecmnaikjbanaaGreatDoor
