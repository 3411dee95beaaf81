/- Texts of one claim, joined: Vt, Bz0, Vt1. -/
import Derived.Test.YtpecmnaikjbanaaGreatDoorQBW7
import Derived.Test.YtpecmnaikjbanaaGreatDoorQBW9
import Derived.Test.YtpecmnaikjbanaaGreatDoorQBW13
import Derived.Test.YtpecmnaikjbanaaGreatDoorQBW14
import Derived.Test.YtpecmnaikjbanaaGreatDoorRows
import Derived.OpenShut
import Derived.ChangeArms
import Derived.ProofKit
import Derived.Handed
import Derived.JoinedOf
import Derived.RowKit
import Derived.WalkKit
import Derived.ShutString
import Derived.ChangeOld
import Derived.Below
import Derived.SizedLaws
import Derived.ChangeSame
import Derived.ChangeVars
/- blobs: the law Whole, its walk. -/
set_option linter.unusedVariables false
set_option linter.unusedSimpArgs false
namespace Go.Proofs.YtpecmnaikjbanaaGreatDoor
open Go Go.SL
attribute [local irreducible] J K Ctr Ends pts slc mapR mapI sbRow stock arrS loopP CtrY Sha.chunks Sha.chunk Sha.rounds Sha.sched sumL taggedL GI leafL diskA
set_option maxRecDepth 20000 in
set_option maxHeartbeats 1600000 in
theorem BWhole_any (X : HP) (hK : KAt X) (bv : Value) (b : List UInt8) (hv : BAt X bv b) (hbl : b.length ≤ 9223372036854775807) (piece : Int) (ov : Value) (ord : List Int) (ho : Vw X ov ord.length (iV ord)) (hol : ord.length ≤ 9223372036854775807) (hoi : ∀ z ∈ ord, SL.i64 z) :
  Ctr Tryz.prog 8 [bv, .int .i64 piece, ov] [X] (fun r H => r = .bool true ∧ H = [X]) := by
 obtain ⟨a0, c0, rfl, hc0⟩ := hv.2
 obtain ⟨a2, c2, rfl⟩ := ho.shape
 refine Ctr.enter Tryz.func8 (by kernel_rfl) rfl Tryz.ntmps8 rfl rfl ?_
 intro G F R hE
 refine go ?_
 ((try refine go ?_); first | refine J_callE rfl rfl rfl rfl (awake_any X hK) entA ?_ (fun _ _ _ _ _ => trivial) | refine J_call0E rfl rfl rfl (awake_any X hK) entA ?_ (fun _ _ _ _ _ => trivial))
 rintro _ _ ⟨rfl, rfl⟩
 refine go ?_
 ((try refine go ?_); first | refine J_callE rfl rfl rfl rfl (New_dA 16777216 (by omega) (by omega)) entA ?_ (fun _ _ _ _ _ => trivial) | refine J_call0E rfl rfl rfl (New_dA 16777216 (by omega) (by omega)) entA ?_ (fun _ _ _ _ _ => trivial))
 rintro _ _ ⟨bd, rfl, rfl⟩
 repeat' (first | (with_reducible intro _hh) | refine go1 ?_ | refine J_fork ?_ ?_ | refine J_gsP rfl rfl rfl rfl ?_ ?_ | refine K_condP rfl rfl ?_ ?_)
 all_goals (first | ((first | refine K_return hE Tryz.func8 rfl _ rfl ⟨rfl, rfl⟩ entA | refine K_fallEnd hE Tryz.func8 rfl _ rfl ⟨rfl, rfl⟩ entA)) | skip)
 have hbl2 : b.length ≤ 2000 := by omega
 have hba := Blob_ref X _ b hv (by omega) piece
 have hopn := Open_first X hK bd 16777216 1048576 (by omega)
 cases hx : blobB b piece with
 | none =>
  rw [hx] at hba
  ((try refine go ?_); first | refine J_callE rfl rfl rfl rfl (hba) entA ?_ (fun _ _ _ _ _ => trivial) | refine J_call0E rfl rfl rfl (hba) entA ?_ (fun _ _ _ _ _ => trivial))
  rintro _ _ ⟨rfl, rfl⟩
  unfold blV
  refine go ?_
  refine J_alloc (U := tab) rfl rfl rfl (fun _ _ _ => trivial) ?_
  intro b10
  refine go ?_
  ((try refine go ?_); first | refine J_callE rfl rfl rfl rfl (hopn) entA ?_ (fun _ _ _ _ _ => trivial) | refine J_call0E rfl rfl rfl (hopn) entA ?_ (fun _ _ _ _ _ => trivial))
  rintro _ _ ⟨bs, mb, rfl, rfl⟩
  refine go ?_
  refine K_ent (H' := X :: F) entA ?_
  (first | refine K_return hE Tryz.func8 rfl _ rfl ⟨rfl, rfl⟩ entA | refine K_fallEnd hE Tryz.func8 rfl _ rfl ⟨rfl, rfl⟩ entA)
 | some x =>
  rw [hx] at hba
  obtain ⟨hxr, hxs, hxp, hxw⟩ := blob_ok hx
  have hrs := hxr
  simp only [rightB, decide_eq_true_eq] at hrs
  have hsz : (b.length : Int) = x.size := by omega
  have hcn := Count_ref x
  have hcnt := countB_le x
  have hspn := fun i : Int => Span_ref x i
  have hptc := fun bs mb u i pv p => Put_bl X bs bd 1048576 mb u x i pv p
  have hin := fun bs mb u => Install_bl X hK bs bd 1048576 mb u x
  ((try refine go ?_); first | refine J_callE rfl rfl rfl rfl (hba) entA ?_ (fun _ _ _ _ _ => trivial) | refine J_call0E rfl rfl rfl (hba) entA ?_ (fun _ _ _ _ _ => trivial))
  rintro _ _ ⟨rfl, rfl⟩
  unfold blV at hcn hspn hptc hin ⊢
  refine go ?_
  refine J_alloc (U := tab) rfl rfl rfl (fun _ _ _ => trivial) ?_
  intro b10
  refine go ?_
  ((try refine go ?_); first | refine J_callE rfl rfl rfl rfl (hopn) entA ?_ (fun _ _ _ _ _ => trivial) | refine J_call0E rfl rfl rfl (hopn) entA ?_ (fun _ _ _ _ _ => trivial))
  rintro _ _ ⟨bs, mb, rfl, rfl⟩
  have hptc := hptc bs mb
  have hin := hin bs mb
  refine go ?_
  have hs0 : StoI 1048576 ⟨Ab.new 16777216, [], false⟩ := StoI.new (by omega)
  have hl0 : LS ⟨Ab.new 16777216, [], false⟩ noD noD := LS.new _
  have hu0 : usedS ⟨Ab.new 16777216, [], false⟩ = 0 := usedS_none rfl
  have hbg := Begin_bl bs bd 1048576 (by omega) mb ⟨Ab.new 16777216, [], false⟩ x (hs0.begOk (by show 0 ≤ _; omega)) (by show 1 ≤ _; omega) (by show 0 ≤ _; omega)
  unfold blV at hbg
  (first | refine K_ent (H' := pts b10 (cl (blC x) 32) :: X :: (stoL bs bd 1048576 mb ⟨Ab.new 16777216, [], false⟩ ++ F)) entA ?_ | refine J_ent (H' := pts b10 (cl (blC x) 32) :: X :: (stoL bs bd 1048576 mb ⟨Ab.new 16777216, [], false⟩ ++ F)) entA ?_)
  refine go ?_
  refine J_loadArr (U := tab) (l := blC x) 0 rfl rfl rfl rfl rfl rfl ?_
  ((try refine go ?_); first | refine J_callE rfl rfl rfl rfl (hbg) entA ?_ (fun _ _ _ _ _ => trivial) | refine J_call0E rfl rfl rfl (hbg) entA ?_ (fun _ _ _ _ _ => trivial))
  rintro _ _ ⟨e1, s1, rfl, rfl, hR1⟩
  have hg1 := BeginR_grow hR1
  have hg11 : s1.A.states.length ≤ 1 + 2 := hg1.1
  have hg12 : s1.A.writes.length ≤ 0 + 2 := hg1.2
  have hl1 := hl0.begin hR1
  obtain ⟨rfl, hI0⟩ := PutI.begin (w := b) hs0 (by decide) hxr rfl rfl (by rw [hu0]; omega) hR1
  obtain ⟨s0, hs00⟩ : ∃ s0 : Sto, s0 = ⟨Ab.new 16777216, [], false⟩ := ⟨_, rfl⟩
  rw [← hs00] at hI0 hs0
  have hn0 : s0.A.names.length = 0 := by rw [hs00]; rfl
  refine go ?_
  (first | refine K_ent (H' := pts b10 (cl (blC x) 32) :: X :: (stoL bs bd 1048576 mb s1 ++ F)) entA ?_ | refine J_ent (H' := pts b10 (cl (blC x) 32) :: X :: (stoL bs bd 1048576 mb s1 ++ F)) entA ?_)
  refine J_loadArr (U := tab) (l := blC x) 0 rfl rfl rfl rfl rfl rfl ?_
  ((try refine go ?_); first | refine J_callE rfl rfl rfl rfl (hcn) entA ?_ (fun _ _ _ _ _ => trivial) | refine J_call0E rfl rfl rfl (hcn) entA ?_ (fun _ _ _ _ _ => trivial))
  rintro _ _ ⟨rfl, rfl⟩
  refine go ?_
  refine K_mid 1 (fun u : Sto => PutI 1048576 s0 x b (fun _ => False) u ∧ LS u noD noD ∧ u.A.states.length ≤ 63 ∧ u.A.writes.length ≤ 62)
   (fun _ => [(0, .slice a0 b.length c0), (8, ptr bd), (10, ptr b10), (12, ptr bs), (13, .int .i64 0), (14, .int .i64 (countB x))])
   (fun u => pts b10 (cl (blC x) 32) :: X :: (stoL bs bd 1048576 mb u ++ F)) rfl ?_ ?_
  case refine_2 =>
   intro tail
   refine K_loop (fun g : Nat × Sto => g.1 ≤ ord.length ∧ g.1 ≤ 60 ∧ PutI 1048576 s0 x b (fun _ => False) g.2 ∧ LS g.2 noD noD ∧ g.2.A.states.length ≤ 3 + g.1 ∧ g.2.A.writes.length ≤ 2 + g.1) (fun g => ord.length - g.1)
    (fun g => [(0, .slice a0 b.length c0), (2, .slice a2 ord.length c2), (8, ptr bd), (10, ptr b10), (12, ptr bs), (13, .int .i64 0), (14, .int .i64 (countB x)), (15, .int .i64 (g.1 : Int))])
    (fun g => pts b10 (cl (blC x) 32) :: X :: (stoL bs bd 1048576 mb g.2 ++ F)) (0, s1) ⟨Nat.zero_le _, by simp, hI0, hl1, by simp only; omega, by simp only; omega⟩ rfl (by repeat (first | exact keep_nil | refine keep_cons rfl ?_)) entA ?_
   rintro ⟨i, u⟩ ⟨hi, hi60, hH, hlu, hus, huw⟩ ih
   simp only at hi hi60 hH hlu hus huw
   dsimp only
   have hul := hH.len
   refine go ?_
   by_cases hend : i < ord.length ∧ i < 60
   case neg =>
    by_cases h1 : i < ord.length
    ·(first | refine J_slot 87 ((.bool true)) rfl ((congrArg Value.bool (decide_eq_true (by omega)))) ?_ | refine K_slot 87 ((.bool true)) rfl ((congrArg Value.bool (decide_eq_true (by omega)))) ?_)
     refine go ?_
     (first | refine J_slot 90 ((.bool false)) rfl ((congrArg Value.bool (decide_eq_false (by omega)))) ?_ | refine K_slot 90 ((.bool false)) rfl ((congrArg Value.bool (decide_eq_false (by omega)))) ?_)
     (refine goR ?_)
     refine K_condF rfl rfl ?_
     refine K_to tail u rfl ⟨hH, hlu, by omega, by omega⟩ (by repeat (first | exact keep_nil | refine keep_cons rfl ?_)) entA
    ·(first | refine J_slot 87 ((.bool false)) rfl ((congrArg Value.bool (decide_eq_false (by omega)))) ?_ | refine K_slot 87 ((.bool false)) rfl ((congrArg Value.bool (decide_eq_false (by omega)))) ?_)
     (refine goR ?_)
     refine K_condF rfl rfl ?_
     refine K_to tail u rfl ⟨hH, hlu, by omega, by omega⟩ (by repeat (first | exact keep_nil | refine keep_cons rfl ?_)) entA
   obtain ⟨hi1, hi2⟩ := hend
   obtain ⟨z, hz⟩ : ∃ z, ord[i]? = some z := ⟨ord[i], by simp⟩
   have hzr := hoi z (List.mem_of_getElem? hz)
   have hcell := iV_get hz
   obtain ⟨bb, oo, cc, hsle⟩ := ho.some (ine hi1)
   simp only [Value.slice.injEq, true_and] at hsle
   obtain ⟨rfl, rfl⟩ := hsle
   (first | refine J_slot 87 ((.bool true)) rfl ((congrArg Value.bool (decide_eq_true (by omega)))) ?_ | refine K_slot 87 ((.bool true)) rfl ((congrArg Value.bool (decide_eq_true (by omega)))) ?_)
   refine go ?_
   (first | refine J_slot 90 ((.bool true)) rfl ((congrArg Value.bool (decide_eq_true (by omega)))) ?_ | refine K_slot 90 ((.bool true)) rfl ((congrArg Value.bool (decide_eq_true (by omega)))) ?_)
   refine go ?_
   have hspc := hspn z
   refine K_drawA (fun w => Sat G w ([pts b10 (cl (blC x) 32), X])) (.st 0 (.st 1 (.st 2 (.st 3 (.st 4 (.act 5 (.st 6 (.st 7 (.st 8 (.st 9 (.st 10 (.st 11 (.st 12 .nil))))))))))))) rfl (by kernel_rfl) (by kernel_rfl) (by kernel_rfl) (fun w hw => hw.ent entA) ?_
   refine go ?_
   refine J_loadArrS (U := tab) (l := blC x) 0 rfl rfl rfl rfl rfl rfl ?_
   refine go ?_
   refine J_at1 (U := tab) i rfl rfl rfl rfl rfl rfl rfl rfl hi1 ?_
   refine J_isLoad ?_
   refine J_loadAtS (U := tab) 1 i rfl rfl rfl ho rfl hcell rfl rfl ?_
   refine go ?_
   (first | refine J_callE rfl rfl rfl rfl (hspc) entA ?_ (fun _ _ w hp hw => by obtain ⟨rfl, rfl⟩ := hp; exact hw.ent entA) | refine J_call0E rfl rfl rfl (hspc) entA ?_ (fun _ _ w hp hw => by obtain ⟨rfl, rfl⟩ := hp; exact hw.ent entA))
   rintro _ _ ⟨rfl, rfl⟩
   cases hsp : spanB x z with
   | none =>
    simp only
    refine go ?_
    refine K_ent (H' := pts b10 (cl (blC x) 32) :: X :: (stoL bs bd 1048576 mb u ++ F)) entA ?_
    refine K_again ih (i + 1, u) rfl ⟨by simp only; omega, by simp only; omega, hH, hlu, by simp only; omega, by simp only; omega⟩ (by simp only; omega) (by repeat (first | exact keep_nil | refine keep_cons rfl ?_)) entA
   | some an =>
    obtain ⟨ai, ni⟩ := an
    obtain ⟨g0, g1, g2, g3, g4, g5, g6, _⟩ := span_in hsp
    obtain ⟨at_, rfl⟩ : ∃ at_ : Nat, ai = at_ := ⟨ai.toNat, by omega⟩
    obtain ⟨m, rfl⟩ : ∃ m : Nat, ni = m := ⟨ni.toNat, by omega⟩
    have hml : at_ + m ≤ b.length := by omega
    have hpc2 := hv.piece at_ (at_ + m) (by omega) (by omega)
    rw [show at_ + m - at_ = m from by omega] at hpc2
    have hplen : ((b.drop at_).take m).length = m := by rw [List.length_take, List.length_drop]; omega
    have hpt := hptc u z (.slice (sliceAt a0 c0 at_ 1) m (c0 - at_)) ((b.drop at_).take m) hpc2.1 (by omega) hzr (by omega) (by omega)
    simp only
    refine go ?_
    refine K_drawA (fun w => Sat G w ([pts b10 (cl (blC x) 32), X])) (.st 0 (.st 1 (.st 2 (.st 3 (.st 4 (.st 5 (.st 6 (.st 7 (.st 8 (.st 9 (.st 10 (.st 11 (.act 12 .nil))))))))))))) rfl (by kernel_rfl) (by kernel_rfl) (by kernel_rfl) (fun w hw => hw.ent entA) ?_
    refine go ?_
    refine J_loadArrS (U := tab) (l := blC x) 0 rfl rfl rfl rfl rfl rfl ?_
    refine go ?_
    refine J_at1 (U := tab) i rfl rfl rfl rfl rfl rfl rfl rfl hi1 ?_
    refine J_isLoad ?_
    refine J_loadAtS (U := tab) 1 i rfl rfl rfl ho rfl hcell rfl rfl ?_
    refine go ?_
    refine J_sliceAny (U := tab) (p := (at_ : Int)) (q := (at_ : Int) + (m : Int)) rfl rfl rfl rfl rfl rfl rfl (by omega) (by omega) (.inr (by omega)) ?_
    refine J_slot 116 (.slice (sliceAt a0 c0 at_ 1) m (c0 - at_)) rfl (by rw [show ((at_ : Int) + (m : Int)).toNat = at_ + m from by omega, Int.toNat_natCast, show at_ + m - at_ = m from by omega]; rfl) ?_
    refine go ?_
    refine J_callE rfl rfl rfl rfl hpt entA ?_ (fun _ _ _ _ _ => trivial)
    rintro _ _ ⟨e2, u2, rfl, rfl, hR2⟩
    have hg2 := PutS_grow hR2
    have hg21 := hg2.1
    have hg22 := hg2.2
    have hl2 := hlu.put hR2
    obtain ⟨rfl, hH2⟩ := hH.put (by omega) (by omega) (by omega) hsp (by rw [Int.toNat_natCast, Int.toNat_natCast]; exact hR2)
    refine go ?_
    refine K_ent (H' := pts b10 (cl (blC x) 32) :: X :: (stoL bs bd 1048576 mb u2 ++ F)) entA ?_
    refine K_again ih (i + 1, u2) rfl ⟨by simp only; omega, by simp only; omega, hH2.weak (fun _ h => h.elim), hl2, by simp only; omega, by simp only; omega⟩ (by simp only; omega) (by repeat (first | exact keep_nil | refine keep_cons rfl ?_)) entA
  rintro u1 ⟨hH1, hlu1, hus1, huw1⟩
  refine go ?_
  refine K_loop (fun g : Nat × Sto => (g.1 : Int) ≤ countB x ∧ PutI 1048576 s0 x b (fun k => countB x - g.1 ≤ k ∧ k < countB x) g.2 ∧ LS g.2 noD noD ∧ g.2.A.states.length ≤ 63 + g.1 ∧ g.2.A.writes.length ≤ 62 + g.1) (fun g => (countB x).toNat - g.1)
   (fun g => [(0, .slice a0 b.length c0), (8, ptr bd), (10, ptr b10), (12, ptr bs), (13, .int .i64 0), (14, .int .i64 (countB x)), (19, .int .i64 (g.1 : Int))])
   (fun g => pts b10 (cl (blC x) 32) :: X :: (stoL bs bd 1048576 mb g.2 ++ F)) (0, u1) ⟨hcnt.1, hH1.weak (fun k hk => by simp only at hk; omega), hlu1, by simp only; omega, by simp only; omega⟩ rfl (by repeat (first | exact keep_nil | refine keep_cons rfl ?_)) entA ?_
  rintro ⟨i, u⟩ ⟨hi, hH, hlu, hus, huw⟩ ih
  simp only at hi hH hlu hus huw
  dsimp only
  have hul := hH.len
  refine go ?_
  by_cases hlt : (i : Int) < countB x
  ·(first | refine J_slot 120 ((.bool true)) rfl ((congrArg Value.bool (decide_eq_true hlt))) ?_ | refine K_slot 120 ((.bool true)) rfl ((congrArg Value.bool (decide_eq_true hlt))) ?_)
   obtain ⟨z, hz⟩ : ∃ z, z = countB x - 1 - (i : Int) := ⟨_, rfl⟩
   obtain ⟨_, hat0, hat1⟩ := span_lt (x := x) (i := z) (by omega) (by omega)
   have hsp : spanB x z = some (z * x.piece, min x.piece (x.size - z * x.piece)) := by unfold spanB; rw [if_neg (by omega)]
   obtain ⟨g0, g1, g2, g3, g4, g5, g6, _⟩ := span_in hsp
   obtain ⟨at_, hat⟩ : ∃ at_ : Nat, (at_ : Int) = z * x.piece := ⟨(z * x.piece).toNat, by omega⟩
   rw [← hat] at hat0 hat1 hsp g0 g2
   obtain ⟨m, hm⟩ : ∃ m : Nat, (m : Int) = min x.piece (x.size - (at_ : Int)) := ⟨(min x.piece (x.size - (at_ : Int))).toNat, by omega⟩
   rw [← hm] at hsp
   have hspc := hspn z
   rw [hsp] at hspc
   have hml : at_ + m ≤ b.length := by omega
   have hpc2 := hv.piece at_ (at_ + m) (by omega) (by omega)
   rw [show at_ + m - at_ = m from by omega] at hpc2
   have hplen : ((b.drop at_).take m).length = m := by rw [List.length_take, List.length_drop]; omega
   have hpt := hptc u z (.slice (sliceAt a0 c0 at_ 1) m (c0 - at_)) ((b.drop at_).take m) hpc2.1 (by omega) ⟨by omega, by omega⟩ (by omega) (by omega)
   refine go ?_
   refine J_loadArr (U := tab) (l := blC x) 0 rfl rfl rfl rfl rfl rfl ?_
   refine go ?_
   (first | refine J_slot 128 ((.int .i64 z)) rfl ((congrArg (Value.int .i64) (by omega))) ?_ | refine K_slot 128 ((.int .i64 z)) rfl ((congrArg (Value.int .i64) (by omega))) ?_)
   ((try refine go ?_); first | refine J_callE rfl rfl rfl rfl (hspc) entA ?_ (fun _ _ _ _ _ => trivial) | refine J_call0E rfl rfl rfl (hspc) entA ?_ (fun _ _ _ _ _ => trivial))
   rintro _ _ ⟨rfl, rfl⟩
   simp only
   refine go ?_
   refine K_drawA (fun w => Sat G w ([pts b10 (cl (blC x) 32)])) (.st 0 (.st 1 (.st 2 (.st 3 (.st 4 (.st 5 (.st 6 (.st 7 (.st 8 (.st 9 (.st 10 (.st 11 (.act 12 (.st 13 .nil)))))))))))))) rfl (by kernel_rfl) (by kernel_rfl) (by kernel_rfl) (fun w hw => hw.ent entA) ?_
   refine go ?_
   refine J_loadArrS (U := tab) (l := blC x) 0 rfl rfl rfl rfl rfl rfl ?_
   refine go ?_
   (first | refine J_slot 138 ((.int .i64 z)) rfl ((congrArg (Value.int .i64) (by omega))) ?_ | refine K_slot 138 ((.int .i64 z)) rfl ((congrArg (Value.int .i64) (by omega))) ?_)
   refine J_sliceAny (U := tab) (p := (at_ : Int)) (q := (at_ : Int) + (m : Int)) rfl rfl rfl rfl rfl rfl rfl (by omega) (by omega) (.inr (by omega)) ?_
   refine J_slot 144 (.slice (sliceAt a0 c0 at_ 1) m (c0 - at_)) rfl (by rw [show ((at_ : Int) + (m : Int)).toNat = at_ + m from by omega, Int.toNat_natCast, show at_ + m - at_ = m from by omega]; rfl) ?_
   refine go ?_
   refine J_callE rfl rfl rfl rfl hpt entA ?_ (fun _ _ w hp hw => by obtain ⟨_, _, rfl, rfl, _⟩ := hp; exact hw.ent entA)
   rintro _ _ ⟨e2, u2, rfl, rfl, hR2⟩
   have hg2 := PutS_grow hR2
   have hg21 := hg2.1
   have hg22 := hg2.2
   have hl2 := hlu.put hR2
   obtain ⟨rfl, hH2⟩ := hH.put (by omega) (by omega) (by omega) hsp (by rw [Int.toNat_natCast, Int.toNat_natCast]; exact hR2)
   refine go ?_
   refine K_ent (H' := pts b10 (cl (blC x) 32) :: X :: (stoL bs bd 1048576 mb u2 ++ F)) entA ?_
   refine K_again ih (i + 1, u2) rfl ⟨by simp only; omega, hH2.weak (fun k hk => by simp only at hk; rcases Int.lt_or_le k (countB x - i) with h | h; exact .inr (by omega); exact .inl ⟨h, hk.2⟩), hl2, by simp only; omega, by simp only; omega⟩ (by simp only; omega) (by repeat (first | exact keep_nil | refine keep_cons rfl ?_)) entA
  ·(first | refine J_slot 120 ((.bool false)) rfl ((congrArg Value.bool (decide_eq_false hlt))) ?_ | refine K_slot 120 ((.bool false)) rfl ((congrArg Value.bool (decide_eq_false hlt))) ?_)
   have hic : (i : Int) = countB x := by omega
   clear ih
   refine go ?_
   refine J_loadArr (U := tab) (l := blC x) 0 rfl rfl rfl rfl rfl rfl ?_
   ((try refine go ?_); first | refine J_callE rfl rfl rfl rfl (hin u (by omega) (by omega)) entA ?_ (fun _ _ _ _ _ => trivial) | refine J_call0E rfl rfl rfl (hin u (by omega) (by omega)) entA ?_ (fun _ _ _ _ _ => trivial))
   rintro _ _ ⟨e3, t, rfl, rfl, hR3⟩
   have hg3 := InstallS_grow hR3
   have hg31 := hg3.1
   have hg32 := hg3.2
   have hl3 := hlu.install hR3
   obtain ⟨rfl, k1, k2, k3, k4, k5⟩ := hH.done hs0 (by rw [hs00]; rfl) (by rw [hs00]; rfl) (by omega) hxr (fun k h1 h2 => ⟨by omega, h2⟩) hxw hR3
   have k2' : t.beg = [] := by rw [k2, hs00]
   have k3' : vw t.A = setV (fun _ => none) (fBd x.d) (some b) := by rw [k3, hs00]; rfl
   refine go ?_
   (first | refine K_ent (H' := pts b10 (cl (blC x) 32) :: X :: (stoL bs bd 1048576 mb t ++ F)) entA ?_ | refine J_ent (H' := pts b10 (cl (blC x) 32) :: X :: (stoL bs bd 1048576 mb t ++ F)) entA ?_)
   refine J_loadArr (U := tab) (l := blC x) 0 rfl rfl rfl rfl rfl rfl ?_
   refine go ?_
   refine J_buildSlice1 (U := tab) (cs := [x].flatMap blC) rfl rfl rfl rfl rfl rfl rfl rfl rfl (fun _ _ _ => trivial) ?_
   intro row
   refine go ?_
   refine J_alloc (U := tab) rfl rfl rfl (fun _ _ _ => trivial) ?_
   intro b25
   have hcm := Commit_bl (Sep [pts row (cl ([x].flatMap blC) 32), X]) (hK.mono (Sep_get (i := 1) rfl)) _ [x] (row_one row x X) (by simp) bs bd 1048576 mb t (by omega) (by omega)
   unfold imV at hcm
   refine go ?_
   (first | refine K_ent (H' := pts b25 (cl [.slice (some ⟨row, 0, none⟩) 1 1] 55) :: pts row (cl ([x].flatMap blC) 32) :: X :: pts b10 (cl (blC x) 32) :: (stoL bs bd 1048576 mb t ++ F)) entA ?_ | refine J_ent (H' := pts b25 (cl [.slice (some ⟨row, 0, none⟩) 1 1] 55) :: pts row (cl ([x].flatMap blC) 32) :: X :: pts b10 (cl (blC x) 32) :: (stoL bs bd 1048576 mb t ++ F)) entA ?_)
   refine J_loadArr (U := tab) (l := [.slice (some ⟨row, 0, none⟩) 1 1]) 0 rfl rfl rfl rfl rfl rfl ?_
   refine J_ent (H' := Sep [pts row (cl ([x].flatMap blC) 32), X] :: pts b25 (cl [.slice (some ⟨row, 0, none⟩) 1 1] 55) :: pts b10 (cl (blC x) 32) :: (stoL bs bd 1048576 mb t ++ F)) (Ent.trans (H2 := pts row (cl ([x].flatMap blC) 32) :: X :: pts b25 (cl [.slice (some ⟨row, 0, none⟩) 1 1] 55) :: pts b10 (cl (blC x) 32) :: (stoL bs bd 1048576 mb t ++ F)) entA (Ent.resep [_, _] _)) ?_
   ((try refine go ?_); first | refine J_callE rfl rfl rfl rfl (hcm) entA ?_ (fun _ _ _ _ _ => trivial) | refine J_call0E rfl rfl rfl (hcm) entA ?_ (fun _ _ _ _ _ => trivial))
   rintro _ _ ⟨e4, t4, rfl, rfl, hR4⟩
   have hg4 := CommitS_grow hR4
   have hg41 := hg4.1
   have hg42 := hg4.2
   obtain ⟨rfl, m1, m2, m3, m4⟩ := whole_commit k1 k3' (by omega) k2' hxr hR4
   have hl4 := (hl3.commit hR4).1 rfl
   refine J_ent (H' := pts b25 (cl [.slice (some ⟨row, 0, none⟩) 1 1] 55) :: pts row (cl ([x].flatMap blC) 32) :: X :: pts b10 (cl (blC x) 32) :: (stoL bs bd 1048576 mb t4 ++ F)) (Ent.trans (H2 := Sep [pts row (cl ([x].flatMap blC) 32), X] :: pts b25 (cl [.slice (some ⟨row, 0, none⟩) 1 1] 55) :: pts b10 (cl (blC x) 32) :: (stoL bs bd 1048576 mb t4 ++ F)) entA (Ent.trans (Ent.unsep [_, _] _) entA)) ?_
   obtain ⟨q1, q2, q3, q4, _⟩ := m1.crash hl4 m4 m2 0 [] (-1) 0
   refine go ?_
   ((try refine go ?_); first | refine J_callE rfl rfl rfl rfl (Crash_dA bd t4.A 0 (-1) 0 X (.slice none 0 0) [] ⟨none, 0, rfl, .inl rfl⟩ (by simp) (by omega) (by omega) (by omega) (by omega) (by omega)) entA ?_ (fun _ _ _ _ _ => trivial) | refine J_call0E rfl rfl rfl (Crash_dA bd t4.A 0 (-1) 0 X (.slice none 0 0) [] ⟨none, 0, rfl, .inl rfl⟩ (by simp) (by omega) (by omega) (by omega) (by omega) (by omega)) entA ?_ (fun _ _ _ _ _ => trivial))
   rintro _ _ rfl
   obtain ⟨C, hC⟩ : ∃ C, C = t4.A.crash 0 [] (-1) 0 := ⟨_, rfl⟩
   rw [← hC] at q1 q2 q3 q4 ⊢
   have hCs : C.states.length = 1 := by rw [q3]; rfl
   have hCw : C.writes.length = 0 := by rw [q4]; rfl
   rw [m3] at q2
   refine go ?_
   ((try refine go ?_); first | refine J_callE rfl rfl rfl rfl (Open_any' X hK bd 1048576 C (by omega)) entA ?_ (fun _ _ _ _ _ => trivial) | refine J_call0E rfl rfl rfl (Open_any' X hK bd 1048576 C (by omega)) entA ?_ (fun _ _ _ _ _ => trivial))
   rintro _ _ (⟨h, _⟩ | ⟨_, h, _⟩ | ⟨_, _, e, B, hop, hcc⟩)
   ·exfalso; omega
   ·rw [show C.off = false from q1.ha.on] at h; cases h
   obtain ⟨rfl, hB⟩ := q1.open hop
   have hB' : B = C := hB
   subst hB'
   rcases hcc with ⟨hne, _⟩ | ⟨_, _, bs2, mb2, rfl, rfl⟩
   ·exact absurd rfl hne
   have hrd := ReadS_any bs2 bd 1048576 mb2 false B x.d 0 (b.length : Int)
   rw [readS_vw q1.ha (show vw B (fBd x.d) = some b by rw [q2, wholeV, setV_ne _ _ (fBd_ne_fI _ _), setV_at])] at hrd
   have him := ImageS_any bs2 bd 1048576 mb2 false B (nameB [x])
   rw [whole_image q1.ha q2 hxr] at him
   have hnm := refName2 _ _ [x] (row_one' row x) (by simp)
   rw [show nmB [x] = nameB [x] from by unfold nmB; rw [if_pos (image_one hxr)]] at hnm
   have hdr := Drop_bl bs2 bd 1048576 mb2 ⟨B, [], false⟩ (nameB [x]) (by show B.states.length ≤ _; omega) (by show B.writes.length ≤ _; omega)
   unfold dV at hrd him hdr hnm
   unfold imV at hnm
   refine go ?_
   (first | refine K_ent (H' := pts b10 (cl (blC x) 32) :: pts b25 (cl [.slice (some ⟨row, 0, none⟩) 1 1] 55) :: pts row (cl ([x].flatMap blC) 32) :: X :: (stoL bs2 bd 1048576 mb2 ⟨B, [], false⟩ ++ F)) entA ?_ | refine J_ent (H' := pts b10 (cl (blC x) 32) :: pts b25 (cl [.slice (some ⟨row, 0, none⟩) 1 1] 55) :: pts row (cl ([x].flatMap blC) 32) :: X :: (stoL bs2 bd 1048576 mb2 ⟨B, [], false⟩ ++ F)) entA ?_)
   refine J_loadAgg (U := tab) 0 rfl rfl rfl rfl rfl rfl ?_
   refine go ?_
   ((try refine go ?_); first | refine J_callE rfl rfl rfl rfl (hrd) entA ?_ (fun _ _ _ _ _ => trivial) | refine J_call0E rfl rfl rfl (hrd) entA ?_ (fun _ _ _ _ _ => trivial))
   rintro _ _ ⟨rv, rfl, rfl⟩
   (first | refine J_shape 0 rfl ?_ | refine K_shape 0 rfl ?_)
   rintro ra rc rfl
   refine J_slcVw 0 rfl ?_
   intro hvr
   refine go ?_
   (first | refine K_ent (H' := pts b25 (cl [.slice (some ⟨row, 0, none⟩) 1 1] 55) :: slc 5 1 (.slice ra b.length rc) b.length (bV b) :: pts b10 (cl (blC x) 32) :: pts row (cl ([x].flatMap blC) 32) :: X :: (stoL bs2 bd 1048576 mb2 ⟨B, [], false⟩ ++ F)) entA ?_ | refine J_ent (H' := pts b25 (cl [.slice (some ⟨row, 0, none⟩) 1 1] 55) :: slc 5 1 (.slice ra b.length rc) b.length (bV b) :: pts b10 (cl (blC x) 32) :: pts row (cl ([x].flatMap blC) 32) :: X :: (stoL bs2 bd 1048576 mb2 ⟨B, [], false⟩ ++ F)) entA ?_)
   refine J_loadArr (U := tab) (l := [.slice (some ⟨row, 0, none⟩) 1 1]) 0 rfl rfl rfl rfl rfl rfl ?_
   ((try refine go ?_); first | refine J_callE rfl rfl rfl rfl (hnm) entA ?_ (fun _ _ _ _ _ => trivial) | refine J_call0E rfl rfl rfl (hnm) entA ?_ (fun _ _ _ _ _ => trivial))
   rintro _ _ ⟨rfl, rfl⟩
   refine go ?_
   refine J_alloc (U := tab) rfl rfl rfl (fun _ _ _ => trivial) ?_
   intro b29
   refine go ?_
   (first | refine K_ent (H' := pts b29 (cl (dC (nameB [x])) 30) :: slc 5 1 (.slice ra b.length rc) b.length (bV b) :: pts b10 (cl (blC x) 32) :: X :: (stoL bs2 bd 1048576 mb2 ⟨B, [], false⟩ ++ F)) entA ?_ | refine J_ent (H' := pts b29 (cl (dC (nameB [x])) 30) :: slc 5 1 (.slice ra b.length rc) b.length (bV b) :: pts b10 (cl (blC x) 32) :: X :: (stoL bs2 bd 1048576 mb2 ⟨B, [], false⟩ ++ F)) entA ?_)
   refine J_loadArr (U := tab) (l := dC (nameB [x])) 0 rfl rfl rfl rfl rfl rfl ?_
   ((try refine go ?_); first | refine J_callE rfl rfl rfl rfl (him) entA ?_ (fun _ _ _ _ _ => trivial) | refine J_call0E rfl rfl rfl (him) entA ?_ (fun _ _ _ _ _ => trivial))
   rintro _ _ ⟨rv2, rfl, rfl⟩
   unfold imV
   (first | refine J_shape 0 rfl ?_ | refine K_shape 0 rfl ?_)
   rintro va vc rfl
   refine go ?_
   refine J_alloc (U := tab) rfl rfl rfl (fun _ _ _ => trivial) ?_
   intro b31
   refine go ?_
   (first | refine K_ent (H' := pts b29 (cl (dC (nameB [x])) 30) :: slc 5 1 (.slice ra b.length rc) b.length (bV b) :: pts b10 (cl (blC x) 32) :: X :: (stoL bs2 bd 1048576 mb2 ⟨B, [], false⟩ ++ F)) entA ?_ | refine J_ent (H' := pts b29 (cl (dC (nameB [x])) 30) :: slc 5 1 (.slice ra b.length rc) b.length (bV b) :: pts b10 (cl (blC x) 32) :: X :: (stoL bs2 bd 1048576 mb2 ⟨B, [], false⟩ ++ F)) entA ?_)
   refine J_loadArr (U := tab) (l := dC (nameB [x])) 0 rfl rfl rfl rfl rfl rfl ?_
   ((try refine go ?_); first | refine J_callE rfl rfl rfl rfl (hdr) entA ?_ (fun _ _ _ _ _ => trivial) | refine J_call0E rfl rfl rfl (hdr) entA ?_ (fun _ _ _ _ _ => trivial))
   rintro _ _ ⟨e6, t6, rfl, rfl, hR6⟩
   obtain ⟨rfl, w1, w2, w3⟩ := whole_drop q1.ha q2 hxr hR6
   have hhs := Has_any bs2 bd 1048576 mb2 t6.brk t6.A x.d
   rw [w1] at hhs
   unfold dV at hhs
   have hus6 := Used_bl bs2 bd 1048576 mb2 t6 (by rw [w3]; exact ⟨by simp, by simp⟩)
   rw [w2] at hus6
   refine go ?_
   (first | refine K_ent (H' := slc 5 1 (.slice ra b.length rc) b.length (bV b) :: X :: pts b10 (cl (blC x) 32) :: (stoL bs2 bd 1048576 mb2 t6 ++ F)) entA ?_ | refine J_ent (H' := slc 5 1 (.slice ra b.length rc) b.length (bV b) :: X :: pts b10 (cl (blC x) 32) :: (stoL bs2 bd 1048576 mb2 t6 ++ F)) entA ?_)
   refine J_toStr (U := tab) 0 rfl rfl rfl rfl rfl rfl rfl rfl rfl hvr ?_
   refine go ?_
   refine J_toStr (U := tab) 1 rfl rfl rfl rfl rfl rfl rfl rfl rfl hv.1 ?_
   refine go ?_
   (first | refine J_slot 214 ((.bool true)) rfl ((congrArg Value.bool (by rw [eqS_strOf]; exact decide_eq_true rfl))) ?_ | refine K_slot 214 ((.bool true)) rfl ((congrArg Value.bool (by rw [eqS_strOf]; exact decide_eq_true rfl))) ?_)
   refine go ?_
   refine J_loadAgg (U := tab) 2 rfl rfl rfl rfl rfl rfl ?_
   ((try refine go ?_); first | refine J_callE rfl rfl rfl rfl (hhs) entA ?_ (fun _ _ _ _ _ => trivial) | refine J_call0E rfl rfl rfl (hhs) entA ?_ (fun _ _ _ _ _ => trivial))
   rintro _ _ ⟨rfl, rfl⟩
   refine go ?_
   ((try refine go ?_); first | refine J_callE rfl rfl rfl rfl (hus6) entA ?_ (fun _ _ _ _ _ => trivial) | refine J_call0E rfl rfl rfl (hus6) entA ?_ (fun _ _ _ _ _ => trivial))
   rintro _ _ ⟨rfl, rfl⟩
   refine go ?_
   refine K_ent (H' := X :: F) entA ?_
   (first | refine K_return hE Tryz.func8 rfl _ rfl ⟨rfl, rfl⟩ entA | refine K_fallEnd hE Tryz.func8 rfl _ rfl ⟨rfl, rfl⟩ entA)
end Go.Proofs.YtpecmnaikjbanaaGreatDoor
/- blobs: the variable that the rows lay: what its cells are. -/
set_option linter.unnecessarySimpa false
namespace Go.Proofs.YtpecmnaikjbanaaGreatDoor
open Go Go.SL
theorem arr_cells {P : Program} {H : Type} {enc : TypeId × Value → H} {W : World} {base : Nat} {spare : Nat → Bool} {held : Bool} {fuel n : Nat} {t e : TypeId} {k : IntKind} {l : List Value} {x : DataW H × List MemPlace} (ht : P.underlying t = some (.array n e)) (he : P.underlying e = some (.int k)) (hc : P.cellsOf e = 1) (hct : P.cellsOf t = n)
  (h : DataW.trod enc P W base spare held fuel t l = some x) (ns : List Int) (hx : x.1 = .agg (ns.map fun z => .lit (.int k z))) : l = ns.map (Value.int k) := by
 obtain ⟨xs, m, _, hxe, hlen, hxl, hf⟩ := DataW.trod_array ht h
 rw [hct] at hlen
 rw [hxe] at hx
 simp only [DataW.agg.injEq] at hx
 apply List.ext_getElem?
 intro i
 rcases Nat.lt_or_ge i n with hi | hi
 ·have h1 := hf i hi
  obtain ⟨y, hy⟩ : ∃ y, xs[i]? = some y := ⟨xs[i]'(by rw [hxl]; exact hi), by simp⟩
  rw [hy, hc, Nat.mul_one] at h1
  obtain ⟨z, r, hz, w⟩ := DataW.trod_int he h1
  have h2 := congrArg (fun l : List Value => l[0]?) r
  have h3 : l[i]? = some (.int k z) := by simpa using h2
  have h4 := congrArg (fun l => l[i]?) hx
  simp only [List.getElem?_map, hy, Option.map_some, hz] at h4
  rw [h3, List.getElem?_map]
  cases hn : ns[i]? with
  | none => rw [hn] at h4; cases h4
  | some z2 =>
   rw [hn] at h4
   simp only [Option.map_some, Option.some.injEq, DataW.lit.injEq, Lit.int.injEq] at h4
   rw [h4.2]
   rfl
 ·have hnl : ns.length = n := by have := congrArg List.length hx; simpa [hxl] using this.symm
  rw [List.getElem?_eq_none (by omega), List.getElem?_eq_none (by simp; omega)]
def ksI : List Int := Sha.ks.map fun w => (w.toNat : Int)
theorem wV_ks : wV Sha.ks = ksI.map (Value.int .u32) := by unfold wV ksI; rw [List.map_map]; rfl
theorem ksI_eq : Rows.laid_starling_digest_constants (H := Unit) = .agg (ksI.map fun z => .lit (.int .u32 z)) := by
 unfold Rows.laid_starling_digest_constants ksI Sha.ks
 simp only [List.map_cons, List.map_nil, BitVec.toNat_ofNat]
 rfl
theorem ks_global : Tryz.prog.globalNamed "starling/digest.constants" = some 0 := by kernel_rfl
theorem ks_type : (Tryz.prog.globals[0]?).map (·.type) = some 161 := by kernel_rfl
theorem ks_cells : Tryz.prog.cellsOf 161 = 64 := by kernel_rfl
theorem u32_cells : Tryz.prog.cellsOf 129 = 1 := by kernel_rfl
theorem cells_of_laid {W : World} (h : laidMet Tryz.prog [("starling/digest.constants", Rows.laid_starling_digest_constants)] W) : W.var? Tryz.prog "starling/digest.constants" = some (wV Sha.ks).toArray := by
 obtain ⟨ps, ⟨g, t, cs, fuel, p, q, hg, ht, hvar, hd, _, _⟩, _⟩ := h
 obtain rfl := Option.some.inj (ks_global.symm.trans hg)
 obtain rfl := Option.some.inj (ks_type.symm.trans ht)
 rw [hvar, wV_ks]
 congr 1
 have := arr_cells Tryz.underlying161 Tryz.underlying129 u32_cells ks_cells hd ksI ksI_eq
 rw [← this]
theorem KAt_of_laid {W : World} (h : laidMet Tryz.prog [("starling/digest.constants", Rows.laid_starling_digest_constants)] W) : KAt (old W) := by
 have hv := cells_of_laid h
 refine ⟨some ⟨0, 0, none⟩, 64, rfl, .inr ⟨_, 0, rfl, fun hp ho j c hj => ?_⟩⟩
 rw [Nat.zero_add]
 refine hcell_of_cell ho ?_
 rw [World.var?_cell ks_global hv j]
 simpa using hj
noncomputable def laidWorld (os : Os) : World :=
  { World.holding Tryz.prog os ⟨#[], #[], []⟩ with heap := (World.holding Tryz.prog os ⟨#[], #[], []⟩).heap.modify 0 fun
      | .cells _ t frozen => .cells (ksI.map (Value.int .u32)).toArray t frozen
      | o => o }
theorem laidWorld_row (os : Os) (args : Array Value) : ((laidWorld os).forCall (fun _ _ => 0) ⟨#[], args, []⟩).memory.heap[0]? = some (.cells (ksI.map (Value.int .u32)).toArray 161 (0, 0)) := by kernel_rfl
set_option maxRecDepth 20000 in
theorem laidWorld_met (os : Os) (args : Array Value) : laidMet Tryz.prog [("starling/digest.constants", Rows.laid_starling_digest_constants)] ((laidWorld os).forCall (fun _ _ => 0) ⟨#[], args, []⟩).memory := by
 have hrow := laidWorld_row os args
 refine ⟨_, ⟨0, 161, (ksI.map (Value.int .u32)).toArray, 8, [], [], ks_global, ks_type, ?_, ?_, rfl, rfl⟩, ?_, ?_⟩
 ·unfold World.var?
  rw [ks_global]
  simp only [Option.bind_some, hrow]
 ·kernel_rfl
 ·rw [List.append_nil, List.append_nil]
  unfold MemPlace.row
  refine List.Pairwise.map (R := fun a b => a ≠ b) _ (fun i j hij e => hij ?_) List.nodup_range
  exact Nat.add_left_cancel (MemPlace.cell.inj e).2
 ·intro b off h
  have hb : b = 0 := by
   simp only [List.append_nil, MemPlace.row, List.mem_map] at h
   obtain ⟨i, _, hi⟩ := h
   simp [MemPlace.cell.injEq] at hi
   exact hi.1.symm
  subst hb
  refine ⟨⟨_, _, hrow⟩, fun u v hc => ?_⟩
  simp only [World.cell?, hrow] at hc
  exfalso
  have h2 : ∀ x ∈ ksI.map (Value.int .u32), ∀ u v, x ≠ .iface u v := by
   intro x hx u v
   obtain ⟨z, _, rfl⟩ := List.mem_map.1 hx
   simp
  have h3 : (ksI.map (Value.int .u32))[off]? = some (.iface u v) := by simpa using hc
  exact h2 _ (List.mem_of_getElem? h3) u v rfl
end Go.Proofs.YtpecmnaikjbanaaGreatDoor
/-
 BlobsWhole answers true, whatever it is given; what it is given reads behind the call as it read before. No condition.
-/
namespace Go.Proofs.YtpecmnaikjbanaaGreatDoor.blobsWhole
open Go Go.SL
open Go.ChangeShapes Go.WideShapes Go.ChangeAt Go.RowKit
open Go.ChangeMaps (open_string shut_string)
set_option linter.unusedVariables false
set_option linter.unusedSimpArgs false
theorem own : ownKnob Tryz.prog.godebug = none := by kernel_rfl
theorem laidOut : laidOutB Tryz.prog = true := by kernel_rfl
set_option maxRecDepth 100000 in
theorem lifted (os : Os) (started : os.Started) (H : Type) (enc : TypeId × Value → H) :
    ReturnsInHanded {} Tryz.checked os 8 .any (fun w args => (Rows.blobsWholeSpec.pre enc Tryz.prog Tryz.f8 Rows.blobsWholeRow.domain false w args ∧ laidMet Tryz.prog [("starling/digest.constants", Rows.laid_starling_digest_constants)] w) ∧ sizedMet enc Tryz.prog Tryz.f8 (OpenSpec.ofChange Rows.blobsWholeSpec) false w args) (Rows.blobsWholeSpec.post enc Tryz.prog Tryz.f8 false true false false) := by
  refine returnsInHanded_of_change_and (C := Tryz.checked) (X := fun w _ => laidMet Tryz.prog [("starling/digest.constants", Rows.laid_starling_digest_constants)] w) (fun _ _ _ hh h => h.of_heap hh) own started (by kernel_rfl) Tryz.func8
    (ChangeSpec.witness_at (enc := enc) (C := Tryz.checked) (os := os) (X := fun w _ => laidMet Tryz.prog [("starling/digest.constants", Rows.laid_starling_digest_constants)] w) false (laidWorld os) #[.slice none 0 0, .int .i64 0, .slice none 0 0] 8 rfl (by kernel_rfl) (by kernel_rfl) (by kernel_rfl) (by kernel_rfl) (by kernel_rfl) (laidWorld_met os #[.slice none 0 0, .int .i64 0, .slice none 0 0])) ?_
  intro W base args ds gs before hval0 hW hcnd _ hL _
  have hval : ∀ (j : Nat) t v, Tryz.f8.params[j]? = some t → args[j]? = some v → Value.okWide Tryz.prog W .any base t v := hval0
  have hW' := hW
  obtain ⟨p, q, hA0, hV, rfl, hfz, hnd⟩ := hW
  have hA : DataW.TrodAll enc Tryz.prog W 0 (fun _ => true) true Tryz.f8.params.toList args.toList ds p := hA0
  rw [Tryz.params8] at hA hval
  obtain ⟨v0, vs0, d0, ds0, p0, q0, hargs, rfl, rfl, h0, r0⟩ := trodAll_cons hA
  obtain ⟨v1, vs1, d1, ds1, p1, q1, rfl, rfl, rfl, h1, r1⟩ := trodAll_cons r0
  obtain ⟨v2, vs2, d2, ds2, p2, q2, rfl, rfl, rfl, h2, r2⟩ := trodAll_cons r1
  obtain ⟨rfl, rfl, rfl⟩ := trodAll_nil r2
  obtain rfl : args = #[v0, v1, v2] := by cases args; simp_all
  obtain ⟨rfl, rfl⟩ := trodVars_none hV
  obtain ⟨a0, len0, cap0, rfl⟩ := okWide_slice Tryz.underlying22 (hval 0 22 v0 rfl rfl)
  have k0 := h0
  have lt0 : ∀ x ∈ p0, x.block < W.heap.size := by obtain ⟨m, hm⟩ := k0; exact DataW.trod_lt m _ _ _ hm
  obtain ⟨bs0, hbl0, hbs0, hv0⟩ : ∃ bs : List UInt8, bs.length = len0 ∧ len0 ≤ 9223372036854775807 ∧ Vw (old W) (.slice a0 len0 cap0) len0 (bV bs) ∧ len0 ≤ cap0 := by
    obtain ⟨fuel, hf⟩ := h0
    rcases open_ints Tryz.underlying22 Tryz.underlying5 (by kernel_rfl) hf with ⟨hcs, _⟩ | ⟨x, l, c, zs, hcs, _, hl, hm, hz, _, hcell, hwz⟩
    · simp [Value.cells] at hcs
      obtain ⟨rfl, rfl, rfl⟩ := hcs
      exact ⟨[], rfl, by omega, nil_view W, Nat.le_refl _⟩
    · simp [Value.cells] at hcs
      obtain ⟨rfl, rfl, rfl⟩ := hcs
      obtain ⟨bs, h1, h2⟩ := bytes_view (len := len0) (cap := cap0) (by simp at hz; omega) hcell hwz
      exact ⟨bs, h1, by have : maxLen = 9223372036854775807 := by decide
                        omega, h2, hl⟩
  subst hbl0
  obtain ⟨a1, rfl, rfl, rfl, w1⟩ := open_int Tryz.underlying3 (hval 1 3 v1 rfl rfl) h1
  obtain ⟨a2, len2, cap2, rfl⟩ := okWide_slice Tryz.underlying70 (hval 2 70 v2 rfl rfl)
  have k2 := h2
  have lt2 : ∀ x ∈ p2, x.block < W.heap.size := by obtain ⟨m, hm⟩ := k2; exact DataW.trod_lt m _ _ _ hm
  obtain ⟨bs2, hv2, hbs2, hbr2⟩ : ∃ l : List Int, Vw (old W) (.slice a2 len2 cap2) l.length (iV l) ∧ l.length ≤ 9223372036854775807 ∧ ∀ x ∈ l, SL.i64 x := by
    obtain ⟨fuel, hf⟩ := h2
    exact open_intsV Tryz.underlying70 Tryz.underlying3 (by kernel_rfl) (by simpa [Value.cells] using hf)
  clear hA0 hval0
  refine (row_walk (BWhole_any (old W) (KAt_of_laid hL) _ bs0 ⟨hv0.1, _, _, rfl, hv0.2⟩ hbs0 a1 _ bs2 hv2 hbs2 hbr2)).mono fun e W' ⟨he, bel⟩ => ?_
  subst he
  exact ⟨_, rfl, _, _, _, [], _, [], hW', trodAll_mk1 (shut_bool Tryz.underlying4 _), (trodAll_cons_mk (Below.trod laidOut (by kernel_rfl) (of_decide_eq_true (by kernel_rfl)) k0 bel lt0) (trodAll_cons_mk (shut_int Tryz.underlying3 w1) (trodAll_cons_mk (Below.trod laidOut (by kernel_rfl) (of_decide_eq_true (by kernel_rfl)) k2 bel lt2) trodAll_mk0))), rfl, bel.frame _, fun h => by cases h⟩
theorem proved : Rows.BlobsWholeSaid :=
 OpenClaim.holds_of_wide 8 Tryz.f8 rfl rfl rfl rfl rfl rfl rfl ⟨rfl, rfl, rfl, rfl, rfl⟩ rfl rfl rfl rfl rfl (by kernel_rfl) Tryz.func8 (by kernel_rfl)
  (of_decide_eq_true (by kernel_rfl)) (by unfold Func.isWrapper; first | (rw [if_pos (by decide +kernel)]; kernel_rfl) | (rw [if_neg (by decide +kernel)]; exact ⟨rfl, rfl⟩))
  (fun os started H enc _ => lifted os started H enc)
#print axioms proved
end Go.Proofs.YtpecmnaikjbanaaGreatDoor.blobsWhole
