/- Texts of one claim, joined: Sc, Jm, EngZ, EngS, EngW, Jn0, Jr, Jr2, Js, Sd. -/
import Derived.Test.YtpdmbmnhgcnelaaQHeads3
import Derived.Test.YtpdmbmnhgcnelaaQHeads8
import Derived.Test.YtpdmbmnhgcnelaaQHeads10
import Derived.ProofKit
import Derived.Below
import Derived.OpenShut
import Derived.Deep.Slices
import Derived.DataElems
/- the reference's journal, part d: put. -/
set_option linter.unusedVariables false
set_option linter.unusedSimpArgs false
namespace Go.Proofs.Ytpdmbmnhgcnelaa
open Go Go.SL
attribute [local irreducible] J K Ctr Ends pts slc mapR mapI sbRow stock arrS loopP CtrY diskA LI listH rdM

set_option maxHeartbeats 4000000 in
set_option maxRecDepth 20000 in
theorem refPut_any (br jb k : Nat) (m : RM) (hM : MOk m k) (hk : k + 4 ≤ 100000) (name : ByteArray) (hname : name.size ≤ 1000000000) (n s o : Int) (bk : Bool) (A : HP) (lv : Value) (ls : List (List UInt8)) (hv : LAt A lv ls) (hl : (ls.flatMap encL).length ≤ 100000000) (hn : ls.length ≤ 1000000000) :
    Ctr Try.prog 48 [ptr jb, lv] [rdM br m, pts jb (cl [ptr br, .string name, .int .i64 n, .int .i64 s, .int .i64 o, .bool bk] 97), A]
      (fun r H => r = .int .i64 ((m.put name ls).1 : Int) ∧ H = [rdM br (m.put name ls).2, pts jb (cl (if (m.put name ls).1 = 0 then [ptr br, .string name, .int .i64 1, .int .i64 ((ls.flatMap encL).length : Int), .int .i64 ((ls.flatMap encL).length : Int), .bool bk] else [ptr br, .string name, .int .i64 n, .int .i64 s, .int .i64 o, .bool bk]) 97), A]) := by
  have hfr : (freshOf name).size ≤ 9223372036854775807 := by
    have : (freshOf name).size = name.size + 4 := by unfold freshOf; rw [ByteArray.size_append]; rfl
    omega
  have hM0 := hM.put0 (by omega) name
  have hM1 := hM.put1 (by omega) name
  have hM2 := hM.put2 (by omega) name ls
  have hM3 := hM.put3 (by omega) name ls
  have hM4 := hM.put4 hk name ls
  refine Ctr.enter Try.func48 (by kernel_rfl) rfl Try.ntmps48 rfl rfl ?_
  intro G F R hE
  (refine go ?_)
  refine J_strAdd rfl rfl rfl (by show name.size + 4 ≤ _; omega) ?_
  refine J_slot 14 (.string (freshOf name)) rfl rfl ?_
  (refine go ?_)
  (first | refine J_callE rfl rfl rfl rfl (Size_rM br k m hM (freshOf name)) entA ?_ (fun _ _ _ _ _ => trivial) | refine J_call0E rfl rfl rfl (Size_rM br k m hM (freshOf name)) entA ?_ (fun _ _ _ _ _ => trivial) | (refine go ?_; first | refine J_callE rfl rfl rfl rfl (Size_rM br k m hM (freshOf name)) entA ?_ (fun _ _ _ _ _ => trivial) | refine J_call0E rfl rfl rfl (Size_rM br k m hM (freshOf name)) entA ?_ (fun _ _ _ _ _ => trivial)))
  rintro _ _ ⟨rfl, rfl⟩
  (refine go ?_)
  refine K_mid 1 (fun _ : Unit => (m.put0 name).1 = 0) (fun _ => [(0, ptr jb), (1, lv), (5, .string (freshOf name))]) (fun _ => rdM br (m.put0 name).2 :: pts jb (cl [ptr br, .string name, .int .i64 n, .int .i64 s, .int .i64 o, .bool bk] 97) :: A :: F) rfl ?_ ?_
  rotate_left
  · intro tail
    by_cases hz : (m.size (freshOf name)).2 = 0
    · have e0 : m.put0 name = m.remove (isName (freshOf name)) (freshOf name) := if_pos hz
      refine K_condP rfl rfl ?_ ?_
      case' refine_2 => (intro h; exact absurd (by omega) h)
      intro _
      (refine go ?_)
      (first | refine J_callE rfl rfl rfl rfl (Remove_rM br k m hM (freshOf name) hfr) entA ?_ (fun _ _ _ _ _ => trivial) | refine J_call0E rfl rfl rfl (Remove_rM br k m hM (freshOf name) hfr) entA ?_ (fun _ _ _ _ _ => trivial) | (refine go ?_; first | refine J_callE rfl rfl rfl rfl (Remove_rM br k m hM (freshOf name) hfr) entA ?_ (fun _ _ _ _ _ => trivial) | refine J_call0E rfl rfl rfl (Remove_rM br k m hM (freshOf name) hfr) entA ?_ (fun _ _ _ _ _ => trivial)))
      rintro _ _ ⟨rfl, rfl⟩
      rw [← e0]
      by_cases hno : (m.put0 name).1 = 0
      · (refine go ?_)
        refine K_condP rfl rfl ?_ ?_
        · intro h; exact absurd (by omega) h
        intro _
        refine K_to tail () rfl hno (by repeat (first | exact keep_nil | refine keep_cons rfl ?_)) entA
      · (refine go ?_)
        refine K_condP rfl rfl ?_ ?_
        case' refine_2 => (intro h; exact absurd (by omega) h)
        intro _
        have f0 : (m.put1 name) = (m.put0 name) := andThen_no hno _
        have f1 : (m.put2 name ls) = (m.put1 name) := andThen_no (by rw [f0]; exact hno) _
        have f2 : (m.put3 name ls) = (m.put2 name ls) := andThen_no (by rw [f1, f0]; exact hno) _
        have f3 : (m.put4 name ls) = (m.put3 name ls) := andThen_no (by rw [f2, f1, f0]; exact hno) _
        have f4 : (m.put name ls) = (m.put4 name ls) := andThen_no (by rw [f3, f2, f1, f0]; exact hno) _
        rw [f4, f3, f2, f1, f0, if_neg hno] at hE
        (refine go ?_)
        (first | refine K_return hE Try.func48 rfl _ rfl ⟨rfl, rfl⟩ entA | refine K_fallEnd hE Try.func48 rfl _ rfl ⟨rfl, rfl⟩ entA)
    · have e0 : m.put0 name = (0, m) := if_neg hz
      refine K_condP rfl rfl ?_ ?_
      · intro h; exact absurd (by omega) hz
      intro _
      rw [show rdM br m = rdM br (m.put0 name).2 from by rw [e0]]
      refine K_to tail () rfl (by rw [e0]) (by repeat (first | exact keep_nil | refine keep_cons rfl ?_)) entA
  rintro - h0
  (refine go ?_)
  have e1 : m.put1 name = (m.put0 name).2.create (isName (freshOf name)) (freshOf name) := andThen_ok h0 _
  (first | refine J_callE rfl rfl rfl rfl (Create_rM br (k + 1) _ hM0 (freshOf name) hfr) entA ?_ (fun _ _ _ _ _ => trivial) | refine J_call0E rfl rfl rfl (Create_rM br (k + 1) _ hM0 (freshOf name) hfr) entA ?_ (fun _ _ _ _ _ => trivial) | (refine go ?_; first | refine J_callE rfl rfl rfl rfl (Create_rM br (k + 1) _ hM0 (freshOf name) hfr) entA ?_ (fun _ _ _ _ _ => trivial) | refine J_call0E rfl rfl rfl (Create_rM br (k + 1) _ hM0 (freshOf name) hfr) entA ?_ (fun _ _ _ _ _ => trivial)))
  rintro _ _ ⟨rfl, rfl⟩
  rw [← e1]
  (refine go ?_)
  (first | refine J_callE rfl rfl rfl rfl (refAll_any A lv ls hv (by omega) hn) entA ?_ (fun _ _ _ _ _ => trivial) | refine J_call0E rfl rfl rfl (refAll_any A lv ls hv (by omega) hn) entA ?_ (fun _ _ _ _ _ => trivial) | (refine go ?_; first | refine J_callE rfl rfl rfl rfl (refAll_any A lv ls hv (by omega) hn) entA ?_ (fun _ _ _ _ _ => trivial) | refine J_call0E rfl rfl rfl (refAll_any A lv ls hv (by omega) hn) entA ?_ (fun _ _ _ _ _ => trivial)))
  rintro bv _ rfl
  (first | refine J_shape 0 rfl ?_ | refine K_shape 0 rfl ?_)
  rintro ba bc rfl
  obtain ⟨B, hB⟩ : ∃ B, B = ls.flatMap encL := ⟨_, rfl⟩
  rw [← hB] at hl hE ⊢
  refine J_slcB (bs := B) 0 rfl ?_
  intro hbb
  by_cases h1 : (m.put1 name).1 = 0
  case neg =>
    have hno := h1
    have f0 : (m.put2 name ls) = (m.put1 name) := andThen_no hno _
    have f1 : (m.put3 name ls) = (m.put2 name ls) := andThen_no (by rw [f0]; exact hno) _
    have f2 : (m.put4 name ls) = (m.put3 name ls) := andThen_no (by rw [f1, f0]; exact hno) _
    have f3 : (m.put name ls) = (m.put4 name ls) := andThen_no (by rw [f2, f1, f0]; exact hno) _
    rw [f3, f2, f1, f0, if_neg hno] at hE
    (refine go ?_)
    (first | refine J_slot 44 ((.bool false)) rfl ((congrArg Value.bool (decide_eq_false (fun h => hno (by omega))))) ?_ | refine K_slot 44 ((.bool false)) rfl ((congrArg Value.bool (decide_eq_false (fun h => hno (by omega))))) ?_)
    (refine go ?_)
    (first | refine J_slot 60 ((.bool false)) rfl ((congrArg Value.bool (decide_eq_false (fun h => hno (by omega))))) ?_ | refine K_slot 60 ((.bool false)) rfl ((congrArg Value.bool (decide_eq_false (fun h => hno (by omega))))) ?_)
    (refine go ?_)
    (first | refine J_slot 68 ((.bool false)) rfl ((congrArg Value.bool (decide_eq_false (fun h => hno (by omega))))) ?_ | refine K_slot 68 ((.bool false)) rfl ((congrArg Value.bool (decide_eq_false (fun h => hno (by omega))))) ?_)
    (refine go ?_)
    (first | refine J_slot 80 ((.bool false)) rfl ((congrArg Value.bool (decide_eq_false (fun h => hno (by omega))))) ?_ | refine K_slot 80 ((.bool false)) rfl ((congrArg Value.bool (decide_eq_false (fun h => hno (by omega))))) ?_)
    (refine go ?_)
    (first | refine J_slot 87 ((.bool false)) rfl ((congrArg Value.bool (decide_eq_false (fun h => hno (by omega))))) ?_ | refine K_slot 87 ((.bool false)) rfl ((congrArg Value.bool (decide_eq_false (fun h => hno (by omega))))) ?_)
    (refine go ?_)
    (first | refine K_return hE Try.func48 rfl _ rfl ⟨rfl, rfl⟩ entA | refine K_fallEnd hE Try.func48 rfl _ rfl ⟨rfl, rfl⟩ entA)
  (refine go ?_)
  refine K_condP rfl rfl ?_ ?_
  case' refine_2 => (intro h; exact absurd (by omega) h)
  intro _
  refine K_adv1 rfl ?_
  obtain ⟨W1, hW1⟩ : ∃ W1, W1 = List.replicate 16 0 ++ headL 1 B.length := ⟨_, rfl⟩
  have hW1l : W1.length = 32 := by rw [hW1, List.length_append, headL_len]; simp
  refine K_mid 1 (fun y : Option Addr × Nat => True) (fun y => [(0, ptr jb), (5, .string (freshOf name)), (8, .slice ba B.length bc), (9, .slice y.1 W1.length y.2)]) (fun y => slc 5 1 (.slice y.1 W1.length y.2) W1.length (bV W1) :: slc 5 1 (.slice ba B.length bc) B.length (bV B) :: rdM br (m.put1 name).2 :: pts jb (cl [ptr br, .string name, .int .i64 n, .int .i64 s, .int .i64 o, .bool bk] 97) :: A :: F) rfl ?_ ?_
  rotate_left
  · intro tail
    refine K_drawA (fun w => Sat G w ([])) (.st 1 (.st 2 (.fork (.act 0 (.act 3 (.act 4 (.st 5 .nil)))) (.act 3 (.act 0 (.act 4 (.st 5 .nil))))))) rfl (by kernel_rfl) (by kernel_rfl) (by kernel_rfl) (fun w hw => hw.ent entA) ?_
    repeat' (first
      | refine J_fork ?_ ?_
      | (refine J_makeSlice (U := tab) (p := 16) (q := 16) rfl rfl rfl rfl rfl rfl rfl rfl rfl (by omega) (by omega) (by show 1 * 16 ≤ _; omega) (fun _ w hw => by exact hw.ent entA) ?_; intro m0)
      | ((first | refine J_callE rfl rfl rfl rfl (refHead_any 1 B.length (by omega) (by omega)) entA ?_ (fun _ _ w hp hw => by obtain rfl := hp; exact hw.ent entA) | refine J_call0E rfl rfl rfl (refHead_any 1 B.length (by omega) (by omega)) entA ?_ (fun _ _ w hp hw => by obtain rfl := hp; exact hw.ent entA)); rintro _ _ rfl; (first | refine J_shape 0 rfl ?_ | refine K_shape 0 rfl ?_); rintro ra rc rfl; refine J_slcB (bs := headL 1 B.length) 0 rfl ?_; intro hb1)
      | (refine go1 ?_)
      | fail)
    case' pos.refine_1.refine_2.refine_1 => refine J_ent (Ent.pick [1] rfl) ?_
    all_goals (
      refine J_ent (slc_row 5 1 m0 16 16 (bV (List.replicate 16 0)) [] _ rfl (Nat.le_refl _) (by simp [bV])) ?_
      (refine go ?_)
      refine J_append (U := tab) (mm := (headL 1 B.length).length) (news := bV (headL 1 B.length)) 0 1 rfl rfl rfl rfl rfl rfl rfl rfl rfl rfl rfl rfl hb1.1 (by show _ = _ * 1; rw [bV_length]; omega) (bV_one _) (by rw [headL_len]; omega) (by show (_ + _) * 1 ≤ _; rw [headL_len]; omega) (fun _ => rfl) (fun _ w hw => by exact hw.ent entA) ?_
      intro v1
      rw [show bV (List.replicate 16 0) ++ bV (headL 1 B.length) = bV W1 from by rw [hW1]; simp [bV], show 16 + (headL 1 B.length).length = W1.length from by rw [hW1l, headL_len]]
      (first | refine J_shape 0 rfl ?_ | refine K_shape 0 rfl ?_)
      rintro wa wc rfl
      (refine goR ?_)
      refine K_to tail (wa, wc) rfl trivial (by repeat (first | exact keep_nil | refine keep_cons rfl ?_)) entA)
  rintro ⟨wa, wc⟩ -
  simp only
  refine K_slcB (bs := W1) 0 rfl ?_
  intro hbw
  obtain ⟨W, hW⟩ : ∃ W, W = wholeOf ls := ⟨_, rfl⟩
  have hWW : W1 ++ B = W := by rw [hW, hW1, hB]; rfl
  have hWl : W.length = 32 + B.length := by rw [← hWW, List.length_append]; omega
  have e2 : m.put2 name ls = (m.put1 name).2.write (wOk (freshOf name) 0 (wholeOf ls).length) (freshOf name) 0 (wholeOf ls) := andThen_ok h1 _
  rw [← hW] at e2
  (refine go ?_)
  refine K_drawA (fun w => Sat G w ([pts jb (cl [ptr br, .string name, .int .i64 n, .int .i64 s, .int .i64 o, .bool bk] 97)])) (.st 0 (.st 1 (.st 2 (.st 3 (.st 4 (.st 5 (.st 6 (.act 7 (.act 8 (.st 9 .nil)))))))))) rfl (by kernel_rfl) (by kernel_rfl) (by kernel_rfl) (fun w hw => hw.ent entA) ?_
  (refine go ?_)
  refine J_append (U := tab) (mm := B.length) (news := bV B) 0 1 rfl rfl rfl rfl rfl rfl rfl rfl rfl rfl rfl rfl hbb.1 (by show _ = _ * 1; rw [bV_length]; omega) (bV_one _) (by omega) (by show (_ + _) * 1 ≤ _; omega) (fun _ => rfl) (fun _ w hw => by exact hw.ent entA) ?_
  intro v1
  rw [show bV W1 ++ bV B = bV W from by rw [← hWW]; simp [bV], show W1.length + B.length = W.length from by omega]
  (first | refine J_shape 0 rfl ?_ | refine K_shape 0 rfl ?_)
  rintro va vc rfl
  refine J_slcB (bs := W) 0 rfl ?_
  intro hbW
  (refine go ?_)
  (first | refine J_callE rfl rfl rfl rfl (Write_rM br (k + 2) _ hM1 (freshOf name) hfr 0 (by omega) _ _ W hbW.1 (by omega)) entA ?_ (fun _ _ w hp hw => by obtain ⟨rfl, rfl⟩ := hp; exact hw.ent entA) | refine J_call0E rfl rfl rfl (Write_rM br (k + 2) _ hM1 (freshOf name) hfr 0 (by omega) _ _ W hbW.1 (by omega)) entA ?_ (fun _ _ w hp hw => by obtain ⟨rfl, rfl⟩ := hp; exact hw.ent entA))
  rintro _ _ ⟨rfl, rfl⟩
  rw [show (0 : Int).toNat = 0 from rfl, ← e2]
  (refine go ?_)
  by_cases h2 : (m.put2 name ls).1 = 0
  case neg =>
    have hno := h2
    have f0 : (m.put3 name ls) = (m.put2 name ls) := andThen_no hno _
    have f1 : (m.put4 name ls) = (m.put3 name ls) := andThen_no (by rw [f0]; exact hno) _
    have f2 : (m.put name ls) = (m.put4 name ls) := andThen_no (by rw [f1, f0]; exact hno) _
    rw [f2, f1, f0, if_neg hno] at hE
    (refine go ?_)
    (first | refine J_slot 60 ((.bool false)) rfl ((congrArg Value.bool (decide_eq_false (fun h => hno (by omega))))) ?_ | refine K_slot 60 ((.bool false)) rfl ((congrArg Value.bool (decide_eq_false (fun h => hno (by omega))))) ?_)
    (refine go ?_)
    (first | refine J_slot 68 ((.bool false)) rfl ((congrArg Value.bool (decide_eq_false (fun h => hno (by omega))))) ?_ | refine K_slot 68 ((.bool false)) rfl ((congrArg Value.bool (decide_eq_false (fun h => hno (by omega))))) ?_)
    (refine go ?_)
    (first | refine J_slot 80 ((.bool false)) rfl ((congrArg Value.bool (decide_eq_false (fun h => hno (by omega))))) ?_ | refine K_slot 80 ((.bool false)) rfl ((congrArg Value.bool (decide_eq_false (fun h => hno (by omega))))) ?_)
    (refine go ?_)
    (first | refine J_slot 87 ((.bool false)) rfl ((congrArg Value.bool (decide_eq_false (fun h => hno (by omega))))) ?_ | refine K_slot 87 ((.bool false)) rfl ((congrArg Value.bool (decide_eq_false (fun h => hno (by omega))))) ?_)
    (refine go ?_)
    (first | refine K_return hE Try.func48 rfl _ rfl ⟨rfl, rfl⟩ entA | refine K_fallEnd hE Try.func48 rfl _ rfl ⟨rfl, rfl⟩ entA)
  (refine go ?_)
  refine K_condP rfl rfl ?_ ?_
  case' refine_2 => (intro h; exact absurd (by omega) h)
  intro _
  have e3 : m.put3 name ls = (m.put2 name ls).2.sync (isName (freshOf name)) (freshOf name) := andThen_ok h2 _
  (refine go ?_)
  (first | refine J_callE rfl rfl rfl rfl (Sync_rM br (k + 3) _ hM2 (freshOf name) hfr) entA ?_ (fun _ _ _ _ _ => trivial) | refine J_call0E rfl rfl rfl (Sync_rM br (k + 3) _ hM2 (freshOf name) hfr) entA ?_ (fun _ _ _ _ _ => trivial) | (refine go ?_; first | refine J_callE rfl rfl rfl rfl (Sync_rM br (k + 3) _ hM2 (freshOf name) hfr) entA ?_ (fun _ _ _ _ _ => trivial) | refine J_call0E rfl rfl rfl (Sync_rM br (k + 3) _ hM2 (freshOf name) hfr) entA ?_ (fun _ _ _ _ _ => trivial)))
  rintro _ _ ⟨rfl, rfl⟩
  rw [← e3]
  (refine go ?_)
  by_cases h3 : (m.put3 name ls).1 = 0
  case neg =>
    have hno := h3
    have f0 : (m.put4 name ls) = (m.put3 name ls) := andThen_no hno _
    have f1 : (m.put name ls) = (m.put4 name ls) := andThen_no (by rw [f0]; exact hno) _
    rw [f1, f0, if_neg hno] at hE
    (refine go ?_)
    (first | refine J_slot 68 ((.bool false)) rfl ((congrArg Value.bool (decide_eq_false (fun h => hno (by omega))))) ?_ | refine K_slot 68 ((.bool false)) rfl ((congrArg Value.bool (decide_eq_false (fun h => hno (by omega))))) ?_)
    (refine go ?_)
    (first | refine J_slot 80 ((.bool false)) rfl ((congrArg Value.bool (decide_eq_false (fun h => hno (by omega))))) ?_ | refine K_slot 80 ((.bool false)) rfl ((congrArg Value.bool (decide_eq_false (fun h => hno (by omega))))) ?_)
    (refine go ?_)
    (first | refine J_slot 87 ((.bool false)) rfl ((congrArg Value.bool (decide_eq_false (fun h => hno (by omega))))) ?_ | refine K_slot 87 ((.bool false)) rfl ((congrArg Value.bool (decide_eq_false (fun h => hno (by omega))))) ?_)
    (refine go ?_)
    (first | refine K_return hE Try.func48 rfl _ rfl ⟨rfl, rfl⟩ entA | refine K_fallEnd hE Try.func48 rfl _ rfl ⟨rfl, rfl⟩ entA)
  (refine go ?_)
  refine K_condP rfl rfl ?_ ?_
  case' refine_2 => (intro h; exact absurd (by omega) h)
  intro _
  have e4 : m.put4 name ls = (m.put3 name ls).2.rename (isName (freshOf name) && isName name) (freshOf name) name := andThen_ok h3 _
  (refine go ?_)
  refine K_drawA (fun w => Sat G w ([pts jb (cl [ptr br, .string name, .int .i64 n, .int .i64 s, .int .i64 o, .bool bk] 97)])) (.st 0 (.st 1 (.st 2 (.st 3 (.st 4 (.st 5 (.st 6 (.st 7 (.st 8 (.act 9 (.st 10 .nil))))))))))) rfl (by kernel_rfl) (by kernel_rfl) (by kernel_rfl) (fun w hw => hw.ent entA) ?_
  (refine go ?_)
  (first | refine J_callE rfl rfl rfl rfl (Rename_rM br (k + 3) _ hM3 (freshOf name) name hfr (by omega)) entA ?_ (fun _ _ w hp hw => by obtain ⟨rfl, rfl⟩ := hp; exact hw.ent entA) | refine J_call0E rfl rfl rfl (Rename_rM br (k + 3) _ hM3 (freshOf name) name hfr (by omega)) entA ?_ (fun _ _ w hp hw => by obtain ⟨rfl, rfl⟩ := hp; exact hw.ent entA))
  rintro _ _ ⟨rfl, rfl⟩
  rw [← e4]
  (refine go ?_)
  by_cases h4 : (m.put4 name ls).1 = 0
  case neg =>
    have hno := h4
    have f0 : (m.put name ls) = (m.put4 name ls) := andThen_no hno _
    rw [f0, if_neg hno] at hE
    (refine go ?_)
    (first | refine J_slot 80 ((.bool false)) rfl ((congrArg Value.bool (decide_eq_false (fun h => hno (by omega))))) ?_ | refine K_slot 80 ((.bool false)) rfl ((congrArg Value.bool (decide_eq_false (fun h => hno (by omega))))) ?_)
    (refine go ?_)
    (first | refine J_slot 87 ((.bool false)) rfl ((congrArg Value.bool (decide_eq_false (fun h => hno (by omega))))) ?_ | refine K_slot 87 ((.bool false)) rfl ((congrArg Value.bool (decide_eq_false (fun h => hno (by omega))))) ?_)
    (refine go ?_)
    (first | refine K_return hE Try.func48 rfl _ rfl ⟨rfl, rfl⟩ entA | refine K_fallEnd hE Try.func48 rfl _ rfl ⟨rfl, rfl⟩ entA)
  (refine go ?_)
  refine K_condP rfl rfl ?_ ?_
  case' refine_2 => (intro h; exact absurd (by omega) h)
  intro _
  have e5 : m.put name ls = (m.put4 name ls).2.syncNames := andThen_ok h4 _
  (refine go ?_)
  (first | refine J_callE rfl rfl rfl rfl (SyncNames_rM br (m.put4 name ls).2) entA ?_ (fun _ _ _ _ _ => trivial) | refine J_call0E rfl rfl rfl (SyncNames_rM br (m.put4 name ls).2) entA ?_ (fun _ _ _ _ _ => trivial) | (refine go ?_; first | refine J_callE rfl rfl rfl rfl (SyncNames_rM br (m.put4 name ls).2) entA ?_ (fun _ _ _ _ _ => trivial) | refine J_call0E rfl rfl rfl (SyncNames_rM br (m.put4 name ls).2) entA ?_ (fun _ _ _ _ _ => trivial)))
  rintro _ _ ⟨rfl, rfl⟩
  rw [← e5]
  (refine go ?_)
  by_cases h5 : (m.put name ls).1 = 0
  case neg =>
    have hno := h5
    rw [if_neg hno] at hE
    (refine go ?_)
    (first | refine J_slot 87 ((.bool false)) rfl ((congrArg Value.bool (decide_eq_false (fun h => hno (by omega))))) ?_ | refine K_slot 87 ((.bool false)) rfl ((congrArg Value.bool (decide_eq_false (fun h => hno (by omega))))) ?_)
    (refine go ?_)
    (first | refine K_return hE Try.func48 rfl _ rfl ⟨rfl, rfl⟩ entA | refine K_fallEnd hE Try.func48 rfl _ rfl ⟨rfl, rfl⟩ entA)
  (refine go ?_)
  refine K_condP rfl rfl ?_ ?_
  case' refine_2 => (intro h; exact absurd (by omega) h)
  intro _
  rw [if_pos h5] at hE
  (refine go ?_)
  (first | refine K_return hE Try.func48 rfl _ rfl ⟨rfl, rfl⟩ entA | refine K_fallEnd hE Try.func48 rfl _ rfl ⟨rfl, rfl⟩ entA)
end Go.Proofs.Ytpdmbmnhgcnelaa

/- journal, part m: Same, awake. -/
set_option linter.unusedVariables false
set_option linter.unusedSimpArgs false
namespace Go.Proofs.Ytpdmbmnhgcnelaa
open Go Go.SL
theorem slc_cap {e : TypeId} {n : Nat} {v : Value} {cs : List Value} (h0 : ∃ h, slc e 1 v n cs h) : ∃ a c, v = .slice a n c ∧ n ≤ c := by
  obtain ⟨h, hl, ⟨a, rfl, hn, _⟩ | ⟨b, o, cap, pre, junk, rfl, hp, hn, hc, _⟩⟩ := h0
  · exact ⟨a, 0, by rw [hn], by omega⟩
  · exact ⟨_, cap, rfl, hn⟩
attribute [local irreducible] J K Ctr Ends pts slc mapR mapI sbRow stock arrS loopP CtrY diskA LI listH

theorem Same_any (A B : HP) (v1 v2 : Value) (l1 l2 : List (List UInt8)) (h1 : LAt A v1 l1) (h2 : LAt B v2 l2) (hl : l1.length ≤ 1000000000) :
    Ctr Try.prog 16 [v1, v2] [A, B] (fun r H => r = .bool (decide (l1 = l2)) ∧ H = [A, B]) := by
  obtain ⟨cs1, hv1, hc1, ⟨a1, c1, rfl, hca1⟩, he1⟩ := h1
  obtain ⟨cs2, hv2, hc2, ⟨a2, c2, rfl, hca2⟩, he2⟩ := h2
  refine Ctr.enter Try.func16 (by kernel_rfl) rfl Try.ntmps16 rfl rfl ?_
  intro G F R hE
  (refine go ?_)
  refine K_condP rfl rfl ?_ ?_
  · intro hne
    rw [decide_eq_false (show ¬ l1 = l2 from fun e => by subst e; exact hne rfl)] at hE
    (refine go ?_)
    (first | refine K_return hE Try.func16 rfl _ rfl ⟨rfl, rfl⟩ entA | refine K_fallEnd hE Try.func16 rfl _ rfl ⟨rfl, rfl⟩ entA)
  intro heqn
  have hlen : l1.length = l2.length := by omega
  (refine go ?_)
  refine K_loop (fun i : Nat => i ≤ l1.length ∧ ∀ j, j < i → l1[j]? = l2[j]?) (fun i => l1.length - i)
    (fun i => [(0, .slice a1 l1.length c1), (1, .slice a2 l2.length c2), (5, .int .i64 (i : Int))])
    (fun _ => A :: B :: F) 0 ⟨Nat.zero_le _, fun j hj => by omega⟩ rfl (by repeat (first | exact keep_nil | refine keep_cons rfl ?_)) entA ?_
  rintro i ⟨hi, heq⟩ ih
  (refine go ?_)
  refine K_condP rfl rfl ?_ ?_
  case' refine_2.refine_2 =>
    intro hge
    have hie : i = l1.length := by omega
    rw [decide_eq_true (show l1 = l2 from List.ext_getElem? fun j => by
      rcases Nat.lt_or_ge j l1.length with h | h
      · exact heq j (by omega)
      · rw [List.getElem?_eq_none (by omega), List.getElem?_eq_none (by omega)])] at hE
    (refine go ?_)
    (first | refine K_return hE Try.func16 rfl _ rfl ⟨rfl, rfl⟩ entA | refine K_fallEnd hE Try.func16 rfl _ rfl ⟨rfl, rfl⟩ entA)
  intro hlt
  have hi1 : i < l1.length := by omega
  have hi2 : i < l2.length := by omega
  obtain ⟨x, hx⟩ : ∃ x, l1[i]? = some x := ⟨l1[i], by simp⟩
  obtain ⟨y, hy⟩ : ∃ y, l2[i]? = some y := ⟨l2[i], by simp⟩
  obtain ⟨cx, hcx, hbx⟩ := he1 i x hx
  obtain ⟨cy, hcy, hby⟩ := he2 i y hy
  obtain ⟨b1, o1, k1, hs1⟩ := hv1.some (by intro e; rw [e] at hcx; simp at hcx)
  obtain ⟨b2, o2, k2, hs2⟩ := hv2.some (by intro e; rw [e] at hcy; simp at hcy)
  simp only [Value.slice.injEq, true_and] at hs1 hs2
  obtain ⟨rfl, rfl⟩ := hs1
  obtain ⟨rfl, rfl⟩ := hs2
  obtain ⟨ax, kx, rfl, hkx⟩ := hbx.2
  obtain ⟨ay, ky, rfl, hky⟩ := hby.2
  (refine go ?_)
  refine K_drawA (fun w => Sat G w ([A, B])) (.st 0 (.st 1 (.st 2 (.st 3 (.st 4 (.st 5 (.st 6 (.st 7 (.st 8 (.st 9 (.st 10 .nil))))))))))) rfl (by kernel_rfl) (by kernel_rfl) (by kernel_rfl) (fun w hw => hw.ent entA) ?_
  (refine go ?_)
  refine J_at1 (U := tab) i rfl rfl rfl rfl rfl rfl rfl rfl hi1 ?_
  refine J_isLoad ?_
  refine J_loadAtS (U := tab) 0 i rfl rfl rfl hv1 rfl hcx rfl rfl ?_
  refine J_toStrS (U := tab) 0 rfl rfl rfl rfl rfl rfl rfl rfl rfl hbx.1 ?_
  (refine go ?_)
  refine J_at1 (U := tab) i rfl rfl rfl rfl rfl rfl rfl rfl hi2 ?_
  refine J_isLoad ?_
  refine J_loadAtS (U := tab) 1 i rfl rfl rfl hv2 rfl hcy rfl rfl ?_
  refine J_toStrS (U := tab) 1 rfl rfl rfl rfl rfl rfl rfl rfl rfl hby.1 ?_
  (refine go ?_)
  (first | refine J_slot 27 ((.bool (decide (¬ x = y)))) rfl ((by rw [eqS_strOf, decide_not])) ?_ | refine K_slot 27 ((.bool (decide (¬ x = y)))) rfl ((by rw [eqS_strOf, decide_not])) ?_)
  refine K_condP rfl rfl ?_ ?_
  · intro hxy
    rw [decide_eq_false (show ¬ l1 = l2 from fun e => by subst e; rw [hx] at hy; cases hy; exact hxy rfl)] at hE
    (refine go ?_)
    (first | refine K_return hE Try.func16 rfl _ rfl ⟨rfl, rfl⟩ entA | refine K_fallEnd hE Try.func16 rfl _ rfl ⟨rfl, rfl⟩ entA)
  intro hxy
  have hxy' : x = y := Decidable.not_not.1 hxy
  (refine go ?_)
  refine K_again ih (i + 1) rfl (⟨by omega, fun j hj => by
    rcases Nat.lt_or_ge j i with h | h
    · exact heq j h
    · rw [show j = i from by omega, hx, hy, hxy']⟩) (by omega) (by repeat (first | exact keep_nil | refine keep_cons rfl ?_)) entA
theorem LAt.rows {X : HP} {v : Value} {ls : List (List UInt8)} {cs : List Value} (hl : cs.length = ls.length) (hcs : ∀ (j : Nat) (z : List UInt8), ls[j]? = some z → ∃ cv, cs[j]? = some cv ∧ BAt X cv z) (h0 : ∃ h, slc 22 1 v ls.length cs h) : LAt (Sep [slc 22 1 v ls.length cs, X]) v ls := by
  have hv := Vw.of_slc 22 1 v ls.length cs h0
  refine ⟨cs, hv.mono (Sep_get (i := 0) rfl), hl, slc_cap h0, fun i x hx => ?_⟩
  obtain ⟨cv, h1, h2⟩ := hcs i x hx
  exact ⟨cv, h1, h2.mono (Sep_get (i := 1) rfl)⟩
end Go.Proofs.Ytpdmbmnhgcnelaa
namespace Go.Proofs.Ytpdmbmnhgcnelaa
open Go Go.SL
theorem Same_L (v1 v2 : Value) (l1 l2 : List (List UInt8)) (cs2 : List Value) (X : HP) (hl2 : cs2.length = l2.length) (hcs : ∀ (j : Nat) (z : List UInt8), l2[j]? = some z → ∃ cv, cs2[j]? = some cv ∧ BAt X cv z) (hl : l1.length ≤ 1000000000) :
    Ctr Try.prog 16 [v1, v2] [listH v1 l1, slc 22 1 v2 l2.length cs2, X] (fun r H => r = .bool (decide (l1 = l2)) ∧ H = [listH v1 l1, slc 22 1 v2 l2.length cs2, X]) :=
  ⟨by kernel_rfl, fun G w F hw => by
    obtain ⟨t, o, u, hp, hpw, h1, h2, ⟨x, hR, hA⟩, hH, hd, he⟩ := hw
    obtain ⟨cs, M⟩ := x
    simp only at hR hA
    have hw1 : Sat G w (Sep [slc 22 1 v1 l1.length cs, arrS 5 M] :: slc 22 1 v2 l2.length cs2 :: X :: F) := ⟨t, o, u, hp, hpw, h1, h2, hA, hH, hd, he⟩
    obtain ⟨h', _, hs'⟩ := Sep_get (i := 0) rfl h1 hA
    have lat1 := hR.lat ⟨h', hs'⟩
    obtain ⟨h3, _, hA3⟩ := hw1.getA (i := 1) rfl
    have lat2 := LAt.rows hl2 hcs ⟨h3, hA3⟩
    refine ((Same_any _ _ v1 v2 l1 l2 lat1 lat2 hl).2 G w F (hw1.ent (Ent.cons _ (Ent.resep [slc 22 1 v2 l2.length cs2, X] F)))).mono ?_
    rintro e w' ⟨v, H, rfl, ⟨hv, rfl⟩, hs⟩
    refine ⟨v, _, rfl, ⟨hv, rfl⟩, hs.ent ?_⟩
    refine (Ent.fold (A := listH v1 l1) (B := [Sep [slc 22 1 v1 l1.length cs, arrS 5 M]]) (fun h hs => ⟨h, sub.refl h, (cs, M), hR, Sep_one hs⟩)).trans ?_
    exact Ent.cons _ (Ent.unsep [slc 22 1 v2 l2.length cs2, X] F)⟩
attribute [local irreducible] J K Ctr Ends pts slc mapR mapI sbRow stock arrS loopP CtrY diskA LI listH
/-- The name of the journal in the statements. -/
def nmJ : ByteArray := ⟨#[106]⟩
theorem nmJ_name : isName nmJ = true := by decide
theorem nmJ_fresh : isName (freshOf nmJ) = true := by decide
theorem nmJ_ne : freshOf nmJ ≠ nmJ := by decide
theorem awake_any : Ctr Try.prog 6 [] [] (fun r H => r = .bool true ∧ H = []) := by
  refine Ctr.enter Try.func6 (by kernel_rfl) rfl Try.ntmps6 rfl rfl ?_
  intro G F R hE
  (refine go ?_)
  (first | refine J_callE rfl rfl rfl rfl (New_dA 10000 (by omega) (by omega)) entA ?_ (fun _ _ _ _ _ => trivial) | refine J_call0E rfl rfl rfl (New_dA 10000 (by omega) (by omega)) entA ?_ (fun _ _ _ _ _ => trivial) | (refine go ?_; first | refine J_callE rfl rfl rfl rfl (New_dA 10000 (by omega) (by omega)) entA ?_ (fun _ _ _ _ _ => trivial) | refine J_call0E rfl rfl rfl (New_dA 10000 (by omega) (by omega)) entA ?_ (fun _ _ _ _ _ => trivial)))
  rintro _ _ ⟨bd, rfl, rfl⟩
  (refine go ?_)
  (first | refine J_callE rfl rfl rfl rfl (Open_any bd nmJ (Ab.new 10000) (by decide) (by simp [Ab.new]) (by simp [Ab.new])) entA ?_ (fun _ _ _ _ _ => trivial) | refine J_call0E rfl rfl rfl (Open_any bd nmJ (Ab.new 10000) (by decide) (by simp [Ab.new]) (by simp [Ab.new])) entA ?_ (fun _ _ _ _ _ => trivial) | (refine go ?_; first | refine J_callE rfl rfl rfl rfl (Open_any bd nmJ (Ab.new 10000) (by decide) (by simp [Ab.new]) (by simp [Ab.new])) entA ?_ (fun _ _ _ _ _ => trivial) | refine J_call0E rfl rfl rfl (Open_any bd nmJ (Ab.new 10000) (by decide) (by simp [Ab.new]) (by simp [Ab.new])) entA ?_ (fun _ _ _ _ _ => trivial)))
  rintro _ _ ⟨e, A1, x, ho, hpost⟩
  obtain ⟨rfl, hx, ⟨g, hI⟩, hw⟩ := open_law (new_putOk 10000 nmJ) nmJ_name nmJ_fresh nmJ_ne (new_file _ _) (by decide) (by rw [new_used]; decide) ho
  rcases hpost with ⟨h, -⟩ | ⟨-, jb, lv, rfl, rfl⟩
  · exact absurd rfl h
  subst hx
  (refine go ?_)
  refine J_buildSlice1 (U := tab) (cs := bV [7]) rfl rfl rfl rfl rfl rfl rfl rfl rfl (fun _ _ _ => trivial) ?_
  intro row
  have hb7 : BAt (pts row (cl (bV [7]) 5)) (.slice (some ⟨row, 0, none⟩) 1 1) [7] := ⟨Vw.pts rfl, _, _, rfl, Nat.le_refl 1⟩
  have h7 : (encL [7]).length = 2 := by unfold encL; rw [show ([7] : List UInt8).length = 1 from rfl, uv_small (by decide)]; rfl
  have hap := append_law (b := [7]) hI nmJ_name (by decide) (by rw [h7]; decide) (by rw [h7]; decide)
  have hac := Append_any jb bd nmJ A1 ⟨1, ((([] : List (List UInt8)).flatMap encL).length : Int), ((([] : List (List UInt8)).flatMap encL).length : Int), false⟩ _ _ [7] hb7 (by decide) (by decide) (by have := hw; simp [Ab.new] at this; omega)
  obtain ⟨q, hq⟩ : ∃ q, q = appendA nmJ A1 ⟨1, ((([] : List (List UInt8)).flatMap encL).length : Int), ((([] : List (List UInt8)).flatMap encL).length : Int), false⟩ [7] := ⟨_, rfl⟩
  rw [← hq] at hap hac
  obtain ⟨e1, A2, x2⟩ := q
  obtain ⟨rfl, rfl, hI2, hw2⟩ := hap
  (first | refine J_callE rfl rfl rfl rfl (hac) entA ?_ (fun _ _ _ _ _ => trivial) | refine J_call0E rfl rfl rfl (hac) entA ?_ (fun _ _ _ _ _ => trivial) | (refine go ?_; first | refine J_callE rfl rfl rfl rfl (hac) entA ?_ (fun _ _ _ _ _ => trivial) | refine J_call0E rfl rfl rfl (hac) entA ?_ (fun _ _ _ _ _ => trivial)))
  rintro _ _ ⟨rfl, rfl⟩
  have hs2 : (((([] : List (List UInt8)).flatMap encL ++ encL [7]).length : Nat) : Int) = 2 := by rw [List.flatMap_nil, List.nil_append, h7]; rfl
  simp only [hs2]
  (refine go ?_)
  (first | refine J_callE rfl rfl rfl rfl (JSize_any jb bd nmJ 1 2 ((([] : List (List UInt8)).flatMap encL).length : Int) false) entA ?_ (fun _ _ _ _ _ => trivial) | refine J_call0E rfl rfl rfl (JSize_any jb bd nmJ 1 2 ((([] : List (List UInt8)).flatMap encL).length : Int) false) entA ?_ (fun _ _ _ _ _ => trivial) | (refine go ?_; first | refine J_callE rfl rfl rfl rfl (JSize_any jb bd nmJ 1 2 ((([] : List (List UInt8)).flatMap encL).length : Int) false) entA ?_ (fun _ _ _ _ _ => trivial) | refine J_call0E rfl rfl rfl (JSize_any jb bd nmJ 1 2 ((([] : List (List UInt8)).flatMap encL).length : Int) false) entA ?_ (fun _ _ _ _ _ => trivial)))
  rintro _ _ ⟨rfl, rfl⟩
  (refine go ?_)
  (first | refine K_return hE Try.func6 rfl _ rfl ⟨rfl, rfl⟩ entA | refine K_fallEnd hE Try.func6 rfl _ rfl ⟨rfl, rfl⟩ entA)
end Go.Proofs.Ytpdmbmnhgcnelaa

/- Engine, part Z: from a contract that leaves all old memory to the given row's walk; arguments as views. Nothing here names a program. -/
set_option linter.unusedSimpArgs false
set_option linter.unusedVariables false
namespace Go.SL
open Go.RowKit

/-- All memory as it is. -/
def old (W : World) : HP := fun h => ∀ b, h b = W.heap[b]?
def glob (W : World) : Glob := { tape := W.tape, os := W.os, output := W.output }
theorem Sat_old (W : World) : Sat (glob W) W [old W] := ⟨⟨rfl, Nat.zero_le _⟩, rfl, rfl, fun b => W.heap[b]?, fun _ _ h => h, Sep_one' fun _ => rfl⟩
theorem below_of_sat {W W' : World} (h : Sat (glob W) W' [old W]) : Below W.heap.size W W' := by
  obtain ⟨h1, h2, h3, h0, hw, hs⟩ := h
  have ho := Sep_one hs
  have hb : ∀ k, k < W.heap.size → W'.heap[k]? = W.heap[k]? := fun k hk => by
    have e : W.heap[k]? = some W.heap[k] := by simp [hk]
    rw [e]
    exact hw k _ (by rw [ho k, e])
  refine ⟨h2, h1.1, h3, ?_, hb⟩
  rcases Nat.eq_zero_or_pos W.heap.size with h0 | h0
  · omega
  · have := hb (W.heap.size - 1) (by omega)
    have e : W.heap[W.heap.size - 1]? = some W.heap[W.heap.size - 1] := by simp [h0]
    rw [e] at this
    have := (Array.getElem?_eq_some_iff.1 this).1
    omega
theorem row_walk {P : Program} {f : FuncId} {args : List Value} {W : World} (c : Ctr P f args [old W] (fun v H => v = .bool true ∧ H = [old W])) :
    Calls P f args.toArray W fun e W' => e = .returned (.bool true) ∧ Below W.heap.size W W' :=
  (c.2 (glob W) W [] (Sat_old W)).mono fun e W' h => by
    obtain ⟨v, H, rfl, ⟨rfl, rfl⟩, hs⟩ := h
    exact ⟨rfl, below_of_sat hs⟩

theorem hcell_of_cell {W : World} {h : Hp} {b off : Nat} {v : Value} (ho : old W h) (hc : W.cell? ⟨b, off, none⟩ = some v) : hcell h b off = some v := by
  unfold hcell
  rw [ho b]
  unfold World.cell? at hc
  simp only at hc
  split at hc
  · rename_i c _ _ he
    rw [he]
    simpa using hc
  · cases hc
/-- A row of bytes that came in. -/
theorem bytes_view {W : World} {a : Addr} {len cap : Nat} {zs : List Int} (hl : len ≤ zs.length) (hcell : ∀ i, i < zs.length → W.cell? (a.add i) = some (.int .u8 (zs.getD i 0))) (hwf : ∀ n ∈ zs, (Lit.int .u8 n).wf = true) :
    ∃ bs : List UInt8, bs.length = len ∧ Vw (old W) (.slice (some a) len cap) len (bV bs) := by
  refine ⟨(zs.take len).map fun z => UInt8.ofNat z.toNat, by simp; omega, some a, cap, rfl, ?_⟩
  rcases Nat.eq_zero_or_pos len with h0 | h0
  · left; subst h0; simp [bV]
  · right
    obtain ⟨b, o, spot⟩ := a
    have hsp : spot = none := by simpa [Addr.add] using World.cell?_spot (hcell 0 (by omega))
    subst hsp
    refine ⟨b, o, rfl, fun h ho j c hj => ?_⟩
    have hjl : j < len := by
      rcases Nat.lt_or_ge j len with h | h
      · exact h
      · rw [List.getElem?_eq_none (by simp [bV]; omega)] at hj; cases hj
    have h1 := hcell j (by omega)
    rw [Addr.add_eq] at h1
    have h2 := hcell_of_cell ho h1
    rw [h2]
    have hm : zs[j]'(by omega) ∈ zs := List.getElem_mem _
    have hw := hwf _ hm
    have hb : 0 ≤ zs[j]'(by omega) ∧ zs[j]'(by omega) < 256 := by
      simp only [Lit.wf, Bool.and_eq_true, decide_eq_true_eq] at hw
      have e1 : IntKind.u8.min = 0 := by decide
      have e2 : IntKind.u8.max = 255 := by decide
      omega
    simp only [bV, List.map_map, List.getElem?_map, List.getElem?_take, hjl, if_true] at hj
    rw [List.getElem?_eq_getElem (by omega)] at hj
    simp only [Option.map_some, Option.some.injEq, Function.comp] at hj
    rw [← hj, List.getD_eq_getElem?_getD, List.getElem?_eq_getElem (by omega)]
    simp only [Option.getD_some, u8, UInt8.toNat_ofNat', Option.some.injEq]
    congr 1
    omega
theorem nil_view (W : World) : Vw (old W) (.slice none 0 0) 0 (bV []) := ⟨none, 0, rfl, .inl rfl⟩
theorem i64_range {z : Int} (h : (Lit.int .i64 z).wf = true) : -9223372036854775808 ≤ z ∧ z ≤ 9223372036854775807 := by
  simp only [Lit.wf, Bool.and_eq_true, decide_eq_true_eq] at h
  have e1 : IntKind.i64.min = -9223372036854775808 := by decide
  have e2 : IntKind.i64.max = 9223372036854775807 := by decide
  omega
end Go.SL

/- Engine, part S: rows and arrays of numbers that came in. Nothing here names a program. -/
set_option linter.unusedVariables false
set_option linter.unusedSimpArgs false
namespace Go.SL
open Go Go.RowKit Go.ChangeShapes Go.WideShapes
def iV (l : List Int) : List Value := l.map (Value.int .i64)
theorem iV_get {l : List Int} {i : Nat} {x : Int} (h : l[i]? = some x) : (iV l)[i]? = some (.int .i64 x) := by simp [iV, h]
theorem iV_len (l : List Int) : (iV l).length = l.length := by simp [iV]
theorem ine {l : List Int} {i : Nat} (h : i < l.length) : iV l ≠ [] := fun e => by have := congrArg List.length e; simp [iV] at this; rw [this] at h; simp at h
abbrev i64 (x : Int) : Prop := -9223372036854775808 ≤ x ∧ x ≤ 9223372036854775807
/-- A row of numbers that came in. -/
theorem ints_view {W : World} {a : Addr} {len cap : Nat} {zs : List Int} (hl : len ≤ zs.length) (hcell : ∀ i, i < zs.length → W.cell? (a.add i) = some (.int .i64 (zs.getD i 0))) (hwf : ∀ n ∈ zs, (Lit.int .i64 n).wf = true) :
    ∃ l : List Int, l.length = len ∧ Vw (old W) (.slice (some a) len cap) len (iV l) ∧ ∀ x ∈ l, i64 x := by
  refine ⟨zs.take len, by simp; omega, ⟨some a, cap, rfl, ?_⟩, fun x hx => i64_range (hwf x (List.mem_of_mem_take hx))⟩
  rcases Nat.eq_zero_or_pos len with h0 | h0
  · left; subst h0; simp [iV]
  · right
    obtain ⟨b, o, spot⟩ := a
    have hsp : spot = none := by simpa [Addr.add] using World.cell?_spot (hcell 0 (by omega))
    subst hsp
    refine ⟨b, o, rfl, fun h ho j c hj => ?_⟩
    have hjl : j < len := by
      rcases Nat.lt_or_ge j len with h | h
      · exact h
      · rw [List.getElem?_eq_none (by simp [iV]; omega)] at hj; cases hj
    have h1 := hcell j (by omega)
    rw [Addr.add_eq] at h1
    have h2 := hcell_of_cell ho h1
    rw [h2]
    simp only [iV, List.getElem?_map, List.getElem?_take, hjl, if_true] at hj
    rw [List.getElem?_eq_getElem (by omega)] at hj
    simp only [Option.map_some, Option.some.injEq] at hj
    rw [← hj, List.getD_eq_getElem?_getD, List.getElem?_eq_getElem (by omega)]
    rfl
def aggTy : Option TypeDesc → Bool
  | some (.struct _) => true
  | some (.array _ _) => true
  | _ => false
theorem open_len {H : Type} {enc : TypeId × Value → H} {P : Program} {W : World} {base : Nat} {spare : Nat → Bool} {held : Bool} {fuel : Nat} {t e : TypeId} {a : Option Addr} {len cap : Nat} {d : DataW H} {p : List MemPlace} (ht : P.underlying t = some (.slice e)) (h : DataW.trod enc P W base spare held fuel t [.slice a len cap] = some (d, p)) :
    len = 0 ∨ ∃ el sp, d = .slice el sp ∧ el.length = len := by
  rcases Go.Deep.open_slice ht h with ⟨hcs, _⟩ | ⟨a', len', cap', m, n, D, Pl, hcs, hb, hl, hm, hmm, hx, _⟩
  · simp only [List.cons.injEq, Value.slice.injEq, and_true] at hcs; exact .inl hcs.2.1
  · simp only [List.cons.injEq, Value.slice.injEq, and_true] at hcs
    simp only [Prod.mk.injEq] at hx
    exact .inr ⟨_, _, hx.1, by simp [hcs.2.1]⟩
theorem okWide_agg {P : Program} {w : World} {r : Reach} {base : Nat} {t : TypeId} {v : Value} (ht : aggTy (P.underlying t) = true) (h : Value.okWide P w r base t v) : ∃ cs, v = .agg cs := by
  unfold Value.okWide at h
  unfold aggTy at ht
  split at h
  · obtain ⟨cs, h1, _⟩ := h; exact ⟨cs, h1⟩
  · obtain ⟨cs, h1, _⟩ := h; exact ⟨cs, h1⟩
  · split at ht
    · rename_i h1 h2 _ _ h3; exact absurd h3 (h1 _)
    · rename_i h1 h2 _ _ _ h3; exact absurd h3 (h2 _ _)
    · cases ht
/-- A row of numbers that came in, as a slice. -/
theorem open_intsV {P : Program} {H : Type} {enc : TypeId × Value → H} {W : World} {base : Nat} {spare : Nat → Bool} {held : Bool} {fuel : Nat} {t e : TypeId} {v : Value} {x : DataW H × List MemPlace} (ht : P.underlying t = some (.slice e)) (he : P.underlying e = some (.int .i64)) (hc : P.cellsOf e = 1) (h : DataW.trod enc P W base spare held fuel t [v] = some x) :
    ∃ l : List Int, Vw (old W) v l.length (iV l) ∧ l.length ≤ 9223372036854775807 ∧ ∀ x ∈ l, i64 x := by
  have hmx : maxLen = 9223372036854775807 := by decide
  rcases open_ints ht he hc h with ⟨hcs, _⟩ | ⟨x, l, c, zs, hcs, _, hl, hm, hz, _, hcell, hwz⟩
  · simp only [List.cons.injEq, and_true] at hcs
    subst hcs
    exact ⟨[], ⟨none, 0, rfl, .inl rfl⟩, by simp, by simp⟩
  · simp only [List.cons.injEq, and_true] at hcs
    subst hcs
    obtain ⟨bs, h1, h2, h3⟩ := ints_view (len := l) (cap := c) (by split at hz <;> omega) hcell hwz
    subst h1
    exact ⟨bs, h2, by omega, h3⟩
/-- An array of numbers that came in. -/
theorem open_arrI {P : Program} {H : Type} {enc : TypeId × Value → H} {W : World} {base : Nat} {spare : Nat → Bool} {held : Bool} {fuel n : Nat} {t e : TypeId} {cs : Array Value} {x : DataW H × List MemPlace} (ht : P.underlying t = some (.array n e)) (he : P.underlying e = some (.int .i64)) (hc : P.cellsOf e = 1) (hct : P.cellsOf t = n) (h : DataW.trod enc P W base spare held fuel t (Value.agg cs).cells.toList = some x) :
    ∃ l : List Int, l.length = n ∧ cs = (iV l).toArray ∧ ∀ x ∈ l, i64 x := by
  obtain ⟨xs, m, _, _, hlen, hxl, hf⟩ := DataW.trod_array ht h
  rw [hct] at hlen
  obtain ⟨l, rfl⟩ : ∃ l : List Value, cs = l.toArray := ⟨cs.toList, by simp⟩
  simp only [Value.cells] at hlen hf
  have key : ∀ i, i < n → ∃ z : Int, l[i]? = some (.int .i64 z) ∧ i64 z := fun i hi => by
    have h1 := hf i hi
    obtain ⟨y, hy⟩ : ∃ y, xs[i]? = some y := ⟨xs[i]'(by rw [hxl]; exact hi), by simp⟩
    rw [hy, hc, Nat.mul_one] at h1
    obtain ⟨z, r, _, w⟩ := DataW.trod_int he h1
    refine ⟨z, ?_, i64_range w⟩
    have := congrArg (fun l : List Value => l[0]?) r
    simpa using this
  refine ⟨(List.range n).map fun i => match l[i]? with | Option.some (Value.int _ z) => z | _ => 0, by simp, ?_, ?_⟩
  · congr 1
    apply List.ext_getElem?
    intro i
    rcases Nat.lt_or_ge i n with hi | hi
    · obtain ⟨z, hz, _⟩ := key i hi
      simp [iV, hi, hz]
    · rw [List.getElem?_eq_none (by simpa using hlen ▸ hi), List.getElem?_eq_none (by simp [iV]; exact hi)]
  · intro x hx
    obtain ⟨i, hi, rfl⟩ := List.mem_map.1 hx
    obtain ⟨z, hz, hr⟩ := key i (by simpa using hi)
    rw [hz]; exact hr
end Go.SL

/- Engine, part W: rows of structs that came in, read off the given row's own reading. Nothing here names a program. -/
set_option linter.unusedVariables false
set_option linter.unusedSimpArgs false
namespace Go.SL
open Go Go.RowKit Go.ChangeShapes Go.WideShapes

section
variable {P : Program} {H : Type} {enc : TypeId × Value → H} {W : World} {base : Nat} {spare : Nat → Bool} {held : Bool}
theorem open_bytesP {t e : TypeId} (ht : P.underlying t = some (.slice e)) (he : P.underlying e = some (.int .u8)) (hc : P.cellsOf e = 1) {fuel : Nat} {cs : List Value} {x : DataW H × List MemPlace} (h : DataW.trod enc P W base spare held fuel t cs = some x) :
    ∃ (a : Option Addr) (c : Nat) (bs : List UInt8), cs = [.slice a bs.length c] ∧ bs.length ≤ 9223372036854775807 ∧ Vw (old W) (.slice a bs.length c) bs.length (bV bs) := by
  have hmx : maxLen = 9223372036854775807 := by decide
  rcases open_ints ht he hc h with ⟨hcs, _⟩ | ⟨x, l, c, zs, hcs, _, hl, hm, hz, _, hcell, hwz⟩
  · subst hcs
    exact ⟨none, 0, [], rfl, by simp, nil_view W⟩
  · subst hcs
    obtain ⟨bs, h1, h2⟩ := bytes_view (len := l) (cap := c) (by split at hz <;> omega) hcell hwz
    subst h1
    exact ⟨some x, c, bs, rfl, by omega, h2⟩
theorem open_rows {α : Type} [Inhabited α] {t e : TypeId} (ht : P.underlying t = some (.slice e)) (g : α → List Value) (s : Nat) (hs0 : 0 < s) (hs : ∀ x, (g x).length = s) (hc : P.cellsOf e = s) (Q : α → Prop)
    (hopen : ∀ (fuel : Nat) (cs : List Value) (x : DataW H × List MemPlace), DataW.trod enc P W base spare held fuel e cs = some x → ∃ y, cs = g y ∧ Q y)
    {fuel : Nat} {cs : List Value} {x : DataW H × List MemPlace} (h : DataW.trod enc P W base spare held fuel t cs = some x) : ∃ (l : List α) (a : Option Addr) (c : Nat), cs = [.slice a l.length c] ∧ Vw (old W) (.slice a l.length c) l.length (l.flatMap g) ∧ (∀ x ∈ l, Q x) ∧ l.length ≤ 9223372036854775807 := by
  have hmx : maxLen = 9223372036854775807 := by decide
  rcases Go.Deep.open_slice ht h with ⟨hcs, _⟩ | ⟨a, len, cap, m, n, D, Pl, hcs, hb, hl, hm, hmm, _, hx⟩
  · subst hcs
    exact ⟨[], none, 0, rfl, ⟨none, 0, rfl, .inl rfl⟩, by simp, by simp⟩
  · subst hcs
    have hml : len ≤ m := by rw [hmm]; split <;> omega
    have hx2 : ∀ i, i < len → ∃ y : α, (∀ k, k < s → W.cell? (a.add (i * s + k)) = (g y)[k]?) ∧ Q y := fun i hi => by
      obtain ⟨cs', h1, h2⟩ := hx i (by omega)
      obtain ⟨y, rfl, hy⟩ := hopen _ _ _ h2
      rw [hc] at h1
      obtain ⟨_, _, h3⟩ := World.cells?_some h1
      refine ⟨y, fun k hk => ?_, hy⟩
      rw [← h3 k hk, Addr.add_add]
    obtain ⟨f, hfy⟩ := Go.Deep.choose_lt hx2
    refine ⟨(List.range len).map f, some a, cap, by simp, ⟨some a, cap, by simp, ?_⟩, ?_, by simp; omega⟩
    · rcases Nat.eq_zero_or_pos len with h0 | h0
      · left; subst h0; simp
      · right
        obtain ⟨b, o, spot⟩ := a
        have hsp : spot = none := by
          have := (hfy 0 h0).1 0 hs0
          rw [Nat.zero_mul, Nat.zero_add, List.getElem?_eq_getElem (by rw [hs]; exact hs0)] at this
          simpa [Addr.add] using World.cell?_spot (this.trans rfl)
        subst hsp
        refine ⟨b, o, rfl, fun h ho j c hj => ?_⟩
        have hjl : j < len * s := by
          rcases Nat.lt_or_ge j (len * s) with h | h
          · exact h
          · rw [List.getElem?_eq_none (by rw [chunk_len hs]; simpa using h)] at hj; cases hj
        have hd : j / s < len := Nat.div_lt_of_lt_mul (by rw [Nat.mul_comm]; exact hjl)
        have hk : j % s < s := Nat.mod_lt _ hs0
        have hjj : j / s * s + j % s = j := by rw [Nat.mul_comm]; exact Nat.div_add_mod _ _
        have h1 := chunk_get hs (l := (List.range len).map f) (i := j / s) (x := f (j / s)) (by simp [hd]) (j % s) hk
        rw [hjj, hj] at h1
        have h2 := (hfy _ hd).1 _ hk
        rw [hjj, Addr.add_eq] at h2
        exact hcell_of_cell ho (h2.trans h1.symm)
    · intro x hx
      obtain ⟨i, hi, rfl⟩ := List.mem_map.1 hx
      exact (hfy i (by simpa using hi)).2
/-- The parts of a struct, one by one: its fields' types with what is asked of the cells of each. -/
inductive Parts (enc : TypeId × Value → H) (P : Program) (W : World) (base : Nat) (spare : Nat → Bool) (held : Bool) (n : Nat) : List TypeId → List Value → Prop where
  | nil : Parts enc P W base spare held n [] []
  | cons {t : TypeId} {ts : List TypeId} {cs rest : List Value} {x : DataW H × List MemPlace} (h : DataW.trod enc P W base spare held n t cs = some x) (hr : Parts enc P W base spare held n ts rest) : Parts enc P W base spare held n (t :: ts) (cs ++ rest)
def offs (P : Program) : Nat → List TypeId → List Nat
  | _, [] => []
  | o, t :: ts => o :: offs P (o + P.cellsOf t) ts
theorem open_struct {t : TypeId} {fs : Array Field} (ht : P.underlying t = some (.struct fs)) (ho : fs.toList.map Field.offset = offs P 0 (fs.toList.map Field.type)) (hn : P.cellsOf t = (fs.toList.map fun f : Field => P.cellsOf f.type).sum)
    {fuel : Nat} {cs : List Value} {x : DataW H × List MemPlace} (h : DataW.trod enc P W base spare held fuel t cs = some x) : ∃ n, Parts enc P W base spare held n (fs.toList.map Field.type) cs := by
  obtain ⟨xs, n, _, _, hlen, hxl, hf⟩ := DataW.trod_struct ht h
  refine ⟨n, ?_⟩
  have key : ∀ (l : List Field) (o k : Nat) (cs : List Value), cs.length = (l.map fun f : Field => P.cellsOf f.type).sum → l.map Field.offset = offs P o (l.map Field.type) →
      (∀ (j : Nat) (f : Field), l[j]? = some f → ∃ y, DataW.trod enc P W base spare held n f.type ((cs.drop (f.offset - o)).take (P.cellsOf f.type)) = some y) → Parts enc P W base spare held n (l.map Field.type) cs := by
    intro l
    induction l with
    | nil => intro o k cs hl _ _; simp at hl; subst hl; exact .nil
    | cons f l ih =>
      intro o k cs hl hoff hall
      simp only [List.map_cons, List.sum_cons] at hl
      simp only [List.map_cons, offs, List.cons.injEq] at hoff
      obtain ⟨h1, h2⟩ := hoff
      obtain ⟨y, hy⟩ := hall 0 f rfl
      rw [h1, Nat.sub_self, List.drop_zero] at hy
      have hsub := ih (o + P.cellsOf f.type) 0 (cs.drop (P.cellsOf f.type)) (by rw [List.length_drop]; omega) h2 (fun j f' hj => by
        obtain ⟨y', hy'⟩ := hall (j + 1) f' (by simpa using hj)
        have hge : o + P.cellsOf f.type ≤ f'.offset := by
          have hmem : f'.offset ∈ offs P (o + P.cellsOf f.type) (l.map Field.type) := by rw [← h2]; exact List.mem_map.2 ⟨f', List.mem_of_getElem? hj, rfl⟩
          have hmono : ∀ (ts : List TypeId) (p q : Nat), q ∈ offs P p ts → p ≤ q := by
            intro ts
            induction ts with
            | nil => intro p q hq; cases hq
            | cons t ts ih => intro p q hq; rcases List.mem_cons.1 hq with rfl | hq; exact Nat.le_refl _; have := ih _ _ hq; omega
          exact hmono _ _ _ hmem
        refine ⟨y', ?_⟩
        rw [List.drop_drop, show P.cellsOf f.type + (f'.offset - (o + P.cellsOf f.type)) = f'.offset - o from by omega]
        exact hy')
      have := Parts.cons hy hsub
      rw [List.take_append_drop] at this
      exact this
  refine key fs.toList 0 0 cs (by rw [hlen, hn]) ho fun j f hj => ?_
  have hj' : fs[j]? = some f := by simpa using hj
  have hjl : j < xs.length := by
    rw [hxl]
    rcases Nat.lt_or_ge j fs.size with h | h
    · exact h
    · rw [Array.getElem?_eq_none h] at hj'; cases hj'
  refine ⟨xs[j], ?_⟩
  rw [Nat.sub_zero]
  have := hf j f hj'
  rw [this]
  simp [hjl]
theorem Parts.inv {n : Nat} {t : TypeId} {ts : List TypeId} {cs : List Value} (h : Parts enc P W base spare held n (t :: ts) cs) : ∃ c0 rest x, cs = c0 ++ rest ∧ DataW.trod enc P W base spare held n t c0 = some x ∧ Parts enc P W base spare held n ts rest := by
  cases h with
  | cons h hr => exact ⟨_, _, _, rfl, h, hr⟩
theorem Parts.inv0 {n : Nat} {cs : List Value} (h : Parts enc P W base spare held n [] cs) : cs = [] := by cases h; rfl
/-- A part that is a number. -/
theorem Parts.int {n : Nat} {t : TypeId} {ts : List TypeId} {cs : List Value} {k : IntKind} (h : Parts enc P W base spare held n (t :: ts) cs) (ht : P.underlying t = some (.int k)) : ∃ (z : Int) (rest : List Value), cs = .int k z :: rest ∧ (Lit.int k z).wf = true ∧ Parts enc P W base spare held n ts rest := by
  obtain ⟨c0, rest, x, rfl, h0, hr⟩ := h.inv
  obtain ⟨z, rfl, _, hw⟩ := DataW.trod_int ht h0
  exact ⟨z, rest, rfl, hw, hr⟩
theorem Parts.str {n : Nat} {t : TypeId} {ts : List TypeId} {cs : List Value} (h : Parts enc P W base spare held n (t :: ts) cs) (ht : P.underlying t = some .string) : ∃ (z : ByteArray) (rest : List Value), cs = .string z :: rest ∧ z.size ≤ 9223372036854775807 ∧ Parts enc P W base spare held n ts rest := by
  have hmx : maxLen = 9223372036854775807 := by decide
  obtain ⟨c0, rest, x, rfl, h0, hr⟩ := h.inv
  obtain ⟨z, rfl, _, hw⟩ := DataW.trod_string ht h0
  exact ⟨z, rest, rfl, by omega, hr⟩
theorem Parts.bytes {n : Nat} {t e : TypeId} {ts : List TypeId} {cs : List Value} (h : Parts enc P W base spare held n (t :: ts) cs) (ht : P.underlying t = some (.slice e)) (he : P.underlying e = some (.int .u8)) (hc : P.cellsOf e = 1) : ∃ (a : Option Addr) (c : Nat) (bs : List UInt8) (rest : List Value), cs = .slice a bs.length c :: rest ∧ bs.length ≤ 9223372036854775807 ∧ Vw (old W) (.slice a bs.length c) bs.length (bV bs) ∧ Parts enc P W base spare held n ts rest := by
  obtain ⟨c0, rest, x, rfl, h0, hr⟩ := h.inv
  obtain ⟨a, c, bs, rfl, h2, h3⟩ := open_bytesP ht he hc h0
  exact ⟨a, c, bs, rest, rfl, h2, h3, hr⟩
end
end Go.SL

/- journal, part n0: JournalBack, the walk. -/
set_option linter.unusedVariables false
set_option linter.unusedSimpArgs false
namespace Go.Proofs.Ytpdmbmnhgcnelaa
open Go Go.SL
attribute [local irreducible] J K Ctr Ends pts slc mapR mapI sbRow stock arrS loopP CtrY diskA LI listH

theorem flat_bound : ∀ (ls : List (List UInt8)), (∀ x ∈ ls, x.length ≤ 4096) → (ls.flatMap encL).length ≤ 4106 * ls.length
  | [], _ => by simp
  | x :: ls, h => by
    have h1 := flat_bound ls (fun y hy => h y (List.mem_cons_of_mem _ hy))
    have hx := h x (List.mem_cons_self ..)
    have h2 := encL_len x (by omega)
    simp only [List.flatMap_cons, List.length_append, List.length_cons]
    omega
end Go.Proofs.Ytpdmbmnhgcnelaa
namespace Go.Proofs.Ytpdmbmnhgcnelaa
open Go Go.SL
section
variable {P : Program} {f : FuncId} {n : Nat} {R : Ending → World → Prop} {G : Glob} {k : List Item} {L : Lst} {H : List HP} {S : World → Prop} {all : Array Oper} {rest : Pl}
theorem J_dA {bd : Nat} {A : Ab} (i : Nat) (hi : getL H i = some (diskA bd A)) (h : (∃ D, Rel D A) → J P f n R G S all rest k L H) : J P f n R G S all rest k L H :=
  J_sat fun w hw => by
    obtain ⟨h1, _, D, hR, _⟩ := hw.getA hi
    exact h ⟨D, hR⟩
end
attribute [local irreducible] J K Ctr Ends pts slc mapR mapI sbRow stock arrS loopP CtrY diskA LI listH
structure BS where
  A : Ab
  ls : List (List UInt8)
  v : Value
  cs : List Value
  g : Nat
  i : Nat
set_option maxRecDepth 20000 in
theorem JournalBack_any (X : HP) (lv : Value) (l : List (List UInt8)) (hv : LAt X lv l) (hll : l.length ≤ 9223372036854775807) (hle : ∀ x ∈ l, x.length ≤ 9223372036854775807) :
    Ctr Try.prog 5 [lv] [X] (fun r H => r = .bool true ∧ H = [X]) := by
  obtain ⟨cs0, hvw, hcl, ⟨a, cc, rfl, hcc⟩, hel⟩ := hv
  refine Ctr.enter Try.func5 (by kernel_rfl) rfl Try.ntmps5 rfl rfl ?_
  intro G F R hE
  (refine go ?_)
  (first | refine J_callE rfl rfl rfl rfl (awake_any) entA ?_ (fun _ _ _ _ _ => trivial) | refine J_call0E rfl rfl rfl (awake_any) entA ?_ (fun _ _ _ _ _ => trivial) | (refine go ?_; first | refine J_callE rfl rfl rfl rfl (awake_any) entA ?_ (fun _ _ _ _ _ => trivial) | refine J_call0E rfl rfl rfl (awake_any) entA ?_ (fun _ _ _ _ _ => trivial)))
  rintro _ _ ⟨rfl, rfl⟩
  (refine go ?_)
  (first | refine J_callE rfl rfl rfl rfl (New_dA 16777216 (by omega) (by omega)) entA ?_ (fun _ _ _ _ _ => trivial) | refine J_call0E rfl rfl rfl (New_dA 16777216 (by omega) (by omega)) entA ?_ (fun _ _ _ _ _ => trivial) | (refine go ?_; first | refine J_callE rfl rfl rfl rfl (New_dA 16777216 (by omega) (by omega)) entA ?_ (fun _ _ _ _ _ => trivial) | refine J_call0E rfl rfl rfl (New_dA 16777216 (by omega) (by omega)) entA ?_ (fun _ _ _ _ _ => trivial)))
  rintro _ _ ⟨bd, rfl, rfl⟩
  (refine go ?_)
  refine K_condP rfl rfl ?_ ?_
  · intro hbig
    (refine go ?_)
    (first | refine K_return hE Try.func5 rfl _ rfl ⟨rfl, rfl⟩ entA | refine K_fallEnd hE Try.func5 rfl _ rfl ⟨rfl, rfl⟩ entA)
  intro hsm
  have hl30 : l.length ≤ 30 := by omega
  (refine go ?_)
  (first | refine J_callE rfl rfl rfl rfl (Open_any bd nmJ (Ab.new 16777216) (by decide) (by simp [Ab.new]) (by simp [Ab.new])) entA ?_ (fun _ _ _ _ _ => trivial) | refine J_call0E rfl rfl rfl (Open_any bd nmJ (Ab.new 16777216) (by decide) (by simp [Ab.new]) (by simp [Ab.new])) entA ?_ (fun _ _ _ _ _ => trivial) | (refine go ?_; first | refine J_callE rfl rfl rfl rfl (Open_any bd nmJ (Ab.new 16777216) (by decide) (by simp [Ab.new]) (by simp [Ab.new])) entA ?_ (fun _ _ _ _ _ => trivial) | refine J_call0E rfl rfl rfl (Open_any bd nmJ (Ab.new 16777216) (by decide) (by simp [Ab.new]) (by simp [Ab.new])) entA ?_ (fun _ _ _ _ _ => trivial)))
  rintro _ _ ⟨e, A1, x, ho, hpost⟩
  obtain ⟨rfl, hx, ⟨g, hI⟩, hw⟩ := open_law (new_putOk 16777216 nmJ) nmJ_name nmJ_fresh nmJ_ne (new_file _ _) (by decide) (by rw [new_used]; decide) ho
  rcases hpost with ⟨h, -⟩ | ⟨-, jb, lv1, rfl, rfl⟩
  · exact absurd rfl h
  subst hx
  have hw1 : A1.writes.length ≤ 1 := by simpa [Ab.new] using hw
  (refine go ?_)
  refine K_ent (slc_lift 22 1 none _) ?_
  refine K_loop (fun y : BS => y.i ≤ l.length ∧ y.ls.length ≤ y.i ∧ y.cs.length = y.ls.length ∧ (∀ (j : Nat) (z : List UInt8), y.ls[j]? = some z → ∃ cv, y.cs[j]? = some cv ∧ BAt X cv z) ∧ (∀ z ∈ y.ls, z.length ≤ 4096) ∧ AInv y.A nmJ y.g 0 16777216 (y.ls.flatMap encL) ∧ y.A.writes.length ≤ 1 + y.i) (fun y => l.length - y.i)
    (fun y => [(0, .slice a l.length cc), (4, ptr bd), (6, ptr jb), (8, y.v), (9, .int .i64 (y.i : Int))])
    (fun y => slc 22 1 y.v y.ls.length y.cs :: X :: diskA bd y.A :: jrN jb bd nmJ ⟨1, ((y.ls.flatMap encL).length : Int), 0, false⟩ :: F) ⟨A1, [], .slice none 0 0, [], g, 0⟩ ⟨Nat.zero_le _, Nat.zero_le _, rfl, by simp, by simp, hI, by simp only; omega⟩ rfl (by repeat (first | exact keep_nil | refine keep_cons rfl ?_)) entA ?_
  rintro ⟨A, ls, v, cs, g, i⟩ ⟨hi, hsl, hcsl, hcs, h4, hI, hwr⟩ ih
  simp only at hi hsl hcsl hcs h4 hI hwr
  have hfb := flat_bound ls h4
  (first | refine J_shape 0 rfl ?_ | refine K_shape 0 rfl ?_)
  intro va vc hvv
  simp only at hvv
  subst hvv
  simp only
  (refine go ?_)
  refine K_condP rfl rfl ?_ ?_
  · intro hlt
    have hil : i < l.length := by omega
    obtain ⟨x, hx⟩ : ∃ x, l[i]? = some x := ⟨l[i], List.getElem?_eq_getElem hil⟩
    obtain ⟨cv, hcv, hb⟩ := hel i x hx
    have hxm := hle x (List.mem_of_getElem? hx)
    obtain ⟨b0, o0, c0, he0⟩ := hvw.some (by intro h; rw [h] at hcv; simp at hcv)
    simp only [Value.slice.injEq] at he0
    obtain ⟨rfl, -, rfl⟩ := he0
    obtain ⟨ax, cx, rfl, hcx⟩ := hb.2
    have hac := Append_any jb bd nmJ A ⟨1, ((ls.flatMap encL).length : Int), 0, false⟩ X _ x hb hxm (by simp only; omega) (by omega)
    have hcase : (4096 < x.length ∧ appendA nmJ A ⟨1, ((ls.flatMap encL).length : Int), 0, false⟩ x = (1, A, ⟨1, ((ls.flatMap encL).length : Int), 0, false⟩)) ∨ (x.length ≤ 4096 ∧ ∃ A2, appendA nmJ A ⟨1, ((ls.flatMap encL).length : Int), 0, false⟩ x = (0, A2, ⟨1, (((ls ++ [x]).flatMap encL).length : Int), 0, false⟩) ∧ AInv A2 nmJ g 0 16777216 ((ls ++ [x]).flatMap encL) ∧ A2.writes.length ≤ A.writes.length + 1) := by
      rcases Nat.lt_or_ge 4096 x.length with h | h
      · exact .inl ⟨h, append_big rfl h⟩
      · refine .inr ⟨h, ?_⟩
        have hel := encL_len x (by omega)
        obtain ⟨p1, p2, p3, p4⟩ := append_law hI nmJ_name h (by omega) (by omega)
        have hfm : (ls ++ [x]).flatMap encL = ls.flatMap encL ++ encL x := by simp
        rw [hfm]
        exact ⟨_, Prod.ext p1 (Prod.ext rfl p2), p3, p4⟩
    (refine go ?_)
    refine J_at1 (U := tab) i rfl rfl rfl rfl rfl rfl rfl rfl hil ?_
    refine J_loadAt (U := tab) 1 i rfl rfl rfl hvw rfl hcv rfl rfl ?_
    (refine go ?_)
    refine K_condP rfl rfl ?_ ?_
    · intro h6
      (refine go ?_)
      (first | refine K_return hE Try.func5 rfl _ rfl ⟨rfl, rfl⟩ entA | refine K_fallEnd hE Try.func5 rfl _ rfl ⟨rfl, rfl⟩ entA)
    intro h6
    (refine go ?_)
    refine J_at1 (U := tab) i rfl rfl rfl rfl rfl rfl rfl rfl hil ?_
    refine J_loadAt (U := tab) 1 i rfl rfl rfl hvw rfl hcv rfl rfl ?_
    (first | refine J_callE rfl rfl rfl rfl (hac) entA ?_ (fun _ _ _ _ _ => trivial) | refine J_call0E rfl rfl rfl (hac) entA ?_ (fun _ _ _ _ _ => trivial) | (refine go ?_; first | refine J_callE rfl rfl rfl rfl (hac) entA ?_ (fun _ _ _ _ _ => trivial) | refine J_call0E rfl rfl rfl (hac) entA ?_ (fun _ _ _ _ _ => trivial)))
    rintro _ _ ⟨rfl, rfl⟩
    rcases hcase with ⟨h4k, heq⟩ | ⟨h4k, A2, heq, hI2, hw2⟩
    · rw [heq]
      (refine go ?_)
      refine J_at1 (U := tab) i rfl rfl rfl rfl rfl rfl rfl rfl hil ?_
      refine J_loadAt (U := tab) 2 i rfl rfl rfl hvw rfl hcv rfl rfl ?_
      (refine go ?_)
      (first | refine J_slot 83 ((.bool false)) rfl ((congrArg Value.bool (by rw [show decide ((x.length : Int) ≤ 4096) = false from decide_eq_false (by omega)]; rfl))) ?_ | refine K_slot 83 ((.bool false)) rfl ((congrArg Value.bool (by rw [show decide ((x.length : Int) ≤ 4096) = false from decide_eq_false (by omega)]; rfl))) ?_)
      (refine go ?_)
      refine K_again ih ⟨A, ls, .slice va ls.length vc, cs, g, i + 1⟩ rfl (⟨by simp only; omega, by simp only; omega, hcsl, hcs, h4, hI, by simp only; omega⟩) (by simp only; omega) (by repeat (first | exact keep_nil | refine keep_cons rfl ?_)) entA
    · rw [heq]
      (refine go ?_)
      refine J_at1 (U := tab) i rfl rfl rfl rfl rfl rfl rfl rfl hil ?_
      refine J_loadAt (U := tab) 2 i rfl rfl rfl hvw rfl hcv rfl rfl ?_
      (refine go ?_)
      (first | refine J_slot 83 ((.bool false)) rfl ((congrArg Value.bool (by rw [show decide ((x.length : Int) ≤ 4096) = true from decide_eq_true (by omega)]; rfl))) ?_ | refine K_slot 83 ((.bool false)) rfl ((congrArg Value.bool (by rw [show decide ((x.length : Int) ≤ 4096) = true from decide_eq_true (by omega)]; rfl))) ?_)
      (refine go ?_)
      refine J_at1 (U := tab) i rfl rfl rfl rfl rfl rfl rfl rfl hil ?_
      refine J_loadAt (U := tab) 2 i rfl rfl rfl hvw rfl hcv rfl rfl ?_
      refine J_buildSlice1 (U := tab) rfl rfl rfl rfl rfl rfl rfl rfl rfl (fun _ _ _ => trivial) ?_
      intro row
      (refine go ?_)
      refine J_append (U := tab) (mm := 1) (news := [.slice ax x.length cx]) 4 0 rfl rfl rfl rfl rfl rfl rfl rfl rfl rfl rfl rfl (Vw.pts rfl) rfl (by simp [Value.oneCell']) (by omega) (by show (_ + 1) * 24 ≤ _; omega) (fun _ => rfl) (fun _ _ _ => trivial) ?_
      intro v1
      rw [show ls.length + 1 = (ls ++ [x]).length from by simp]
      (first | refine J_shape 4 rfl ?_ | refine K_shape 4 rfl ?_)
      rintro va2 vc2 rfl
      (refine go ?_)
      have hcs2 : ∀ (j : Nat) (z : List UInt8), (ls ++ [x])[j]? = some z → ∃ cv, (cs ++ [.slice ax x.length cx])[j]? = some cv ∧ BAt X cv z := by
        intro j z hj
        rw [List.getElem?_append] at hj ⊢
        rw [hcsl]
        split at hj
        · rename_i h; rw [if_pos h]; exact hcs j z hj
        · rename_i h
          rw [if_neg h]
          have h0 : j - ls.length = 0 := by
            rcases Nat.eq_zero_or_pos (j - ls.length) with h | h
            · exact h
            · rw [List.getElem?_eq_none (by simp; omega)] at hj; cases hj
          rw [h0] at hj ⊢
          cases hj
          exact ⟨_, rfl, hb⟩
      refine K_again ih ⟨A2, ls ++ [x], .slice va2 (ls ++ [x]).length vc2, cs ++ [.slice ax x.length cx], g, i + 1⟩ rfl (⟨by simp only; omega, by simp only [List.length_append, List.length_singleton]; omega, by simp [hcsl], hcs2, (fun z hz => by rcases List.mem_append.1 hz with h | h; exact h4 z h; simp at h; subst h; exact h4k), hI2, by simp only; omega⟩) (by simp only; omega) (by repeat (first | exact keep_nil | refine keep_cons rfl ?_)) entA
  intro hge
  (refine go ?_)
  (first | refine J_callE rfl rfl rfl rfl (Commit_any jb bd nmJ A ⟨1, ((ls.flatMap encL).length : Int), 0, false⟩ (by simp only; omega) (by simp only; omega) (by rw [hI.states]; simp) (by omega)) entA ?_ (fun _ _ _ _ _ => trivial) | refine J_call0E rfl rfl rfl (Commit_any jb bd nmJ A ⟨1, ((ls.flatMap encL).length : Int), 0, false⟩ (by simp only; omega) (by simp only; omega) (by rw [hI.states]; simp) (by omega)) entA ?_ (fun _ _ _ _ _ => trivial) | (refine go ?_; first | refine J_callE rfl rfl rfl rfl (Commit_any jb bd nmJ A ⟨1, ((ls.flatMap encL).length : Int), 0, false⟩ (by simp only; omega) (by simp only; omega) (by rw [hI.states]; simp) (by omega)) entA ?_ (fun _ _ _ _ _ => trivial) | refine J_call0E rfl rfl rfl (Commit_any jb bd nmJ A ⟨1, ((ls.flatMap encL).length : Int), 0, false⟩ (by simp only; omega) (by simp only; omega) (by rw [hI.states]; simp) (by omega)) entA ?_ (fun _ _ _ _ _ => trivial)))
  rintro _ _ ⟨ec, Ac, xc, rfl, rfl, hcm⟩
  have hb5 : (ls.flatMap encL).length ≤ 524288 := by omega
  obtain ⟨rfl, -, hroom, C, hjf, hjs, -, -, hwc⟩ := commit_law hI nmJ_name hb5 (by omega) hcm
  (refine go ?_)
  (first | refine J_callE rfl rfl rfl rfl (Crash_dA bd Ac 0 (-1) 0 X (.slice none 0 0) [] ⟨none, 0, rfl, .inl rfl⟩ (by simp) (by rw [hjs.states]; simp) (by omega) (by omega) (by omega) (by omega)) entA ?_ (fun _ _ _ _ _ => trivial) | refine J_call0E rfl rfl rfl (Crash_dA bd Ac 0 (-1) 0 X (.slice none 0 0) [] ⟨none, 0, rfl, .inl rfl⟩ (by simp) (by rw [hjs.states]; simp) (by omega) (by omega) (by omega) (by omega)) entA ?_ (fun _ _ _ _ _ => trivial) | (refine go ?_; first | refine J_callE rfl rfl rfl rfl (Crash_dA bd Ac 0 (-1) 0 X (.slice none 0 0) [] ⟨none, 0, rfl, .inl rfl⟩ (by simp) (by rw [hjs.states]; simp) (by omega) (by omega) (by omega) (by omega)) entA ?_ (fun _ _ _ _ _ => trivial) | refine J_call0E rfl rfl rfl (Crash_dA bd Ac 0 (-1) 0 X (.slice none 0 0) [] ⟨none, 0, rfl, .inl rfl⟩ (by simp) (by rw [hjs.states]; simp) (by omega) (by omega) (by omega) (by omega)) entA ?_ (fun _ _ _ _ _ => trivial)))
  rintro _ _ rfl
  obtain ⟨-, hcs2, -, hcw⟩ := crash_law hjf hjs [] (-1) 0
  obtain ⟨Ad, hAd⟩ : ∃ Ad, Ad = Ac.crash 0 [] (-1) 0 := ⟨_, rfl⟩
  rw [← hAd] at hcs2 hcw ⊢
  (refine go ?_)
  (first | refine J_callE rfl rfl rfl rfl (Open_any bd nmJ Ad (by decide) (by rw [hcs2.states]; simp) (by rw [hcw]; simp)) entA ?_ (fun _ _ _ _ _ => trivial) | refine J_call0E rfl rfl rfl (Open_any bd nmJ Ad (by decide) (by rw [hcs2.states]; simp) (by rw [hcw]; simp)) entA ?_ (fun _ _ _ _ _ => trivial) | (refine go ?_; first | refine J_callE rfl rfl rfl rfl (Open_any bd nmJ Ad (by decide) (by rw [hcs2.states]; simp) (by rw [hcw]; simp)) entA ?_ (fun _ _ _ _ _ => trivial) | refine J_call0E rfl rfl rfl (Open_any bd nmJ Ad (by decide) (by rw [hcs2.states]; simp) (by rw [hcw]; simp)) entA ?_ (fun _ _ _ _ _ => trivial)))
  rintro _ _ ⟨e2, A2, x2, ho2, hpost2⟩
  obtain ⟨-, -, rfl, hfl, rfl, ⟨g2, hI2⟩, -, hw2⟩ := hI.back nmJ_name nmJ_fresh nmJ_ne h4 hb5 (by omega) hcm (hAd ▸ ho2)
  rw [← hAd] at hfl
  rw [hfl] at hpost2
  rcases hpost2 with ⟨h, -⟩ | ⟨-, jb2, lv2, rfl, rfl⟩
  · exact absurd rfl h
  (refine go ?_)
  refine J_dA 0 rfl ?_
  rintro ⟨D, hRel⟩
  (first | refine J_callE rfl rfl rfl rfl (Open_any bd nmJ A2 (by decide) (by rw [hI2.states]; simp) (by omega)) entA ?_ (fun _ _ _ _ _ => trivial) | refine J_call0E rfl rfl rfl (Open_any bd nmJ A2 (by decide) (by rw [hI2.states]; simp) (by omega)) entA ?_ (fun _ _ _ _ _ => trivial) | (refine go ?_; first | refine J_callE rfl rfl rfl rfl (Open_any bd nmJ A2 (by decide) (by rw [hI2.states]; simp) (by omega)) entA ?_ (fun _ _ _ _ _ => trivial) | refine J_call0E rfl rfl rfl (Open_any bd nmJ A2 (by decide) (by rw [hI2.states]; simp) (by omega)) entA ?_ (fun _ _ _ _ _ => trivial)))
  rintro _ _ ⟨e3, A3, x3, ho3, hpost3⟩
  obtain ⟨rfl, hfl3, rfl, ⟨g3, hI3⟩, hw3⟩ := hI2.reopen hRel.knownW nmJ_name nmJ_fresh nmJ_ne h4 hb5 (by omega) ho3
  rw [hfl3] at hpost3
  rcases hpost3 with ⟨h, -⟩ | ⟨-, jb3, lv3, rfl, rfl⟩
  · exact absurd rfl h
  (refine go ?_)
  (first | refine J_callE rfl rfl rfl rfl (Same_L lv2 (.slice va ls.length vc) ls ls cs X hcsl hcs (by omega)) entA ?_ (fun _ _ _ _ _ => trivial) | refine J_call0E rfl rfl rfl (Same_L lv2 (.slice va ls.length vc) ls ls cs X hcsl hcs (by omega)) entA ?_ (fun _ _ _ _ _ => trivial) | (refine go ?_; first | refine J_callE rfl rfl rfl rfl (Same_L lv2 (.slice va ls.length vc) ls ls cs X hcsl hcs (by omega)) entA ?_ (fun _ _ _ _ _ => trivial) | refine J_call0E rfl rfl rfl (Same_L lv2 (.slice va ls.length vc) ls ls cs X hcsl hcs (by omega)) entA ?_ (fun _ _ _ _ _ => trivial)))
  rintro _ _ ⟨rfl, rfl⟩
  (refine go ?_)
  (first | refine J_callE rfl rfl rfl rfl (Same_L lv3 (.slice va ls.length vc) ls ls cs X hcsl hcs (by omega)) entA ?_ (fun _ _ _ _ _ => trivial) | refine J_call0E rfl rfl rfl (Same_L lv3 (.slice va ls.length vc) ls ls cs X hcsl hcs (by omega)) entA ?_ (fun _ _ _ _ _ => trivial) | (refine go ?_; first | refine J_callE rfl rfl rfl rfl (Same_L lv3 (.slice va ls.length vc) ls ls cs X hcsl hcs (by omega)) entA ?_ (fun _ _ _ _ _ => trivial) | refine J_call0E rfl rfl rfl (Same_L lv3 (.slice va ls.length vc) ls ls cs X hcsl hcs (by omega)) entA ?_ (fun _ _ _ _ _ => trivial)))
  rintro _ _ ⟨rfl, rfl⟩
  rw [decide_eq_true (rfl : ls = ls)]
  (refine go ?_)
  (first | refine K_return hE Try.func5 rfl _ rfl ⟨rfl, rfl⟩ entA | refine K_fallEnd hE Try.func5 rfl _ rfl ⟨rfl, rfl⟩ entA)
end Go.Proofs.Ytpdmbmnhgcnelaa

/- journal, part o: lists of texts that came in, read off the given row's own reading. -/
set_option linter.unusedVariables false
set_option linter.unusedSimpArgs false
namespace Go.Proofs.Ytpdmbmnhgcnelaa
open Go Go.SL Go.RowKit Go.ChangeShapes Go.WideShapes
section
variable {H : Type} {enc : TypeId × Value → H} {W : World} {base : Nat} {spare : Nat → Bool} {held : Bool}
structure EB where
  a : Option Addr
  c : Nat
  bs : List UInt8
instance : Inhabited EB := ⟨⟨none, 0, []⟩⟩
def ebV (x : EB) : List Value := [.slice x.a x.bs.length x.c]
def ListsIn (X : HP) (v : Value) (l : List (List UInt8)) : Prop := LAt X v l ∧ l.length ≤ 9223372036854775807 ∧ ∀ x ∈ l, x.length ≤ 9223372036854775807
theorem open_eb (fuel : Nat) (cs : List Value) (x : DataW H × List MemPlace) (h : DataW.trod enc Try.prog W base spare held fuel 22 cs = some x) : ∃ y : EB, cs = ebV y ∧ (y.bs.length ≤ 9223372036854775807 ∧ BAt (old W) (.slice y.a y.bs.length y.c) y.bs) := by
  have hmx : maxLen = 9223372036854775807 := by decide
  rcases open_ints Try.underlying22 Try.underlying5 (by kernel_rfl) h with ⟨hcs, _⟩ | ⟨x, l, c, zs, hcs, _, hl, hm, hz, _, hcell, hwz⟩
  · subst hcs
    exact ⟨⟨none, 0, []⟩, rfl, by simp, nil_view W, none, 0, rfl, Nat.le_refl _⟩
  · subst hcs
    obtain ⟨bs, h1, h2⟩ := bytes_view (len := l) (cap := c) (by split at hz <;> omega) hcell hwz
    subst h1
    exact ⟨⟨some x, c, bs⟩, rfl, by simp only; omega, h2, _, c, rfl, hl⟩
theorem open_lists {fuel : Nat} {v : Value} {x : DataW H × List MemPlace} (h : DataW.trod enc Try.prog W base spare held fuel 24 [v] = some x) : ∃ l : List (List UInt8), ListsIn (old W) v l := by
  obtain ⟨l, a, c, hcs, h1, h2, h3⟩ := open_rows Try.underlying24 ebV 1 (by omega) (fun _ => rfl) (by kernel_rfl) (fun y : EB => y.bs.length ≤ 9223372036854775807 ∧ BAt (old W) (.slice y.a y.bs.length y.c) y.bs) open_eb h
  simp only [List.cons.injEq, and_true] at hcs
  subst hcs
  have hcap : l.length ≤ c := by
    rcases Go.Deep.open_slice Try.underlying24 h with ⟨hcs, _⟩ | ⟨a2, len, cap, m, n, D, Pl, hcs, hb, hl, hm, hmm, _, hx⟩
    · simp only [List.cons.injEq, and_true, Value.slice.injEq] at hcs; omega
    · simp only [List.cons.injEq, and_true, Value.slice.injEq] at hcs; omega
  have hf : l.flatMap ebV = l.map fun y => Value.slice y.a y.bs.length y.c := by
    clear h1 h2 h3 h hcap
    induction l with
    | nil => rfl
    | cons y l ih => rw [List.flatMap_cons, ih]; rfl
  refine ⟨l.map EB.bs, ⟨l.map fun y => Value.slice y.a y.bs.length y.c, ?_, by simp, ⟨a, c, by simp, by simpa using hcap⟩, fun i z hz => ?_⟩, by simpa using h3, fun z hz => ?_⟩
  · rw [List.length_map, ← hf]; exact h1
  · rw [List.getElem?_map] at hz
    cases hy : l[i]? with
    | none => rw [hy] at hz; cases hz
    | some y =>
      rw [hy] at hz
      cases hz
      exact ⟨_, by rw [List.getElem?_map, hy]; rfl, (h2 y (List.mem_of_getElem? hy)).2⟩
  · obtain ⟨y, hy, rfl⟩ := List.mem_map.1 hz
    exact (h2 y hy).1
end
end Go.Proofs.Ytpdmbmnhgcnelaa

/- journal, part r (plain): a file with one head of any number. -/
set_option linter.unusedVariables false
set_option linter.unusedSimpArgs false
namespace Go.Proofs.Ytpdmbmnhgcnelaa
open Go Go.SL

/-- What the two writes leave. -/
def endsFile (n : Nat) (x : List UInt8) : List UInt8 := if n % 2 = 0 then headL n x.length ++ List.replicate 16 0 ++ x else List.replicate 16 0 ++ headL n x.length ++ x
theorem ends_file (n : Nat) (x : List UInt8) : wroteL (wroteL [] (n % 2 * 16) (headL n x.length)) 32 x = endsFile n x := by
  have hh : (headL n x.length).length = 16 := headL_len _ _
  unfold endsFile
  generalize headL n x.length = h at hh ⊢
  rcases Nat.mod_two_eq_zero_or_one n with h0 | h1
  · rw [h0, if_pos rfl, Nat.zero_mul, show wroteL [] 0 h = h from wroteL_nil0 h]
    unfold wroteL
    rw [hh, show 32 + x.length - 16 = 16 + x.length from by omega, ← List.replicate_append_replicate, ← List.append_assoc]
    have hl : (h ++ List.replicate 16 (0 : UInt8)).length = 32 := by rw [List.length_append, hh]; simp
    simp only
    rw [List.take_left' hl, List.drop_of_length_le (by rw [List.length_append, hl]; simp), List.append_nil]
  · rw [h1, if_neg (by omega), Nat.one_mul]
    have e : wroteL [] 16 h = List.replicate 16 0 ++ h := by
      unfold wroteL
      simp only [List.nil_append, List.length_nil, Nat.sub_zero]
      rw [List.take_replicate, List.drop_of_length_le (by simp)]
      rw [show min 16 (16 + h.length) = 16 from by omega, List.append_nil]
    have hl : (List.replicate 16 (0 : UInt8) ++ h).length = 32 := by rw [List.length_append, hh]; simp
    rw [e, ← hl, wroteL_end]
theorem ends_found (n : Nat) (x : List UInt8) (hn : 1 ≤ n) (hn2 : n < 4294967296) (hx : x.length < 4294967296) : foundL (endsFile n x) = if n ≤ 1073741824 then x else [] := by
  unfold endsFile
  rcases Nat.mod_two_eq_zero_or_one n with h0 | h1
  · rw [if_pos h0]
    obtain ⟨p0, p1, p2⟩ := cut16 (headL n x.length) (List.replicate 16 0) x (headL_len _ _) (by simp)
    have hl : (headL n x.length ++ List.replicate 16 0 ++ x).length = 32 + x.length := by simp only [List.length_append, List.length_replicate, headL_len]
    unfold foundL
    rw [if_neg (by omega), p2, lastOf_at p0 hn2 hx, lastOf_zero p1]
    by_cases h : n ≤ 1073741824
    · rw [if_pos ⟨by simp only; omega, h, h0, by omega⟩, if_pos h]; exact List.take_length
    · rw [if_neg (fun hh => h hh.2.1), if_neg h]; rfl
  · rw [if_neg (by omega)]
    obtain ⟨p0, p1, p2⟩ := cut16 (List.replicate 16 0) (headL n x.length) x (by simp) (headL_len _ _)
    have hl : (List.replicate 16 0 ++ headL n x.length ++ x).length = 32 + x.length := by simp only [List.length_append, List.length_replicate, headL_len]
    unfold foundL
    rw [if_neg (by omega), p2, lastOf_zero p0, lastOf_at p1 hn2 hx]
    by_cases h : n ≤ 1073741824
    · rw [if_pos ⟨by simp only; omega, h, h1, by omega⟩, if_pos h]; exact List.take_length
    · rw [if_neg (fun hh => h hh.2.1), if_neg h]; rfl
end Go.Proofs.Ytpdmbmnhgcnelaa

/- journal, part r2 (plain): the file of JournalEnds on its disk. -/
set_option linter.unusedVariables false
set_option linter.unusedSimpArgs false
namespace Go.Proofs.Ytpdmbmnhgcnelaa
open Go Go.SL

theorem endsFile_len (n : Nat) (x : List UInt8) : (endsFile n x).length = 32 + x.length := by
  unfold endsFile
  split <;> simp only [List.length_append, List.length_replicate, headL_len]
theorem mayW_j (k : Nat) (b : List UInt8) (hk : k + b.length ≤ 1048576) : mayW nmJ (k : Int) b = true := by
  unfold mayW; rw [nmJ_name]; simp; omega
/-- The disk behind Create. -/
def endA1 (f : Nat) : Ab := ((Ab.new 1048576).create true nmJ f).2
def endA2 (f n : Nat) (x : List UInt8) : Ab := ((endA1 f).write true nmJ (n % 2 * 16) (headL n x.length)).2
def endA3 (f n : Nat) (x : List UInt8) : Ab := ((endA2 f n x).write true nmJ 32 x).2
theorem endA1_eq (f : Nat) : endA1 f = { (Ab.new 1048576).chg [(nmJ, f)] with fs := [(f, [], [])] } := by
  simp [endA1, Ab.create, Ab.meet, Ab.new, Ab.look, Ab.lookIn, Ab.chg]
theorem endA1_jf (f : Nat) : JF (endA1 f) nmJ f [] := by
  rw [endA1_eq]
  exact ⟨rfl, rfl, rfl, by simp [Ab.now, Ab.file], by simp⟩
theorem endA1_room (f : Nat) : (endA1 f).room = 1048576 := by rw [endA1_eq]; rfl
theorem endA1_states (f : Nat) : (endA1 f).states.length ≤ 2 := by rw [endA1_eq]; simp [Ab.chg, Ab.new]
theorem endA1_writes (f : Nat) : (endA1 f).writes.length = 0 := by rw [endA1_eq]; simp [Ab.chg, Ab.new]
theorem endA2_law (f n : Nat) (x : List UInt8) (hx : x.length ≤ 2000) : JF (endA2 f n x) nmJ f (wroteL [] (n % 2 * 16) (headL n x.length)) ∧ (endA2 f n x).room = 1048576 ∧ (endA2 f n x).states.length ≤ 2 ∧ (endA2 f n x).writes.length ≤ 1 := by
  have hl := headL_len n x.length
  obtain ⟨-, h2, h3, h4⟩ := (endA1_jf f).write (n % 2 * 16) (headL n x.length) (by rw [endA1_room, hl]; simp only [List.length_nil]; omega)
  have hg := (grow_write (endA1 f) true nmJ (n % 2 * 16) (headL n x.length)).2
  have h0 := endA1_writes f
  exact ⟨h2, h3.trans (endA1_room f), by unfold endA2; rw [h4]; exact endA1_states f, by unfold endA2; omega⟩
theorem endA3_law (f n : Nat) (x : List UInt8) (hx : x.length ≤ 2000) : JF (endA3 f n x) nmJ f (endsFile n x) ∧ (endA3 f n x).room = 1048576 ∧ (endA3 f n x).states.length ≤ 2 ∧ (endA3 f n x).writes.length ≤ 2 := by
  obtain ⟨g1, g2, g3, g4⟩ := endA2_law f n x hx
  have hl := headL_len n x.length
  have hw : (wroteL [] (n % 2 * 16) (headL n x.length)).length ≤ 32 := by
    have := wroteL_len [] (n % 2 * 16) (headL n x.length)
    rw [this, hl]; simp only [List.length_nil]; omega
  obtain ⟨-, h2, h3, h4⟩ := g1.write 32 x (by rw [g2]; omega)
  have hg := (grow_write (endA2 f n x) true nmJ 32 x).2
  rw [ends_file] at h2
  exact ⟨h2, h3.trans g2, by unfold endA3; rw [h4]; exact g3, by unfold endA3; omega⟩
theorem endA3_open {f n : Nat} {a : List UInt8} {A' : Ab} {e : Nat} {x : JN} (hn : 1 ≤ n) (hn2 : n ≤ 2147483648) (ha : a.length ≤ 1000) (hids : ∀ w ∈ (endA3 f n (encL a)).writes, w.1 ∈ (endA3 f n (encL a)).fs.map (·.1)) (hR : OpenR (endA3 f n (encL a)) nmJ e A' x) :
    e = 0 ∧ fileL (endA3 f n (encL a)) nmJ = (if n ≤ 1073741824 then [a] else []) ∧ x = ⟨1, (((if n ≤ 1073741824 then [a] else []).flatMap encL).length : Int), (((if n ≤ 1073741824 then [a] else []).flatMap encL).length : Int), false⟩ ∧ (∃ g, AInv A' nmJ g ((if n ≤ 1073741824 then [a] else []).flatMap encL).length 1048576 ((if n ≤ 1073741824 then [a] else []).flatMap encL)) ∧ A'.writes.length ≤ 3 := by
  have hel := encL_len a (by omega)
  obtain ⟨h1, h2, h3, h4⟩ := endA3_law f n (encL a) (by omega)
  have hfl : fileL (endA3 f n (encL a)) nmJ = (if n ≤ 1073741824 then [a] else []) := by
    rw [h1.fileL, ends_found n _ hn (by omega) (by omega)]
    split
    · have := records_enc [a] (by simp; omega)
      simpa using this
    · exact records_nil
  have hlen : ((if n ≤ 1073741824 then [a] else []).flatMap encL).length ≤ (encL a).length := by
    split
    · simp
    · simp
  obtain ⟨r1, r2, r3, r4⟩ := open_law (h1.putOk hids) nmJ_name nmJ_fresh nmJ_ne hfl (by omega) (by rw [h1.used, h2, endsFile_len]; omega) hR
  rw [h2] at r3
  exact ⟨r1, hfl, r2, r3, by omega⟩
end Go.Proofs.Ytpdmbmnhgcnelaa

/- journal, part s: JournalEnds, the walk. -/
set_option linter.unusedVariables false
set_option linter.unusedSimpArgs false
namespace Go.Proofs.Ytpdmbmnhgcnelaa
open Go Go.SL
section
variable {P : Program} {f : FuncId} {n : Nat} {R : Ending → World → Prop} {G : Glob} {k : List Item} {L : Lst} {H : List HP}
/-- A list of texts that is held: seen in one piece. -/
theorem K_list {v : Value} {ls : List (List UInt8)} (h : ∀ Y, LAt Y v ls → K P f n R G k L (Y :: H)) : K P f n R G k L (listH v ls :: H) := by
  refine K_open (listH_open v ls) ?_
  rintro ⟨cs, M⟩ hR
  refine K_sat ?_
  rintro ⟨w, hw⟩
  obtain ⟨h3, _, hA3⟩ := hw.getA (i := 0) rfl
  refine K_ent (Ent.resep [slc 22 1 v ls.length cs, arrS 5 M] H) ?_
  exact h _ (hR.lat ⟨h3, hA3⟩)
variable {S : World → Prop} {all : Array Oper} {rest : Pl}
theorem J_list {v : Value} {ls : List (List UInt8)} (h : ∀ Y, LAt Y v ls → J P f n R G S all rest k L (Y :: H)) : J P f n R G S all rest k L (listH v ls :: H) := fun a w ha hw => by
  obtain ⟨t, o, u, hp, hpw, h1, h2, ⟨x, hR, hA⟩, hH, hd, he⟩ := hw
  have hw1 : Sat G w (Sep [slc 22 1 v ls.length x.1, arrS 5 x.2] :: H) := ⟨t, o, u, hp, hpw, h1, h2, hA, hH, hd, he⟩
  obtain ⟨h', _, hs'⟩ := Sep_get (i := 0) rfl h1 hA
  exact h _ (hR.lat ⟨h', hs'⟩) a w ha hw1
end
attribute [local irreducible] J K Ctr Ends pts slc mapR mapI sbRow stock arrS loopP CtrY diskA LI listH endA1 endA2 endA3

set_option maxRecDepth 20000 in
theorem JournalEnds_any (X : HP) (n : Int) (va vb : Value) (a b : List UInt8) (ha : BAt X va a) (hb : BAt X vb b) (hla : a.length ≤ 9223372036854775807) (hlb : b.length ≤ 9223372036854775807) (hn : -9223372036854775808 ≤ n ∧ n ≤ 9223372036854775807) :
    Ctr Try.prog 4 [.int .i64 n, va, vb] [X] (fun r H => r = .bool true ∧ H = [X]) := by
  obtain ⟨a1, c1, rfl, hc1⟩ := ha.2
  obtain ⟨a2, c2, rfl, hc2⟩ := hb.2
  refine Ctr.enter Try.func4 (by kernel_rfl) rfl Try.ntmps4 rfl rfl ?_
  intro G F R hE
  (refine go ?_)
  (first | refine J_callE rfl rfl rfl rfl (awake_any) entA ?_ (fun _ _ _ _ _ => trivial) | refine J_call0E rfl rfl rfl (awake_any) entA ?_ (fun _ _ _ _ _ => trivial) | (refine go ?_; first | refine J_callE rfl rfl rfl rfl (awake_any) entA ?_ (fun _ _ _ _ _ => trivial) | refine J_call0E rfl rfl rfl (awake_any) entA ?_ (fun _ _ _ _ _ => trivial)))
  rintro _ _ ⟨rfl, rfl⟩
  (refine go ?_)
  (first | refine J_callE rfl rfl rfl rfl (New_dA 1048576 (by omega) (by omega)) entA ?_ (fun _ _ _ _ _ => trivial) | refine J_call0E rfl rfl rfl (New_dA 1048576 (by omega) (by omega)) entA ?_ (fun _ _ _ _ _ => trivial) | (refine go ?_; first | refine J_callE rfl rfl rfl rfl (New_dA 1048576 (by omega) (by omega)) entA ?_ (fun _ _ _ _ _ => trivial) | refine J_call0E rfl rfl rfl (New_dA 1048576 (by omega) (by omega)) entA ?_ (fun _ _ _ _ _ => trivial)))
  rintro _ _ ⟨bd, rfl, rfl⟩
  repeat' (first | (with_reducible intro _hh) | refine go1 ?_ | refine J_fork ?_ ?_ | refine J_gsP rfl rfl rfl rfl ?_ ?_ | refine K_condP rfl rfl ?_ ?_)
  · (first | refine K_return hE Try.func4 rfl _ rfl ⟨rfl, rfl⟩ entA | refine K_fallEnd hE Try.func4 rfl _ rfl ⟨rfl, rfl⟩ entA)
  · (first | refine K_return hE Try.func4 rfl _ rfl ⟨rfl, rfl⟩ entA | refine K_fallEnd hE Try.func4 rfl _ rfl ⟨rfl, rfl⟩ entA)
  · (first | refine K_return hE Try.func4 rfl _ rfl ⟨rfl, rfl⟩ entA | refine K_fallEnd hE Try.func4 rfl _ rfl ⟨rfl, rfl⟩ entA)
  · (first | refine K_return hE Try.func4 rfl _ rfl ⟨rfl, rfl⟩ entA | refine K_fallEnd hE Try.func4 rfl _ rfl ⟨rfl, rfl⟩ entA)
  rename_i h1 h2 h3
  have hla2 : a.length ≤ 1000 := by omega
  have hlb2 : b.length ≤ 1000 := by omega
  obtain ⟨m, rfl⟩ : ∃ m : Nat, n = m := ⟨n.toNat, by omega⟩
  have hm1 : 1 ≤ m := by omega
  have hm2 : m ≤ 2147483648 := by omega
  clear h1 h2 h3 _hh
  have hel := encL_len a (by omega)
  have hel2 := encL_len b (by omega)
  (first | refine J_callE rfl rfl rfl rfl (refRecord_any X (.slice a1 a.length c1) a ha (by omega)) entA ?_ (fun _ _ _ _ _ => trivial) | refine J_call0E rfl rfl rfl (refRecord_any X (.slice a1 a.length c1) a ha (by omega)) entA ?_ (fun _ _ _ _ _ => trivial) | (refine go ?_; first | refine J_callE rfl rfl rfl rfl (refRecord_any X (.slice a1 a.length c1) a ha (by omega)) entA ?_ (fun _ _ _ _ _ => trivial) | refine J_call0E rfl rfl rfl (refRecord_any X (.slice a1 a.length c1) a ha (by omega)) entA ?_ (fun _ _ _ _ _ => trivial)))
  rintro x1 _ rfl
  (first | refine J_shape 0 rfl ?_ | refine K_shape 0 rfl ?_)
  rintro xa xc rfl
  (refine go ?_)
  (first | refine J_callE rfl rfl rfl rfl (Create_dA bd (Ab.new 1048576) nmJ (by simp [Ab.new])) entA ?_ (fun _ _ _ _ _ => trivial) | refine J_call0E rfl rfl rfl (Create_dA bd (Ab.new 1048576) nmJ (by simp [Ab.new])) entA ?_ (fun _ _ _ _ _ => trivial) | (refine go ?_; first | refine J_callE rfl rfl rfl rfl (Create_dA bd (Ab.new 1048576) nmJ (by simp [Ab.new])) entA ?_ (fun _ _ _ _ _ => trivial) | refine J_call0E rfl rfl rfl (Create_dA bd (Ab.new 1048576) nmJ (by simp [Ab.new])) entA ?_ (fun _ _ _ _ _ => trivial)))
  rintro _ _ ⟨f, hf, rfl, rfl⟩
  rw [nmJ_name, show ((Ab.new 1048576).create true nmJ f).2 = endA1 f from by unfold endA1; rfl]
  (refine go ?_)
  (first | refine J_slot 63 ((.int .i64 ((m % 2 : Nat) : Int))) rfl ((congrArg (Value.int .i64) (and_mask_i64 m 1 (by omega) (by omega)))) ?_ | refine K_slot 63 ((.int .i64 ((m % 2 : Nat) : Int))) rfl ((congrArg (Value.int .i64) (and_mask_i64 m 1 (by omega) (by omega)))) ?_)
  refine J_isBin ?_
  refine J_mul rfl rfl rfl (by simp only [inK]; omega) ?_
  (first | refine J_slot 64 ((.int .i64 ((m % 2 * 16 : Nat) : Int))) rfl ((congrArg (Value.int .i64) (by omega))) ?_ | refine K_slot 64 ((.int .i64 ((m % 2 * 16 : Nat) : Int))) rfl ((congrArg (Value.int .i64) (by omega))) ?_)
  (refine go ?_)
  (first | refine J_callE rfl rfl rfl rfl (refHead_any m (encL a).length (by omega) (by omega)) entA ?_ (fun _ _ _ _ _ => trivial) | refine J_call0E rfl rfl rfl (refHead_any m (encL a).length (by omega) (by omega)) entA ?_ (fun _ _ _ _ _ => trivial) | (refine go ?_; first | refine J_callE rfl rfl rfl rfl (refHead_any m (encL a).length (by omega) (by omega)) entA ?_ (fun _ _ _ _ _ => trivial) | refine J_call0E rfl rfl rfl (refHead_any m (encL a).length (by omega) (by omega)) entA ?_ (fun _ _ _ _ _ => trivial)))
  rintro hv _ rfl
  (first | refine J_shape 0 rfl ?_ | refine K_shape 0 rfl ?_)
  rintro va2 vc2 rfl
  refine J_slcVw 0 rfl ?_
  intro hvw
  have hhl := headL_len m (encL a).length
  have hmw := mayW_j (m % 2 * 16) (headL m (encL a).length) (by omega)
  have hwd := Write_dA bd (endA1 f) nmJ ((m % 2 * 16 : Nat) : Int) _ _ (headL m (encL a).length) hvw (by rw [endA1_writes]; omega) (by omega) (by omega)
  rw [hmw, Int.toNat_natCast, show ((endA1 f).write true nmJ (m % 2 * 16) (headL m (encL a).length)).2 = endA2 f m (encL a) from by unfold endA2; rfl] at hwd
  (refine go ?_)
  (first | refine J_callE rfl rfl rfl rfl (hwd) entA ?_ (fun _ _ _ _ _ => trivial) | refine J_call0E rfl rfl rfl (hwd) entA ?_ (fun _ _ _ _ _ => trivial) | (refine go ?_; first | refine J_callE rfl rfl rfl rfl (hwd) entA ?_ (fun _ _ _ _ _ => trivial) | refine J_call0E rfl rfl rfl (hwd) entA ?_ (fun _ _ _ _ _ => trivial)))
  rintro _ _ ⟨rfl, rfl⟩
  obtain ⟨-, -, q2, q3⟩ := endA2_law f m (encL a) (by omega)
  have hmw2 := mayW_j 32 (encL a) (by omega)
  (refine go ?_)
  refine J_slcVw 2 rfl ?_
  intro hvx
  have hwd2 := Write_dA bd (endA2 f m (encL a)) nmJ ((32 : Nat) : Int) _ _ (encL a) hvx (by omega) (by omega) (by omega)
  rw [hmw2, Int.toNat_natCast, show ((endA2 f m (encL a)).write true nmJ 32 (encL a)).2 = endA3 f m (encL a) from by unfold endA3; rfl] at hwd2
  (refine go ?_)
  (first | refine J_callE rfl rfl rfl rfl (hwd2) entA ?_ (fun _ _ _ _ _ => trivial) | refine J_call0E rfl rfl rfl (hwd2) entA ?_ (fun _ _ _ _ _ => trivial) | (refine go ?_; first | refine J_callE rfl rfl rfl rfl (hwd2) entA ?_ (fun _ _ _ _ _ => trivial) | refine J_call0E rfl rfl rfl (hwd2) entA ?_ (fun _ _ _ _ _ => trivial)))
  rintro _ _ ⟨rfl, rfl⟩
  obtain ⟨p1, p2, p3, p4⟩ := endA3_law f m (encL a) (by omega)
  (refine go ?_)
  refine J_dA 0 rfl ?_
  rintro ⟨D, hRel⟩
  have hids := hRel.knownW
  (first | refine J_callE rfl rfl rfl rfl (Open_any bd nmJ (endA3 f m (encL a)) (by decide) (by omega) (by omega)) entA ?_ (fun _ _ _ _ _ => trivial) | refine J_call0E rfl rfl rfl (Open_any bd nmJ (endA3 f m (encL a)) (by decide) (by omega) (by omega)) entA ?_ (fun _ _ _ _ _ => trivial) | (refine go ?_; first | refine J_callE rfl rfl rfl rfl (Open_any bd nmJ (endA3 f m (encL a)) (by decide) (by omega) (by omega)) entA ?_ (fun _ _ _ _ _ => trivial) | refine J_call0E rfl rfl rfl (Open_any bd nmJ (endA3 f m (encL a)) (by decide) (by omega) (by omega)) entA ?_ (fun _ _ _ _ _ => trivial)))
  rintro _ _ ⟨e, A1, x, ho, hpost⟩
  obtain ⟨rfl, hfl, hx, ⟨g, hI⟩, hw⟩ := endA3_open hm1 hm2 hla2 hids ho
  rw [hfl] at hpost
  rcases hpost with ⟨h, -⟩ | ⟨-, jb, lv1, rfl, rfl⟩
  · exact absurd rfl h
  subst hx
  (first | refine K_ent (Ent.pick [2] rfl) ?_ | refine J_ent (Ent.pick [2] rfl) ?_)
  refine J_list ?_
  intro Y1 hY1
  obtain ⟨cs1, hvw1, hcl1, ⟨l1, k1, rfl, hk1⟩, hel1⟩ := hY1
  rcases Nat.lt_or_ge 1073741824 m with hbig | hsm
  · simp only [if_neg (show ¬ m ≤ 1073741824 from by omega)] at *
    repeat' (first | (with_reducible intro _hh) | refine go1 ?_ | refine J_fork ?_ ?_ | refine J_gsP rfl rfl rfl rfl ?_ ?_ | refine K_condP rfl rfl ?_ ?_)
    · (first | refine K_return hE Try.func4 rfl _ rfl ⟨rfl, rfl⟩ entA | refine K_fallEnd hE Try.func4 rfl _ rfl ⟨rfl, rfl⟩ entA)
    · exfalso; omega
  simp only [if_pos hsm] at *
  have hb5 : ([a].flatMap encL).length = (encL a).length := by simp
  have hfm : [a].flatMap encL ++ encL b = [a, b].flatMap encL := by simp
  have hac := Append_any jb bd nmJ A1 ⟨1, (([a].flatMap encL).length : Int), (([a].flatMap encL).length : Int), false⟩ X _ b hb hlb (by simp only; omega) (by omega)
  obtain ⟨r1, r2, hI2, hw2⟩ := append_law hI nmJ_name (b := b) (by omega) (by omega) (by omega)
  obtain ⟨A2, hA2⟩ : ∃ A2, appendA nmJ A1 ⟨1, (([a].flatMap encL).length : Int), (([a].flatMap encL).length : Int), false⟩ b = (0, A2, ⟨1, (([a, b].flatMap encL).length : Int), (([a].flatMap encL).length : Int), false⟩) := ⟨_, Prod.ext r1 (Prod.ext rfl (by rw [← hfm]; exact r2))⟩
  rw [hA2] at hac hI2 hw2
  simp only at hac hI2 hw2
  rw [hfm] at hI2
  clear r1 r2 hA2
  have hb6 : ([a, b].flatMap encL).length = (encL a).length + (encL b).length := by simp
  clear hvw hvx hwd hwd2 hmw hmw2 ho hfl hids hRel
  (refine go ?_)
  refine K_condP rfl rfl ?_ ?_
  · intro h; exfalso; omega
  intro _
  (refine go ?_)
  (first | refine J_callE rfl rfl rfl rfl (hac) entA ?_ (fun _ _ _ _ _ => trivial) | refine J_call0E rfl rfl rfl (hac) entA ?_ (fun _ _ _ _ _ => trivial) | (refine go ?_; first | refine J_callE rfl rfl rfl rfl (hac) entA ?_ (fun _ _ _ _ _ => trivial) | refine J_call0E rfl rfl rfl (hac) entA ?_ (fun _ _ _ _ _ => trivial)))
  rintro _ _ ⟨rfl, rfl⟩
  (refine go ?_)
  (first | refine J_callE rfl rfl rfl rfl (Commit_any jb bd nmJ A2 ⟨1, (([a, b].flatMap encL).length : Int), (([a].flatMap encL).length : Int), false⟩ (by simp only; omega) (by simp only; omega) (by rw [hI2.states]; simp) (by omega)) entA ?_ (fun _ _ _ _ _ => trivial) | refine J_call0E rfl rfl rfl (Commit_any jb bd nmJ A2 ⟨1, (([a, b].flatMap encL).length : Int), (([a].flatMap encL).length : Int), false⟩ (by simp only; omega) (by simp only; omega) (by rw [hI2.states]; simp) (by omega)) entA ?_ (fun _ _ _ _ _ => trivial) | (refine go ?_; first | refine J_callE rfl rfl rfl rfl (Commit_any jb bd nmJ A2 ⟨1, (([a, b].flatMap encL).length : Int), (([a].flatMap encL).length : Int), false⟩ (by simp only; omega) (by simp only; omega) (by rw [hI2.states]; simp) (by omega)) entA ?_ (fun _ _ _ _ _ => trivial) | refine J_call0E rfl rfl rfl (Commit_any jb bd nmJ A2 ⟨1, (([a, b].flatMap encL).length : Int), (([a].flatMap encL).length : Int), false⟩ (by simp only; omega) (by simp only; omega) (by rw [hI2.states]; simp) (by omega)) entA ?_ (fun _ _ _ _ _ => trivial)))
  rintro _ _ ⟨ec, Ac, xc2, rfl, rfl, hcm⟩
  obtain ⟨rfl, -, hroom, C, hjf, hjs, -, -, hwc⟩ := commit_law hI2 nmJ_name (by omega) (by omega) hcm
  (refine go ?_)
  (first | refine J_callE rfl rfl rfl rfl (Crash_dA bd Ac 0 (-1) 0 X (.slice none 0 0) [] ⟨none, 0, rfl, .inl rfl⟩ (by simp) (by rw [hjs.states]; simp) (by omega) (by omega) (by omega) (by omega)) entA ?_ (fun _ _ _ _ _ => trivial) | refine J_call0E rfl rfl rfl (Crash_dA bd Ac 0 (-1) 0 X (.slice none 0 0) [] ⟨none, 0, rfl, .inl rfl⟩ (by simp) (by rw [hjs.states]; simp) (by omega) (by omega) (by omega) (by omega)) entA ?_ (fun _ _ _ _ _ => trivial) | (refine go ?_; first | refine J_callE rfl rfl rfl rfl (Crash_dA bd Ac 0 (-1) 0 X (.slice none 0 0) [] ⟨none, 0, rfl, .inl rfl⟩ (by simp) (by rw [hjs.states]; simp) (by omega) (by omega) (by omega) (by omega)) entA ?_ (fun _ _ _ _ _ => trivial) | refine J_call0E rfl rfl rfl (Crash_dA bd Ac 0 (-1) 0 X (.slice none 0 0) [] ⟨none, 0, rfl, .inl rfl⟩ (by simp) (by rw [hjs.states]; simp) (by omega) (by omega) (by omega) (by omega)) entA ?_ (fun _ _ _ _ _ => trivial)))
  rintro _ _ rfl
  obtain ⟨-, hcs2, -, hcw⟩ := crash_law hjf hjs [] (-1) 0
  obtain ⟨Ad, hAd⟩ : ∃ Ad, Ad = Ac.crash 0 [] (-1) 0 := ⟨_, rfl⟩
  rw [← hAd] at hcs2 hcw ⊢
  (refine go ?_)
  (first | refine J_callE rfl rfl rfl rfl (Open_any bd nmJ Ad (by decide) (by rw [hcs2.states]; simp) (by rw [hcw]; simp)) entA ?_ (fun _ _ _ _ _ => trivial) | refine J_call0E rfl rfl rfl (Open_any bd nmJ Ad (by decide) (by rw [hcs2.states]; simp) (by rw [hcw]; simp)) entA ?_ (fun _ _ _ _ _ => trivial) | (refine go ?_; first | refine J_callE rfl rfl rfl rfl (Open_any bd nmJ Ad (by decide) (by rw [hcs2.states]; simp) (by rw [hcw]; simp)) entA ?_ (fun _ _ _ _ _ => trivial) | refine J_call0E rfl rfl rfl (Open_any bd nmJ Ad (by decide) (by rw [hcs2.states]; simp) (by rw [hcw]; simp)) entA ?_ (fun _ _ _ _ _ => trivial)))
  rintro _ _ ⟨e2, A4, x4, ho2, hpost2⟩
  obtain ⟨-, -, rfl, hfl, rfl, ⟨g2, hI4⟩, -, hw4⟩ := hI2.back nmJ_name nmJ_fresh nmJ_ne (by simp; omega) (by omega) (by omega) hcm (hAd ▸ ho2)
  rw [← hAd] at hfl
  rw [hfl] at hpost2
  rcases hpost2 with ⟨h, -⟩ | ⟨-, jb2, lv2, rfl, rfl⟩
  · exact absurd rfl h
  (first | refine K_ent (Ent.pick [2] rfl) ?_ | refine J_ent (Ent.pick [2] rfl) ?_)
  refine J_list ?_
  intro Y2 hY2
  obtain ⟨cs2, hvw2, hcl2, ⟨l2, k2, rfl, hk2⟩, hel2'⟩ := hY2
  obtain ⟨ca, hca, hba⟩ := hel1 0 a rfl
  obtain ⟨cb, hcb, hbb⟩ := hel2' 1 b rfl
  obtain ⟨b1, o1, j1, hs1⟩ := hvw1.some (by intro e; rw [e] at hca; simp at hca)
  obtain ⟨b2, o2, j2, hs2⟩ := hvw2.some (by intro e; rw [e] at hcb; simp at hcb)
  simp only [Value.slice.injEq, true_and] at hs1 hs2
  obtain ⟨rfl, rfl⟩ := hs1
  obtain ⟨rfl, rfl⟩ := hs2
  obtain ⟨ax, kx, rfl, hkx⟩ := hba.2
  obtain ⟨ay, ky, rfl, hky⟩ := hbb.2
  (refine go ?_)
  refine K_drawA (fun w => Sat G w ([Y2, Y1, X])) (.st 0 (.st 1 (.st 2 (.st 3 (.st 4 (.st 5 (.st 6 (.st 7 (.st 8 (.st 9 (.st 10 (.st 11 (.st 12 (.st 13 (.st 14 (.st 15 (.st 16 (.st 17 (.st 18 (.st 19 (.st 20 (.st 21 (.st 22 (.st 23 (.st 24 (.st 25 (.st 26 (.st 27 (.st 28 (.st 29 (.st 30 (.st 31 (.st 32 (.st 33 (.st 34 (.st 35 (.st 36 (.st 37 (.st 38 .nil))))))))))))))))))))))))))))))))))))))) rfl (by kernel_rfl) (by kernel_rfl) (by kernel_rfl) (fun w hw => hw.ent entA) ?_
  (refine go ?_)
  refine J_at1 (U := tab) 0 rfl rfl rfl rfl rfl rfl rfl rfl (by simp) ?_
  (refine go ?_)
  refine J_isLoad ?_
  refine J_loadAtS (U := tab) 1 0 rfl rfl rfl hvw1 rfl hca rfl rfl ?_
  (refine go ?_)
  refine J_toStrS (U := tab) 1 rfl rfl rfl rfl rfl rfl rfl rfl rfl hba.1 ?_
  (refine go ?_)
  refine J_toStrS (U := tab) 2 rfl rfl rfl rfl rfl rfl rfl rfl rfl ha.1 ?_
  (refine go ?_)
  (first | refine J_slot 115 ((.bool true)) rfl ((by rw [eqS_strOf]; simp)) ?_ | refine K_slot 115 ((.bool true)) rfl ((by rw [eqS_strOf]; simp)) ?_)
  (refine go ?_)
  refine J_at1 (U := tab) 1 rfl rfl rfl rfl rfl rfl rfl rfl (by simp) ?_
  (refine go ?_)
  refine J_isLoad ?_
  refine J_loadAtS (U := tab) 0 1 rfl rfl rfl hvw2 rfl hcb rfl rfl ?_
  (refine go ?_)
  refine J_toStrS (U := tab) 0 rfl rfl rfl rfl rfl rfl rfl rfl rfl hbb.1 ?_
  (refine go ?_)
  refine J_toStrS (U := tab) 2 rfl rfl rfl rfl rfl rfl rfl rfl rfl hb.1 ?_
  (refine go ?_)
  (first | refine J_slot 6 ((.bool true)) rfl ((by rw [eqS_strOf]; simp)) ?_ | refine K_slot 6 ((.bool true)) rfl ((by rw [eqS_strOf]; simp)) ?_)
  (refine go ?_)
  (first | refine K_return hE Try.func4 rfl _ rfl ⟨rfl, rfl⟩ entA | refine K_fallEnd hE Try.func4 rfl _ rfl ⟨rfl, rfl⟩ entA)
end Go.Proofs.Ytpdmbmnhgcnelaa

/- journal, part s2: a text that came in, with its capacity. -/
set_option linter.unusedVariables false
set_option linter.unusedSimpArgs false
namespace Go.Proofs.Ytpdmbmnhgcnelaa
open Go Go.SL Go.RowKit Go.ChangeShapes Go.WideShapes
section
variable {H : Type} {enc : TypeId × Value → H} {W : World} {base : Nat} {spare : Nat → Bool} {held : Bool}
def BytesIn (X : HP) (v : Value) (bs : List UInt8) : Prop := BAt X v bs ∧ bs.length ≤ 9223372036854775807
theorem open_bin {fuel : Nat} {v : Value} {x : DataW H × List MemPlace} (h : DataW.trod enc Try.prog W base spare held fuel 22 [v] = some x) : ∃ bs : List UInt8, BytesIn (old W) v bs := by
  obtain ⟨y, hcs, h1, h2⟩ := open_eb _ _ _ h
  simp only [ebV, List.cons.injEq, and_true] at hcs
  subst hcs
  exact ⟨y.bs, h2, h1⟩
end
end Go.Proofs.Ytpdmbmnhgcnelaa

/- the reference's journal, part e: Open. -/
set_option linter.unusedVariables false
set_option linter.unusedSimpArgs false
namespace Go.Proofs.Ytpdmbmnhgcnelaa
open Go Go.SL
/-- What a file tells. -/
def RM.told (m : RM) (name : ByteArray) : List (List UInt8) := recordsA (foundL (m.read name 0 ((m.size name).1 : Int)).1)
def RM.openJ (m : RM) (name : ByteArray) : Nat × RM :=
  if ¬ (isName name = true ∧ isName (freshOf name) = true) then (1, m) else if m.down = true then (7, m) else m.put name (m.told name)
theorem RM.file_len {m : RM} {k : Nat} (h : MOk m k) (f : Nat) : (m.file f).length ≤ 1048576 := by
  unfold RM.file
  rw [List.getD_eq_getElem?_getD]
  cases hg : m.now[f]? with
  | none => simp
  | some b => exact h.now b (List.mem_of_getElem? hg)
theorem RM.read_len {m : RM} {k : Nat} (h : MOk m k) (name : ByteArray) (at_ n : Int) : (m.read name at_ n).1.length ≤ 1048576 := by
  unfold RM.read
  split
  · simp
  split
  · simp
  · rename_i f hf
    split
    · simp
    · have := RM.file_len h f
      rw [List.length_take, List.length_drop]; omega
theorem RM.size_len {m : RM} {k : Nat} (h : MOk m k) (name : ByteArray) : (m.size name).1 ≤ 1048576 := by
  unfold RM.size
  split
  · simp
  · exact RM.file_len h _
theorem foundL_len (b : List UInt8) : (foundL b).length ≤ b.length := by
  unfold foundL
  split
  · simp
  · rw [List.length_take, List.length_drop]; omega
theorem MOk.openJ {m : RM} {k : Nat} (h : MOk m k) (hk : k + 4 ≤ 100000) (name : ByteArray) : MOk (m.openJ name).2 (k + 4) := by
  unfold RM.openJ
  split
  · exact h.up (by omega) hk
  split
  · exact h.up (by omega) hk
  · exact h.put hk _ _
theorem Sim.openJ {A A' : Ab} {m : RM} (h : Sim A m) {name : ByteArray} {e : Nat} {x : JN} (ho : OpenR A name e A' x) : e = (m.openJ name).1 ∧ Sim A' (m.openJ name).2 ∧ fileL A name = m.told name ∧ (e = 0 → x = ⟨1, (((m.told name).flatMap encL).length : Int), (((m.told name).flatMap encL).length : Int), false⟩) := by
  have ht : fileL A name = m.told name := by unfold fileL RM.told; rw [h.size, h.read]
  have hoff : m.down = A.off := by obtain ⟨σ, h⟩ := h; exact h.off
  unfold OpenR at ho
  unfold RM.openJ
  rw [hoff]
  by_cases h1 : ¬ (isName name = true ∧ isName (freshOf name) = true)
  · rw [if_pos h1] at ho ⊢
    obtain ⟨rfl, rfl⟩ := ho
    exact ⟨rfl, h, ht, fun h => by cases h⟩
  rw [if_neg h1] at ho ⊢
  by_cases h2 : A.off = true
  · rw [if_pos h2] at ho ⊢
    obtain ⟨rfl, rfl⟩ := ho
    exact ⟨rfl, h, ht, fun h => by cases h⟩
  rw [if_neg h2] at ho ⊢
  obtain ⟨y, hp, rfl, rfl⟩ := ho
  rw [ht] at hp
  obtain ⟨h3, h4, h5⟩ := Sim.put (x := (A, 0, 0, 0)) h hp
  refine ⟨h3, h4, ht, fun he => ?_⟩
  rw [if_pos he] at h5
  rw [h5]
theorem rdM_open (br : Nat) (m : RM) : ∀ h, rdM br m h → ∃ D, RR D m ∧ Sep [rd br D] h := fun h ⟨D, hR, hd⟩ => ⟨D, hR, Sep_one' hd⟩
attribute [local irreducible] J K Ctr Ends pts slc mapR mapI sbRow stock arrS loopP CtrY diskA LI listH rdM

set_option maxHeartbeats 4000000 in
set_option maxRecDepth 20000 in
theorem refOpen_any (br k : Nat) (m : RM) (hM : MOk m k) (hk : k + 4 ≤ 100000) (name : ByteArray) (hname : name.size ≤ 1000000000) :
    Ctr Try.prog 15 [ptr br, .string name] [rdM br m]
      (fun r H => ((m.openJ name).1 ≠ 0 ∧ r = .tuple #[.pointer none, .slice none 0 0, .int .i64 ((m.openJ name).1 : Int)] ∧ H = [rdM br (m.openJ name).2]) ∨
        ((m.openJ name).1 = 0 ∧ ∃ jb lv Y, LAt Y lv (m.told name) ∧ r = .tuple #[ptr jb, lv, .int .i64 0] ∧ H = [rdM br (m.openJ name).2, pts jb (cl [ptr br, .string name, .int .i64 1, .int .i64 (((m.told name).flatMap encL).length : Int), .int .i64 (((m.told name).flatMap encL).length : Int), .bool false] 97), Y])) := by
  have hfrs : (freshOf name).size = name.size + 4 := by unfold freshOf; rw [ByteArray.size_append]; rfl
  refine Ctr.enter Try.func15 (by kernel_rfl) rfl Try.ntmps15 rfl rfl ?_
  intro G F R hE
  (refine go ?_)
  (first | refine J_callE rfl rfl rfl rfl (mIsName_any name (by omega)) entA ?_ (fun _ _ _ _ _ => trivial) | refine J_call0E rfl rfl rfl (mIsName_any name (by omega)) entA ?_ (fun _ _ _ _ _ => trivial) | (refine go ?_; first | refine J_callE rfl rfl rfl rfl (mIsName_any name (by omega)) entA ?_ (fun _ _ _ _ _ => trivial) | refine J_call0E rfl rfl rfl (mIsName_any name (by omega)) entA ?_ (fun _ _ _ _ _ => trivial)))
  rintro _ _ ⟨rfl, rfl⟩
  cases h1 : isName name with
  | false =>
    have ho : m.openJ name = (1, m) := by unfold RM.openJ; rw [if_pos (by simp [h1])]
    rw [ho] at hE
    (refine go ?_)
    (first | refine K_return hE Try.func15 rfl _ rfl (.inl ⟨Nat.one_ne_zero, rfl, rfl⟩) entA | refine K_fallEnd hE Try.func15 rfl _ rfl (.inl ⟨Nat.one_ne_zero, rfl, rfl⟩) entA)
  | true =>
  (refine go ?_)
  refine J_strAdd rfl rfl rfl (by show name.size + 4 ≤ _; omega) ?_
  refine J_slot 23 (.string (freshOf name)) rfl rfl ?_
  (first | refine J_callE rfl rfl rfl rfl (mIsName_any (freshOf name) (by omega)) entA ?_ (fun _ _ _ _ _ => trivial) | refine J_call0E rfl rfl rfl (mIsName_any (freshOf name) (by omega)) entA ?_ (fun _ _ _ _ _ => trivial) | (refine go ?_; first | refine J_callE rfl rfl rfl rfl (mIsName_any (freshOf name) (by omega)) entA ?_ (fun _ _ _ _ _ => trivial) | refine J_call0E rfl rfl rfl (mIsName_any (freshOf name) (by omega)) entA ?_ (fun _ _ _ _ _ => trivial)))
  rintro _ _ ⟨rfl, rfl⟩
  cases h2 : isName (freshOf name) with
  | false =>
    have ho : m.openJ name = (1, m) := by unfold RM.openJ; rw [if_pos (by simp [h2])]
    rw [ho] at hE
    (refine go ?_)
    (first | refine K_return hE Try.func15 rfl _ rfl (.inl ⟨Nat.one_ne_zero, rfl, rfl⟩) entA | refine K_fallEnd hE Try.func15 rfl _ rfl (.inl ⟨Nat.one_ne_zero, rfl, rfl⟩) entA)
  | true =>
  (refine go ?_)
  refine J_ent (Ent.pick [0] rfl) ?_
  refine J_open (rdM_open br m) ?_
  rintro ⟨room, now, sure, lv, sts, wrs, nxt, down, nowL, sureL, stsL, wl, arrs, nrows⟩ hR
  have hdn := hR.down
  simp only at hdn
  refine J_ent (rd_o _ _ _ _ _ _ _ _ _ _ _ _ _ _ _ _) ?_
  (refine go ?_)
  refine K_ent (rd_c _ _ _ _ _ _ _ _ _ _ _ _ _ _ _ _) ?_
  refine K_ent (rdM_in hR _) ?_
  cases hd : m.down with
  | true =>
    have ho : m.openJ name = (7, m) := by unfold RM.openJ; rw [if_neg (by simp [h1, h2]), if_pos hd]
    rw [ho] at hE
    rw [hd] at hdn
    subst hdn
    (refine go ?_)
    (first | refine K_return hE Try.func15 rfl _ rfl (.inl ⟨Nat.succ_ne_zero 6, rfl, rfl⟩) entA | refine K_fallEnd hE Try.func15 rfl _ rfl (.inl ⟨Nat.succ_ne_zero 6, rfl, rfl⟩) entA)
  | false =>
  have ho : m.openJ name = m.put name (m.told name) := by unfold RM.openJ; rw [if_neg (by simp [h1, h2]), if_neg (by simp [hd])]
  rw [ho] at hE
  rw [hd] at hdn
  subst hdn
  have hsz := RM.size_len hM name
  have hrl := RM.read_len hM name 0 ((m.size name).1 : Int)
  (refine go ?_)
  (first | refine J_callE rfl rfl rfl rfl (Size_rM br k m hM name) entA ?_ (fun _ _ _ _ _ => trivial) | refine J_call0E rfl rfl rfl (Size_rM br k m hM name) entA ?_ (fun _ _ _ _ _ => trivial) | (refine go ?_; first | refine J_callE rfl rfl rfl rfl (Size_rM br k m hM name) entA ?_ (fun _ _ _ _ _ => trivial) | refine J_call0E rfl rfl rfl (Size_rM br k m hM name) entA ?_ (fun _ _ _ _ _ => trivial)))
  rintro _ _ ⟨rfl, rfl⟩
  (refine go ?_)
  (first | refine J_callE rfl rfl rfl rfl (Read_rM br k m hM name 0 ((m.size name).1 : Int) (by omega) (by omega)) entA ?_ (fun _ _ _ _ _ => trivial) | refine J_call0E rfl rfl rfl (Read_rM br k m hM name 0 ((m.size name).1 : Int) (by omega) (by omega)) entA ?_ (fun _ _ _ _ _ => trivial) | (refine go ?_; first | refine J_callE rfl rfl rfl rfl (Read_rM br k m hM name 0 ((m.size name).1 : Int) (by omega) (by omega)) entA ?_ (fun _ _ _ _ _ => trivial) | refine J_call0E rfl rfl rfl (Read_rM br k m hM name 0 ((m.size name).1 : Int) (by omega) (by omega)) entA ?_ (fun _ _ _ _ _ => trivial)))
  rintro _ _ ⟨ra, rc, rfl, rfl⟩
  obtain ⟨B, hB⟩ : ∃ B, B = (m.read name 0 ((m.size name).1 : Int)).1 := ⟨_, rfl⟩
  have htold : m.told name = recordsA (foundL B) := by unfold RM.told; rw [hB]
  rw [← hB] at hrl ⊢
  (refine go ?_)
  refine J_slcB (bs := B) 0 rfl ?_
  intro hbr
  (first | refine J_callE rfl rfl rfl rfl (refTold_any _ _ B hbr hrl) entA ?_ (fun _ _ _ _ _ => trivial) | refine J_call0E rfl rfl rfl (refTold_any _ _ B hbr hrl) entA ?_ (fun _ _ _ _ _ => trivial) | (refine go ?_; first | refine J_callE rfl rfl rfl rfl (refTold_any _ _ B hbr hrl) entA ?_ (fun _ _ _ _ _ => trivial) | refine J_call0E rfl rfl rfl (refTold_any _ _ B hbr hrl) entA ?_ (fun _ _ _ _ _ => trivial)))
  rintro lv _ rfl
  rw [← htold]
  have hbd := recordsA_bound (foundL B)
  rw [← htold] at hbd
  have hfl := foundL_len B
  refine J_list ?_
  intro Y hY
  (refine go ?_)
  refine J_box rfl rfl (fun _ _ _ => trivial) ?_
  intro jb
  (refine go ?_)
  (first | refine J_callE rfl rfl rfl rfl (refPut_any br jb k m hM hk name hname 0 0 0 false Y lv (m.told name) hY (by omega) (by omega)) entA ?_ (fun _ _ _ _ _ => trivial) | refine J_call0E rfl rfl rfl (refPut_any br jb k m hM hk name hname 0 0 0 false Y lv (m.told name) hY (by omega) (by omega)) entA ?_ (fun _ _ _ _ _ => trivial) | (refine go ?_; first | refine J_callE rfl rfl rfl rfl (refPut_any br jb k m hM hk name hname 0 0 0 false Y lv (m.told name) hY (by omega) (by omega)) entA ?_ (fun _ _ _ _ _ => trivial) | refine J_call0E rfl rfl rfl (refPut_any br jb k m hM hk name hname 0 0 0 false Y lv (m.told name) hY (by omega) (by omega)) entA ?_ (fun _ _ _ _ _ => trivial)))
  rintro _ _ ⟨rfl, rfl⟩
  by_cases he : (m.put name (m.told name)).1 = 0
  · rw [if_pos he]
    (refine go ?_)
    refine K_condP rfl rfl ?_ ?_
    · intro h; exact absurd (by omega) h
    intro _
    (refine go ?_)
    (first | refine K_return hE Try.func15 rfl _ rfl (.inr ⟨he, jb, lv, Y, hY, rfl, rfl⟩) entA | refine K_fallEnd hE Try.func15 rfl _ rfl (.inr ⟨he, jb, lv, Y, hY, rfl, rfl⟩) entA)
  · (refine go ?_)
    refine K_condP rfl rfl ?_ ?_
    case' refine_2 => (intro h; exact absurd (by omega) h)
    intro _
    (refine go ?_)
    (first | refine K_return hE Try.func15 rfl _ rfl (.inl ⟨he, rfl, rfl⟩) entA | refine K_fallEnd hE Try.func15 rfl _ rfl (.inl ⟨he, rfl, rfl⟩) entA)
end Go.Proofs.Ytpdmbmnhgcnelaa

