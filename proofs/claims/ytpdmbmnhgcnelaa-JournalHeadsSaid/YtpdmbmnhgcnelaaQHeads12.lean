/- Texts of one claim, joined: Se, Sf0. -/
import Derived.Test.YtpdmbmnhgcnelaaQHeads11
import Derived.OpenShut
/- journal, part t: JournalHeads, the walk. -/
set_option linter.unusedVariables false
set_option linter.unusedSimpArgs false
namespace Go.Proofs.Ytpdmbmnhgcnelaa
open Go Go.SL
theorem Sim.bounds {A : Ab} {m : RM} {k : Nat} (h : Sim A m) (hM : MOk m k) : A.states.length ≤ k + 1 ∧ A.writes.length ≤ k := by
  obtain ⟨σ, h⟩ := h
  have h1 := h.sts.1
  have h2 := h.wr.1
  have h3 := hM.sk
  have h4 := hM.wk
  omega
theorem LAt.nil (X : HP) : LAt X (.slice none 0 0) [] := ⟨[], Vw.nil X none 0, rfl, ⟨none, 0, rfl, Nat.le_refl _⟩, fun i x h => by simp at h⟩
attribute [local irreducible] J K Ctr Ends pts slc mapR mapI sbRow stock arrS loopP CtrY diskA LI listH rdM

set_option maxHeartbeats 4000000 in
set_option maxRecDepth 20000 in
theorem JournalHeads_any (X : HP) (v0 v1 lv : Value) (b0 b1 : List UInt8) (ls : List (List UInt8)) (h0 : BAt X v0 b0) (h1 : BAt X v1 b1) (hl0 : b0.length ≤ 9223372036854775807) (hl1 : b1.length ≤ 9223372036854775807)
    (hv : LAt X lv ls) (hll : ls.length ≤ 9223372036854775807) (hle : ∀ x ∈ ls, x.length ≤ 9223372036854775807) (cut : Int) (hc : -9223372036854775808 ≤ cut ∧ cut ≤ 9223372036854775807) :
    Ctr Try.prog 3 [.agg #[v0, v1], lv, .int .i64 cut] [X] (fun r H => r = .bool true ∧ H = [X]) := by
  obtain ⟨a0, c0, rfl, hc0⟩ := h0.2
  obtain ⟨a1, c1, rfl, hc1⟩ := h1.2
  obtain ⟨cs, hvv, hcl, ⟨la, lc, rfl, hlc⟩, hcs⟩ := hv
  refine Ctr.enter Try.func3 (by kernel_rfl) rfl Try.ntmps3 rfl rfl ?_
  intro G F R hE
  (refine go ?_)
  refine J_box rfl rfl (fun _ _ _ => trivial) ?_
  intro hb
  (refine go ?_)
  (first | refine J_callE rfl rfl rfl rfl (awake_any) entA ?_ (fun _ _ _ _ _ => trivial) | refine J_call0E rfl rfl rfl (awake_any) entA ?_ (fun _ _ _ _ _ => trivial) | (refine go ?_; first | refine J_callE rfl rfl rfl rfl (awake_any) entA ?_ (fun _ _ _ _ _ => trivial) | refine J_call0E rfl rfl rfl (awake_any) entA ?_ (fun _ _ _ _ _ => trivial)))
  rintro _ _ ⟨rfl, rfl⟩
  (refine go ?_)
  (first | refine J_callE rfl rfl rfl rfl (New_dA 1048576 (by omega) (by omega)) entA ?_ (fun _ _ _ _ _ => trivial) | refine J_call0E rfl rfl rfl (New_dA 1048576 (by omega) (by omega)) entA ?_ (fun _ _ _ _ _ => trivial) | (refine go ?_; first | refine J_callE rfl rfl rfl rfl (New_dA 1048576 (by omega) (by omega)) entA ?_ (fun _ _ _ _ _ => trivial) | refine J_call0E rfl rfl rfl (New_dA 1048576 (by omega) (by omega)) entA ?_ (fun _ _ _ _ _ => trivial)))
  rintro _ _ ⟨bd, rfl, rfl⟩
  (refine go ?_)
  (first | refine J_callE rfl rfl rfl rfl (New_rM 1048576 (by omega) (by omega)) entA ?_ (fun _ _ _ _ _ => trivial) | refine J_call0E rfl rfl rfl (New_rM 1048576 (by omega) (by omega)) entA ?_ (fun _ _ _ _ _ => trivial) | (refine go ?_; first | refine J_callE rfl rfl rfl rfl (New_rM 1048576 (by omega) (by omega)) entA ?_ (fun _ _ _ _ _ => trivial) | refine J_call0E rfl rfl rfl (New_rM 1048576 (by omega) (by omega)) entA ?_ (fun _ _ _ _ _ => trivial)))
  rintro _ _ ⟨br, rfl, rfl⟩
  repeat' (first | (with_reducible intro _hh) | refine go1 ?_ | refine J_fork ?_ ?_ | refine J_gsP rfl rfl rfl rfl ?_ ?_ | refine K_condP rfl rfl ?_ ?_ | refine J_indexArr (U := tab) rfl rfl rfl rfl rfl rfl (by omega) (by omega) ?_)
  any_goals (first | refine K_return hE Try.func3 rfl _ rfl ⟨rfl, rfl⟩ entA | refine K_fallEnd hE Try.func3 rfl _ rfl ⟨rfl, rfl⟩ entA)
  have hb0 : b0.length ≤ 16 := by omega
  have hb1 : b1.length ≤ 16 := by omega
  have hln : ls.length ≤ 30 := by omega
  obtain ⟨ct, rfl⟩ : ∃ m : Nat, cut = m := ⟨cut.toNat, by omega⟩
  have hct : ct ≤ 9000 := by omega
  refine J_makeSlice (U := tab) (p := 32) (q := 32) rfl rfl rfl rfl rfl rfl rfl rfl rfl (by omega) (by omega) (by show 1 * 32 ≤ _; omega) (fun _ _ _ => trivial) ?_
  intro m0
  refine J_ent (slc_row 5 1 m0 32 32 (bV (List.replicate 32 0)) [] _ rfl (Nat.le_refl _) (by simp [bV])) ?_
  (refine go ?_)
  refine K_loop (fun y : Nat × List UInt8 => y.1 ≤ 2 ∧ y.2.length = 32) (fun y => 2 - y.1)
    (fun y => [(1, .slice la ls.length lc), (2, .int .i64 (ct : Int)), (3, ptr hb), (8, ptr bd), (10, ptr br), (12, .slice (some ⟨m0, 0, none⟩) 32 32), (13, .int .i64 (y.1 : Int))])
    (fun y => slc 5 1 (.slice (some ⟨m0, 0, none⟩) 32 32) 32 (bV y.2) :: pts hb (cl [.slice a0 b0.length c0, .slice a1 b1.length c1] 23) :: diskA bd (Ab.new 1048576) :: rdM br (RM.new 1048576) :: X :: F) (0, List.replicate 32 0) ⟨by omega, rfl⟩ rfl (by repeat (first | exact keep_nil | refine keep_cons rfl ?_)) entA ?_
  rintro ⟨k, W⟩ ⟨hk, hW⟩ ih0
  simp only at hk hW
  have hk3 : k = 0 ∨ k = 1 ∨ k = 2 := by omega
  rcases hk3 with rfl | rfl | rfl
  · (refine go ?_)
    refine K_loop (fun y : Nat × List UInt8 => y.1 ≤ b0.length ∧ y.2.length = 32) (fun y => b0.length - y.1)
      (fun y => [(1, .slice la ls.length lc), (2, .int .i64 (ct : Int)), (3, ptr hb), (8, ptr bd), (10, ptr br), (12, .slice (some ⟨m0, 0, none⟩) 32 32), (13, .int .i64 ((0 : Nat) : Int)), (14, .int .i64 (y.1 : Int))])
      (fun y => slc 5 1 (.slice (some ⟨m0, 0, none⟩) 32 32) 32 (bV y.2) :: pts hb (cl [.slice a0 b0.length c0, .slice a1 b1.length c1] 23) :: diskA bd (Ab.new 1048576) :: rdM br (RM.new 1048576) :: X :: F) (0, W) ⟨by omega, hW⟩ rfl (by repeat (first | exact keep_nil | refine keep_cons rfl ?_)) entA ?_
    rintro ⟨i, W⟩ ⟨hi, hW⟩ ih
    simp only at hi hW
    (repeat (first | refine go1 ?_ | refine J_fork ?_ ?_ | refine J_indexArr (U := tab) rfl rfl rfl rfl rfl rfl (by omega) (by omega) ?_))
    refine K_condP rfl rfl ?_ ?_
    · intro hlt
      simp only at hlt
      have hi' : i < b0.length := by omega
      obtain ⟨x, hx⟩ : ∃ x, b0[i]? = some x := ⟨b0[i], by simp⟩
      obtain ⟨xb, xo, xc, hsl⟩ := bV_at h0.1 (by omega)
      simp only [Value.slice.injEq, true_and] at hsl
      obtain ⟨rfl, rfl⟩ := hsl
      (repeat (first | refine go1 ?_ | refine J_fork ?_ ?_ | refine J_indexArr (U := tab) rfl rfl rfl rfl rfl rfl (by omega) (by omega) ?_ | refine J_mul rfl rfl rfl (by simp only [inK]; omega) ?_))
      refine J_at1 (U := tab) i rfl rfl rfl rfl rfl rfl rfl rfl hi' ?_
      refine J_loadAt (U := tab) 4 i rfl rfl rfl h0.1 rfl (bV_get hx) rfl rfl ?_
      (refine go ?_)
      refine J_at1 (U := tab) (16 * 0 + i) rfl rfl rfl rfl rfl rfl rfl (by simp only; omega) (by omega) ?_
      refine J_storeSlc (U := tab) (q := 16 * 0 + i) 0 (fun _ _ => trivial) rfl rfl rfl rfl rfl rfl rfl (by omega) rfl ?_
      simp only
      rw [bV_set]
      (refine go ?_)
      refine K_again ih (i + 1, W.set (16 * 0 + i) x) rfl ⟨by simp only; omega, by simp only [List.length_set]; exact hW⟩ (by simp only; omega) (by repeat (first | exact keep_nil | refine keep_cons rfl ?_)) entA
    · intro hge
      (refine go ?_)
      refine K_again ih0 (0 + 1, W) rfl ⟨by simp only; omega, hW⟩ (by simp only; omega) (by repeat (first | exact keep_nil | refine keep_cons rfl ?_)) entA
  · (refine go ?_)
    refine K_loop (fun y : Nat × List UInt8 => y.1 ≤ b1.length ∧ y.2.length = 32) (fun y => b1.length - y.1)
      (fun y => [(1, .slice la ls.length lc), (2, .int .i64 (ct : Int)), (3, ptr hb), (8, ptr bd), (10, ptr br), (12, .slice (some ⟨m0, 0, none⟩) 32 32), (13, .int .i64 ((1 : Nat) : Int)), (14, .int .i64 (y.1 : Int))])
      (fun y => slc 5 1 (.slice (some ⟨m0, 0, none⟩) 32 32) 32 (bV y.2) :: pts hb (cl [.slice a0 b0.length c0, .slice a1 b1.length c1] 23) :: diskA bd (Ab.new 1048576) :: rdM br (RM.new 1048576) :: X :: F) (0, W) ⟨by omega, hW⟩ rfl (by repeat (first | exact keep_nil | refine keep_cons rfl ?_)) entA ?_
    rintro ⟨i, W⟩ ⟨hi, hW⟩ ih
    simp only at hi hW
    (repeat (first | refine go1 ?_ | refine J_fork ?_ ?_ | refine J_indexArr (U := tab) rfl rfl rfl rfl rfl rfl (by omega) (by omega) ?_))
    refine K_condP rfl rfl ?_ ?_
    · intro hlt
      simp only at hlt
      have hi' : i < b1.length := by omega
      obtain ⟨x, hx⟩ : ∃ x, b1[i]? = some x := ⟨b1[i], by simp⟩
      obtain ⟨xb, xo, xc, hsl⟩ := bV_at h1.1 (by omega)
      simp only [Value.slice.injEq, true_and] at hsl
      obtain ⟨rfl, rfl⟩ := hsl
      (repeat (first | refine go1 ?_ | refine J_fork ?_ ?_ | refine J_indexArr (U := tab) rfl rfl rfl rfl rfl rfl (by omega) (by omega) ?_ | refine J_mul rfl rfl rfl (by simp only [inK]; omega) ?_))
      refine J_at1 (U := tab) i rfl rfl rfl rfl rfl rfl rfl rfl hi' ?_
      refine J_loadAt (U := tab) 4 i rfl rfl rfl h1.1 rfl (bV_get hx) rfl rfl ?_
      (refine go ?_)
      refine J_at1 (U := tab) (16 * 1 + i) rfl rfl rfl rfl rfl rfl rfl (by simp only; omega) (by omega) ?_
      refine J_storeSlc (U := tab) (q := 16 * 1 + i) 0 (fun _ _ => trivial) rfl rfl rfl rfl rfl rfl rfl (by omega) rfl ?_
      simp only
      rw [bV_set]
      (refine go ?_)
      refine K_again ih (i + 1, W.set (16 * 1 + i) x) rfl ⟨by simp only; omega, by simp only [List.length_set]; exact hW⟩ (by simp only; omega) (by repeat (first | exact keep_nil | refine keep_cons rfl ?_)) entA
    · intro hge
      (refine go ?_)
      refine K_again ih0 (1 + 1, W) rfl ⟨by simp only; omega, hW⟩ (by simp only; omega) (by repeat (first | exact keep_nil | refine keep_cons rfl ?_)) entA
  · (refine go ?_)
    simp only
    rw [← hW]
    refine K_loop (fun y : Nat × List UInt8 × Option Addr × Nat => y.1 ≤ ls.length ∧ y.2.1.length ≤ 32 + 5100 * y.1) (fun y => ls.length - y.1)
      (fun y => [(1, .slice la ls.length lc), (2, .int .i64 (ct : Int)), (8, ptr bd), (10, ptr br), (12, .slice y.2.2.1 y.2.1.length y.2.2.2), (15, .int .i64 (y.1 : Int))])
      (fun y => slc 5 1 (.slice y.2.2.1 y.2.1.length y.2.2.2) y.2.1.length (bV y.2.1) :: pts hb (cl [.slice a0 b0.length c0, .slice a1 b1.length c1] 23) :: diskA bd (Ab.new 1048576) :: rdM br (RM.new 1048576) :: X :: F) (0, W, some ⟨m0, 0, none⟩, W.length) ⟨by omega, by simp only; omega⟩ rfl (by repeat (first | exact keep_nil | refine keep_cons rfl ?_)) entA ?_
    rintro ⟨i, acc, a2, c2⟩ ⟨hi, hacc⟩ ih
    simp only at hi hacc
    (refine go ?_)
    refine K_condP rfl rfl ?_ ?_
    · intro hlt
      simp only at hlt
      have hi' : i < ls.length := by omega
      obtain ⟨x, hx⟩ : ∃ x, ls[i]? = some x := ⟨ls[i], by simp⟩
      obtain ⟨cv, hcv, hbx⟩ := hcs i x hx
      have hxm := hle x (List.mem_of_getElem? hx)
      obtain ⟨xa, xc, rfl, hxc⟩ := hbx.2
      obtain ⟨bb, oo, cc, hsl⟩ := hvv.some (by intro e; rw [e] at hcv; simp at hcv)
      simp only [Value.slice.injEq, true_and] at hsl
      obtain ⟨rfl, rfl⟩ := hsl
      (refine go ?_)
      refine J_at1 (U := tab) i rfl rfl rfl rfl rfl rfl rfl rfl hi' ?_
      refine J_loadAt (U := tab) 4 i rfl rfl rfl hvv rfl hcv rfl rfl ?_
      (refine go ?_)
      refine K_condP rfl rfl ?_ ?_
      · intro h5
        (refine go ?_)
        (first | refine K_return hE Try.func3 rfl _ rfl ⟨rfl, rfl⟩ entA | refine K_fallEnd hE Try.func3 rfl _ rfl ⟨rfl, rfl⟩ entA)
      intro h5
      have hx5 : x.length ≤ 5000 := by omega
      have hex := encL_len x (by omega)
      (refine go ?_)
      refine J_at1 (U := tab) i rfl rfl rfl rfl rfl rfl rfl rfl hi' ?_
      refine J_loadAt (U := tab) 4 i rfl rfl rfl hvv rfl hcv rfl rfl ?_
      (first | refine J_callE rfl rfl rfl rfl (refRecord_any X _ x hbx (by omega)) entA ?_ (fun _ _ _ _ _ => trivial) | refine J_call0E rfl rfl rfl (refRecord_any X _ x hbx (by omega)) entA ?_ (fun _ _ _ _ _ => trivial) | (refine go ?_; first | refine J_callE rfl rfl rfl rfl (refRecord_any X _ x hbx (by omega)) entA ?_ (fun _ _ _ _ _ => trivial) | refine J_call0E rfl rfl rfl (refRecord_any X _ x hbx (by omega)) entA ?_ (fun _ _ _ _ _ => trivial)))
      rintro r _ rfl
      (first | refine J_shape 0 rfl ?_ | refine K_shape 0 rfl ?_)
      rintro ra rc rfl
      refine J_slcB (bs := encL x) 0 rfl ?_
      intro hbr
      (refine go ?_)
      refine J_append (U := tab) (mm := (encL x).length) (news := bV (encL x)) 2 0 rfl rfl rfl rfl rfl rfl rfl rfl rfl rfl rfl rfl hbr.1 (by show _ = _ * 1; rw [bV_length]; omega) (bV_one _) (by simp only; omega) (by show (_ + _) * 1 ≤ _; simp only; omega) (fun _ => rfl) (fun _ _ _ => trivial) ?_
      intro v1
      simp only
      rw [show bV acc ++ bV (encL x) = bV (acc ++ encL x) from by simp [bV], show acc.length + (encL x).length = (acc ++ encL x).length from by simp]
      (first | refine J_shape 2 rfl ?_ | refine K_shape 2 rfl ?_)
      rintro a3 c3 rfl
      (refine go ?_)
      refine K_again ih (i + 1, acc ++ encL x, a3, c3) rfl ⟨by simp only; omega, by simp only [List.length_append]; omega⟩ (by simp only; omega) (by repeat (first | exact keep_nil | refine keep_cons rfl ?_)) entA
    intro hge
    have hal : acc.length ≤ 200000 := by omega
    clear ih ih0 hacc
    (refine go ?_)
    obtain ⟨p, hp⟩ : ∃ p, p = min acc.length ct := ⟨_, rfl⟩
    refine J_slcB (bs := acc) 0 rfl ?_
    intro hba
    simp only at hba
    obtain ⟨ax, cx, hcx, hcap⟩ := hba.2
    simp only [Value.slice.injEq, true_and] at hcx
    obtain ⟨-, rfl⟩ := hcx
    have hbp := hba.front p (by omega)
    (first | refine J_slot 120 ((.int .i64 (p : Int))) rfl ((congrArg (Value.int .i64) (by simp only; omega))) ?_ | refine K_slot 120 ((.int .i64 (p : Int))) rfl ((congrArg (Value.int .i64) (by simp only; omega))) ?_)
    refine J_sliceAny (U := tab) (p := 0) (q := (p : Int)) rfl rfl rfl rfl rfl rfl rfl (by omega) (by omega) (.inr (by simp only; omega)) ?_
    (first | refine J_slot 121 ((.slice (sliceAt a2 c2 0 1) p c2)) rfl (rfl) ?_ | refine K_slot 121 ((.slice (sliceAt a2 c2 0 1) p c2)) rfl (rfl) ?_)
    obtain ⟨B, hB⟩ : ∃ B, B = acc.take p := ⟨_, rfl⟩
    have hBl : B.length = p := by rw [hB, List.length_take]; omega
    rw [← hB] at hbp
    rw [← hBl] at hbp ⊢
    have hS0 := Sim.new 1048576
    have hM0 := RM.new_ok 1048576 (by omega)
    (refine go ?_)
    (first | refine J_callE rfl rfl rfl rfl (Create_dA bd (Ab.new 1048576) nmJ (by simp [Ab.new])) entA ?_ (fun _ _ _ _ _ => trivial) | refine J_call0E rfl rfl rfl (Create_dA bd (Ab.new 1048576) nmJ (by simp [Ab.new])) entA ?_ (fun _ _ _ _ _ => trivial) | (refine go ?_; first | refine J_callE rfl rfl rfl rfl (Create_dA bd (Ab.new 1048576) nmJ (by simp [Ab.new])) entA ?_ (fun _ _ _ _ _ => trivial) | refine J_call0E rfl rfl rfl (Create_dA bd (Ab.new 1048576) nmJ (by simp [Ab.new])) entA ?_ (fun _ _ _ _ _ => trivial)))
    rintro _ _ ⟨f, hf, rfl, rfl⟩
    obtain ⟨-, hS1⟩ := hS0.create (isName nmJ) nmJ hf
    have hM1 := hM0.create (by omega) (isName nmJ) nmJ
    obtain ⟨A1, hA1⟩ : ∃ A1, A1 = ((Ab.new 1048576).create (isName nmJ) nmJ f).2 := ⟨_, rfl⟩
    obtain ⟨m1, hm1⟩ : ∃ m1, m1 = ((RM.new 1048576).create (isName nmJ) nmJ).2 := ⟨_, rfl⟩
    have hcr := Create_rM br 0 (RM.new 1048576) hM0 nmJ (by decide)
    have hS1 : Sim A1 m1 := by rw [hA1, hm1]; exact hS1
    rw [← hm1] at hM1 hcr
    rw [← hA1]
    (refine go ?_)
    (first | refine J_callE rfl rfl rfl rfl (hcr) entA ?_ (fun _ _ _ _ _ => trivial) | refine J_call0E rfl rfl rfl (hcr) entA ?_ (fun _ _ _ _ _ => trivial) | (refine go ?_; first | refine J_callE rfl rfl rfl rfl (hcr) entA ?_ (fun _ _ _ _ _ => trivial) | refine J_call0E rfl rfl rfl (hcr) entA ?_ (fun _ _ _ _ _ => trivial)))
    rintro _ _ ⟨rfl, rfl⟩
    obtain ⟨hb1a, hb1b⟩ := hS1.bounds hM1
    have hw := hS1.write (mayW nmJ 0 B) nmJ 0 B
    have hM2 := hM1.write (by omega) (mayW nmJ 0 B) nmJ 0 B (fun h => by rw [mayW_wOk] at h; have := wOk_bound h; omega)
    have hwd := Write_dA bd A1 nmJ 0 _ _ B hbp.1 (by omega) (by omega) (by omega)
    have hwr := Write_rM br _ m1 hM1 nmJ (by decide) 0 (by omega) _ _ B hbp.1 (by omega)
    rw [← mayW_wOk] at hwr
    obtain ⟨A2, hA2⟩ : ∃ A2, A2 = (A1.write (mayW nmJ 0 B) nmJ 0 B).2 := ⟨_, rfl⟩
    obtain ⟨m2, hm2⟩ : ∃ m2, m2 = (m1.write (mayW nmJ 0 B) nmJ 0 B).2 := ⟨_, rfl⟩
    rw [Int.toNat_zero] at hwd hwr
    have hS2 : Sim A2 m2 := by rw [hA2, hm2]; exact hw.2
    rw [← hA2] at hwd
    rw [← hm2] at hM2 hwr
    (refine go ?_)
    (first | refine J_callE rfl rfl rfl rfl (hwd) entA ?_ (fun _ _ _ _ _ => trivial) | refine J_call0E rfl rfl rfl (hwd) entA ?_ (fun _ _ _ _ _ => trivial) | (refine go ?_; first | refine J_callE rfl rfl rfl rfl (hwd) entA ?_ (fun _ _ _ _ _ => trivial) | refine J_call0E rfl rfl rfl (hwd) entA ?_ (fun _ _ _ _ _ => trivial)))
    rintro _ _ ⟨rfl, rfl⟩
    (refine go ?_)
    (first | refine J_callE rfl rfl rfl rfl (hwr) entA ?_ (fun _ _ _ _ _ => trivial) | refine J_call0E rfl rfl rfl (hwr) entA ?_ (fun _ _ _ _ _ => trivial) | (refine go ?_; first | refine J_callE rfl rfl rfl rfl (hwr) entA ?_ (fun _ _ _ _ _ => trivial) | refine J_call0E rfl rfl rfl (hwr) entA ?_ (fun _ _ _ _ _ => trivial)))
    rintro _ _ ⟨rfl, rfl⟩
    obtain ⟨hb2a, hb2b⟩ := hS2.bounds hM2
    clear hwd hwr hw hcr hba hbp hA1 hm1 hA2 hm2 hS1 hS0
    (refine go ?_)
    (first | refine J_callE rfl rfl rfl rfl (Open_any bd nmJ A2 (by decide) (by omega) (by omega)) entA ?_ (fun _ _ _ _ _ => trivial) | refine J_call0E rfl rfl rfl (Open_any bd nmJ A2 (by decide) (by omega) (by omega)) entA ?_ (fun _ _ _ _ _ => trivial) | (refine go ?_; first | refine J_callE rfl rfl rfl rfl (Open_any bd nmJ A2 (by decide) (by omega) (by omega)) entA ?_ (fun _ _ _ _ _ => trivial) | refine J_call0E rfl rfl rfl (Open_any bd nmJ A2 (by decide) (by omega) (by omega)) entA ?_ (fun _ _ _ _ _ => trivial)))
    rintro _ _ ⟨e, A3, x, ho, hpost⟩
    obtain ⟨he, hS3, hft, -⟩ := hS2.openJ ho
    rw [hft] at hpost
    have hbd : (m2.told nmJ).length ≤ 1000000000 := by
      have h1 := (recordsA_bound (foundL (m2.read nmJ 0 ((m2.size nmJ).1 : Int)).1)).2.1
      have h2 := foundL_len (m2.read nmJ 0 ((m2.size nmJ).1 : Int)).1
      have h3 := RM.read_len hM2 nmJ 0 ((m2.size nmJ).1 : Int)
      unfold RM.told
      omega
    rcases hpost with ⟨hne, rfl, rfl⟩ | ⟨he0, jb, lv1, rfl, rfl⟩
    · (refine go ?_)
      (first | refine J_callE rfl rfl rfl rfl (refOpen_any br _ m2 hM2 (by omega) nmJ (by decide)) entA ?_ (fun _ _ _ _ _ => trivial) | refine J_call0E rfl rfl rfl (refOpen_any br _ m2 hM2 (by omega) nmJ (by decide)) entA ?_ (fun _ _ _ _ _ => trivial) | (refine go ?_; first | refine J_callE rfl rfl rfl rfl (refOpen_any br _ m2 hM2 (by omega) nmJ (by decide)) entA ?_ (fun _ _ _ _ _ => trivial) | refine J_call0E rfl rfl rfl (refOpen_any br _ m2 hM2 (by omega) nmJ (by decide)) entA ?_ (fun _ _ _ _ _ => trivial)))
      rintro _ _ (⟨hne2, rfl, rfl⟩ | ⟨he2, -⟩)
      case' inr => exact absurd (he.trans he2) hne
      (refine go ?_)
      (first | refine J_callE rfl rfl rfl rfl (Same_any X (rdM br (m2.openJ nmJ).2) (.slice none 0 0) (.slice none 0 0) [] [] (LAt.nil _) (LAt.nil _) (by decide)) entA ?_ (fun _ _ _ _ _ => trivial) | refine J_call0E rfl rfl rfl (Same_any X (rdM br (m2.openJ nmJ).2) (.slice none 0 0) (.slice none 0 0) [] [] (LAt.nil _) (LAt.nil _) (by decide)) entA ?_ (fun _ _ _ _ _ => trivial) | (refine go ?_; first | refine J_callE rfl rfl rfl rfl (Same_any X (rdM br (m2.openJ nmJ).2) (.slice none 0 0) (.slice none 0 0) [] [] (LAt.nil _) (LAt.nil _) (by decide)) entA ?_ (fun _ _ _ _ _ => trivial) | refine J_call0E rfl rfl rfl (Same_any X (rdM br (m2.openJ nmJ).2) (.slice none 0 0) (.slice none 0 0) [] [] (LAt.nil _) (LAt.nil _) (by decide)) entA ?_ (fun _ _ _ _ _ => trivial)))
      rintro _ _ ⟨rfl, rfl⟩
      rw [← he]
      (refine go ?_)
      (first | refine J_slot 150 ((.bool true)) rfl ((congrArg Value.bool (decide_eq_true rfl))) ?_ | refine K_slot 150 ((.bool true)) rfl ((congrArg Value.bool (decide_eq_true rfl))) ?_)
      (refine go ?_)
      (first | refine K_return hE Try.func3 rfl _ rfl ⟨rfl, rfl⟩ entA | refine K_fallEnd hE Try.func3 rfl _ rfl ⟨rfl, rfl⟩ entA)
    · (first | refine K_ent (Ent.pick [2] rfl) ?_ | refine J_ent (Ent.pick [2] rfl) ?_)
      refine J_list ?_
      intro Y1 hY1
      (refine go ?_)
      (first | refine J_callE rfl rfl rfl rfl (refOpen_any br _ m2 hM2 (by omega) nmJ (by decide)) entA ?_ (fun _ _ _ _ _ => trivial) | refine J_call0E rfl rfl rfl (refOpen_any br _ m2 hM2 (by omega) nmJ (by decide)) entA ?_ (fun _ _ _ _ _ => trivial) | (refine go ?_; first | refine J_callE rfl rfl rfl rfl (refOpen_any br _ m2 hM2 (by omega) nmJ (by decide)) entA ?_ (fun _ _ _ _ _ => trivial) | refine J_call0E rfl rfl rfl (refOpen_any br _ m2 hM2 (by omega) nmJ (by decide)) entA ?_ (fun _ _ _ _ _ => trivial)))
      rintro _ _ (⟨hne2, -⟩ | ⟨he2, jb2, lv2, Y2, hY2, rfl, rfl⟩)
      · exact absurd (he.symm.trans he0) hne2
      (refine go ?_)
      (first | refine J_callE rfl rfl rfl rfl (Same_any Y1 Y2 lv1 lv2 _ _ hY1 hY2 hbd) entA ?_ (fun _ _ _ _ _ => trivial) | refine J_call0E rfl rfl rfl (Same_any Y1 Y2 lv1 lv2 _ _ hY1 hY2 hbd) entA ?_ (fun _ _ _ _ _ => trivial) | (refine go ?_; first | refine J_callE rfl rfl rfl rfl (Same_any Y1 Y2 lv1 lv2 _ _ hY1 hY2 hbd) entA ?_ (fun _ _ _ _ _ => trivial) | refine J_call0E rfl rfl rfl (Same_any Y1 Y2 lv1 lv2 _ _ hY1 hY2 hbd) entA ?_ (fun _ _ _ _ _ => trivial)))
      rintro _ _ ⟨rfl, rfl⟩
      (refine go ?_)
      (first | refine J_slot 6 ((.bool true)) rfl ((by simp)) ?_ | refine K_slot 6 ((.bool true)) rfl ((by simp)) ?_)
      (first | refine K_return hE Try.func3 rfl _ rfl ⟨rfl, rfl⟩ entA | refine K_fallEnd hE Try.func3 rfl _ rfl ⟨rfl, rfl⟩ entA)
end Go.Proofs.Ytpdmbmnhgcnelaa

/- journal, part u: two texts in an array, as they came in. -/
set_option linter.unusedVariables false
set_option linter.unusedSimpArgs false
namespace Go.Proofs.Ytpdmbmnhgcnelaa
open Go Go.SL Go.RowKit Go.ChangeShapes Go.WideShapes
section
variable {H : Type} {enc : TypeId × Value → H} {W : World} {base : Nat} {spare : Nat → Bool} {held : Bool}
theorem open_arrB {fuel : Nat} {cs : Array Value} {x : DataW H × List MemPlace} (h : DataW.trod enc Try.prog W base spare held fuel 23 (Value.agg cs).cells.toList = some x) :
    ∃ (x y : Value) (bx by' : List UInt8), cs = #[x, y] ∧ BytesIn (old W) x bx ∧ BytesIn (old W) y by' := by
  obtain ⟨xs, m, _, _, hlen, hxl, hf⟩ := DataW.trod_array Try.underlying23 h
  rw [show Try.prog.cellsOf 23 = 2 from by kernel_rfl] at hlen
  obtain ⟨l, rfl⟩ : ∃ l : List Value, cs = l.toArray := ⟨cs.toList, by simp⟩
  simp only [Value.cells] at hlen hf
  rw [show Try.prog.cellsOf 22 = 1 from by kernel_rfl] at hf
  match l, hlen with
  | [a, b], _ =>
    have h0 := hf 0 (by omega)
    have h1 := hf 1 (by omega)
    obtain ⟨z0, hz0⟩ : ∃ y, xs[0]? = some y := ⟨xs[0]'(by omega), by simp⟩
    obtain ⟨z1, hz1⟩ : ∃ y, xs[1]? = some y := ⟨xs[1]'(by omega), by simp⟩
    rw [hz0] at h0
    rw [hz1] at h1
    obtain ⟨b0, e0⟩ := open_bin (v := a) h0
    obtain ⟨b1, e1⟩ := open_bin (v := b) h1
    exact ⟨a, b, b0, b1, rfl, e0, e1⟩
end
end Go.Proofs.Ytpdmbmnhgcnelaa

