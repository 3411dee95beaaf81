/- Texts of one claim, joined: Wh, Wi, Wj, Mt, Mu. -/
import Derived.Test.YthcjmhlmoamjpaaQTG6
import Derived.Test.YthcjmhlmoamjpaaQTG7
/- wire, part h: put. -/
set_option linter.unusedVariables false
set_option linter.unusedSimpArgs false
namespace Go.Proofs.Ythcjmhlmoamjpaa
open Go Go.SL
theorem digs_fuel : ∀ (f g : Nat) (b : List UInt8), b.length ≤ f → b.length ≤ g → digs f b = digs g b
  | 0, 0, _, _, _ => rfl
  | 0, g + 1, b, hf, _ => by
    have : b = [] := List.eq_nil_of_length_eq_zero (by omega)
    subst this; rfl
  | f + 1, 0, b, _, hg => by
    have : b = [] := List.eq_nil_of_length_eq_zero (by omega)
    subst this; rfl
  | f + 1, g + 1, b, hf, hg => by
    rw [digs, digs]
    split
    · rw [digs_fuel f g _ (by rw [List.length_drop]; omega) (by rw [List.length_drop]; omega)]
    · rfl
def digsA (b : List UInt8) : List Dg := digs b.length b
theorem digsA_nil : digsA [] = [] := rfl
theorem digsA_cons {b : List UInt8} (h : 32 ≤ b.length) : digsA b = ⟨b.take 32, by rw [List.length_take]; omega⟩ :: digsA (b.drop 32) := by
  unfold digsA
  obtain ⟨f, hf⟩ : ∃ f, b.length = f + 1 := ⟨b.length - 1, by omega⟩
  rw [digs_fuel b.length (f + 1) b (Nat.le_refl _) (by omega), digs, dif_pos h, digs_fuel f _ _ (by rw [List.length_drop]; omega) (Nat.le_refl _)]
theorem digsA_len : ∀ (f : Nat) (b : List UInt8), b.length ≤ f → (digsA b).length ≤ b.length
  | 0, b, h => by
    have : b = [] := List.eq_nil_of_length_eq_zero (by omega)
    subst this; simp [digsA_nil]
  | f + 1, b, h => by
    by_cases h32 : 32 ≤ b.length
    · have h2 := digsA_len f (b.drop 32) (by rw [List.length_drop]; omega)
      rw [List.length_drop] at h2
      rw [digsA_cons h32, List.length_cons]; omega
    · have : digsA b = [] := by
        unfold digsA
        cases hb : b.length with
        | zero => rfl
        | succ n => rw [digs, dif_neg h32]
      rw [this]; simp
theorem memsL_len : ∀ (f : Nat) (l : List Int), l.length ≤ f → (memsL l).length ≤ l.length
  | _, [], _ => by simp [memsL]
  | _, [_], _ => by simp [memsL]
  | _, [_, _], _ => by simp [memsL]
  | 0, _ :: _ :: _ :: _, h => by simp at h
  | f + 1, a :: b :: c :: l, h => by
    have := memsL_len f l (by simp at h; omega)
    simp only [memsL, List.length_cons]; omega
attribute [local irreducible] J K Ctr Ends pts slc mapR mapI sbRow stock arrS loopP CtrY

theorem MsgAt.put {X Y : HP} {v : MV} {m : Msg} (h : MsgAt X v m) : MsgAt (Sep [Y, X]) v m := h.mono (Sep_get (i := 1) rfl)
/-- What put leaves. -/
def PutPost (b6 : Nat) (Z : HP) (v : MV) (m : Msg) (i : Int) (b : List UInt8) (r : Value) (H : List HP) : Prop :=
  (putA m i b = none ∧ r = .bool false ∧ H = [Z]) ∨ (∃ (m' : Msg) (v' : MV) (Y : HP), putA m i b = some m' ∧ r = .bool true ∧ MsgAt (Sep [Y, Z]) v' m' ∧ (i ≠ 6 → v'.p = v.p) ∧ (i ≠ 7 → v'.m = v.m) ∧ H = [pts b6 (cl (mC v' m') 55), Y, Z])
set_option maxRecDepth 20000 in
set_option maxHeartbeats 1000000 in
theorem put_any (Z : HP) (b6 : Nat) (v : MV) (m : Msg) (hm : MsgAt Z v m) (i : Int) (hi : 2 ≤ i ∧ i ≤ 8) (bv : Value) (b : List UInt8) (hb : BAt Z bv b) (hl : b.length ≤ 100000)
    (h6 : i = 6 → m.proof = [] ∧ v.p = .slice none 0 0) (h7 : i = 7 → m.mems = [] ∧ v.m = .slice none 0 0) :
    Ctr Try.prog 32 [ptr b6, .int .i64 i, bv] [pts b6 (cl (mC v m) 55), Z] (PutPost b6 Z v m i b) := by
  obtain ⟨vi, vb, vp, vm⟩ := v
  obtain ⟨ia, ic, rfl⟩ := hm.vi.shape
  obtain ⟨ba, bc, rfl, _⟩ := hm.vb.2
  obtain ⟨pa, pc, rfl⟩ := hm.vp.shape
  obtain ⟨ma, mc, rfl⟩ := hm.vm.shape
  obtain ⟨xa, xc, rfl, hxc⟩ := hb.2
  have hi : i = 2 ∨ i = 3 ∨ i = 4 ∨ i = 5 ∨ i = 6 ∨ i = 7 ∨ i = 8 := by omega
  have hnl := numsA_len b.length b (Nat.le_refl _)
  refine Ctr.enter Try.func32 (by kernel_rfl) rfl Try.ntmps32 rfl rfl ?_
  intro G F R hE
  rcases hi with rfl | rfl | rfl | rfl | rfl | rfl | rfl
  · (refine go ?_)
    by_cases h32 : b.length = 32
    · have hp : putA m 2 b = some { m with hash := ⟨b, h32⟩ } := dif_pos h32
      (first | refine J_slot 6 ((.bool true)) rfl ((congrArg Value.bool (decide_eq_true (by omega)))) ?_ | refine K_slot 6 ((.bool true)) rfl ((congrArg Value.bool (decide_eq_true (by omega)))) ?_)
      (first | refine J_slot 16 ((.bool true)) rfl ((congrArg Value.bool (decide_eq_true (by omega)))) ?_ | refine K_slot 16 ((.bool true)) rfl ((congrArg Value.bool (decide_eq_true (by omega)))) ?_)
      obtain ⟨bb, oo, cc, hsl⟩ := bV_at hb.1 (by omega)
      simp only [Value.slice.injEq, true_and] at hsl
      obtain ⟨rfl, rfl⟩ := hsl
      (refine go ?_)
      refine J_arrayAt (U := tab) rfl rfl rfl rfl (by omega) ?_
      refine J_loadElem (U := tab) (es := dC ⟨b, h32⟩) 1 0 rfl rfl rfl hb.1 rfl (fun j v hj => by rw [Nat.zero_add, ← hj, dC_bV]) rfl rfl rfl ?_
      (refine go ?_)
      refine K_ent (Ent.resep [] _) ?_
      have hma : MsgAt (Sep [Sep [], Z]) ⟨.slice ia m.ids.length ic, .slice ba m.bytes.length bc, .slice pa m.proof.length pc, .slice ma m.mems.length mc⟩ { m with hash := ⟨b, h32⟩ } :=
        ⟨hm.put.vi, hm.put.vb, hm.put.vp, hm.put.vm, hm.li, hm.lb, hm.lp, hm.lm⟩
      (first | refine K_return hE Try.func32 rfl _ rfl (.inr ⟨_, _, Sep [], hp, rfl, hma, fun _ => rfl, fun _ => rfl, rfl⟩) entA | refine K_fallEnd hE Try.func32 rfl _ rfl (.inr ⟨_, _, Sep [], hp, rfl, hma, fun _ => rfl, fun _ => rfl, rfl⟩) entA)
    · have hp : putA m 2 b = none := dif_neg h32
      (first | refine J_slot 6 ((.bool false)) rfl ((congrArg Value.bool (decide_eq_false (by omega)))) ?_ | refine K_slot 6 ((.bool false)) rfl ((congrArg Value.bool (decide_eq_false (by omega)))) ?_)
      (first | refine J_slot 16 ((.bool false)) rfl ((congrArg Value.bool (decide_eq_false (by omega)))) ?_ | refine K_slot 16 ((.bool false)) rfl ((congrArg Value.bool (decide_eq_false (by omega)))) ?_)
      (refine go ?_)
      (first | refine K_return hE Try.func32 rfl _ rfl (.inl ⟨hp, rfl, rfl⟩) entA | refine K_fallEnd hE Try.func32 rfl _ rfl (.inl ⟨hp, rfl, rfl⟩) entA)
  · (refine go ?_)
    (first | refine J_callE rfl rfl rfl rfl (one_any Z _ b hb (by omega)) entA ?_ (fun _ _ _ _ _ => trivial) | refine J_call0E rfl rfl rfl (one_any Z _ b hb (by omega)) entA ?_ (fun _ _ _ _ _ => trivial) | (refine go ?_; first | refine J_callE rfl rfl rfl rfl (one_any Z _ b hb (by omega)) entA ?_ (fun _ _ _ _ _ => trivial) | refine J_call0E rfl rfl rfl (one_any Z _ b hb (by omega)) entA ?_ (fun _ _ _ _ _ => trivial)))
    rintro _ _ ⟨rfl, rfl⟩
    have hp : putA m 3 b = (oneA b).map fun n => { m with piece := n } := rfl
    cases h1 : oneA b with
    | none =>
      rw [h1] at hp
      simp only
      (refine go ?_)
      (first | refine K_return hE Try.func32 rfl _ rfl (.inl ⟨hp, rfl, rfl⟩) entA | refine K_fallEnd hE Try.func32 rfl _ rfl (.inl ⟨hp, rfl, rfl⟩) entA)
    | some n =>
      rw [h1] at hp
      simp only
      (refine go ?_)
      refine K_ent (Ent.resep [] _) ?_
      have hma : MsgAt (Sep [Sep [], Z]) ⟨.slice ia m.ids.length ic, .slice ba m.bytes.length bc, .slice pa m.proof.length pc, .slice ma m.mems.length mc⟩ { m with piece := n } :=
        ⟨hm.put.vi, hm.put.vb, hm.put.vp, hm.put.vm, hm.li, hm.lb, hm.lp, hm.lm⟩
      (first | refine K_return hE Try.func32 rfl _ rfl (.inr ⟨_, _, Sep [], hp, rfl, hma, fun _ => rfl, fun _ => rfl, rfl⟩) entA | refine K_fallEnd hE Try.func32 rfl _ rfl (.inr ⟨_, _, Sep [], hp, rfl, hma, fun _ => rfl, fun _ => rfl, rfl⟩) entA)
  · (refine go ?_)
    (first | refine J_callE rfl rfl rfl rfl (numbers_any _ ⟨xa, _, xc, rfl⟩) entA ?_ (fun _ _ _ _ _ => trivial) | refine J_call0E rfl rfl rfl (numbers_any _ ⟨xa, _, xc, rfl⟩) entA ?_ (fun _ _ _ _ _ => trivial) | (refine go ?_; first | refine J_callE rfl rfl rfl rfl (numbers_any _ ⟨xa, _, xc, rfl⟩) entA ?_ (fun _ _ _ _ _ => trivial) | refine J_call0E rfl rfl rfl (numbers_any _ ⟨xa, _, xc, rfl⟩) entA ?_ (fun _ _ _ _ _ => trivial)))
    rintro _ _ ⟨bq, rfl, rfl⟩
    (refine go ?_)
    (first | refine J_callE rfl rfl rfl rfl (CollectI_any 62 [ptr bq] (b.length + 1) [pts bq (cl [.slice xa b.length xc] 47), Z] [Z] (fun xs => xs = numsA b) (by omega) (numbers1_any Z bq _ b hb (by omega))) entA ?_ (fun _ _ _ _ _ => trivial) | refine J_call0E rfl rfl rfl (CollectI_any 62 [ptr bq] (b.length + 1) [pts bq (cl [.slice xa b.length xc] 47), Z] [Z] (fun xs => xs = numsA b) (by omega) (numbers1_any Z bq _ b hb (by omega))) entA ?_ (fun _ _ _ _ _ => trivial) | (refine go ?_; first | refine J_callE rfl rfl rfl rfl (CollectI_any 62 [ptr bq] (b.length + 1) [pts bq (cl [.slice xa b.length xc] 47), Z] [Z] (fun xs => xs = numsA b) (by omega) (numbers1_any Z bq _ b hb (by omega))) entA ?_ (fun _ _ _ _ _ => trivial) | refine J_call0E rfl rfl rfl (CollectI_any 62 [ptr bq] (b.length + 1) [pts bq (cl [.slice xa b.length xc] 47), Z] [Z] (fun xs => xs = numsA b) (by omega) (numbers1_any Z bq _ b hb (by omega))) entA ?_ (fun _ _ _ _ _ => trivial)))
    rintro r _ ⟨_, rfl, rfl⟩
    (first | refine J_shape 0 rfl ?_ | refine K_shape 0 rfl ?_)
    rintro ra rc rfl
    refine J_slcVw 0 rfl ?_
    intro hvr
    (refine go ?_)
    have hp : putA m 4 b = some { m with ids := numsA b } := rfl
    have hma : MsgAt (Sep [slc 3 1 (.slice ra (numsA b).length rc) (numsA b).length (iV (numsA b)), Z]) ⟨.slice ra (numsA b).length rc, .slice ba m.bytes.length bc, .slice pa m.proof.length pc, .slice ma m.mems.length mc⟩ { m with ids := numsA b } :=
      ⟨hvr.mono (Sep_get (i := 0) rfl), hm.put.vb, hm.put.vp, hm.put.vm, by simp only; omega, hm.lb, hm.lp, hm.lm⟩
    (first | refine K_return hE Try.func32 rfl _ rfl (.inr ⟨_, _, _, hp, rfl, hma, fun _ => rfl, fun _ => rfl, rfl⟩) entA | refine K_fallEnd hE Try.func32 rfl _ rfl (.inr ⟨_, _, _, hp, rfl, hma, fun _ => rfl, fun _ => rfl, rfl⟩) entA)
  · (refine go ?_)
    refine K_ent (Ent.resep [] _) ?_
    have hp : putA m 5 b = some { m with bytes := b } := rfl
    have hma : MsgAt (Sep [Sep [], Z]) ⟨.slice ia m.ids.length ic, .slice xa b.length xc, .slice pa m.proof.length pc, .slice ma m.mems.length mc⟩ { m with bytes := b } :=
      ⟨hm.put.vi, hb.mono (Sep_get (i := 1) rfl), hm.put.vp, hm.put.vm, hm.li, by simp only; omega, hm.lp, hm.lm⟩
    (first | refine K_return hE Try.func32 rfl _ rfl (.inr ⟨_, _, Sep [], hp, rfl, hma, fun _ => rfl, fun _ => rfl, rfl⟩) entA | refine K_fallEnd hE Try.func32 rfl _ rfl (.inr ⟨_, _, Sep [], hp, rfl, hma, fun _ => rfl, fun _ => rfl, rfl⟩) entA)
  · obtain ⟨hm0, hp0⟩ := h6 rfl
    simp only at hp0
    have hp : putA m 6 b = if b.length % 32 = 0 then some { m with proof := digsA b } else none := rfl
    rw [hm0] at hp0
    simp only [List.length_nil, Value.slice.injEq] at hp0
    obtain ⟨rfl, -, rfl⟩ := hp0
    (repeat (first | refine go1 ?_ | refine J_fork ?_ ?_ | refine J_rem rfl rfl rfl (by omega) (by omega) ?_))
    by_cases h32 : b.length % 32 = 0
    case neg =>
      rw [if_neg h32] at hp
      (first | refine J_slot 6 ((.bool false)) rfl ((congrArg Value.bool (decide_eq_false (by omega)))) ?_ | refine K_slot 6 ((.bool false)) rfl ((congrArg Value.bool (decide_eq_false (by omega)))) ?_)
      refine K_loop (fun _ : Unit => True) (fun _ => 0) (fun _ => [(6, .bool false)]) (fun _ => Z :: F) () trivial rfl (by repeat (first | exact keep_nil | refine keep_cons rfl ?_)) entA ?_
      rintro _ _ ih
      (refine go ?_)
      (first | refine K_return hE Try.func32 rfl _ rfl (.inl ⟨hp, rfl, rfl⟩) entA | refine K_fallEnd hE Try.func32 rfl _ rfl (.inl ⟨hp, rfl, rfl⟩) entA)
    rw [if_pos h32] at hp
    have hdl := digsA_len b.length b (Nat.le_refl _)
    (first | refine J_slot 6 ((.bool true)) rfl ((congrArg Value.bool (decide_eq_true (by omega)))) ?_ | refine K_slot 6 ((.bool true)) rfl ((congrArg Value.bool (decide_eq_true (by omega)))) ?_)
    rw [hm0]
    refine K_loop (fun y : Option Addr × Nat × List UInt8 × List Dg × Option Addr × Nat => BAt Z (.slice y.1 y.2.2.1.length y.2.1) y.2.2.1 ∧ y.2.2.1.length % 32 = 0 ∧ y.2.2.1.length ≤ b.length ∧ y.2.2.2.1 ++ digsA y.2.2.1 = digsA b) (fun y => y.2.2.1.length)
      (fun y => [(0, ptr b6), (2, .slice y.1 y.2.2.1.length y.2.1), (6, .bool true)])
      (fun y => pts b6 (cl (mC ⟨.slice ia m.ids.length ic, .slice ba m.bytes.length bc, .slice y.2.2.2.2.1 y.2.2.2.1.length y.2.2.2.2.2, .slice ma m.mems.length mc⟩ { m with proof := y.2.2.2.1 }) 55) :: slc 51 32 (.slice y.2.2.2.2.1 y.2.2.2.1.length y.2.2.2.2.2) y.2.2.2.1.length (y.2.2.2.1.flatMap dC) :: Z :: F)
      (xa, xc, b, [], none, 0) ⟨hb, h32, Nat.le_refl _, rfl⟩ rfl (by repeat (first | exact keep_nil | refine keep_cons rfl ?_)) (Ent.trans (slc_lift 51 32 none _) entA) ?_
    rintro ⟨ya, yc, rest, acc, av, ac⟩ ⟨hb1, hr32, hrl, hacc⟩ ih
    simp only at hb1 hr32 hrl hacc
    have hal : acc.length ≤ b.length := by
      have := congrArg List.length hacc
      rw [List.length_append] at this
      omega
    (refine go ?_)
    refine K_condP rfl rfl ?_ ?_
    case' refine_2 =>
      intro hge
      simp only at hge
      have hnil : rest = [] := List.eq_nil_of_length_eq_zero (by omega)
      rw [hnil, digsA_nil, List.append_nil] at hacc
      refine K_slcVw 1 rfl ?_
      intro hvw
      (refine go ?_)
      have hma : MsgAt (Sep [slc 51 32 (.slice av acc.length ac) acc.length (acc.flatMap dC), Z]) ⟨.slice ia m.ids.length ic, .slice ba m.bytes.length bc, .slice av acc.length ac, .slice ma m.mems.length mc⟩ { m with proof := acc } :=
        ⟨hm.put.vi, hm.put.vb, hvw.mono (Sep_get (i := 0) rfl), hm.put.vm, hm.li, hm.lb, by simp only; omega, hm.lm⟩
      rw [← hacc] at hp
      (first | refine K_return hE Try.func32 rfl _ rfl (.inr ⟨_, _, _, hp, rfl, hma, fun h => absurd rfl h, fun _ => rfl, rfl⟩) entA | refine K_fallEnd hE Try.func32 rfl _ rfl (.inr ⟨_, _, _, hp, rfl, hma, fun h => absurd rfl h, fun _ => rfl, rfl⟩) entA)
    intro hlt
    simp only at hlt
    have h32l : 32 ≤ rest.length := by omega
    have hfr := hb1.front 32 h32l
    have hct := hb1.cut 32 h32l
    have hdc := digsA_cons h32l
    obtain ⟨bb, oo, cc, hsl⟩ := bV_at hfr.1 (by rw [List.length_take]; omega)
    simp only [Value.slice.injEq] at hsl
    obtain ⟨hsa, -, rfl⟩ := hsl
    refine K_drawA (fun w => Sat G w ([pts b6 (cl (mC ⟨.slice ia m.ids.length ic, .slice ba m.bytes.length bc, .slice av acc.length ac, .slice ma m.mems.length mc⟩ { m with proof := acc }) 55), Z])) (.st 0 (.st 1 (.st 2 (.st 3 (.st 4 (.st 5 (.st 6 (.st 7 (.st 8 (.act 9 (.act 10 (.st 11 (.st 12 (.act 13 .nil)))))))))))))) rfl (by kernel_rfl) (by kernel_rfl) (by kernel_rfl) (fun w hw => hw.ent entA) ?_
    (refine go ?_)
    obtain ⟨d, hd⟩ : ∃ d : Dg, d = ⟨rest.take 32, by rw [List.length_take]; omega⟩ := ⟨_, rfl⟩
    have hdb : d.bs = rest.take 32 := by rw [hd]
    have h32t : (rest.take 32).length = 32 := by rw [List.length_take]; omega
    rw [hsa, ← hdb] at hfr
    rw [← hd] at hdc
    have hdl32 := d.len
    refine J_sliceAny (U := tab) (p := 0) (q := 32) rfl rfl rfl rfl rfl rfl rfl (by omega) (by omega) (.inr (by simp only; have := hb1.2; obtain ⟨_, _, hq, hq2⟩ := this; simp only [Value.slice.injEq] at hq; omega)) ?_
    (first | refine J_slot 67 ((.slice (some ⟨bb, oo, none⟩) 32 yc)) rfl ((by rw [← hsa]; rfl)) ?_ | refine K_slot 67 ((.slice (some ⟨bb, oo, none⟩) 32 yc)) rfl ((by rw [← hsa]; rfl)) ?_)
    refine J_arrayAt (U := tab) rfl rfl rfl rfl (Nat.le_refl _) ?_
    have hfv : Vw Z (.slice (some ⟨bb, oo, none⟩) 32 yc) 32 (dC d) := by
      have := hfr.1
      rw [hdl32, ← dC_bV] at this
      exact this
    (refine go ?_)
    refine J_isLoad ?_
    refine J_loadElemS (U := tab) (es := dC d) 1 0 rfl rfl rfl hfv rfl (fun j v hj => by rw [Nat.zero_add]; exact hj) rfl rfl rfl ?_
    (refine go ?_)
    refine J_buildSlice1 (U := tab) (cs := dC d) rfl rfl rfl rfl rfl rfl rfl rfl rfl (fun _ w hw => hw.ent entA) ?_
    intro row
    (refine go ?_)
    refine J_append (U := tab) (mm := 1) (news := dC d) 2 0 rfl rfl rfl rfl rfl rfl rfl rfl rfl rfl rfl rfl (Vw.pts rfl) rfl (by rw [dC_bV]; exact bV_one _) (by simp only; omega) (by show (_ + _) * 32 ≤ _; simp only; omega) (fun _ => rfl) (fun _ w hw => hw.ent entA) ?_
    intro v1
    simp only
    rw [show acc.flatMap dC ++ dC d = (acc ++ [d]).flatMap dC from by simp, show acc.length + 1 = (acc ++ [d]).length from by simp]
    (first | refine J_shape 2 rfl ?_ | refine K_shape 2 rfl ?_)
    rintro ja jc rfl
    (refine go ?_)
    refine J_sliceAny (U := tab) (p := 32) (q := (rest.length : Int)) rfl rfl rfl rfl rfl rfl rfl (by omega) (by omega) (.inl rfl) ?_
    (first | refine J_slot 60 ((.slice (sliceAt ya yc 32 1) (rest.length - 32) (yc - 32))) rfl ((by rw [show ((rest.length : Int)).toNat = rest.length from by omega]; rfl)) ?_ | refine K_slot 60 ((.slice (sliceAt ya yc 32 1) (rest.length - 32) (yc - 32))) rfl ((by rw [show ((rest.length : Int)).toNat = rest.length from by omega]; rfl)) ?_)
    (refine go ?_)
    have hct : BAt Z (.slice (sliceAt ya yc 32 1) (rest.drop 32).length (yc - 32)) (rest.drop 32) := by rw [List.length_drop]; exact hct
    rw [← List.length_drop]
    refine K_again ih (sliceAt ya yc 32 1, yc - 32, rest.drop 32, acc ++ [d], ja, jc) rfl ⟨hct, by simp only [List.length_drop]; omega, by simp only [List.length_drop]; omega, by simp only [List.append_assoc]; rw [← hacc, hdc]; rfl⟩ (by simp only [List.length_drop]; omega) (by repeat (first | exact keep_nil | refine keep_cons rfl ?_)) entA
  · obtain ⟨hm0, hp0⟩ := h7 rfl
    simp only at hp0
    have hp : putA m 7 b = if (numsA b).length % 3 = 0 then some { m with mems := memsL (numsA b) } else none := rfl
    rw [hm0] at hp0
    simp only [List.length_nil, Value.slice.injEq] at hp0
    obtain ⟨rfl, -, rfl⟩ := hp0
    have hdl := memsL_len _ (numsA b) (Nat.le_refl _)
    (refine go ?_)
    (first | refine J_callE rfl rfl rfl rfl (numbers_any _ ⟨xa, _, xc, rfl⟩) entA ?_ (fun _ _ _ _ _ => trivial) | refine J_call0E rfl rfl rfl (numbers_any _ ⟨xa, _, xc, rfl⟩) entA ?_ (fun _ _ _ _ _ => trivial) | (refine go ?_; first | refine J_callE rfl rfl rfl rfl (numbers_any _ ⟨xa, _, xc, rfl⟩) entA ?_ (fun _ _ _ _ _ => trivial) | refine J_call0E rfl rfl rfl (numbers_any _ ⟨xa, _, xc, rfl⟩) entA ?_ (fun _ _ _ _ _ => trivial)))
    rintro _ _ ⟨bq, rfl, rfl⟩
    (refine go ?_)
    (first | refine J_callE rfl rfl rfl rfl (CollectI_any 62 [ptr bq] (b.length + 1) [pts bq (cl [.slice xa b.length xc] 47), Z] [Z] (fun xs => xs = numsA b) (by omega) (numbers1_any Z bq _ b hb (by omega))) entA ?_ (fun _ _ _ _ _ => trivial) | refine J_call0E rfl rfl rfl (CollectI_any 62 [ptr bq] (b.length + 1) [pts bq (cl [.slice xa b.length xc] 47), Z] [Z] (fun xs => xs = numsA b) (by omega) (numbers1_any Z bq _ b hb (by omega))) entA ?_ (fun _ _ _ _ _ => trivial) | (refine go ?_; first | refine J_callE rfl rfl rfl rfl (CollectI_any 62 [ptr bq] (b.length + 1) [pts bq (cl [.slice xa b.length xc] 47), Z] [Z] (fun xs => xs = numsA b) (by omega) (numbers1_any Z bq _ b hb (by omega))) entA ?_ (fun _ _ _ _ _ => trivial) | refine J_call0E rfl rfl rfl (CollectI_any 62 [ptr bq] (b.length + 1) [pts bq (cl [.slice xa b.length xc] 47), Z] [Z] (fun xs => xs = numsA b) (by omega) (numbers1_any Z bq _ b hb (by omega))) entA ?_ (fun _ _ _ _ _ => trivial)))
    rintro r _ ⟨_, rfl, rfl⟩
    (first | refine J_shape 0 rfl ?_ | refine K_shape 0 rfl ?_)
    rintro ra rc rfl
    (repeat (first | refine go1 ?_ | refine J_fork ?_ ?_ | refine J_rem rfl rfl rfl (by omega) (by omega) ?_))
    by_cases h3 : (numsA b).length % 3 = 0
    case neg =>
      rw [if_neg h3] at hp
      (first | refine J_slot 6 ((.bool false)) rfl ((congrArg Value.bool (decide_eq_false (by omega)))) ?_ | refine K_slot 6 ((.bool false)) rfl ((congrArg Value.bool (decide_eq_false (by omega)))) ?_)
      refine K_loop (fun _ : Unit => True) (fun _ => 0) (fun _ => [(6, .bool false)]) (fun _ => Z :: F) () trivial rfl (by repeat (first | exact keep_nil | refine keep_cons rfl ?_)) entA ?_
      rintro _ _ ih
      (refine go ?_)
      (first | refine K_return hE Try.func32 rfl _ rfl (.inl ⟨hp, rfl, rfl⟩) entA | refine K_fallEnd hE Try.func32 rfl _ rfl (.inl ⟨hp, rfl, rfl⟩) entA)
    rw [if_pos h3] at hp
    (first | refine J_slot 6 ((.bool true)) rfl ((congrArg Value.bool (decide_eq_true (by omega)))) ?_ | refine K_slot 6 ((.bool true)) rfl ((congrArg Value.bool (decide_eq_true (by omega)))) ?_)
    rw [hm0]
    refine K_slcVC 0 rfl ?_
    intro hvn hcn
    refine K_loop (fun y : Option Addr × Nat × List Int × List Mem × Option Addr × Nat => (Vw (slc 3 1 (.slice ra (numsA b).length rc) (numsA b).length (iV (numsA b))) (.slice y.1 y.2.2.1.length y.2.1) y.2.2.1.length (iV y.2.2.1) ∧ y.2.2.1.length ≤ y.2.1) ∧ y.2.2.1.length % 3 = 0 ∧ y.2.2.1.length ≤ (numsA b).length ∧ y.2.2.2.1 ++ memsL y.2.2.1 = memsL (numsA b)) (fun y => y.2.2.1.length)
      (fun y => [(0, ptr b6), (7, .slice y.1 y.2.2.1.length y.2.1), (6, .bool true)])
      (fun y => pts b6 (cl (mC ⟨.slice ia m.ids.length ic, .slice ba m.bytes.length bc, .slice pa m.proof.length pc, .slice y.2.2.2.2.1 y.2.2.2.1.length y.2.2.2.2.2⟩ { m with mems := y.2.2.2.1 }) 55) :: slc 30 4 (.slice y.2.2.2.2.1 y.2.2.2.1.length y.2.2.2.2.2) y.2.2.2.1.length (mV y.2.2.2.1) :: slc 3 1 (.slice ra (numsA b).length rc) (numsA b).length (iV (numsA b)) :: Z :: F)
      (ra, rc, numsA b, [], none, 0) ⟨⟨hvn, hcn⟩, h3, Nat.le_refl _, rfl⟩ rfl (by repeat (first | exact keep_nil | refine keep_cons rfl ?_)) (Ent.trans (slc_lift 30 4 none _) entA) ?_
    rintro ⟨ya, yc, rest, acc, av, ac⟩ ⟨⟨hv1, hcap1⟩, hr3, hrl, hacc⟩ ih
    simp only at hv1 hcap1 hr3 hrl hacc
    have hal : acc.length ≤ (memsL (numsA b)).length := by
      have := congrArg List.length hacc
      rw [List.length_append] at this
      omega
    (refine go ?_)
    refine K_condP rfl rfl ?_ ?_
    case' refine_2 =>
      intro hge
      simp only at hge
      have hnil : rest = [] := List.eq_nil_of_length_eq_zero (by omega)
      rw [hnil] at hacc
      have hacc : acc = memsL (numsA b) := by rw [← hacc]; simp [memsL]
      refine K_slcVw 1 rfl ?_
      intro hvw
      (refine go ?_)
      have hma : MsgAt (Sep [slc 30 4 (.slice av acc.length ac) acc.length (mV acc), Z]) ⟨.slice ia m.ids.length ic, .slice ba m.bytes.length bc, .slice pa m.proof.length pc, .slice av acc.length ac⟩ { m with mems := acc } :=
        ⟨hm.put.vi, hm.put.vb, hm.put.vp, hvw.mono (Sep_get (i := 0) rfl), hm.li, hm.lb, hm.lp, by simp only; omega⟩
      rw [← hacc] at hp
      (first | refine K_return hE Try.func32 rfl _ rfl (.inr ⟨_, _, _, hp, rfl, hma, fun _ => rfl, fun h => absurd rfl h, rfl⟩) entA | refine K_fallEnd hE Try.func32 rfl _ rfl (.inr ⟨_, _, _, hp, rfl, hma, fun _ => rfl, fun h => absurd rfl h, rfl⟩) entA)
    intro hlt
    simp only at hlt
    match rest, hr3, hv1, hcap1, hrl, hacc, ih, hlt with
    | [], _, _, _, _, _, _, hlt => exact absurd hlt (by simp)
    | [_], hr3, _, _, _, _, _, _ => exact absurd hr3 (by simp)
    | [_, _], hr3, _, _, _, _, _, _ => exact absurd hr3 (by simp)
    | x :: y :: z :: rst, hr3, hv1, hcap1, hrl, hacc, ih, hlt =>
      have hvk := hv1.cutk (s := 1) (by simp [iV]) hcap1 3 (by simp)
      obtain ⟨bb, oo, cc, hsl⟩ := hv1.some (by simp [iV])
      simp only [Value.slice.injEq, true_and] at hsl
      obtain ⟨rfl, rfl⟩ := hsl
      refine K_drawA (fun w => Sat G w ([pts b6 (cl (mC ⟨.slice ia m.ids.length ic, .slice ba m.bytes.length bc, .slice pa m.proof.length pc, .slice av acc.length ac⟩ { m with mems := acc }) 55), slc 3 1 (.slice ra (numsA b).length rc) (numsA b).length (iV (numsA b))])) (.st 0 (.st 1 (.st 2 (.st 3 (.st 4 (.st 5 (.st 6 (.st 7 (.st 8 (.st 9 (.st 10 (.st 11 (.st 12 (.st 13 (.st 14 (.act 15 (.act 16 (.st 17 (.st 18 (.act 19 .nil)))))))))))))))))))) rfl (by kernel_rfl) (by kernel_rfl) (by kernel_rfl) (fun w hw => hw.ent entA) ?_
      (refine go ?_)
      refine J_at1 (U := tab) 0 rfl rfl rfl rfl rfl rfl rfl rfl (by simp only [List.length_cons]; omega) ?_
      (refine go ?_)
      refine J_isLoad ?_
      refine J_loadAtS (U := tab) 1 0 rfl rfl rfl hv1 rfl (show (iV (x :: y :: z :: rst))[0]? = some (.int .i64 x) from rfl) rfl rfl ?_
      (refine go ?_)
      refine J_at1 (U := tab) 1 rfl rfl rfl rfl rfl rfl rfl rfl (by simp only [List.length_cons]; omega) ?_
      (refine go ?_)
      refine J_isLoad ?_
      refine J_loadAtS (U := tab) 1 1 rfl rfl rfl hv1 rfl (show (iV (x :: y :: z :: rst))[1]? = some (.int .i64 y) from rfl) rfl rfl ?_
      (refine go ?_)
      refine J_at1 (U := tab) 2 rfl rfl rfl rfl rfl rfl rfl rfl (by simp only [List.length_cons]; omega) ?_
      (refine go ?_)
      refine J_isLoad ?_
      refine J_loadAtS (U := tab) 1 2 rfl rfl rfl hv1 rfl (show (iV (x :: y :: z :: rst))[2]? = some (.int .i64 z) from rfl) rfl rfl ?_
      (refine go ?_)
      refine J_buildSlice1 (U := tab) (cs := mmC ⟨x, y, z, 0⟩) rfl rfl rfl rfl rfl rfl rfl rfl rfl (fun _ w hw => hw.ent entA) ?_
      intro row
      (refine go ?_)
      refine J_append (U := tab) (mm := 1) (news := mmC ⟨x, y, z, 0⟩) 2 0 rfl rfl rfl rfl rfl rfl rfl rfl rfl rfl rfl rfl (Vw.pts rfl) rfl (by intro v hv; simp [mmC] at hv; rcases hv with rfl | rfl | rfl | rfl <;> rfl) (by simp only; omega) (by show (_ + _) * 32 ≤ _; simp only; omega) (fun _ => rfl) (fun _ w hw => hw.ent entA) ?_
      intro v1
      simp only
      rw [show mV acc ++ mmC (⟨x, y, z, 0⟩ : Mem) = mV (acc ++ [(⟨x, y, z, 0⟩ : Mem)]) from by simp [mV], show acc.length + 1 = (acc ++ [(⟨x, y, z, 0⟩ : Mem)]).length from by simp]
      (first | refine J_shape 2 rfl ?_ | refine K_shape 2 rfl ?_)
      rintro ja jc rfl
      (refine go ?_)
      refine J_sliceAny (U := tab) (p := 3) (q := ((x :: y :: z :: rst).length : Int)) rfl rfl rfl rfl rfl rfl rfl (by omega) (by simp only [List.length_cons]; omega) (.inl rfl) ?_
      have hlen3 : (x :: y :: z :: rst).length - 3 = rst.length := by simp
      (first | refine J_slot 90 ((.slice (sliceAt (some ⟨bb, oo, none⟩) yc 3 1) rst.length (yc - 3))) rfl ((by rw [show (((x :: y :: z :: rst).length : Int)).toNat = (x :: y :: z :: rst).length from by omega, show (3 : Int).toNat = 3 from rfl, hlen3]; rfl)) ?_ | refine K_slot 90 ((.slice (sliceAt (some ⟨bb, oo, none⟩) yc 3 1) rst.length (yc - 3))) rfl ((by rw [show (((x :: y :: z :: rst).length : Int)).toNat = (x :: y :: z :: rst).length from by omega, show (3 : Int).toNat = 3 from rfl, hlen3]; rfl)) ?_)
      (refine go ?_)
      rw [hlen3, Nat.mul_one, show (iV (x :: y :: z :: rst)).drop 3 = iV rst from rfl] at hvk
      have hr4 : rst.length % 3 = 0 := by simp only [List.length_cons] at hr3; omega
      have hr5 : rst.length + 3 ≤ yc := by simp only [List.length_cons] at hcap1; omega
      have hr6 : rst.length + 3 ≤ (numsA b).length := by simp only [List.length_cons] at hrl; omega
      refine K_again ih (sliceAt (some ⟨bb, oo, none⟩) yc 3 1, yc - 3, rst, acc ++ [(⟨x, y, z, 0⟩ : Mem)], ja, jc) rfl ⟨⟨hvk, by simp only; omega⟩, hr4, by simp only; omega, by simp only [List.append_assoc]; rw [← hacc]; rfl⟩ (by simp only [List.length_cons]; omega) (by repeat (first | exact keep_nil | refine keep_cons rfl ?_)) entA
  · (refine go ?_)
    (first | refine J_callE rfl rfl rfl rfl (one_any Z _ b hb (by omega)) entA ?_ (fun _ _ _ _ _ => trivial) | refine J_call0E rfl rfl rfl (one_any Z _ b hb (by omega)) entA ?_ (fun _ _ _ _ _ => trivial) | (refine go ?_; first | refine J_callE rfl rfl rfl rfl (one_any Z _ b hb (by omega)) entA ?_ (fun _ _ _ _ _ => trivial) | refine J_call0E rfl rfl rfl (one_any Z _ b hb (by omega)) entA ?_ (fun _ _ _ _ _ => trivial)))
    rintro _ _ ⟨rfl, rfl⟩
    have hp : putA m 8 b = (match oneA b with | some n => if n ≤ 1 then some { m with seed := decide (n = 1) } else none | none => none) := rfl
    cases h1 : oneA b with
    | none =>
      rw [h1] at hp
      simp only
      (refine go ?_)
      (first | refine K_return hE Try.func32 rfl _ rfl (.inl ⟨hp, rfl, rfl⟩) entA | refine K_fallEnd hE Try.func32 rfl _ rfl (.inl ⟨hp, rfl, rfl⟩) entA)
    | some n =>
      rw [h1] at hp
      simp only at hp ⊢
      by_cases hn : n ≤ 1
      · rw [if_pos hn] at hp
        (refine go ?_)
        (first | refine J_slot 6 ((.bool true)) rfl ((congrArg Value.bool (decide_eq_true hn))) ?_ | refine K_slot 6 ((.bool true)) rfl ((congrArg Value.bool (decide_eq_true hn))) ?_)
        refine K_ent (Ent.resep [] _) ?_
        have hma : MsgAt (Sep [Sep [], Z]) ⟨.slice ia m.ids.length ic, .slice ba m.bytes.length bc, .slice pa m.proof.length pc, .slice ma m.mems.length mc⟩ { m with seed := decide (n = 1) } :=
          ⟨hm.put.vi, hm.put.vb, hm.put.vp, hm.put.vm, hm.li, hm.lb, hm.lp, hm.lm⟩
        (first | refine K_return hE Try.func32 rfl _ rfl (.inr ⟨_, _, Sep [], hp, rfl, hma, fun _ => rfl, fun _ => rfl, rfl⟩) entA | refine K_fallEnd hE Try.func32 rfl _ rfl (.inr ⟨_, _, Sep [], hp, rfl, hma, fun _ => rfl, fun _ => rfl, rfl⟩) entA)
      · rw [if_neg hn] at hp
        (refine go ?_)
        (first | refine J_slot 6 ((.bool false)) rfl ((congrArg Value.bool (decide_eq_false hn))) ?_ | refine K_slot 6 ((.bool false)) rfl ((congrArg Value.bool (decide_eq_false hn))) ?_)
        (first | refine K_return hE Try.func32 rfl _ rfl (.inl ⟨hp, rfl, rfl⟩) entA | refine K_fallEnd hE Try.func32 rfl _ rfl (.inl ⟨hp, rfl, rfl⟩) entA)
end Go.Proofs.Ythcjmhlmoamjpaa

/- wire, part i: Decode. -/
set_option linter.unusedVariables false
set_option linter.unusedSimpArgs false
namespace Go.Proofs.Ythcjmhlmoamjpaa
open Go Go.SL
def MV.zero : MV := ⟨.slice none 0 0, .slice none 0 0, .slice none 0 0, .slice none 0 0⟩
theorem MsgAt.zero (X : HP) (k : Int) : MsgAt X MV.zero { Msg.zero with kind := k } :=
  ⟨⟨none, 0, rfl, .inl rfl⟩, ⟨⟨none, 0, rfl, .inl rfl⟩, none, 0, rfl, Nat.le_refl _⟩, ⟨none, 0, rfl, .inl rfl⟩, ⟨none, 0, rfl, .inl rfl⟩, by simp [Msg.zero], by simp [Msg.zero], by simp [Msg.zero], by simp [Msg.zero]⟩
theorem itN {its : List It} {i : Nat} {x : It} (h : its[i]? = some x) : (its.flatMap itC)[i * 2 + 0]? = some (.int .i64 x.n) := (chunk_get itC_len h 0 (by omega)).trans rfl
theorem itB {its : List It} {i : Nat} {x : It} (h : its[i]? = some x) : (its.flatMap itC)[i * 2 + 1]? = some x.v := (chunk_get itC_len h 1 (by omega)).trans rfl
theorem has_first {k : Int} (h : hasA k ≠ []) : (hasA k)[0]? = some 1 := by
  unfold hasA at h ⊢
  repeat' split
  all_goals first | rfl | (exfalso; simp_all)
theorem has_later {k i : Int} {j : Nat} (h : (hasA k)[j]? = some i) (hj : 0 < j) : 2 ≤ i ∧ i ≤ 8 := by
  unfold hasA at h
  have h6 : j < 6 := by
    rcases Nat.lt_or_ge j 6 with h' | h'
    · exact h'
    · repeat' split at h
      all_goals first | (rw [List.getElem?_eq_none (by simp; omega)] at h; cases h) | (rw [List.getElem?_eq_none (by simp)] at h; cases h)
  have : j = 1 ∨ j = 2 ∨ j = 3 ∨ j = 4 ∨ j = 5 := by omega
  rcases this with rfl | rfl | rfl | rfl | rfl
  all_goals (repeat' split at h)
  all_goals first | (simp at h; omega) | simp at h
theorem has_nodup (k : Int) : (hasA k).Nodup := by
  unfold hasA
  repeat' split
  all_goals decide
theorem nodup_at {l : List Int} (h : l.Nodup) {i : Nat} {x : Int} (hx : l[i]? = some x) : x ∉ l.take i := by
  intro hm
  obtain ⟨j, hj, he⟩ := List.getElem_of_mem hm
  rw [List.length_take] at hj
  rw [List.getElem_take] at he
  have hi := (List.getElem?_eq_some_iff.1 hx).1
  have h2 : l[j]? = l[i]? := by rw [hx, List.getElem?_eq_getElem (by omega), he]
  have := (List.getElem?_inj (by omega) h).1 h2
  omega
theorem tlv_bytes {b : List UInt8} {xs : List (Int × List UInt8)} (h : tlvA b = some xs) : ∀ x ∈ xs, x.2.length ≤ 65536 := by
  unfold tlvA at h
  split at h
  · cases h
  split at h
  · cases h
    have key : ∀ (f : Nat) (b : List UInt8), b.length ≤ f → ∀ x ∈ tlvI b, x.2.length ≤ b.length := by
      intro f
      induction f with
      | zero =>
        intro b hb x hx
        have : b = [] := List.eq_nil_of_length_eq_zero (by omega)
        subst this; simp [tlvI_nil] at hx
      | succ f ih =>
        intro b hb x hx
        cases b with
        | nil => simp [tlvI_nil] at hx
        | cons c r =>
          have h1 := cutA_len r
          rw [List.length_cons] at hb ⊢
          by_cases hk : (cutA r).2.2 = true ∧ (cutA r).1 ≤ (cutA r).2.1.length
          · rw [tlvI_cons hk] at hx
            rcases List.mem_cons.1 hx with rfl | hx
            · simp only [List.length_take]; omega
            · have := ih _ (by rw [List.length_drop]; omega) x hx
              rw [List.length_drop] at this; omega
          · rw [tlvI_bad hk] at hx
            rw [List.mem_singleton.1 hx]; simp
    intro x hx
    have := key b.length b (Nat.le_refl _) x hx
    omega
  · cases h
theorem putA_keep {m m' : Msg} {i : Int} {b : List UInt8} (h : putA m i b = some m') : (i ≠ 6 → m'.proof = m.proof) ∧ (i ≠ 7 → m'.mems = m.mems) := by
  unfold putA at h
  split at h
  · split at h <;> cases h; exact ⟨fun _ => rfl, fun _ => rfl⟩
  split at h
  · obtain ⟨n, _, rfl⟩ := Option.map_eq_some_iff.1 h; exact ⟨fun _ => rfl, fun _ => rfl⟩
  split at h
  · cases h; exact ⟨fun _ => rfl, fun _ => rfl⟩
  split at h
  · cases h; exact ⟨fun _ => rfl, fun _ => rfl⟩
  split at h
  · rename_i h6; split at h <;> cases h; exact ⟨fun hn => absurd h6 hn, fun _ => rfl⟩
  split at h
  · rename_i h7; split at h <;> cases h; exact ⟨fun _ => rfl, fun hn => absurd h7 hn⟩
  split at h
  · split at h
    · split at h <;> cases h; exact ⟨fun _ => rfl, fun _ => rfl⟩
    · cases h
  · cases h
attribute [local irreducible] J K Ctr Ends pts slc mapR mapI sbRow stock arrS loopP CtrY

set_option maxRecDepth 20000 in
set_option maxHeartbeats 1000000 in
theorem Decode_any (A : HP) (v : Value) (b : List UInt8) (hv : BAt A v b) (hl : b.length ≤ 1000000000) :
    Ctr Try.prog 14 [v] [A] (fun r H => (decodeA b = none ∧ r = .tuple #[.agg (mC MV.zero Msg.zero).toArray, .int .i64 2] ∧ H = [A]) ∨
      (∃ (m : Msg) (mv : MV) (Z : HP), decodeA b = some m ∧ r = .tuple #[.agg (mC mv m).toArray, .int .i64 0] ∧ MsgAt Z mv m ∧ H = [Z, A])) := by
  obtain ⟨a, c, rfl, hc⟩ := hv.2
  refine Ctr.enter Try.func14 (by kernel_rfl) rfl Try.ntmps14 rfl rfl ?_
  intro G F R hE
  refine K_regionA rfl ?_
  refine J_alloc (U := tab) rfl rfl rfl (fun _ _ _ => trivial) ?_
  intro b2
  (refine go ?_)
  (first | refine J_callE rfl rfl rfl rfl (tlvDecode_any A _ b hv hl) entA ?_ (fun _ _ _ _ _ => trivial) | refine J_call0E rfl rfl rfl (tlvDecode_any A _ b hv hl) entA ?_ (fun _ _ _ _ _ => trivial) | (refine go ?_; first | refine J_callE rfl rfl rfl rfl (tlvDecode_any A _ b hv hl) entA ?_ (fun _ _ _ _ _ => trivial) | refine J_call0E rfl rfl rfl (tlvDecode_any A _ b hv hl) entA ?_ (fun _ _ _ _ _ => trivial)))
  rintro _ _ (⟨htl, rfl, rfl⟩ | ⟨xs, its, Z0, rv, htl, hip, hia, rfl, rfl⟩)
  · have hd : decodeA b = none := by unfold decodeA; rw [htl]
    (refine go ?_)
    refine K_returnC (U := tab) 1 hE Try.func14 rfl rfl rfl rfl rfl rfl rfl rfl (.inl ⟨hd, rfl, rfl⟩) entA
  obtain ⟨ra, rc, rfl⟩ := hia.1.shape
  match its, hip, hia with
  | [], hip, hia =>
    simp only [List.map_nil] at hip
    subst hip
    have hd : decodeA b = none := by unfold decodeA; rw [htl]
    (refine go ?_)
    refine K_returnC (U := tab) 2 hE Try.func14 rfl rfl rfl rfl rfl rfl rfl rfl (.inl ⟨hd, rfl, rfl⟩) entA
  | x0 :: its', hip, hia =>
    obtain ⟨n0, v0, b0⟩ := x0
    have hv0 := hia.2 _ (List.mem_cons_self ..)
    simp only at hv0
    obtain ⟨va, vc, rfl, hvc⟩ := hv0.2
    simp only [List.map_cons] at hip
    have hbl := tlv_bytes htl
    obtain ⟨bb, oo, cc, hsl⟩ := hia.1.some (by simp [itC])
    simp only [Value.slice.injEq, true_and] at hsl
    obtain ⟨rfl, rfl⟩ := hsl
    have hb0 : b0.length ≤ 65536 := hbl (n0, b0) (by rw [← hip]; exact List.mem_cons_self ..)
    by_cases hn0 : n0 = 1
    case neg =>
      have hd : decodeA b = none := by
        unfold decodeA; rw [htl, ← hip]
        show (match some ((n0, b0) :: _) with | some ((1, b0) :: l) => _ | _ => none) = none
        split
        · rename_i h; simp only [Option.some.injEq, List.cons.injEq, Prod.mk.injEq] at h; exact absurd h.1.1 hn0
        · rfl
      (refine go ?_)
      refine J_at (U := tab) 0 2 rfl rfl rfl rfl rfl rfl rfl rfl (by simp) ?_
      (refine go ?_)
      refine J_isLoad ?_
      refine J_loadAt (U := tab) 0 (0 * 2 + 0) rfl rfl rfl hia.1 (Nat.add_assoc _ _ _) (itN rfl) rfl rfl ?_
      (refine go ?_)
      (first | refine J_slot 28 ((.bool true)) rfl ((congrArg Value.bool (by simp [hn0]))) ?_ | refine K_slot 28 ((.bool true)) rfl ((congrArg Value.bool (by simp [hn0]))) ?_)
      (refine go ?_)
      refine K_returnC (U := tab) 2 hE Try.func14 rfl rfl rfl rfl rfl rfl rfl rfl (.inl ⟨hd, rfl, rfl⟩) entA
    subst hn0
    have hx0 : ((⟨1, .slice va b0.length vc, b0⟩ : It) :: its')[0]? = some ⟨1, .slice va b0.length vc, b0⟩ := rfl
    have hdec : decodeA b = match oneA b0 with
        | some k => if (hasA k).length ≠ (its'.map It.p).length + 1 then none else match putAll { Msg.zero with kind := k } (((hasA k).drop 1).zip (its'.map It.p)) with
          | some m => if rightA m then some m else none
          | none => none
        | none => none := by
      unfold decodeA; rw [htl, ← hip]; rfl
    (refine go ?_)
    refine J_at (U := tab) 0 2 rfl rfl rfl rfl rfl rfl rfl rfl (by simp) ?_
    (refine go ?_)
    refine J_isLoad ?_
    refine J_loadAt (U := tab) 0 (0 * 2 + 0) rfl rfl rfl hia.1 (Nat.add_assoc _ _ _) (itN rfl) rfl rfl ?_
    (refine go ?_)
    refine J_alloc (U := tab) rfl rfl rfl (fun _ _ _ => trivial) ?_
    intro b6
    (refine go ?_)
    refine J_at (U := tab) 0 2 rfl rfl rfl rfl rfl rfl rfl rfl (by simp) ?_
    (refine go ?_)
    refine J_isLoad ?_
    refine J_loadAt (U := tab) 1 (0 * 2 + 1) rfl rfl rfl hia.1 (Nat.add_assoc _ _ _) (itB rfl) rfl rfl ?_
    (refine go ?_)
    (first | refine J_callE rfl rfl rfl rfl (one_any Z0 _ b0 hv0 (by omega)) entA ?_ (fun _ _ _ _ _ => trivial) | refine J_call0E rfl rfl rfl (one_any Z0 _ b0 hv0 (by omega)) entA ?_ (fun _ _ _ _ _ => trivial) | (refine go ?_; first | refine J_callE rfl rfl rfl rfl (one_any Z0 _ b0 hv0 (by omega)) entA ?_ (fun _ _ _ _ _ => trivial) | refine J_call0E rfl rfl rfl (one_any Z0 _ b0 hv0 (by omega)) entA ?_ (fun _ _ _ _ _ => trivial)))
    rintro _ _ ⟨rfl, rfl⟩
    cases h1 : oneA b0 with
    | none =>
      rw [h1] at hdec
      simp only at hdec ⊢
      (refine go ?_)
      refine K_returnC (U := tab) 3 hE Try.func14 rfl rfl rfl rfl rfl rfl rfl rfl (.inl ⟨hdec, rfl, rfl⟩) entA
    | some k =>
      rw [h1] at hdec
      simp only at hdec ⊢
      (refine go ?_)
      (first | refine J_callE rfl rfl rfl rfl (has_any k) entA ?_ (fun _ _ _ _ _ => trivial) | refine J_call0E rfl rfl rfl (has_any k) entA ?_ (fun _ _ _ _ _ => trivial) | (refine go ?_; first | refine J_callE rfl rfl rfl rfl (has_any k) entA ?_ (fun _ _ _ _ _ => trivial) | refine J_call0E rfl rfl rfl (has_any k) entA ?_ (fun _ _ _ _ _ => trivial)))
      rintro _ _ rfl
      (first | refine J_shape 0 rfl ?_ | refine K_shape 0 rfl ?_)
      rintro ha hcp rfl
      have hkl := kind_len k
      (refine go ?_)
      by_cases hlen : (hasA k).length = its'.length + 1
      case neg =>
        rw [if_pos (by rw [List.length_map]; exact hlen)] at hdec
        (first | refine J_slot 49 ((.bool true)) rfl ((congrArg Value.bool (decide_eq_true (by simp only [List.length_cons]; omega)))) ?_ | refine K_slot 49 ((.bool true)) rfl ((congrArg Value.bool (decide_eq_true (by simp only [List.length_cons]; omega)))) ?_)
        (refine go ?_)
        refine J_isStore ?_
        refine J_store (U := tab) 4 (fun _ _ => trivial) rfl rfl rfl rfl rfl rfl rfl rfl rfl ?_
        (refine go ?_)
        refine K_returnC (U := tab) 4 hE Try.func14 rfl rfl rfl rfl rfl rfl rfl rfl (.inl ⟨hdec, rfl, rfl⟩) entA
      rw [if_neg (by rw [List.length_map]; omega)] at hdec
      (first | refine J_slot 49 ((.bool false)) rfl ((congrArg Value.bool (decide_eq_false (by simp only [List.length_cons]; omega)))) ?_ | refine K_slot 49 ((.bool false)) rfl ((congrArg Value.bool (decide_eq_false (by simp only [List.length_cons]; omega)))) ?_)
      (refine go ?_)
      (first | refine J_callE rfl rfl rfl rfl (has_any k) entA ?_ (fun _ _ _ _ _ => trivial) | refine J_call0E rfl rfl rfl (has_any k) entA ?_ (fun _ _ _ _ _ => trivial) | (refine go ?_; first | refine J_callE rfl rfl rfl rfl (has_any k) entA ?_ (fun _ _ _ _ _ => trivial) | refine J_call0E rfl rfl rfl (has_any k) entA ?_ (fun _ _ _ _ _ => trivial)))
      rintro _ _ rfl
      (first | refine J_shape 0 rfl ?_ | refine K_shape 0 rfl ?_)
      rintro ja jc rfl
      (refine go ?_)
      have hne : hasA k ≠ [] := by intro e; rw [e] at hlen; simp at hlen
      refine K_loop (fun y : Nat × MV × Msg × HP => y.1 ≤ (hasA k).length ∧ MsgAt y.2.2.2 y.2.1 y.2.2.1 ∧ ItemsAt y.2.2.2 (.slice (some ⟨bb, oo, none⟩) ((⟨1, .slice va b0.length vc, b0⟩ : It) :: its').length rc) (⟨1, .slice va b0.length vc, b0⟩ :: its') ∧
          putAll { Msg.zero with kind := k } (((hasA k).drop 1).zip (its'.map It.p)) = putAll y.2.2.1 (((hasA k).drop (max y.1 1)).zip (its'.map It.p |>.drop (max y.1 1 - 1))) ∧
          (6 ∉ (hasA k).take y.1 → y.2.2.1.proof = [] ∧ y.2.1.p = .slice none 0 0) ∧ (7 ∉ (hasA k).take y.1 → y.2.2.1.mems = [] ∧ y.2.1.m = .slice none 0 0)) (fun y => (hasA k).length - y.1)
        (fun y => [(2, ptr b2), (4, .slice (some ⟨bb, oo, none⟩) ((⟨1, .slice va b0.length vc, b0⟩ : It) :: its').length rc), (6, ptr b6), (53, .slice ja (hasA k).length jc), (54, .int .i64 ((hasA k).length : Int)), (55, .int .i64 (y.1 : Int))])
        (fun y => pts b6 (cl (mC y.2.1 y.2.2.1) 55) :: y.2.2.2 :: slc 3 1 (.slice ja (hasA k).length jc) (hasA k).length (iV (hasA k)) :: A :: pts b2 (cl (mC MV.zero Msg.zero) 55) :: F)
        (0, MV.zero, { Msg.zero with kind := k }, Z0) ⟨Nat.zero_le _, MsgAt.zero Z0 k, hia, by simp, fun _ => ⟨rfl, rfl⟩, fun _ => ⟨rfl, rfl⟩⟩ rfl (by repeat (first | exact keep_nil | refine keep_cons rfl ?_)) entA ?_
      rintro ⟨i, mv, m, Z⟩ ⟨hi, hmz, hiz, hput, h6, h7⟩ ih
      simp only at hi hmz hiz hput h6 h7
      obtain ⟨ui, ub, up, um⟩ := mv
      obtain ⟨ia, ic, rfl⟩ := hmz.vi.shape
      obtain ⟨ba, bc, rfl, _⟩ := hmz.vb.2
      obtain ⟨pa, pc, rfl⟩ := hmz.vp.shape
      obtain ⟨ma, mc, rfl⟩ := hmz.vm.shape
      (refine go ?_)
      refine K_condP rfl rfl ?_ ?_
      case' refine_2 =>
        intro hge
        simp only at hge
        have hend : putAll { Msg.zero with kind := k } (((hasA k).drop 1).zip (its'.map It.p)) = some m := by
          rw [hput, List.drop_eq_nil_of_le (by omega)]; rfl
        rw [hend] at hdec
        simp only at hdec
        (refine go ?_)
        refine J_loadAgg (U := tab) 0 rfl rfl rfl rfl rfl rfl ?_
        (refine go ?_)
        (first | refine J_callE rfl rfl rfl rfl (Right_any Z _ m hmz) entA ?_ (fun _ _ _ _ _ => trivial) | refine J_call0E rfl rfl rfl (Right_any Z _ m hmz) entA ?_ (fun _ _ _ _ _ => trivial) | (refine go ?_; first | refine J_callE rfl rfl rfl rfl (Right_any Z _ m hmz) entA ?_ (fun _ _ _ _ _ => trivial) | refine J_call0E rfl rfl rfl (Right_any Z _ m hmz) entA ?_ (fun _ _ _ _ _ => trivial)))
        rintro _ _ ⟨rfl, rfl⟩
        cases hr : rightA m with
        | false =>
          rw [hr, if_neg (by simp)] at hdec
          (refine go ?_)
          refine J_isStore ?_
          refine J_store (U := tab) 4 (fun _ _ => trivial) rfl rfl rfl rfl rfl rfl rfl rfl rfl ?_
          (refine go ?_)
          refine K_returnC (U := tab) 4 hE Try.func14 rfl rfl rfl rfl rfl rfl rfl rfl (.inl ⟨hdec, rfl, rfl⟩) entA
        | true =>
          rw [hr, if_pos rfl] at hdec
          (refine go ?_)
          refine J_loadAgg (U := tab) 1 rfl rfl rfl rfl rfl rfl ?_
          refine J_isStore ?_
          refine J_store (U := tab) 4 (fun _ _ => trivial) rfl rfl rfl rfl rfl rfl rfl rfl rfl ?_
          (refine go ?_)
          refine K_returnC (U := tab) (cs := mC _ m) 4 hE Try.func14 rfl rfl rfl rfl rfl rfl rfl rfl (.inr ⟨m, _, Z, hdec, rfl, hmz, rfl⟩) entA
      intro hlt
      simp only at hlt
      have hi' : i < (hasA k).length := by omega
      obtain ⟨j, hj⟩ : ∃ j, (hasA k)[i]? = some j := ⟨(hasA k)[i], by simp⟩
      obtain ⟨xt, hxt⟩ : ∃ xt, ((⟨1, .slice va b0.length vc, b0⟩ : It) :: its')[i]? = some xt := ⟨_, List.getElem?_eq_getElem (by simp only [List.length_cons]; omega)⟩
      have hxb := hiz.2 xt (List.mem_of_getElem? hxt)
      have hxp : xt.p ∈ xs := by rw [← hip]; exact List.mem_map_of_mem (f := It.p) (List.mem_of_getElem? hxt)
      have hxl : xt.b.length ≤ 65536 := hbl _ hxp
      obtain ⟨xn, xv, xb⟩ := xt
      simp only at hxb hxl
      obtain ⟨xa, xc, rfl, hxc⟩ := hxb.2
      refine K_slcVw 2 rfl ?_
      intro hvw
      obtain ⟨b3, o3, c3, hs3⟩ := hvw.some (ine hi')
      simp only [Value.slice.injEq, true_and] at hs3
      obtain ⟨rfl, rfl⟩ := hs3
      (refine go ?_)
      refine J_at1 (U := tab) i rfl rfl rfl rfl rfl rfl rfl rfl hi' ?_
      refine J_loadAt (U := tab) 2 i rfl rfl rfl hvw rfl (iV_get hj) rfl rfl ?_
      (refine go ?_)
      refine J_at (U := tab) i 2 rfl rfl rfl rfl rfl rfl rfl rfl (by simp only [List.length_cons]; omega) ?_
      (refine go ?_)
      refine J_isLoad ?_
      refine J_loadAt (U := tab) 1 (i * 2 + 0) rfl rfl rfl hiz.1 (Nat.add_assoc _ _ _) (itN hxt) rfl rfl ?_
      have hdr : (hasA k).drop i = j :: (hasA k).drop (i + 1) := by
        rw [List.drop_eq_getElem_cons hi']; congr 1
        rw [List.getElem?_eq_getElem hi'] at hj; exact Option.some.inj hj
      rcases Nat.eq_zero_or_pos i with rfl | hpos
      · have hj1 : j = 1 := by have := has_first hne; rw [hj] at this; exact Option.some.inj this
        simp only [List.getElem?_cons_zero, Option.some.injEq, It.mk.injEq] at hxt
        obtain ⟨rfl, -, -⟩ := hxt
        subst hj1
        (refine go ?_)
        refine K_again ih (1, ⟨.slice ia m.ids.length ic, .slice ba m.bytes.length bc, .slice pa m.proof.length pc, .slice ma m.mems.length mc⟩, m, Z) rfl ⟨by simp only; omega, hmz, hiz, hput, fun h => h6 (fun h' => by simp at h'), fun h => h7 (fun h' => by simp at h')⟩ (by simp only; omega) (by repeat (first | exact keep_nil | refine keep_cons rfl ?_)) entA
      have hxt2 : its'[i - 1]? = some ⟨xn, .slice xa xb.length xc, xb⟩ := by
        rw [show i = (i - 1) + 1 by omega, List.getElem?_cons_succ] at hxt; exact hxt
      have hdr2 : (its'.map It.p).drop (i - 1) = (xn, xb) :: (its'.map It.p).drop i := by
        have h1 : (its'.map It.p)[i - 1]? = some (xn, xb) := by rw [List.getElem?_map, hxt2]; rfl
        have h2 := (List.getElem?_eq_some_iff.1 h1)
        rw [List.drop_eq_getElem_cons h2.1, h2.2, show i - 1 + 1 = i by omega]
      have hzip : putAll { Msg.zero with kind := k } (((hasA k).drop 1).zip (its'.map It.p)) = putAll m ((j, xn, xb) :: ((hasA k).drop (i + 1)).zip ((its'.map It.p).drop i)) := by
        rw [hput, Nat.max_eq_left hpos, hdr, hdr2]; rfl
      obtain ⟨j2, j8⟩ := has_later hj hpos
      have hnot := nodup_at (has_nodup k) hj
      by_cases hjn : j = xn
      case neg =>
        have hnone : putAll m ((j, xn, xb) :: ((hasA k).drop (i + 1)).zip ((its'.map It.p).drop i)) = none := by rw [putAll, if_pos hjn]
        rw [hzip, hnone] at hdec
        simp only at hdec
        have hx : Value.bool (decide (xn ≠ j)) = .bool true := congrArg Value.bool (decide_eq_true (fun h => hjn h.symm))
        (refine go ?_)
        (first | refine J_slot 67 ((.bool true)) rfl (hx) ?_ | refine K_slot 67 ((.bool true)) rfl (hx) ?_)
        (refine go ?_)
        refine J_isStore ?_
        refine J_store (U := tab) 4 (fun _ _ => trivial) rfl rfl rfl rfl rfl rfl rfl rfl rfl ?_
        (refine go ?_)
        refine K_returnC (U := tab) 4 hE Try.func14 rfl rfl rfl rfl rfl rfl rfl rfl (.inl ⟨hdec, rfl, rfl⟩) entA
      subst hjn
      have hne2 : ∀ q : Int, putAll m ((j, j, xb) :: ((hasA k).drop (i + 1)).zip ((its'.map It.p).drop i)) = (match putA m j xb with | some m' => putAll m' (((hasA k).drop (i + 1)).zip ((its'.map It.p).drop i)) | none => none) := fun _ => by rw [putAll, if_neg (fun h => h rfl)]; rfl
      have hne2 := hne2 0
      have hx : Value.bool (decide (j ≠ j)) = .bool false := congrArg Value.bool (decide_eq_false (fun h => h rfl))
      (refine go ?_)
      (first | refine J_slot 67 ((.bool false)) rfl (hx) ?_ | refine K_slot 67 ((.bool false)) rfl (hx) ?_)
      (refine go ?_)
      (first | refine J_slot 70 ((.bool true)) rfl ((congrArg Value.bool (decide_eq_true (by simp only; omega)))) ?_ | refine K_slot 70 ((.bool true)) rfl ((congrArg Value.bool (decide_eq_true (by simp only; omega)))) ?_)
      (refine go ?_)
      refine J_at (U := tab) i 2 rfl rfl rfl rfl rfl rfl rfl rfl (by simp only [List.length_cons]; omega) ?_
      (refine go ?_)
      refine J_isLoad ?_
      refine J_loadAt (U := tab) 1 (i * 2 + 1) rfl rfl rfl hiz.1 (Nat.add_assoc _ _ _) (itB hxt) rfl rfl ?_
      (refine go ?_)
      (first | refine J_callE rfl rfl rfl rfl (put_any Z b6 _ m hmz j ⟨j2, j8⟩ _ xb hxb (by omega) (fun h => h6 (h ▸ hnot)) (fun h => h7 (h ▸ hnot))) entA ?_ (fun _ _ _ _ _ => trivial) | refine J_call0E rfl rfl rfl (put_any Z b6 _ m hmz j ⟨j2, j8⟩ _ xb hxb (by omega) (fun h => h6 (h ▸ hnot)) (fun h => h7 (h ▸ hnot))) entA ?_ (fun _ _ _ _ _ => trivial) | (refine go ?_; first | refine J_callE rfl rfl rfl rfl (put_any Z b6 _ m hmz j ⟨j2, j8⟩ _ xb hxb (by omega) (fun h => h6 (h ▸ hnot)) (fun h => h7 (h ▸ hnot))) entA ?_ (fun _ _ _ _ _ => trivial) | refine J_call0E rfl rfl rfl (put_any Z b6 _ m hmz j ⟨j2, j8⟩ _ xb hxb (by omega) (fun h => h6 (h ▸ hnot)) (fun h => h7 (h ▸ hnot))) entA ?_ (fun _ _ _ _ _ => trivial)))
      rintro _ _ (⟨hno, rfl, rfl⟩ | ⟨m', v', Y, hsome, rfl, hmy, hp6, hp7, rfl⟩)
      · rw [hzip, hne2, hno] at hdec
        simp only at hdec
        (refine go ?_)
        refine K_returnC (U := tab) 3 hE Try.func14 rfl rfl rfl rfl rfl rfl rfl rfl (.inl ⟨hdec, rfl, rfl⟩) entA
      · (refine go ?_)
        have hkeep := putA_keep hsome
        have hput2 : putAll { Msg.zero with kind := k } (((hasA k).drop 1).zip (its'.map It.p)) = putAll m' (((hasA k).drop (max (i + 1) 1)).zip ((its'.map It.p).drop (max (i + 1) 1 - 1))) := by
          rw [hzip, hne2, hsome, Nat.max_eq_left (by omega), show i + 1 - 1 = i from rfl]
        have htk : (hasA k).take (i + 1) = (hasA k).take i ++ [j] := by rw [List.take_add_one, hj]; rfl
        refine K_ent (Ent.trans (Ent.pick [1, 2] rfl) (Ent.resep [Y, Z] _)) ?_
        refine K_again ih (i + 1, v', m', Sep [Y, Z]) rfl ⟨by simp only; omega, hmy, ⟨hiz.1.mono (Sep_get (i := 1) rfl), fun y hy => (hiz.2 y hy).mono (Sep_get (i := 1) rfl)⟩, hput2, fun h => by
          simp only [htk, List.mem_append, List.mem_singleton, not_or] at h
          have h1 := h6 h.1
          have h2 : j ≠ 6 := fun e => h.2 e.symm
          exact ⟨(hkeep.1 h2).trans h1.1, (hp6 h2).trans h1.2⟩, fun h => by
          simp only [htk, List.mem_append, List.mem_singleton, not_or] at h
          have h1 := h7 h.1
          have h2 : j ≠ 7 := fun e => h.2 e.symm
          exact ⟨(hkeep.2 h2).trans h1.1, (hp7 h2).trans h1.2⟩⟩ (by simp only; omega) (by repeat (first | exact keep_nil | refine keep_cons rfl ?_)) entA
end Go.Proofs.Ythcjmhlmoamjpaa

/- wire, plain: what was encoded is decoded. -/
set_option linter.unusedVariables false
set_option linter.unusedSimpArgs false
namespace Go.Proofs.Ythcjmhlmoamjpaa
open Go Go.SL
theorem cutL_short : ∀ (k n i acc j : Nat), n < 128 ^ (k + 1) → j < (uv n).length → cutL i acc ((uv n).take j) = none
  | k, n, i, acc, j, hn, hj => by
    by_cases h : n < 128
    · rw [uv_small h] at hj ⊢
      have : j = 0 := by simp at hj; exact hj
      subst this; rfl
    · cases k with
      | zero => simp at hn; omega
      | succ k =>
        rw [uv_big h] at hj ⊢
        cases j with
        | zero => rfl
        | succ j =>
          rw [List.length_cons] at hj
          have e : (UInt8.ofNat (n % 128 + 128)).toNat = n % 128 + 128 := by simp only [UInt8.toNat_ofNat']; omega
          rw [List.take_succ_cons]
          simp only [cutL, e]
          split
          · rfl
          · rw [if_neg (by omega)]
            exact cutL_short k (n / 128) (i + 1) _ j (Nat.div_lt_of_lt_mul (by rw [Nat.pow_succ, Nat.mul_comm] at hn; exact hn)) (by omega)
theorem toUint_short {n j : Nat} (hn : n < 9223372036854775808) (hj : j < (uv n).length) : toUintA ((uv n).take j) = none := by
  unfold toUintA cutA
  rw [cutL_short 8 n 0 0 j (Nat.lt_of_lt_of_le hn (by decide)) hj]
  simp
theorem num1_uv {n : Nat} (hn : n < 9223372036854775808) (rest : List UInt8) : ∀ (f k : Nat), 1 ≤ k → k ≤ (uv n).length → (uv n).length < k + f → num1 (uv n ++ rest) f k = some (n, (uv n).length) := by
  intro f
  induction f with
  | zero => intro k h1 h2 h3; omega
  | succ f ih =>
    intro k h1 h2 h3
    rw [num1, if_pos (by rw [List.length_append]; omega), List.take_append_of_le_length h2]
    rcases Nat.lt_or_ge k (uv n).length with h | h
    · rw [toUint_short hn h]
      exact ih (k + 1) (by omega) (by omega) (by omega)
    · have : k = (uv n).length := by omega
      subst this
      rw [List.take_length, toUint_uv hn]
theorem numA_uv {n : Nat} (hn : n < 4398046511104) (rest : List UInt8) : numA (uv n ++ rest) = some (n, (uv n).length) :=
  num1_uv (by omega) rest 6 1 (Nat.le_refl _) (uv_pos n) (by have := uv_len 5 n (Nat.lt_of_lt_of_le hn (by decide)); omega)
theorem numsA_uints : ∀ (l : List Int), (∀ n ∈ l, 0 ≤ n ∧ n < 4398046511104) → numsA (uintsL l) = l
  | [], _ => rfl
  | x :: l, h => by
    have hx := h x (List.mem_cons_self ..)
    obtain ⟨n, rfl⟩ : ∃ n : Nat, x = n := ⟨x.toNat, by omega⟩
    have e : uintsL ((n : Int) :: l) = uv n ++ uintsL l := by simp [uintsL]
    rw [e, numsA_cons (numA_uv (by omega) _), List.drop_left, numsA_uints l fun y hy => h y (List.mem_cons_of_mem _ hy)]
theorem oneA_uint {n : Int} (h : 0 ≤ n ∧ n < 4398046511104) : oneA (uintsL [n]) = some n := by
  unfold oneA
  rw [numsA_uints [n] (by intro m hm; simp at hm; subst hm; exact h)]
  exact if_neg (by omega)
theorem digsA_flat : ∀ l : List Dg, digsA (l.flatMap Dg.bs) = l
  | [] => rfl
  | x :: l => by
    have hx := x.len
    rw [List.flatMap_cons, digsA_cons (by rw [List.length_append]; omega)]
    have h1 : (x.bs ++ l.flatMap Dg.bs).take 32 = x.bs := by rw [← hx, List.take_left]
    have h2 : (x.bs ++ l.flatMap Dg.bs).drop 32 = l.flatMap Dg.bs := by rw [← hx, List.drop_left]
    rw [h2, digsA_flat l]
    congr 1
    cases x
    congr
theorem memsL_flat : ∀ l : List Mem, (∀ x ∈ l, x.since = 0) → memsL (l.flatMap fun x : Mem => [x.id, x.inc, x.st]) = l
  | [], _ => rfl
  | x :: l, h => by
    have := h x (List.mem_cons_self ..)
    simp only [List.flatMap_cons, List.cons_append, List.nil_append, memsL]
    rw [memsL_flat l fun y hy => h y (List.mem_cons_of_mem _ hy)]
    cases x; simp_all
theorem uints_flat (l : List Mem) : (l.flatMap fun x : Mem => uintsL [x.id, x.inc, x.st]) = uintsL (l.flatMap fun x : Mem => [x.id, x.inc, x.st]) := by
  induction l with
  | nil => rfl
  | cons x l ih => rw [List.flatMap_cons, List.flatMap_cons, ih, ← uintsL_app]
theorem flat3_len (l : List Mem) : (l.flatMap fun x : Mem => [x.id, x.inc, x.st]).length = 3 * l.length := by
  induction l with
  | nil => rfl
  | cons x l ih => rw [List.flatMap_cons, List.length_append, ih]; simp; omega
/-- Items as bytes, told again. -/
theorem tlvI_rec : ∀ (l : List (Int × List UInt8)), (∀ x ∈ l, 1 ≤ x.1 ∧ x.1 ≤ 63 ∧ x.2.length ≤ 100000) → tlvI (recL l) = l
  | [], _ => rfl
  | (n, b) :: l, h => by
    obtain ⟨h1, h2, h3⟩ := h (n, b) (List.mem_cons_self ..)
    simp only at h1 h2 h3
    have e : recL ((n, b) :: l) = UInt8.ofNat n.toNat :: (uv b.length ++ (b ++ recL l)) := by simp [recL, itemL]
    have hc := cutA_uv (n := b.length) (by omega) (b ++ recL l)
    rw [e, tlvI_cons (by rw [hc]; simp)]
    rw [hc]
    simp only [List.take_left, List.drop_left]
    rw [tlvI_rec l fun x hx => h x (List.mem_cons_of_mem _ hx)]
    have : ((UInt8.ofNat n.toNat).toNat : Int) = n := by simp only [UInt8.toNat_ofNat']; omega
    rw [this]
/-- What put does with what body gives. -/
theorem put_body {m : Msg} (h : rightA m = true) {i : Int} (hi : i ∈ hasA m.kind) (hi2 : 2 ≤ i) (c : Msg) :
    putA c i (bodyA m i) = some (if i = 2 then { c with hash := m.hash } else if i = 3 then { c with piece := m.piece } else if i = 4 then { c with ids := m.ids } else if i = 5 then { c with bytes := m.bytes }
      else if i = 6 then { c with proof := m.proof } else if i = 7 then { c with mems := m.mems } else { c with seed := m.seed }) := by
  have hf := right_fits h hi
  obtain ⟨-, r2, -, -⟩ := has_range hi
  have : i = 2 ∨ i = 3 ∨ i = 4 ∨ i = 5 ∨ i = 6 ∨ i = 7 ∨ i = 8 := by omega
  rcases this with rfl | rfl | rfl | rfl | rfl | rfl | rfl
  · show (if h : m.hash.bs.length = 32 then some { c with hash := ⟨m.hash.bs, h⟩ } else none) = _
    rw [dif_pos m.hash.len]; rfl
  · have h3 := inA_iff.1 (show inA m.piece 0 1023 = true from hf)
    show (oneA (uintsL [m.piece])).map (fun n => { c with piece := n }) = _
    rw [oneA_uint (by omega)]; rfl
  · have h4 : (decide ((m.ids.length : Int) ≤ 64) && !m.ids.any oddId) = true := hf
    rw [Bool.and_eq_true, decide_eq_true_eq, Bool.not_eq_true'] at h4
    show some { c with ids := numsA (uintsL m.ids) } = _
    rw [numsA_uints m.ids (fun n hn => by
      have := List.any_eq_false.1 h4.2 n hn
      simp only [oddId, inA, Bool.not_eq_true', Bool.and_eq_false_iff, decide_eq_false_iff_not] at this
      omega)]; rfl
  · rfl
  · show (if (m.proof.flatMap Dg.bs).length % 32 = 0 then some { c with proof := digsA (m.proof.flatMap Dg.bs) } else none) = _
    rw [if_pos (by rw [proof_len]; omega), digsA_flat]; rfl
  · have h7 : (inA m.mems.length 1 65 && !m.mems.any oddMem) = true := hf
    rw [Bool.and_eq_true, Bool.not_eq_true', inA_iff] at h7
    have h8 := mems_ok h7.2
    show (if (numsA (m.mems.flatMap fun x : Mem => uintsL [x.id, x.inc, x.st])).length % 3 = 0 then some { c with mems := memsL (numsA (m.mems.flatMap fun x : Mem => uintsL [x.id, x.inc, x.st])) } else none) = _
    rw [uints_flat, numsA_uints _ (fun n hn => by
      obtain ⟨x, hx, hn⟩ := List.mem_flatMap.1 hn
      have := h8 x hx
      simp at hn; omega), if_pos (by rw [flat3_len]; omega), memsL_flat _ (fun x hx => (h8 x hx).2.2.2.2.2.2)]; rfl
  · show (match oneA (uintsL [if m.seed = true then (1 : Int) else 0]) with | some n => if n ≤ 1 then some { c with seed := decide (n = 1) } else none | none => none) = _
    rw [oneA_uint (by split <;> omega)]
    cases hs : m.seed <;> rfl
theorem bare_of {m : Msg} (h : rightA m = true) {i : Int} (hr : 1 ≤ i ∧ i ≤ 8) (hi : i ∉ hasA m.kind) : bareA m i = true := by
  have h1 := right_item h hr
  unfold okItem at h1
  rwa [if_neg hi] at h1
theorem decode_encode {m : Msg} (h : rightA m = true) : decodeA (recL (itemsA m)) = some m := by
  have hk := right_kind h
  have hlen := rec_len h
  have htl : tlvA (recL (itemsA m)) = some (itemsA m) := by
    have h1 : tlvI (recL (itemsA m)) = itemsA m := tlvI_rec _ (fun x hx => by
      obtain ⟨i, hi, rfl⟩ := List.mem_map.1 hx
      have := has_range hi
      have := body_len h hi
      refine ⟨by simp only; omega, by simp only; omega, ?_⟩
      simp only; split at this <;> omega)
    show (if 65536 < (recL (itemsA m)).length then none else if riseOk 0 (tlvI (recL (itemsA m))) then some (tlvI (recL (itemsA m))) else none) = _
    rw [if_neg (by omega), h1, if_pos (has_rise m)]
  have hall : hasA m.kind = [1, 2, 5] ∨ hasA m.kind = [1, 2, 3] ∨ hasA m.kind = [1, 2, 3, 5, 6] ∨ hasA m.kind = [1, 2, 8] ∨ hasA m.kind = [1, 2, 4] ∨ hasA m.kind = [1, 7] ∨ hasA m.kind = [1, 2] := by
    have : m.kind = 1 ∨ m.kind = 2 ∨ m.kind = 3 ∨ m.kind = 4 ∨ m.kind = 5 ∨ m.kind = 6 ∨ m.kind = 7 ∨ m.kind = 8 ∨ m.kind = 9 ∨ m.kind = 10 ∨ m.kind = 11 := by omega
    rcases this with e | e | e | e | e | e | e | e | e | e | e <;> rw [e] <;> decide
  rcases hall with hh | hh | hh | hh | hh | hh | hh
  · have hd : decodeA (recL (itemsA m)) = (match putAll { Msg.zero with kind := m.kind } [(2, 2, bodyA m 2), (5, 5, bodyA m 5)] with | some m' => if rightA m' then some m' else none | none => none) := by
      unfold decodeA
      rw [htl]
      unfold itemsA
      rw [hh]
      show (match oneA (uintsL [m.kind]) with | some k => _ | none => none) = _
      rw [oneA_uint (by omega)]
      simp only
      rw [hh]
      rfl
    rw [hd]
    rw [putAll, if_neg (fun h => h rfl), put_body h (by rw [hh]; simp) (by omega)]
    simp only
    rw [putAll, if_neg (fun h => h rfl), put_body h (by rw [hh]; simp) (by omega)]
    simp only
    rw [putAll]
    have e3 : m.piece = 0 := of_decide_eq_true (bare_of h (i := 3) (by omega) (by rw [hh]; simp))
    have e4 : m.ids = [] := List.eq_nil_of_length_eq_zero (by have := of_decide_eq_true (bare_of h (i := 4) (by omega) (by rw [hh]; simp)); omega)
    have e6 : m.proof = [] := List.eq_nil_of_length_eq_zero (by have := of_decide_eq_true (bare_of h (i := 6) (by omega) (by rw [hh]; simp)); omega)
    have e7 : m.mems = [] := List.eq_nil_of_length_eq_zero (by have := of_decide_eq_true (bare_of h (i := 7) (by omega) (by rw [hh]; simp)); omega)
    have e8 : m.seed = false := by have := bare_of h (i := 8) (by omega) (by rw [hh]; simp); have h9 : (!m.seed) = true := this; simpa using h9
    clear hd hh htl hlen hk
    have hm : ({ ({ ({ Msg.zero with kind := m.kind } : Msg) with hash := m.hash } : Msg) with bytes := m.bytes } : Msg) = m := by
      obtain ⟨k, a2, a3, a4, a5, a6, a7, a8⟩ := m
      simp only at *
      subst_vars
      rfl
    have hr : rightA ({ ({ ({ Msg.zero with kind := m.kind } : Msg) with hash := m.hash } : Msg) with bytes := m.bytes } : Msg) = true := by rw [hm]; exact h
    refine (if_pos hr).trans (congrArg some hm)
  · have hd : decodeA (recL (itemsA m)) = (match putAll { Msg.zero with kind := m.kind } [(2, 2, bodyA m 2), (3, 3, bodyA m 3)] with | some m' => if rightA m' then some m' else none | none => none) := by
      unfold decodeA
      rw [htl]
      unfold itemsA
      rw [hh]
      show (match oneA (uintsL [m.kind]) with | some k => _ | none => none) = _
      rw [oneA_uint (by omega)]
      simp only
      rw [hh]
      rfl
    rw [hd]
    rw [putAll, if_neg (fun h => h rfl), put_body h (by rw [hh]; simp) (by omega)]
    simp only
    rw [putAll, if_neg (fun h => h rfl), put_body h (by rw [hh]; simp) (by omega)]
    simp only
    rw [putAll]
    have e4 : m.ids = [] := List.eq_nil_of_length_eq_zero (by have := of_decide_eq_true (bare_of h (i := 4) (by omega) (by rw [hh]; simp)); omega)
    have e5 : m.bytes = [] := List.eq_nil_of_length_eq_zero (by have := of_decide_eq_true (bare_of h (i := 5) (by omega) (by rw [hh]; simp)); omega)
    have e6 : m.proof = [] := List.eq_nil_of_length_eq_zero (by have := of_decide_eq_true (bare_of h (i := 6) (by omega) (by rw [hh]; simp)); omega)
    have e7 : m.mems = [] := List.eq_nil_of_length_eq_zero (by have := of_decide_eq_true (bare_of h (i := 7) (by omega) (by rw [hh]; simp)); omega)
    have e8 : m.seed = false := by have := bare_of h (i := 8) (by omega) (by rw [hh]; simp); have h9 : (!m.seed) = true := this; simpa using h9
    clear hd hh htl hlen hk
    have hm : ({ ({ ({ Msg.zero with kind := m.kind } : Msg) with hash := m.hash } : Msg) with piece := m.piece } : Msg) = m := by
      obtain ⟨k, a2, a3, a4, a5, a6, a7, a8⟩ := m
      simp only at *
      subst_vars
      rfl
    have hr : rightA ({ ({ ({ Msg.zero with kind := m.kind } : Msg) with hash := m.hash } : Msg) with piece := m.piece } : Msg) = true := by rw [hm]; exact h
    refine (if_pos hr).trans (congrArg some hm)
  · have hd : decodeA (recL (itemsA m)) = (match putAll { Msg.zero with kind := m.kind } [(2, 2, bodyA m 2), (3, 3, bodyA m 3), (5, 5, bodyA m 5), (6, 6, bodyA m 6)] with | some m' => if rightA m' then some m' else none | none => none) := by
      unfold decodeA
      rw [htl]
      unfold itemsA
      rw [hh]
      show (match oneA (uintsL [m.kind]) with | some k => _ | none => none) = _
      rw [oneA_uint (by omega)]
      simp only
      rw [hh]
      rfl
    rw [hd]
    rw [putAll, if_neg (fun h => h rfl), put_body h (by rw [hh]; simp) (by omega)]
    simp only
    rw [putAll, if_neg (fun h => h rfl), put_body h (by rw [hh]; simp) (by omega)]
    simp only
    rw [putAll, if_neg (fun h => h rfl), put_body h (by rw [hh]; simp) (by omega)]
    simp only
    rw [putAll, if_neg (fun h => h rfl), put_body h (by rw [hh]; simp) (by omega)]
    simp only
    rw [putAll]
    have e4 : m.ids = [] := List.eq_nil_of_length_eq_zero (by have := of_decide_eq_true (bare_of h (i := 4) (by omega) (by rw [hh]; simp)); omega)
    have e7 : m.mems = [] := List.eq_nil_of_length_eq_zero (by have := of_decide_eq_true (bare_of h (i := 7) (by omega) (by rw [hh]; simp)); omega)
    have e8 : m.seed = false := by have := bare_of h (i := 8) (by omega) (by rw [hh]; simp); have h9 : (!m.seed) = true := this; simpa using h9
    clear hd hh htl hlen hk
    have hm : ({ ({ ({ ({ ({ Msg.zero with kind := m.kind } : Msg) with hash := m.hash } : Msg) with piece := m.piece } : Msg) with bytes := m.bytes } : Msg) with proof := m.proof } : Msg) = m := by
      obtain ⟨k, a2, a3, a4, a5, a6, a7, a8⟩ := m
      simp only at *
      subst_vars
      rfl
    have hr : rightA ({ ({ ({ ({ ({ Msg.zero with kind := m.kind } : Msg) with hash := m.hash } : Msg) with piece := m.piece } : Msg) with bytes := m.bytes } : Msg) with proof := m.proof } : Msg) = true := by rw [hm]; exact h
    refine (if_pos hr).trans (congrArg some hm)
  · have hd : decodeA (recL (itemsA m)) = (match putAll { Msg.zero with kind := m.kind } [(2, 2, bodyA m 2), (8, 8, bodyA m 8)] with | some m' => if rightA m' then some m' else none | none => none) := by
      unfold decodeA
      rw [htl]
      unfold itemsA
      rw [hh]
      show (match oneA (uintsL [m.kind]) with | some k => _ | none => none) = _
      rw [oneA_uint (by omega)]
      simp only
      rw [hh]
      rfl
    rw [hd]
    rw [putAll, if_neg (fun h => h rfl), put_body h (by rw [hh]; simp) (by omega)]
    simp only
    rw [putAll, if_neg (fun h => h rfl), put_body h (by rw [hh]; simp) (by omega)]
    simp only
    rw [putAll]
    have e3 : m.piece = 0 := of_decide_eq_true (bare_of h (i := 3) (by omega) (by rw [hh]; simp))
    have e4 : m.ids = [] := List.eq_nil_of_length_eq_zero (by have := of_decide_eq_true (bare_of h (i := 4) (by omega) (by rw [hh]; simp)); omega)
    have e5 : m.bytes = [] := List.eq_nil_of_length_eq_zero (by have := of_decide_eq_true (bare_of h (i := 5) (by omega) (by rw [hh]; simp)); omega)
    have e6 : m.proof = [] := List.eq_nil_of_length_eq_zero (by have := of_decide_eq_true (bare_of h (i := 6) (by omega) (by rw [hh]; simp)); omega)
    have e7 : m.mems = [] := List.eq_nil_of_length_eq_zero (by have := of_decide_eq_true (bare_of h (i := 7) (by omega) (by rw [hh]; simp)); omega)
    clear hd hh htl hlen hk
    have hm : ({ ({ ({ Msg.zero with kind := m.kind } : Msg) with hash := m.hash } : Msg) with seed := m.seed } : Msg) = m := by
      obtain ⟨k, a2, a3, a4, a5, a6, a7, a8⟩ := m
      simp only at *
      subst_vars
      rfl
    have hr : rightA ({ ({ ({ Msg.zero with kind := m.kind } : Msg) with hash := m.hash } : Msg) with seed := m.seed } : Msg) = true := by rw [hm]; exact h
    refine (if_pos hr).trans (congrArg some hm)
  · have hd : decodeA (recL (itemsA m)) = (match putAll { Msg.zero with kind := m.kind } [(2, 2, bodyA m 2), (4, 4, bodyA m 4)] with | some m' => if rightA m' then some m' else none | none => none) := by
      unfold decodeA
      rw [htl]
      unfold itemsA
      rw [hh]
      show (match oneA (uintsL [m.kind]) with | some k => _ | none => none) = _
      rw [oneA_uint (by omega)]
      simp only
      rw [hh]
      rfl
    rw [hd]
    rw [putAll, if_neg (fun h => h rfl), put_body h (by rw [hh]; simp) (by omega)]
    simp only
    rw [putAll, if_neg (fun h => h rfl), put_body h (by rw [hh]; simp) (by omega)]
    simp only
    rw [putAll]
    have e3 : m.piece = 0 := of_decide_eq_true (bare_of h (i := 3) (by omega) (by rw [hh]; simp))
    have e5 : m.bytes = [] := List.eq_nil_of_length_eq_zero (by have := of_decide_eq_true (bare_of h (i := 5) (by omega) (by rw [hh]; simp)); omega)
    have e6 : m.proof = [] := List.eq_nil_of_length_eq_zero (by have := of_decide_eq_true (bare_of h (i := 6) (by omega) (by rw [hh]; simp)); omega)
    have e7 : m.mems = [] := List.eq_nil_of_length_eq_zero (by have := of_decide_eq_true (bare_of h (i := 7) (by omega) (by rw [hh]; simp)); omega)
    have e8 : m.seed = false := by have := bare_of h (i := 8) (by omega) (by rw [hh]; simp); have h9 : (!m.seed) = true := this; simpa using h9
    clear hd hh htl hlen hk
    have hm : ({ ({ ({ Msg.zero with kind := m.kind } : Msg) with hash := m.hash } : Msg) with ids := m.ids } : Msg) = m := by
      obtain ⟨k, a2, a3, a4, a5, a6, a7, a8⟩ := m
      simp only at *
      subst_vars
      rfl
    have hr : rightA ({ ({ ({ Msg.zero with kind := m.kind } : Msg) with hash := m.hash } : Msg) with ids := m.ids } : Msg) = true := by rw [hm]; exact h
    refine (if_pos hr).trans (congrArg some hm)
  · have hd : decodeA (recL (itemsA m)) = (match putAll { Msg.zero with kind := m.kind } [(7, 7, bodyA m 7)] with | some m' => if rightA m' then some m' else none | none => none) := by
      unfold decodeA
      rw [htl]
      unfold itemsA
      rw [hh]
      show (match oneA (uintsL [m.kind]) with | some k => _ | none => none) = _
      rw [oneA_uint (by omega)]
      simp only
      rw [hh]
      rfl
    rw [hd]
    rw [putAll, if_neg (fun h => h rfl), put_body h (by rw [hh]; simp) (by omega)]
    simp only
    rw [putAll]
    have e2 : m.hash = Dg.zero := of_decide_eq_true (bare_of h (i := 2) (by omega) (by rw [hh]; simp))
    have e3 : m.piece = 0 := of_decide_eq_true (bare_of h (i := 3) (by omega) (by rw [hh]; simp))
    have e4 : m.ids = [] := List.eq_nil_of_length_eq_zero (by have := of_decide_eq_true (bare_of h (i := 4) (by omega) (by rw [hh]; simp)); omega)
    have e5 : m.bytes = [] := List.eq_nil_of_length_eq_zero (by have := of_decide_eq_true (bare_of h (i := 5) (by omega) (by rw [hh]; simp)); omega)
    have e6 : m.proof = [] := List.eq_nil_of_length_eq_zero (by have := of_decide_eq_true (bare_of h (i := 6) (by omega) (by rw [hh]; simp)); omega)
    have e8 : m.seed = false := by have := bare_of h (i := 8) (by omega) (by rw [hh]; simp); have h9 : (!m.seed) = true := this; simpa using h9
    clear hd hh htl hlen hk
    have hm : ({ ({ Msg.zero with kind := m.kind } : Msg) with mems := m.mems } : Msg) = m := by
      obtain ⟨k, a2, a3, a4, a5, a6, a7, a8⟩ := m
      simp only at *
      subst_vars
      rfl
    have hr : rightA ({ ({ Msg.zero with kind := m.kind } : Msg) with mems := m.mems } : Msg) = true := by rw [hm]; exact h
    refine (if_pos hr).trans (congrArg some hm)
  · have hd : decodeA (recL (itemsA m)) = (match putAll { Msg.zero with kind := m.kind } [(2, 2, bodyA m 2)] with | some m' => if rightA m' then some m' else none | none => none) := by
      unfold decodeA
      rw [htl]
      unfold itemsA
      rw [hh]
      show (match oneA (uintsL [m.kind]) with | some k => _ | none => none) = _
      rw [oneA_uint (by omega)]
      simp only
      rw [hh]
      rfl
    rw [hd]
    rw [putAll, if_neg (fun h => h rfl), put_body h (by rw [hh]; simp) (by omega)]
    simp only
    rw [putAll]
    have e3 : m.piece = 0 := of_decide_eq_true (bare_of h (i := 3) (by omega) (by rw [hh]; simp))
    have e4 : m.ids = [] := List.eq_nil_of_length_eq_zero (by have := of_decide_eq_true (bare_of h (i := 4) (by omega) (by rw [hh]; simp)); omega)
    have e5 : m.bytes = [] := List.eq_nil_of_length_eq_zero (by have := of_decide_eq_true (bare_of h (i := 5) (by omega) (by rw [hh]; simp)); omega)
    have e6 : m.proof = [] := List.eq_nil_of_length_eq_zero (by have := of_decide_eq_true (bare_of h (i := 6) (by omega) (by rw [hh]; simp)); omega)
    have e7 : m.mems = [] := List.eq_nil_of_length_eq_zero (by have := of_decide_eq_true (bare_of h (i := 7) (by omega) (by rw [hh]; simp)); omega)
    have e8 : m.seed = false := by have := bare_of h (i := 8) (by omega) (by rw [hh]; simp); have h9 : (!m.seed) = true := this; simpa using h9
    clear hd hh htl hlen hk
    have hm : ({ ({ Msg.zero with kind := m.kind } : Msg) with hash := m.hash } : Msg) = m := by
      obtain ⟨k, a2, a3, a4, a5, a6, a7, a8⟩ := m
      simp only at *
      subst_vars
      rfl
    have hr : rightA ({ ({ Msg.zero with kind := m.kind } : Msg) with hash := m.hash } : Msg) = true := by rw [hm]; exact h
    refine (if_pos hr).trans (congrArg some hm)
end Go.Proofs.Ythcjmhlmoamjpaa

/- TopGossip, part t: a view tells another one. -/
set_option linter.unusedVariables false
set_option linter.unusedSimpArgs false
namespace Go.Proofs.Ythcjmhlmoamjpaa
open Go Go.SL
theorem mV_set {l : List Mem} {i : Nat} {x : Mem} (h : l[i]? = some x) (z : Int) : (mV l).set (i * 4 + 3) (.int .i64 z) = mV (l.set i { x with since := z }) := by
  induction l generalizing i with
  | nil => simp at h
  | cons y l ih =>
    cases i with
    | zero => simp at h; subst h; rfl
    | succ i =>
      simp only [List.getElem?_cons_succ] at h
      have := ih h
      rw [show mV (y :: l) = mmC y ++ mV l from rfl, List.set_append_right _ _ (by rw [mmC_len]; omega), mmC_len, show (i + 1) * 4 + 3 - 4 = i * 4 + 3 by omega, this]
      rfl
theorem noSince_get {l : List Mem} {i : Nat} {x : Mem} (h : (noSince l)[i]? = some x) : x.since = 0 := by
  unfold noSince at h
  rw [List.getElem?_map] at h
  cases hl : l[i]? with
  | none => rw [hl] at h; cases h
  | some y => rw [hl] at h; cases h; rfl
/-- The first of them turned. -/
def halfS (l : List Mem) (i : Nat) : List Mem := noSince (l.take i) ++ l.drop i
theorem halfS_len (l : List Mem) (i : Nat) : (halfS l i).length = l.length := by
  unfold halfS noSince
  rw [List.length_append, List.length_map, List.length_take, List.length_drop]; omega
theorem halfS_get {l : List Mem} {i : Nat} {x : Mem} (h : l[i]? = some x) : (halfS l i)[i]? = some x := by
  have hi := (List.getElem?_eq_some_iff.1 h).1
  unfold halfS noSince
  rw [List.getElem?_append_right (by rw [List.length_map, List.length_take]; omega), List.length_map, List.length_take, Nat.min_eq_left (by omega), Nat.sub_self, List.getElem?_drop, Nat.add_zero, h]
theorem halfS_set {l : List Mem} {i : Nat} {x : Mem} (h : l[i]? = some x) : (halfS l i).set i { x with since := 0 } = halfS l (i + 1) := by
  have hi := (List.getElem?_eq_some_iff.1 h).1
  unfold halfS noSince
  rw [List.set_append_right _ _ (by rw [List.length_map, List.length_take]; omega), List.length_map, List.length_take, Nat.min_eq_left (by omega), Nat.sub_self, List.drop_eq_getElem_cons hi, List.set_cons_zero, List.take_add_one, h, Option.toList_some, List.map_append, List.append_assoc]
  rfl
theorem hearAll_take {l : List Mem} {V : VM} {i : Nat} {x : Mem} (h : l[i]? = some x) : hearAll V (l.take (i + 1)) = (hearA (hearAll V (l.take i)) x 1).2 := by
  induction l generalizing i V with
  | nil => simp at h
  | cons y l ih =>
    cases i with
    | zero => simp at h; subst h; rfl
    | succ i =>
      simp only [List.getElem?_cons_succ] at h
      rw [List.take_succ_cons, List.take_succ_cons, hearAll, hearAll, ih h]
attribute [local irreducible] J K Ctr Ends pts slc mapR mapI sbRow stock arrS loopP CtrY viewH

set_option maxRecDepth 20000 in
set_option maxHeartbeats 1000000 in
theorem tell_any (ba bb : Nat) (U : List Int) (Va Vb : VM) (ha : GV U Va) (hb : GV U Vb) (hu : U.length ≤ 60) :
    Ctr Try.prog 6 [ptr ba, ptr bb] [viewH ba Va, viewH bb Vb] (fun _ H => H = [viewH ba Va, viewH bb (tellA Va Vb)]) := by
  obtain ⟨g1, g2, g3⟩ := gossip_ok ha hu
  have hal := ha.len
  have hright := gossip_right g2 (by omega) (by omega)
  obtain ⟨g, hg⟩ : ∃ g, g = gossipA Va 64 5 := ⟨_, rfl⟩
  rw [← hg] at g1 g2 hright
  have htel : tellA Va Vb = hearAll Vb (noSince g) := by rw [hg]; rfl
  refine Ctr.enter Try.func6 (by kernel_rfl) rfl Try.ntmps6 rfl rfl ?_
  intro G F R hE
  (refine go ?_)
  (first | refine J_callE rfl rfl rfl rfl (Gossip_any ba Va ha.nd (by omega) 64 5) entA ?_ (fun _ _ _ _ _ => trivial) | refine J_call0E rfl rfl rfl (Gossip_any ba Va ha.nd (by omega) 64 5) entA ?_ (fun _ _ _ _ _ => trivial) | (refine go ?_; first | refine J_callE rfl rfl rfl rfl (Gossip_any ba Va ha.nd (by omega) 64 5) entA ?_ (fun _ _ _ _ _ => trivial) | refine J_call0E rfl rfl rfl (Gossip_any ba Va ha.nd (by omega) 64 5) entA ?_ (fun _ _ _ _ _ => trivial)))
  rintro r _ rfl
  rw [← hg]
  (first | refine J_shape 0 rfl ?_ | refine K_shape 0 rfl ?_)
  rintro ga gc rfl
  (refine go ?_)
  refine K_loop (fun i : Nat => i ≤ g.length) (fun i => g.length - i) (fun i => [(0, ptr ba), (0 + 1, ptr bb), (4, .slice ga g.length gc), (5, .int .i64 (i : Int))])
    (fun i => slc 30 4 (.slice ga g.length gc) g.length (mV (halfS g i)) :: viewH ba Va :: viewH bb Vb :: F) 0 (Nat.zero_le _) rfl (by repeat (first | exact keep_nil | refine keep_cons rfl ?_)) entA ?_
  rintro i hi ih
  (refine go ?_)
  refine K_condP rfl rfl ?_ ?_
  · intro hlt
    have hi' : i < g.length := by omega
    obtain ⟨x, hx⟩ : ∃ x, g[i]? = some x := ⟨g[i], by simp⟩
    (refine go ?_)
    refine J_slcAt 0 rfl (by omega) ?_
    rintro b3 o3 c3 hs3 hv3
    simp only [Value.slice.injEq, true_and] at hs3
    obtain ⟨rfl, rfl⟩ := hs3
    refine J_at (U := tab) i 4 rfl rfl rfl rfl rfl rfl rfl rfl hi' ?_
    (refine go ?_)
    refine J_isStore ?_
    refine J_storeSlcN (U := tab) (q := i * 4 + 3) 0 (fun _ _ => trivial) rfl (Nat.add_assoc _ _ _) rfl rfl rfl rfl rfl rfl (by omega) (by omega) rfl ?_
    rw [mV_set (halfS_get hx), halfS_set hx]
    (refine go ?_)
    refine K_again ih (i + 1) rfl (by omega) (by omega) (by repeat (first | exact keep_nil | refine keep_cons rfl ?_)) entA
  intro hge
  have hend : halfS g i = noSince g := by unfold halfS; rw [List.take_of_length_le (by omega), List.drop_eq_nil_of_le (by omega), List.append_nil]
  rw [hend]
  clear ih
  refine K_slcVw 0 rfl ?_
  intro hvg
  have hnl : (noSince g).length = g.length := List.length_map _
  have hma : MsgAt (slc 30 4 (.slice ga g.length gc) g.length (mV (noSince g))) ⟨.slice none 0 0, .slice none 0 0, .slice none 0 0, .slice ga g.length gc⟩ (gossipMsg (noSince g)) :=
    ⟨⟨none, 0, rfl, .inl rfl⟩, ⟨⟨none, 0, rfl, .inl rfl⟩, none, 0, rfl, Nat.le_refl _⟩, ⟨none, 0, rfl, .inl rfl⟩, by show Vw _ _ (noSince g).length _; rw [hnl]; exact hvg, by simp [gossipMsg, Msg.zero], by simp [gossipMsg, Msg.zero], by simp [gossipMsg, Msg.zero], by show (noSince g).length ≤ _; omega⟩
  (refine go ?_)
  (first | refine J_callE rfl rfl rfl rfl (Encode_any _ _ (gossipMsg (noSince g)) hma hright) entA ?_ (fun _ _ _ _ _ => trivial) | refine J_call0E rfl rfl rfl (Encode_any _ _ (gossipMsg (noSince g)) hma hright) entA ?_ (fun _ _ _ _ _ => trivial) | (refine go ?_; first | refine J_callE rfl rfl rfl rfl (Encode_any _ _ (gossipMsg (noSince g)) hma hright) entA ?_ (fun _ _ _ _ _ => trivial) | refine J_call0E rfl rfl rfl (Encode_any _ _ (gossipMsg (noSince g)) hma hright) entA ?_ (fun _ _ _ _ _ => trivial)))
  rintro _ _ ⟨rv, rfl, rfl⟩
  have hrl := rec_len hright
  obtain ⟨msg, hmsg⟩ : ∃ msg, msg = gossipMsg (noSince g) := ⟨_, rfl⟩
  have hdec := decode_encode hright
  have hms : msg.mems = noSince g := by rw [hmsg]; rfl
  rw [← hmsg] at hrl hdec ⊢
  (first | refine J_shape 0 rfl ?_ | refine K_shape 0 rfl ?_)
  rintro ea ec rfl
  refine J_slcB (bs := recL (itemsA msg)) 0 rfl ?_
  intro hbe
  (refine go ?_)
  (first | refine J_callE rfl rfl rfl rfl (Decode_any _ _ _ hbe (by omega)) entA ?_ (fun _ _ _ _ _ => trivial) | refine J_call0E rfl rfl rfl (Decode_any _ _ _ hbe (by omega)) entA ?_ (fun _ _ _ _ _ => trivial) | (refine go ?_; first | refine J_callE rfl rfl rfl rfl (Decode_any _ _ _ hbe (by omega)) entA ?_ (fun _ _ _ _ _ => trivial) | refine J_call0E rfl rfl rfl (Decode_any _ _ _ hbe (by omega)) entA ?_ (fun _ _ _ _ _ => trivial)))
  rintro _ _ (⟨hno, -⟩ | ⟨m2, mv, Z, hsome, rfl, hmz, rfl⟩)
  · rw [hdec] at hno; cases hno
  rw [hdec] at hsome
  obtain rfl := Option.some.inj hsome
  obtain ⟨ui, ub, up, um⟩ := mv
  obtain ⟨ia, ic, rfl⟩ := hmz.vi.shape
  obtain ⟨ya, yc, rfl, _⟩ := hmz.vb.2
  obtain ⟨pa, pc, rfl⟩ := hmz.vp.shape
  obtain ⟨ma, mc, rfl⟩ := hmz.vm.shape
  have hvm := hmz.vm
  simp only at hvm
  rw [hms] at hvm
  (refine go ?_)
  refine J_alloc (U := tab) rfl rfl rfl (fun _ _ _ => trivial) ?_
  intro b8
  (refine go ?_)
  refine K_loop (fun i : Nat => i ≤ (noSince g).length) (fun i => (noSince g).length - i) (fun i => [(0 + 1, ptr bb), (7, .int .i64 0), (8, ptr b8), (9, .int .i64 0), (10, .int .i64 (i : Int))])
    (fun i => pts b8 (cl (mC ⟨.slice ia msg.ids.length ic, .slice ya msg.bytes.length yc, .slice pa msg.proof.length pc, .slice ma msg.mems.length mc⟩ msg) 55) :: viewH bb (hearAll Vb ((noSince g).take i)) :: viewH ba Va :: Z :: F) 0 (Nat.zero_le _) rfl (by repeat (first | exact keep_nil | refine keep_cons rfl ?_)) entA ?_
  rintro i hi ih
  obtain ⟨hgi, hsi, -⟩ := GV.hearAll ((noSince g).take i) hb (fun m hm => by
    obtain ⟨x, hx, rfl⟩ := List.mem_map.1 (List.mem_of_mem_take hm)
    exact (g2 x hx).since 0)
  have hml : msg.mems.length = (noSince g).length := by rw [hms]
  (refine go ?_)
  by_cases hlt : i < (noSince g).length
  case neg =>
    have hend : (noSince g).take i = noSince g := List.take_of_length_le (by omega)
    rw [hend, ← htel]
    (first | refine J_slot 39 ((.bool false)) rfl ((congrArg Value.bool (decide_eq_false (by omega)))) ?_ | refine K_slot 39 ((.bool false)) rfl ((congrArg Value.bool (decide_eq_false (by omega)))) ?_)
    (refine go ?_)
    (first | refine K_return hE Try.func6 rfl _ rfl rfl entA | refine K_fallEnd hE Try.func6 rfl _ rfl rfl entA)
  (first | refine J_slot 39 ((.bool true)) rfl ((congrArg Value.bool (decide_eq_true (by omega)))) ?_ | refine K_slot 39 ((.bool true)) rfl ((congrArg Value.bool (decide_eq_true (by omega)))) ?_)
  have hi' : i < (noSince g).length := hlt
  obtain ⟨x, hx⟩ : ∃ x, (noSince g)[i]? = some x := ⟨(noSince g)[i], by simp⟩
  obtain ⟨b3, o3, c3, hs3⟩ := hvm.some (by rw [← List.length_pos_iff, chunk_len mmC_len]; omega)
  simp only [Value.slice.injEq] at hs3
  obtain ⟨rfl, -, rfl⟩ := hs3
  rw [← hml] at hvm
  have hht := hearAll_take (V := Vb) hx
  (refine go ?_)
  refine J_at (U := tab) i 4 rfl rfl rfl rfl rfl rfl rfl rfl (by omega) ?_
  refine J_loadElem (U := tab) (es := mmC x) 3 (i * 4) rfl rfl rfl hvm rfl (fun j v hj => ?_) rfl rfl rfl ?_
  · have hj3 : j < 4 := by
      rcases Nat.lt_or_ge j 4 with h | h
      · exact h
      · rw [List.getElem?_eq_none (by rw [mmC_len]; exact h)] at hj; cases hj
    rw [chunk_get mmC_len hx j hj3]; exact hj
  (refine go ?_)
  have hlen2 := hgi.len
  have hss := hgi.sok.slf hgi.sid
  (first | refine J_callE rfl rfl rfl rfl (Hear_any bb _ x 1 (by rw [hgi.most]; omega) (by rw [hgi.most]; omega) (by omega)) entA ?_ (fun _ _ _ _ _ => trivial) | refine J_call0E rfl rfl rfl (Hear_any bb _ x 1 (by rw [hgi.most]; omega) (by rw [hgi.most]; omega) (by omega)) entA ?_ (fun _ _ _ _ _ => trivial) | (refine go ?_; first | refine J_callE rfl rfl rfl rfl (Hear_any bb _ x 1 (by rw [hgi.most]; omega) (by rw [hgi.most]; omega) (by omega)) entA ?_ (fun _ _ _ _ _ => trivial) | refine J_call0E rfl rfl rfl (Hear_any bb _ x 1 (by rw [hgi.most]; omega) (by rw [hgi.most]; omega) (by omega)) entA ?_ (fun _ _ _ _ _ => trivial)))
  rintro _ _ ⟨rfl, rfl⟩
  rw [← hht]
  (refine go ?_)
  refine K_again ih (i + 1) rfl (by omega) (by omega) (by repeat (first | exact keep_nil | refine keep_cons rfl ?_)) entA
end Go.Proofs.Ythcjmhlmoamjpaa

/- TopGossip, part u: the walk. -/
set_option linter.unusedVariables false
set_option linter.unusedSimpArgs false
namespace Go.Proofs.Ythcjmhlmoamjpaa
open Go Go.SL
def rightM (m : Mem) : Bool := inA m.id 1 65536 && inA m.inc 0 1073741824 && inA m.st 1 3
theorem and1_cases (x : Int) : IntKind.i64.wrap ((BitVec.ofInt IntKind.i64.bits x &&& BitVec.ofInt IntKind.i64.bits 1).toNat : Int) = 0 ∨ IntKind.i64.wrap ((BitVec.ofInt IntKind.i64.bits x &&& BitVec.ofInt IntKind.i64.bits 1).toNat : Int) = 1 := by
  have h : (BitVec.ofInt IntKind.i64.bits x &&& BitVec.ofInt IntKind.i64.bits 1).toNat = (BitVec.ofInt IntKind.i64.bits x).toNat % 2 := by
    rw [BitVec.toNat_and, show (BitVec.ofInt IntKind.i64.bits 1).toNat = 1 from rfl, Nat.and_one_is_mod]
  rw [h]
  have : (BitVec.ofInt IntKind.i64.bits x).toNat % 2 = 0 ∨ (BitVec.ofInt IntKind.i64.bits x).toNat % 2 = 1 := by omega
  rcases this with h | h <;> rw [h]
  · exact .inl rfl
  · exact .inr rfl
def pC (x : Int × Int) : List Value := [.int .i64 x.1, .int .i64 x.2]
theorem pC_len (x : Int × Int) : (pC x).length = 2 := rfl
def topU (l : List Mem) : List Int := l.map Mem.id ++ [65534, 65535, 65536]
structure TS where
  i : Nat
  a : VM
  b : VM
  c : VM
/-- Each that was said, and may be, is known to somebody. -/
def known (l : List Mem) (s : TS) (i : Nat) : Prop := ∀ (j : Nat) (x : Mem), j < i → l[j]? = some x → rightM x = true → 0 < code s.a x.id ∨ 0 < code s.b x.id ∨ 0 < code s.c x.id
structure TG (U : List Int) (s : TS) : Prop where
  a : GV U s.a
  b : GV U s.b
  c : GV U s.c
theorem right_hear (m : Mem) : okHear m 1 = rightM m := by
  unfold okHear rightM
  rw [show inA 1 0 1099511627776 = true from rfl, Bool.and_true]
theorem right_ok {l : List Mem} {m : Mem} (h : rightM m = true) (hm : m ∈ l) (hid : m.id < 65534) (hst : m.st ≠ 3) : OkM (topU l) m := by
  simp only [rightM, Bool.and_eq_true, inA_iff] at h
  obtain ⟨⟨⟨h1, h2⟩, h3, h4⟩, h5, h6⟩ := h
  exact ⟨List.mem_append_left _ (List.mem_map.2 ⟨m, hm, rfl⟩), h1, h2, h3, h4, h5, by omega, fun h => absurd h (by omega)⟩
theorem new_gv (l : List Mem) (n : Int) (h1 : 65534 ≤ n) (h2 : n ≤ 65536) : GV (topU l) ⟨⟨n, 0, 1, 0⟩, 64, []⟩ := by
  have hu : n ∈ topU l := by
    have : n = 65534 ∨ n = 65535 ∨ n = 65536 := by omega
    unfold topU
    refine List.mem_append_right _ ?_
    rcases this with rfl | rfl | rfl <;> simp
  exact ⟨List.nodup_nil, fun x hx => (by cases hx), h1, ⟨hu, by simp only; omega, h2, by simp, by simp, by simp, by simp, fun _ => ⟨rfl, rfl⟩⟩, rfl⟩
/-- One more that was said. -/
theorem hear_one {l : List Mem} {V : VM} {m : Mem} (h : GV (topU l) V) (hm : m ∈ l) (hid : m.id < 65534) (hst : m.st ≠ 3) :
    GV (topU l) (hearA V m 1).2 ∧ (∀ id, id < 65534 → code V id ≤ code (hearA V m 1).2 id) ∧ (rightM m = true → 0 < code (hearA V m 1).2 m.id) := by
  cases hr : rightM m with
  | false =>
    have : hearA V m 1 = ((false, 1), V) := by unfold hearA; rw [if_pos (by rw [right_hear, hr])]
    rw [this]
    exact ⟨h, fun _ _ => Int.le_refl _, fun h => by cases h⟩
  | true =>
    have ho := right_ok hr hm hid hst
    obtain ⟨h1, h2, h3⟩ := h.hear ho
    refine ⟨h1, fun id hi => ?_, fun _ => ?_⟩
    · rw [h3 id hi]; split <;> omega
    · rw [h3 m.id hid, if_pos rfl]
      have := ho.inc1; have := ho.st1
      have : 1 ≤ cdM m := by unfold cdM; omega
      omega
theorem topU_len (l : List Mem) (h : l.length ≤ 30) : (topU l).length ≤ 33 := by unfold topU; rw [List.length_append, List.length_map]; simp; omega
attribute [local irreducible] J K Ctr Ends pts slc mapR mapI sbRow stock arrS loopP CtrY viewH

theorem isId_any (n : Int) : Ctr Try.prog 15 [.int .i64 n] [] (fun r H => r = .bool (inA n 1 65536) ∧ H = []) := by
  refine Ctr.enter Try.func15 (by kernel_rfl) rfl Try.ntmps15 rfl rfl ?_
  intro G F R hE
  repeat' (first | (with_reducible intro _hh) | refine go1 ?_ | refine J_fork ?_ ?_ | refine J_gsP rfl rfl rfl rfl ?_ ?_ | refine K_condP rfl rfl ?_ ?_)
  · (first | refine K_return hE Try.func15 rfl _ rfl ⟨(by unfold inA; rw [decide_eq_true (show 1 ≤ n from _hh), Bool.true_and]; rfl), rfl⟩ entA | refine K_fallEnd hE Try.func15 rfl _ rfl ⟨(by unfold inA; rw [decide_eq_true (show 1 ≤ n from _hh), Bool.true_and]; rfl), rfl⟩ entA)
  · (first | refine K_return hE Try.func15 rfl _ rfl ⟨(by unfold inA; rw [decide_eq_false (show ¬ 1 ≤ n from _hh), Bool.false_and]; rfl), rfl⟩ entA | refine K_fallEnd hE Try.func15 rfl _ rfl ⟨(by unfold inA; rw [decide_eq_false (show ¬ 1 ≤ n from _hh), Bool.false_and]; rfl), rfl⟩ entA)
theorem refRight_any (m : Mem) : Ctr Try.prog 7 [.agg (mmC m).toArray] [] (fun r H => r = .bool (rightM m) ∧ H = []) := by
  have e : rightM m = (inA m.id 1 65536 && (decide (0 ≤ m.inc) && decide (m.inc ≤ 1073741824)) && (decide (1 ≤ m.st) && decide (m.st ≤ 3))) := rfl
  refine Ctr.enter Try.func7 (by kernel_rfl) rfl Try.ntmps7 rfl rfl ?_
  intro G F R hE
  refine K_regionA rfl ?_
  refine J_box rfl rfl (fun _ _ _ => trivial) ?_
  intro bx
  (refine go ?_)
  (first | refine J_callE rfl rfl rfl rfl (isId_any m.id) entA ?_ (fun _ _ _ _ _ => trivial) | refine J_call0E rfl rfl rfl (isId_any m.id) entA ?_ (fun _ _ _ _ _ => trivial) | (refine go ?_; first | refine J_callE rfl rfl rfl rfl (isId_any m.id) entA ?_ (fun _ _ _ _ _ => trivial) | refine J_call0E rfl rfl rfl (isId_any m.id) entA ?_ (fun _ _ _ _ _ => trivial)))
  rintro _ _ ⟨rfl, rfl⟩
  cases h1 : inA m.id 1 65536 with
  | false =>
    rw [e, h1] at hE
    (refine go ?_)
    (first | refine K_return hE Try.func7 rfl _ rfl ⟨rfl, rfl⟩ entA | refine K_fallEnd hE Try.func7 rfl _ rfl ⟨rfl, rfl⟩ entA)
  | true =>
    rw [e, h1] at hE
    by_cases h2 : 0 ≤ m.inc <;> by_cases h3 : m.inc ≤ 1073741824 <;> by_cases h4 : 1 ≤ m.st <;> by_cases h5 : m.st ≤ 3
    all_goals (
      simp only [h2, h3, h4, h5, decide_true, decide_false, Bool.and_true, Bool.true_and, Bool.and_false, Bool.false_and] at hE
      repeat' (first | (with_reducible intro _hh) | refine go1 ?_ | refine J_fork ?_ ?_ | refine J_gsP rfl rfl rfl rfl ?_ ?_ | refine K_condP rfl rfl ?_ ?_)
      all_goals first
        | (exfalso; omega)
        | ((first | refine K_return hE Try.func7 rfl _ rfl ⟨rfl, rfl⟩ entA | refine K_fallEnd hE Try.func7 rfl _ rfl ⟨rfl, rfl⟩ entA))
        | ((first | refine K_return hE Try.func7 rfl _ rfl ⟨(congrArg Value.bool (by simp [h5])), rfl⟩ entA | refine K_fallEnd hE Try.func7 rfl _ rfl ⟨(congrArg Value.bool (by simp [h5])), rfl⟩ entA)))
end Go.Proofs.Ythcjmhlmoamjpaa

