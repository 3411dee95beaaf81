/- Texts of one claim, joined: Wc, We, Wf, Lb, Wg. -/
import Derived.Test.YthcjmhlmoamjpaaQTG3
import Derived.Test.YthcjmhlmoamjpaaQTG4
import Derived.Test.YthcjmhlmoamjpaaQTG6
/- wire, part c: numbers and items as bytes. -/
set_option linter.unusedVariables false
set_option linter.unusedSimpArgs false
namespace Go.Proofs.Ythcjmhlmoamjpaa
open Go Go.SL
theorem uintsL_len : ∀ (l : List Int), (∀ n ∈ l, 0 ≤ n ∧ n ≤ 9223372036854775807) → (uintsL l).length ≤ 10 * l.length
  | [], _ => by simp [uintsL]
  | n :: l, h => by
    have h1 := uintsL_len l fun x hx => h x (List.mem_cons_of_mem _ hx)
    have h2 := h n (List.mem_cons_self ..)
    have h3 := uv_len10 (n := n.toNat) (by omega)
    simp only [uintsL, List.flatMap_cons, List.length_append, List.length_cons] at h1 ⊢
    omega
theorem uintsL_app (l r : List Int) : uintsL (l ++ r) = uintsL l ++ uintsL r := by simp [uintsL]
theorem iV_app (l r : List Int) : iV (l ++ r) = iV l ++ iV r := by simp [iV]
attribute [local irreducible] J K Ctr Ends pts slc mapR mapI sbRow stock arrS loopP CtrY

set_option maxRecDepth 20000 in
theorem uints_any (A : HP) (v : Value) (l : List Int) (hv : Vw A v l.length (iV l)) (hl : l.length ≤ 10000000) (hn : ∀ n ∈ l, 0 ≤ n ∧ n ≤ 9223372036854775807) :
    Ctr Try.prog 43 [v] [A] (fun r H => H = [slc 5 1 r (uintsL l).length (bV (uintsL l)), A]) := by
  obtain ⟨a, c, rfl⟩ := hv.shape
  refine Ctr.enter Try.func43 (by kernel_rfl) rfl Try.ntmps43 rfl rfl ?_
  intro G F R hE
  (refine go ?_)
  refine K_ent (slc_lift 5 1 none _) ?_
  refine K_loop (fun y : Nat × List UInt8 × Option Addr × Nat => y.1 ≤ l.length ∧ y.2.1 = uintsL (l.take y.1)) (fun y => l.length - y.1)
    (fun y => [(3, .slice y.2.2.1 y.2.1.length y.2.2.2), (6, .slice a l.length c), (7, .int .i64 (l.length : Int)), (8, .int .i64 (y.1 : Int))])
    (fun y => slc 5 1 (.slice y.2.2.1 y.2.1.length y.2.2.2) y.2.1.length (bV y.2.1) :: A :: F) (0, [], none, 0) ⟨Nat.zero_le _, rfl⟩ rfl (by repeat (first | exact keep_nil | refine keep_cons rfl ?_)) entA ?_
  rintro ⟨i, acc, a1, c1⟩ ⟨hi, hacc⟩ ih
  simp only at hi hacc
  have hal := uintsL_len (l.take i) (fun n h => hn n (List.mem_of_mem_take h))
  rw [← hacc, List.length_take, Nat.min_eq_left hi] at hal
  (refine go ?_)
  refine K_condP rfl rfl ?_ ?_
  case' refine_2 =>
    intro hge
    simp only at hge
    have hend : acc = uintsL l := by rw [hacc, List.take_of_length_le (by omega)]
    subst hend
    (refine go ?_)
    (first | refine K_return hE Try.func43 rfl _ rfl rfl entA | refine K_fallEnd hE Try.func43 rfl _ rfl rfl entA)
  intro hlt
  simp only at hlt
  have hi' : i < l.length := by omega
  obtain ⟨x, hx⟩ : ∃ x, l[i]? = some x := ⟨l[i], by simp⟩
  obtain ⟨h0, h1⟩ := hn x (List.mem_of_getElem? hx)
  obtain ⟨n, rfl⟩ : ∃ n : Nat, x = n := ⟨x.toNat, by omega⟩
  have ht : uintsL (l.take (i + 1)) = acc ++ uv n := by
    rw [List.take_add_one, hx, Option.toList_some, uintsL_app, ← hacc]; simp [uintsL]
  have hun := uv_len10 (n := n) (by omega)
  obtain ⟨b, o, c', he⟩ := hv.some (ine hi')
  simp only [Value.slice.injEq, true_and] at he
  obtain ⟨rfl, rfl⟩ := he
  (refine go ?_)
  refine J_at1 (U := tab) i rfl rfl rfl rfl rfl rfl rfl rfl hi' ?_
  refine J_loadAt (U := tab) 1 i rfl rfl rfl hv rfl (iV_get hx) rfl rfl ?_
  (refine go ?_)
  (first | refine J_callE rfl rfl rfl rfl (Uint_any n (by omega)) entA ?_ (fun _ _ _ _ _ => trivial) | refine J_call0E rfl rfl rfl (Uint_any n (by omega)) entA ?_ (fun _ _ _ _ _ => trivial) | (refine go ?_; first | refine J_callE rfl rfl rfl rfl (Uint_any n (by omega)) entA ?_ (fun _ _ _ _ _ => trivial) | refine J_call0E rfl rfl rfl (Uint_any n (by omega)) entA ?_ (fun _ _ _ _ _ => trivial)))
  rintro r _ rfl
  (first | refine J_shape 0 rfl ?_ | refine K_shape 0 rfl ?_)
  rintro ra rc rfl
  refine J_slcVw 0 rfl ?_
  intro hbr
  (refine go ?_)
  refine J_append (U := tab) (mm := (uv n).length) (news := bV (uv n)) 1 0 rfl rfl rfl rfl rfl rfl rfl rfl rfl rfl rfl rfl hbr (by show _ = _ * 1; rw [bV_length]; omega) (bV_one _) (by simp only; omega) (by show (_ + _) * 1 ≤ _; simp only; omega) (fun _ => rfl) (fun _ _ _ => trivial) ?_
  intro v1
  simp only
  rw [show bV acc ++ bV (uv n) = bV (acc ++ uv n) from by simp [bV], show acc.length + (uv n).length = (acc ++ uv n).length from by simp]
  (first | refine J_shape 1 rfl ?_ | refine K_shape 1 rfl ?_)
  rintro a2 c2 rfl
  (refine go ?_)
  refine K_again ih (i + 1, acc ++ uv n, a2, c2) rfl ⟨by simp only; omega, by simp only; rw [ht]⟩ (by simp only; omega) (by repeat (first | exact keep_nil | refine keep_cons rfl ?_)) entA
theorem BAt.pts {b o n : Nat} {bs : List UInt8} {l : List Value} {e : TypeId} (hn : bs.length = n) (hl : (l.drop o).take n = bV bs) : BAt (pts b (cl l e)) (.slice (some ⟨b, o, none⟩) n n) bs := by
  subst hn
  exact ⟨Vw.pts (by rw [bV_length]; exact hl), _, _, rfl, Nat.le_refl _⟩
theorem proof_len (l : List Dg) : (l.flatMap Dg.bs).length = 32 * l.length := by
  induction l with
  | nil => rfl
  | cons x l ih => simp only [List.flatMap_cons, List.length_append, List.length_cons, ih, x.len]; omega
theorem mems_ok {l : List Mem} (h : l.any oddMem = false) : ∀ x ∈ l, 1 ≤ x.id ∧ x.id ≤ 65536 ∧ 0 ≤ x.inc ∧ x.inc ≤ 1073741824 ∧ 1 ≤ x.st ∧ x.st ≤ 3 ∧ x.since = 0 := by
  intro x hx
  have h1 := List.any_eq_false.1 h x hx
  simp only [oddMem, oddId, inA, Bool.or_eq_true, Bool.not_eq_true', Bool.and_eq_false_iff, decide_eq_true_eq, decide_eq_false_iff_not] at h1
  omega
theorem mem3_len (x : Mem) (h : 0 ≤ x.id ∧ x.id ≤ 9223372036854775807 ∧ 0 ≤ x.inc ∧ x.inc ≤ 9223372036854775807 ∧ 0 ≤ x.st ∧ x.st ≤ 9223372036854775807) : (uintsL [x.id, x.inc, x.st]).length ≤ 30 :=
  uintsL_len [x.id, x.inc, x.st] (by intro n hn; simp at hn; omega)
theorem mems_len {l : List Mem} (h : ∀ x ∈ l, 1 ≤ x.id ∧ x.id ≤ 65536 ∧ 0 ≤ x.inc ∧ x.inc ≤ 1073741824 ∧ 1 ≤ x.st ∧ x.st ≤ 3 ∧ x.since = 0) : (l.flatMap fun x => uintsL [x.id, x.inc, x.st]).length ≤ 30 * l.length := by
  induction l with
  | nil => simp
  | cons x l ih =>
    have h1 := ih fun y hy => h y (List.mem_cons_of_mem _ hy)
    have h2 := h x (List.mem_cons_self ..)
    have h3 := mem3_len x (by omega)
    simp only [List.flatMap_cons, List.length_append, List.length_cons] at h1 ⊢
    omega
set_option maxRecDepth 20000 in
set_option maxHeartbeats 1000000 in
theorem body_any (X : HP) (v : MV) (m : Msg) (hm : MsgAt X v m) (i : Int) (hi : 1 ≤ i ∧ i ≤ 8) (hf : fitsA m i = true) (hk : 0 ≤ m.kind ∧ m.kind ≤ 9223372036854775807) :
    Ctr Try.prog 28 [.agg (mC v m).toArray, .int .i64 i] [X] (fun r H => ∃ Y, BAt (Sep [Y, X]) r (bodyA m i) ∧ H = [Y, X]) := by
  obtain ⟨vi, vb, vp, vm⟩ := v
  have hmi := hm.vi
  have hmb := hm.vb
  have hmp := hm.vp
  have hmm := hm.vm
  have hli := hm.li
  have hlm := hm.lm
  obtain ⟨ia, ic, rfl⟩ := hm.vi.shape
  obtain ⟨ba, bc, rfl, _⟩ := hm.vb.2
  obtain ⟨pa, pc, rfl⟩ := hm.vp.shape
  obtain ⟨ma, mc, rfl⟩ := hm.vm.shape
  have hi : i = 1 ∨ i = 2 ∨ i = 3 ∨ i = 4 ∨ i = 5 ∨ i = 6 ∨ i = 7 ∨ i = 8 := by omega
  have hu : ∀ (n : Int) (b : Nat) (e : TypeId) (H : List HP), Vw (pts b (cl [Value.int .i64 n] e)) (.slice (some ⟨b, 0, none⟩) 1 1) [n].length (iV [n]) := fun n b e H => Vw.pts rfl
  have hsep : ∀ (Y : HP) (bs : List UInt8) (r : Value), BAt Y r bs → BAt (Sep [Y, X]) r bs := fun Y bs r h => h.mono (Sep_get (i := 0) rfl)
  refine Ctr.enter Try.func28 (by kernel_rfl) rfl Try.ntmps28 rfl rfl ?_
  intro G F R hE
  refine K_regionA rfl ?_
  refine J_box rfl rfl (fun _ _ _ => trivial) ?_
  intro bx
  rcases hi with rfl | rfl | rfl | rfl | rfl | rfl | rfl | rfl
  · (refine go ?_)
    refine J_buildSlice1 (U := tab) rfl rfl rfl rfl rfl rfl rfl rfl rfl (fun _ _ _ => trivial) ?_
    intro row
    (refine go ?_)
    (first | refine J_callE rfl rfl rfl rfl (uints_any _ _ [m.kind] (hu m.kind row _ []) (by simp) (by intro n hn; simp at hn; omega)) entA ?_ (fun _ _ _ _ _ => trivial) | refine J_call0E rfl rfl rfl (uints_any _ _ [m.kind] (hu m.kind row _ []) (by simp) (by intro n hn; simp at hn; omega)) entA ?_ (fun _ _ _ _ _ => trivial) | (refine go ?_; first | refine J_callE rfl rfl rfl rfl (uints_any _ _ [m.kind] (hu m.kind row _ []) (by simp) (by intro n hn; simp at hn; omega)) entA ?_ (fun _ _ _ _ _ => trivial) | refine J_call0E rfl rfl rfl (uints_any _ _ [m.kind] (hu m.kind row _ []) (by simp) (by intro n hn; simp at hn; omega)) entA ?_ (fun _ _ _ _ _ => trivial)))
    rintro r _ rfl
    refine J_slcB (bs := uintsL [m.kind]) 0 rfl ?_
    intro hbr
    (refine go ?_)
    (first | refine K_return hE Try.func28 rfl _ rfl ⟨_, hsep _ _ _ hbr, rfl⟩ entA | refine K_fallEnd hE Try.func28 rfl _ rfl ⟨_, hsep _ _ _ hbr, rfl⟩ entA)
  · (refine go ?_)
    refine J_sliceArr (U := tab) rfl rfl rfl rfl rfl ?_
    (refine go ?_)
    have hh : BAt (pts bx (cl (mC ⟨.slice ia m.ids.length ic, .slice ba m.bytes.length bc, .slice pa m.proof.length pc, .slice ma m.mems.length mc⟩ m) 55)) (.slice (some ⟨bx, 1, none⟩) 32 32) (bodyA m 2) := BAt.pts m.hash.len (dC_bV m.hash)
    (first | refine K_return hE Try.func28 rfl _ rfl ⟨_, hsep _ _ _ hh, rfl⟩ entA | refine K_fallEnd hE Try.func28 rfl _ rfl ⟨_, hsep _ _ _ hh, rfl⟩ entA)
  · have h3 := inA_iff.1 (show inA m.piece 0 1023 = true from hf)
    (refine go ?_)
    refine J_buildSlice1 (U := tab) rfl rfl rfl rfl rfl rfl rfl rfl rfl (fun _ _ _ => trivial) ?_
    intro row
    (refine go ?_)
    (first | refine J_callE rfl rfl rfl rfl (uints_any _ _ [m.piece] (hu m.piece row _ []) (by simp) (by intro n hn; simp at hn; omega)) entA ?_ (fun _ _ _ _ _ => trivial) | refine J_call0E rfl rfl rfl (uints_any _ _ [m.piece] (hu m.piece row _ []) (by simp) (by intro n hn; simp at hn; omega)) entA ?_ (fun _ _ _ _ _ => trivial) | (refine go ?_; first | refine J_callE rfl rfl rfl rfl (uints_any _ _ [m.piece] (hu m.piece row _ []) (by simp) (by intro n hn; simp at hn; omega)) entA ?_ (fun _ _ _ _ _ => trivial) | refine J_call0E rfl rfl rfl (uints_any _ _ [m.piece] (hu m.piece row _ []) (by simp) (by intro n hn; simp at hn; omega)) entA ?_ (fun _ _ _ _ _ => trivial)))
    rintro r _ rfl
    refine J_slcB (bs := uintsL [m.piece]) 0 rfl ?_
    intro hbr
    (refine go ?_)
    (first | refine K_return hE Try.func28 rfl _ rfl ⟨_, hsep _ _ _ hbr, rfl⟩ entA | refine K_fallEnd hE Try.func28 rfl _ rfl ⟨_, hsep _ _ _ hbr, rfl⟩ entA)
  · have h4 : m.ids.length ≤ 64 ∧ ∀ n ∈ m.ids, 0 ≤ n ∧ n ≤ 9223372036854775807 := by
      have h : (decide ((m.ids.length : Int) ≤ 64) && !m.ids.any oddId) = true := hf
      rw [Bool.and_eq_true, decide_eq_true_eq, Bool.not_eq_true'] at h
      refine ⟨by omega, fun n hn => ?_⟩
      have := List.any_eq_false.1 h.2 n hn
      simp only [oddId, inA, Bool.not_eq_true', Bool.and_eq_false_iff, decide_eq_false_iff_not] at this
      omega
    (refine go ?_)
    (first | refine J_callE rfl rfl rfl rfl (uints_any X _ m.ids hmi (by omega) h4.2) entA ?_ (fun _ _ _ _ _ => trivial) | refine J_call0E rfl rfl rfl (uints_any X _ m.ids hmi (by omega) h4.2) entA ?_ (fun _ _ _ _ _ => trivial) | (refine go ?_; first | refine J_callE rfl rfl rfl rfl (uints_any X _ m.ids hmi (by omega) h4.2) entA ?_ (fun _ _ _ _ _ => trivial) | refine J_call0E rfl rfl rfl (uints_any X _ m.ids hmi (by omega) h4.2) entA ?_ (fun _ _ _ _ _ => trivial)))
    rintro r _ rfl
    refine J_slcB (bs := uintsL m.ids) 0 rfl ?_
    intro hbr
    (refine go ?_)
    (first | refine K_return hE Try.func28 rfl _ rfl ⟨_, hsep _ _ _ hbr, rfl⟩ entA | refine K_fallEnd hE Try.func28 rfl _ rfl ⟨_, hsep _ _ _ hbr, rfl⟩ entA)
  · (refine go ?_)
    (first | refine K_return hE Try.func28 rfl _ rfl ⟨pts bx (cl (mC _ m) 55), hmb.mono (Sep_get (i := 1) rfl), rfl⟩ entA | refine K_fallEnd hE Try.func28 rfl _ rfl ⟨pts bx (cl (mC _ m) 55), hmb.mono (Sep_get (i := 1) rfl), rfl⟩ entA)
  · have h6 : m.proof.length ≤ 10 := by
      have h : decide ((m.proof.length : Int) ≤ 10) = true := hf
      have := of_decide_eq_true h; omega
    (refine go ?_)
    refine K_loop (fun y : Nat × List UInt8 × Option Addr × Nat => y.1 ≤ m.proof.length ∧ y.2.1 = (m.proof.take y.1).flatMap Dg.bs) (fun y => m.proof.length - y.1)
      (fun y => [(5, .slice y.2.2.1 y.2.1.length y.2.2.2), (39, .slice pa m.proof.length pc), (40, .int .i64 (m.proof.length : Int)), (41, .int .i64 (y.1 : Int))])
      (fun y => slc 5 1 (.slice y.2.2.1 y.2.1.length y.2.2.2) y.2.1.length (bV y.2.1) :: X :: F) (0, [], none, 0) ⟨Nat.zero_le _, rfl⟩ rfl (by repeat (first | exact keep_nil | refine keep_cons rfl ?_)) (Ent.trans entA (slc_lift 5 1 none _)) ?_
    rintro ⟨i, acc, a1, c1⟩ ⟨hi, hacc⟩ ih
    simp only at hi hacc
    have hal := proof_len (m.proof.take i)
    rw [← hacc, List.length_take, Nat.min_eq_left hi] at hal
    (refine go ?_)
    refine K_condP rfl rfl ?_ ?_
    case' refine_2 =>
      intro hge
      simp only at hge
      have hend : acc = bodyA m 6 := by rw [hacc, List.take_of_length_le (by omega)]; rfl
      subst hend
      refine K_slcB (bs := bodyA m 6) 0 rfl ?_
      intro hbr
      (refine go ?_)
      (first | refine K_return hE Try.func28 rfl _ rfl ⟨_, hsep _ _ _ hbr, rfl⟩ entA | refine K_fallEnd hE Try.func28 rfl _ rfl ⟨_, hsep _ _ _ hbr, rfl⟩ entA)
    intro hlt
    simp only at hlt
    have hi' : i < m.proof.length := by omega
    obtain ⟨x, hx⟩ : ∃ x, m.proof[i]? = some x := ⟨m.proof[i], by simp⟩
    have ht : (m.proof.take (i + 1)).flatMap Dg.bs = acc ++ x.bs := by
      rw [List.take_add_one, hx, Option.toList_some, List.flatMap_append, ← hacc]; simp
    have hxl := x.len
    obtain ⟨b, o, c', he⟩ := hmp.some (by rw [← List.length_pos_iff, chunk_len dC_len]; omega)
    simp only [Value.slice.injEq, true_and] at he
    obtain ⟨rfl, rfl⟩ := he
    (refine go ?_)
    refine J_at (U := tab) i 32 rfl rfl rfl rfl rfl rfl rfl rfl hi' ?_
    refine J_loadElem (U := tab) (es := dC x) 1 (i * 32) rfl rfl rfl hmp rfl (fun j v hj => ?_) rfl rfl rfl ?_
    · have hj3 : j < 32 := by
        rcases Nat.lt_or_ge j 32 with h | h
        · exact h
        · rw [List.getElem?_eq_none (by rw [dC_len]; exact h)] at hj; cases hj
      rw [chunk_get dC_len hx j hj3]; exact hj
    refine J_alloc (U := tab) rfl rfl rfl (fun _ _ _ => trivial) ?_
    intro bd
    (refine go ?_)
    refine J_sliceArr (U := tab) rfl rfl rfl rfl rfl ?_
    have hxb : Vw (pts bd (cl (dC x) 51)) (.slice (some ⟨bd, 0, none⟩) 32 32) 32 (bV x.bs) := by
      rw [← dC_bV]; exact Vw.pts rfl
    refine J_append (U := tab) (mm := 32) (news := bV x.bs) 1 0 rfl rfl rfl rfl rfl rfl rfl rfl rfl rfl rfl rfl hxb (by show _ = _ * 1; rw [bV_length]; omega) (bV_one _) (by simp only; omega) (by show (_ + _) * 1 ≤ _; simp only; omega) (fun _ => rfl) (fun _ _ _ => trivial) ?_
    intro v1
    simp only
    rw [show bV acc ++ bV x.bs = bV (acc ++ x.bs) from by simp [bV], show acc.length + 32 = (acc ++ x.bs).length from by simp [x.len]]
    (first | refine J_shape 1 rfl ?_ | refine K_shape 1 rfl ?_)
    rintro a2 c2 rfl
    (refine go ?_)
    refine K_again ih (i + 1, acc ++ x.bs, a2, c2) rfl ⟨by simp only; omega, by simp only; rw [ht]⟩ (by simp only; omega) (by repeat (first | exact keep_nil | refine keep_cons rfl ?_)) entA
  · have h7 : (inA m.mems.length 1 65 && !m.mems.any oddMem) = true := hf
    rw [Bool.and_eq_true, Bool.not_eq_true', inA_iff] at h7
    have h8 := mems_ok h7.2
    (refine go ?_)
    refine K_loop (fun y : Nat × List UInt8 × Option Addr × Nat => y.1 ≤ m.mems.length ∧ y.2.1 = (m.mems.take y.1).flatMap fun x => uintsL [x.id, x.inc, x.st]) (fun y => m.mems.length - y.1)
      (fun y => [(5, .slice y.2.2.1 y.2.1.length y.2.2.2), (52, .slice ma m.mems.length mc), (53, .int .i64 (m.mems.length : Int)), (54, .int .i64 (y.1 : Int))])
      (fun y => slc 5 1 (.slice y.2.2.1 y.2.1.length y.2.2.2) y.2.1.length (bV y.2.1) :: X :: F) (0, [], none, 0) ⟨Nat.zero_le _, rfl⟩ rfl (by repeat (first | exact keep_nil | refine keep_cons rfl ?_)) (Ent.trans entA (slc_lift 5 1 none _)) ?_
    rintro ⟨i, acc, a1, c1⟩ ⟨hi, hacc⟩ ih
    simp only at hi hacc
    have hal := mems_len (l := m.mems.take i) (fun x hx => h8 x (List.mem_of_mem_take hx))
    rw [← hacc, List.length_take, Nat.min_eq_left hi] at hal
    (refine go ?_)
    refine K_condP rfl rfl ?_ ?_
    case' refine_2 =>
      intro hge
      simp only at hge
      have hend : acc = bodyA m 7 := by rw [hacc, List.take_of_length_le (by omega)]; rfl
      subst hend
      refine K_slcB (bs := bodyA m 7) 0 rfl ?_
      intro hbr
      (refine go ?_)
      (first | refine K_return hE Try.func28 rfl _ rfl ⟨_, hsep _ _ _ hbr, rfl⟩ entA | refine K_fallEnd hE Try.func28 rfl _ rfl ⟨_, hsep _ _ _ hbr, rfl⟩ entA)
    intro hlt
    simp only at hlt
    have hi' : i < m.mems.length := by omega
    obtain ⟨x, hx⟩ : ∃ x, m.mems[i]? = some x := ⟨m.mems[i], by simp⟩
    have h9 := h8 x (List.mem_of_getElem? hx)
    have h10 := mem3_len x (by omega)
    have ht : ((m.mems.take (i + 1)).flatMap fun x => uintsL [x.id, x.inc, x.st]) = acc ++ uintsL [x.id, x.inc, x.st] := by
      rw [List.take_add_one, hx, Option.toList_some, List.flatMap_append, ← hacc]; simp
    obtain ⟨b, o, c', he⟩ := hmm.some (by rw [← List.length_pos_iff, chunk_len mmC_len]; omega)
    simp only [Value.slice.injEq, true_and] at he
    obtain ⟨rfl, rfl⟩ := he
    (refine go ?_)
    refine J_at (U := tab) i 4 rfl rfl rfl rfl rfl rfl rfl rfl hi' ?_
    refine J_loadElem (U := tab) (es := mmC x) 1 (i * 4) rfl rfl rfl hmm rfl (fun j v hj => ?_) rfl rfl rfl ?_
    · have hj3 : j < 4 := by
        rcases Nat.lt_or_ge j 4 with h | h
        · exact h
        · rw [List.getElem?_eq_none (by rw [mmC_len]; exact h)] at hj; cases hj
      rw [chunk_get mmC_len hx j hj3]; exact hj
    refine J_alloc (U := tab) rfl rfl rfl (fun _ _ _ => trivial) ?_
    intro bd
    (refine go ?_)
    refine J_buildSlice1 (U := tab) (cs := iV [x.id, x.inc, x.st]) rfl rfl rfl rfl rfl rfl rfl rfl rfl (fun _ _ _ => trivial) ?_
    intro row
    (refine go ?_)
    (first | refine J_callE rfl rfl rfl rfl (uints_any _ _ [x.id, x.inc, x.st] (Vw.pts rfl) (by simp) (by intro n hn; simp at hn; omega)) entA ?_ (fun _ _ _ _ _ => trivial) | refine J_call0E rfl rfl rfl (uints_any _ _ [x.id, x.inc, x.st] (Vw.pts rfl) (by simp) (by intro n hn; simp at hn; omega)) entA ?_ (fun _ _ _ _ _ => trivial) | (refine go ?_; first | refine J_callE rfl rfl rfl rfl (uints_any _ _ [x.id, x.inc, x.st] (Vw.pts rfl) (by simp) (by intro n hn; simp at hn; omega)) entA ?_ (fun _ _ _ _ _ => trivial) | refine J_call0E rfl rfl rfl (uints_any _ _ [x.id, x.inc, x.st] (Vw.pts rfl) (by simp) (by intro n hn; simp at hn; omega)) entA ?_ (fun _ _ _ _ _ => trivial)))
    rintro r _ rfl
    (first | refine J_shape 0 rfl ?_ | refine K_shape 0 rfl ?_)
    rintro ra rc rfl
    refine J_slcVw 0 rfl ?_
    intro hbr
    (refine go ?_)
    refine J_append (U := tab) (mm := (uintsL [x.id, x.inc, x.st]).length) (news := bV (uintsL [x.id, x.inc, x.st])) 3 0 rfl rfl rfl rfl rfl rfl rfl rfl rfl rfl rfl rfl hbr (by show _ = _ * 1; rw [bV_length]; omega) (bV_one _) (by simp only; omega) (by show (_ + _) * 1 ≤ _; simp only; omega) (fun _ => rfl) (fun _ _ _ => trivial) ?_
    intro v1
    simp only
    rw [show bV acc ++ bV (uintsL [x.id, x.inc, x.st]) = bV (acc ++ uintsL [x.id, x.inc, x.st]) from by simp [bV], show acc.length + (uintsL [x.id, x.inc, x.st]).length = (acc ++ uintsL [x.id, x.inc, x.st]).length from by simp]
    (first | refine J_shape 3 rfl ?_ | refine K_shape 3 rfl ?_)
    rintro a2 c2 rfl
    (refine go ?_)
    refine K_again ih (i + 1, acc ++ uintsL [x.id, x.inc, x.st], a2, c2) rfl ⟨by simp only; omega, by simp only; rw [ht]⟩ (by simp only; omega) (by repeat (first | exact keep_nil | refine keep_cons rfl ?_)) entA
  · (refine go ?_)
    cases hs : m.seed with
    | false =>
      have e8 : bodyA m 8 = uintsL [0] := by show uintsL [if m.seed then 1 else 0] = _; rw [hs]; rfl
      rw [e8] at hE
      (refine go ?_)
      refine J_buildSlice1 (U := tab) rfl rfl rfl rfl rfl rfl rfl rfl rfl (fun _ _ _ => trivial) ?_
      intro row
      (refine go ?_)
      (first | refine J_callE rfl rfl rfl rfl (uints_any _ _ [0] (hu 0 row _ []) (by simp) (by intro n hn; simp at hn; omega)) entA ?_ (fun _ _ _ _ _ => trivial) | refine J_call0E rfl rfl rfl (uints_any _ _ [0] (hu 0 row _ []) (by simp) (by intro n hn; simp at hn; omega)) entA ?_ (fun _ _ _ _ _ => trivial) | (refine go ?_; first | refine J_callE rfl rfl rfl rfl (uints_any _ _ [0] (hu 0 row _ []) (by simp) (by intro n hn; simp at hn; omega)) entA ?_ (fun _ _ _ _ _ => trivial) | refine J_call0E rfl rfl rfl (uints_any _ _ [0] (hu 0 row _ []) (by simp) (by intro n hn; simp at hn; omega)) entA ?_ (fun _ _ _ _ _ => trivial)))
      rintro r _ rfl
      refine J_slcB (bs := uintsL [0]) 0 rfl ?_
      intro hbr
      (refine go ?_)
      (first | refine K_return hE Try.func28 rfl _ rfl ⟨_, hsep _ _ _ hbr, rfl⟩ entA | refine K_fallEnd hE Try.func28 rfl _ rfl ⟨_, hsep _ _ _ hbr, rfl⟩ entA)
    | true =>
      have e8 : bodyA m 8 = uintsL [1] := by show uintsL [if m.seed then 1 else 0] = _; rw [hs]; rfl
      rw [e8] at hE
      (refine go ?_)
      refine J_buildSlice1 (U := tab) rfl rfl rfl rfl rfl rfl rfl rfl rfl (fun _ _ _ => trivial) ?_
      intro row
      (refine go ?_)
      (first | refine J_callE rfl rfl rfl rfl (uints_any _ _ [1] (hu 1 row _ []) (by simp) (by intro n hn; simp at hn; omega)) entA ?_ (fun _ _ _ _ _ => trivial) | refine J_call0E rfl rfl rfl (uints_any _ _ [1] (hu 1 row _ []) (by simp) (by intro n hn; simp at hn; omega)) entA ?_ (fun _ _ _ _ _ => trivial) | (refine go ?_; first | refine J_callE rfl rfl rfl rfl (uints_any _ _ [1] (hu 1 row _ []) (by simp) (by intro n hn; simp at hn; omega)) entA ?_ (fun _ _ _ _ _ => trivial) | refine J_call0E rfl rfl rfl (uints_any _ _ [1] (hu 1 row _ []) (by simp) (by intro n hn; simp at hn; omega)) entA ?_ (fun _ _ _ _ _ => trivial)))
      rintro r _ rfl
      refine J_slcB (bs := uintsL [1]) 0 rfl ?_
      intro hbr
      (refine go ?_)
      (first | refine K_return hE Try.func28 rfl _ rfl ⟨_, hsep _ _ _ hbr, rfl⟩ entA | refine K_fallEnd hE Try.func28 rfl _ rfl ⟨_, hsep _ _ _ hbr, rfl⟩ entA)
end Go.Proofs.Ythcjmhlmoamjpaa

/- tlv: Encode; wire: Encode. -/
set_option linter.unusedVariables false
set_option linter.unusedSimpArgs false
namespace Go.Proofs.Ythcjmhlmoamjpaa
open Go Go.SL
/-- An item: its number, its slice, its bytes. -/
structure It where
  n : Int
  v : Value
  b : List UInt8
instance : Inhabited It := ⟨⟨0, .slice none 0 0, []⟩⟩
def itC (x : It) : List Value := [.int .i64 x.n, x.v]
theorem itC_len (x : It) : (itC x).length = 2 := rfl
def It.p (x : It) : Int × List UInt8 := (x.n, x.b)
def ItemsAt (X : HP) (v : Value) (l : List It) : Prop := Vw X v l.length (l.flatMap itC) ∧ ∀ x ∈ l, BAt X x.v x.b
theorem recL_app (a b : List (Int × List UInt8)) : recL (a ++ b) = recL a ++ recL b := by simp [recL]
theorem recL_take (l : List (Int × List UInt8)) (i : Nat) : (recL (l.take i)).length ≤ (recL l).length := by
  conv => rhs; rw [← List.take_append_drop i l]
  rw [recL_app, List.length_append]; omega
def lastN (l : List (Int × List UInt8)) (i : Nat) : Int := match (l.take i).getLast? with
  | some x => x.1
  | none => 0
theorem rise_get : ∀ (l : List (Int × List UInt8)) (last : Int) (i : Nat) (x : Int × List UInt8), riseOk last l = true → l[i]? = some x → (match (l.take i).getLast? with | some y => y.1 | none => last) < x.1 ∧ x.1 ≤ 63 := by
  intro l
  induction l with
  | nil => intro last i x h hx; simp at hx
  | cons y l ih =>
    intro last i x h hx
    simp only [riseOk, Bool.and_eq_true, decide_eq_true_eq] at h
    cases i with
    | zero => simp at hx; subst hx; simpa using h.1
    | succ i =>
      simp only [List.getElem?_cons_succ] at hx
      have := ih y.1 i x h.2 hx
      rw [List.take_succ_cons]
      cases hl : l.take i with
      | nil => rw [hl] at this; simpa using this
      | cons z r => rw [hl] at this; rw [List.getLast?_cons_cons]; exact this
theorem lastN_succ {l : List (Int × List UInt8)} {i : Nat} {x : Int × List UInt8} (h : l[i]? = some x) : lastN l (i + 1) = x.1 := by
  unfold lastN
  rw [List.take_add_one, h]; simp
theorem rise_pos : ∀ (l : List (Int × List UInt8)) (last : Int), riseOk last l = true → 0 ≤ last → ∀ x ∈ l, 0 < x.1 := by
  intro l
  induction l with
  | nil => intro last h h0 x hx; cases hx
  | cons y l ih =>
    intro last h h0 x hx
    simp only [riseOk, Bool.and_eq_true, decide_eq_true_eq] at h
    rcases List.mem_cons.1 hx with rfl | hx
    · omega
    · exact ih y.1 h.2 (by omega) x hx
attribute [local irreducible] J K Ctr Ends pts slc mapR mapI sbRow stock arrS loopP CtrY

set_option maxRecDepth 20000 in
theorem tlvEncode_any (X : HP) (v : Value) (l : List It) (hv : ItemsAt X v l) (hl : l.length ≤ 100) (hr : riseOk 0 (l.map It.p) = true) (hs : (recL (l.map It.p)).length ≤ 65536) :
    Ctr Try.prog 29 [v] [X] (fun r H => ∃ rv, r = .tuple #[rv, .int .i64 0] ∧ H = [slc 5 1 rv (recL (l.map It.p)).length (bV (recL (l.map It.p))), X]) := by
  obtain ⟨hvw, hvb⟩ := hv
  obtain ⟨a, c, rfl⟩ := hvw.shape
  refine Ctr.enter Try.func29 (by kernel_rfl) rfl Try.ntmps29 rfl rfl ?_
  intro G F R hE
  (refine go ?_)
  refine K_ent (slc_lift 5 1 none _) ?_
  refine K_loop (fun y : Nat × List UInt8 × Option Addr × Nat => y.1 ≤ l.length ∧ y.2.1 = recL ((l.map It.p).take y.1)) (fun y => l.length - y.1)
    (fun y => [(4, .slice y.2.2.1 y.2.1.length y.2.2.2), (5, .int .i64 (lastN (l.map It.p) y.1)), (8, .slice a l.length c), (9, .int .i64 (l.length : Int)), (10, .int .i64 (y.1 : Int))])
    (fun y => slc 5 1 (.slice y.2.2.1 y.2.1.length y.2.2.2) y.2.1.length (bV y.2.1) :: X :: F) (0, [], none, 0) ⟨Nat.zero_le _, rfl⟩ rfl (by repeat (first | exact keep_nil | refine keep_cons rfl ?_)) entA ?_
  rintro ⟨i, acc, a1, c1⟩ ⟨hi, hacc⟩ ih
  simp only at hi hacc
  have hal := recL_take (l.map It.p) i
  rw [← hacc] at hal
  (refine go ?_)
  refine K_condP rfl rfl ?_ ?_
  case' refine_2 =>
    intro hge
    simp only at hge
    have hend : acc = recL (l.map It.p) := by rw [hacc, List.take_of_length_le (by rw [List.length_map]; omega)]
    subst hend
    (refine go ?_)
    (first | refine K_return hE Try.func29 rfl _ rfl ⟨_, rfl, rfl⟩ entA | refine K_fallEnd hE Try.func29 rfl _ rfl ⟨_, rfl, rfl⟩ entA)
  intro hlt
  simp only at hlt
  have hi' : i < l.length := by omega
  obtain ⟨x, hx⟩ : ∃ x, l[i]? = some x := ⟨l[i], by simp⟩
  have hxp : (l.map It.p)[i]? = some x.p := by rw [List.getElem?_map, hx]; rfl
  obtain ⟨hr1, hr2⟩ := rise_get _ 0 i x.p hr hxp
  have hr1 : lastN (l.map It.p) i < x.n := hr1
  have hr2 : x.n ≤ 63 := hr2
  have hl2 := lastN_succ hxp
  have hbx := hvb x (List.mem_of_getElem? hx)
  obtain ⟨xn, xv, xb⟩ := x
  simp only at hr1 hr2 hbx
  have hl2 : lastN (l.map It.p) (i + 1) = xn := hl2
  obtain ⟨xa, xc, rfl, hxc⟩ := hbx.2
  have ht : recL ((l.map It.p).take (i + 1)) = acc ++ itemL (xn, xb) := by
    rw [List.take_add_one, hxp, Option.toList_some, recL_app, ← hacc]; simp [recL, It.p]
  have hal1 := recL_take (l.map It.p) (i + 1)
  rw [ht, List.length_append] at hal1
  have hit : (itemL (xn, xb)).length = 1 + (uv xb.length).length + xb.length := by simp only [itemL, List.length_cons, List.length_append]; omega
  obtain ⟨b, o, c', he⟩ := hvw.some (by rw [← List.length_pos_iff, chunk_len itC_len]; omega)
  simp only [Value.slice.injEq, true_and] at he
  obtain ⟨rfl, rfl⟩ := he
  (refine go ?_)
  refine J_at (U := tab) i 2 rfl rfl rfl rfl rfl rfl rfl rfl hi' ?_
  refine J_loadElem (U := tab) (es := itC ⟨xn, .slice xa xb.length xc, xb⟩) 1 (i * 2) rfl rfl rfl hvw rfl (fun j v hj => ?_) rfl rfl rfl ?_
  · have hj3 : j < 2 := by
      rcases Nat.lt_or_ge j 2 with h | h
      · exact h
      · rw [List.getElem?_eq_none (by rw [itC_len]; exact h)] at hj; cases hj
    rw [chunk_get itC_len hx j hj3]; exact hj
  refine J_alloc (U := tab) rfl rfl rfl (fun _ _ _ => trivial) ?_
  intro bd
  repeat' (first | (with_reducible intro _hh) | refine go1 ?_ | refine J_fork ?_ ?_ | refine J_gsP rfl rfl rfl rfl ?_ ?_ | refine K_condP rfl rfl ?_ ?_)
  any_goals (exfalso; simp only at *; omega)
  rename_i h1 h2 h3
  simp only at h1 h2 h3
  obtain ⟨xm, rfl⟩ : ∃ m : Nat, xn = m := ⟨xn.toNat, by
    have : 0 < xn := rise_pos _ 0 hr (Int.le_refl _) _ (List.mem_of_getElem? hxp)
    omega⟩
  (refine go ?_)
  refine K_drawA (fun w => Sat G w ([X, pts bd (cl [.int .i64 (xm : Int), .slice xa xb.length xc] 79)])) (.st 0 (.st 1 (.st 2 (.st 5 (.st 6 (.st 7 (.st 8 (.st 11 (.st 12 (.act 3 (.act 4 (.act 9 (.act 10 (.act 13 (.st 14 .nil))))))))))))))) rfl (by kernel_rfl) (by kernel_rfl) (by kernel_rfl) (fun w hw => hw.ent entA) ?_
  refine J_adv (U := tab) rfl ?_
  refine J_isConv ?_
  refine J_convW (U := tab) rfl rfl rfl rfl rfl rfl ?_
  (first | refine J_slot 36 ((u8 (UInt8.ofNat xm))) rfl ((conv_u8 xm)) ?_ | refine K_slot 36 ((u8 (UInt8.ofNat xm))) rfl ((conv_u8 xm)) ?_)
  (refine go ?_)
  refine J_buildSlice1 (U := tab) (cs := bV [UInt8.ofNat xm]) rfl rfl rfl rfl rfl rfl rfl rfl rfl (fun _ w hw => hw.ent entA) ?_
  intro row
  (refine go ?_)
  refine J_append (U := tab) (mm := 1) (news := bV [UInt8.ofNat xm]) 2 0 rfl rfl rfl rfl rfl rfl rfl rfl rfl rfl rfl rfl (Vw.pts rfl) rfl (bV_one _) (by simp only; omega) (by show (_ + _) * 1 ≤ _; simp only; omega) (fun _ => rfl) (fun _ w hw => hw.ent entA) ?_
  intro v1
  simp only
  rw [show bV acc ++ bV [UInt8.ofNat xm] = bV (acc ++ [UInt8.ofNat xm]) from by simp [bV], show acc.length + 1 = (acc ++ [UInt8.ofNat xm]).length from by simp]
  (first | refine J_shape 2 rfl ?_ | refine K_shape 2 rfl ?_)
  rintro a2 c2 rfl
  (refine go ?_)
  (first | refine J_callE rfl rfl rfl rfl (Uint_any xb.length (by omega)) entA ?_ (fun _ _ w hp hw => by obtain rfl := hp; exact hw.ent entA) | refine J_call0E rfl rfl rfl (Uint_any xb.length (by omega)) entA ?_ (fun _ _ w hp hw => by obtain rfl := hp; exact hw.ent entA))
  rintro r _ rfl
  (first | refine J_shape 0 rfl ?_ | refine K_shape 0 rfl ?_)
  rintro ra rc rfl
  refine J_slcVw 0 rfl ?_
  intro hbr
  (refine go ?_)
  refine J_append (U := tab) (mm := (uv xb.length).length) (news := bV (uv xb.length)) 3 0 rfl rfl rfl rfl rfl rfl rfl rfl rfl rfl rfl rfl hbr (by show _ = _ * 1; rw [bV_length]; omega) (bV_one _) (by simp only [List.length_append, List.length_singleton]; omega) (by show (_ + _) * 1 ≤ _; simp only [List.length_append, List.length_singleton]; omega) (fun _ => rfl) (fun _ w hw => hw.ent entA) ?_
  intro v2
  rw [show bV (acc ++ [UInt8.ofNat xm]) ++ bV (uv xb.length) = bV (acc ++ [UInt8.ofNat xm] ++ uv xb.length) from by simp [bV], show (acc ++ [UInt8.ofNat xm]).length + (uv xb.length).length = (acc ++ [UInt8.ofNat xm] ++ uv xb.length).length from by simp; omega]
  (first | refine J_shape 3 rfl ?_ | refine K_shape 3 rfl ?_)
  rintro a3 c3 rfl
  (refine go ?_)
  refine J_append (U := tab) (mm := xb.length) (news := bV xb) 3 4 rfl rfl rfl rfl rfl rfl rfl rfl rfl rfl rfl rfl hbx.1 (by show _ = _ * 1; rw [bV_length]; omega) (bV_one _) (by simp only [List.length_append, List.length_singleton]; omega) (by show (_ + _) * 1 ≤ _; simp only [List.length_append, List.length_singleton]; omega) (fun _ => rfl) (fun _ w hw => hw.ent entA) ?_
  intro v3
  rw [show bV (acc ++ [UInt8.ofNat xm] ++ uv xb.length) ++ bV xb = bV (acc ++ itemL (xm, xb)) from by simp [bV, itemL], show (acc ++ [UInt8.ofNat xm] ++ uv xb.length).length + xb.length = (acc ++ itemL (xm, xb)).length from by simp [itemL]; omega]
  (first | refine J_shape 3 rfl ?_ | refine K_shape 3 rfl ?_)
  rintro a4 c4 rfl
  (refine go ?_)
  refine K_condP rfl rfl ?_ ?_
  · intro hbig; exfalso; simp only [List.length_append] at hbig; omega
  intro _
  (refine go ?_)
  (first | refine J_slot 5 ((.int .i64 (lastN (l.map It.p) (i + 1)))) rfl ((congrArg (Value.int .i64) hl2.symm)) ?_ | refine K_slot 5 ((.int .i64 (lastN (l.map It.p) (i + 1)))) rfl ((congrArg (Value.int .i64) hl2.symm)) ?_)
  refine K_again ih (i + 1, acc ++ itemL (xm, xb), a4, c4) rfl ⟨by simp only; omega, by simp only; rw [ht]⟩ (by simp only; omega) (by repeat (first | exact keep_nil | refine keep_cons rfl ?_)) entA
theorem right_item {m : Msg} (h : rightA m = true) {i : Int} (hi : 1 ≤ i ∧ i ≤ 8) : okItem m i = true := by
  simp only [rightA, Bool.and_eq_true] at h
  have : i = 1 ∨ i = 2 ∨ i = 3 ∨ i = 4 ∨ i = 5 ∨ i = 6 ∨ i = 7 ∨ i = 8 := by omega
  rcases this with rfl | rfl | rfl | rfl | rfl | rfl | rfl | rfl
  all_goals simp only [h]
theorem has_range {k i : Int} (h : i ∈ hasA k) : 1 ≤ i ∧ i ≤ 8 ∧ 1 ≤ k ∧ k ≤ 11 := by
  unfold hasA at h
  repeat' split at h
  all_goals (simp at h; try omega)
theorem right_kind {m : Msg} (h : rightA m = true) : 1 ≤ m.kind ∧ m.kind ≤ 11 := by
  have h1 := right_item h (i := 1) (by omega)
  unfold okItem at h1
  split at h1
  · rename_i hin; exact ⟨(has_range hin).2.2.1, (has_range hin).2.2.2⟩
  · cases h1
theorem right_fits {m : Msg} (h : rightA m = true) {i : Int} (hi : i ∈ hasA m.kind) : fitsA m i = true := by
  have h1 := right_item h (i := i) ⟨(has_range hi).1, (has_range hi).2.1⟩
  unfold okItem at h1
  rwa [if_pos hi] at h1
theorem has_rise (m : Msg) : riseOk 0 (itemsA m) = true := by
  unfold itemsA hasA
  repeat' split
  all_goals rfl
theorem items_get {m : Msg} {i : Nat} {k : Int} (h : (hasA m.kind)[i]? = some k) : (itemsA m).take (i + 1) = (itemsA m).take i ++ [(k, bodyA m k)] := by
  unfold itemsA
  rw [List.take_add_one, List.getElem?_map, h]; rfl
theorem body_len {m : Msg} (h : rightA m = true) {i : Int} (hi : i ∈ hasA m.kind) : (bodyA m i).length ≤ if i = 5 then 16384 else 2000 := by
  have hk := right_kind h
  have hf := right_fits h hi
  obtain ⟨r1, r2, -, -⟩ := has_range hi
  have : i = 1 ∨ i = 2 ∨ i = 3 ∨ i = 4 ∨ i = 5 ∨ i = 6 ∨ i = 7 ∨ i = 8 := by omega
  rcases this with rfl | rfl | rfl | rfl | rfl | rfl | rfl | rfl
  · have := uintsL_len [m.kind] (by intro n hn; simp at hn; omega)
    show (uintsL [m.kind]).length ≤ 2000
    simp at this; omega
  · show m.hash.bs.length ≤ 2000
    rw [m.hash.len]; omega
  · have h3 := inA_iff.1 (show inA m.piece 0 1023 = true from hf)
    have := uintsL_len [m.piece] (by intro n hn; simp at hn; omega)
    show (uintsL [m.piece]).length ≤ 2000
    simp at this; omega
  · have h4 : (decide ((m.ids.length : Int) ≤ 64) && !m.ids.any oddId) = true := hf
    rw [Bool.and_eq_true, decide_eq_true_eq, Bool.not_eq_true'] at h4
    have := uintsL_len m.ids (fun n hn => by
      have := List.any_eq_false.1 h4.2 n hn
      simp only [oddId, inA, Bool.not_eq_true', Bool.and_eq_false_iff, decide_eq_false_iff_not] at this
      omega)
    show (uintsL m.ids).length ≤ 2000
    omega
  · have h5 := inA_iff.1 (show inA m.bytes.length 1 (mostA m.kind) = true from hf)
    have hm : mostA m.kind ≤ 16384 := by unfold mostA; repeat' split
                                         all_goals omega
    show m.bytes.length ≤ 16384
    omega
  · have h6 : decide ((m.proof.length : Int) ≤ 10) = true := hf
    have h7 := of_decide_eq_true h6
    show (m.proof.flatMap Dg.bs).length ≤ 2000
    rw [proof_len]; omega
  · have h7 : (inA m.mems.length 1 65 && !m.mems.any oddMem) = true := hf
    rw [Bool.and_eq_true, Bool.not_eq_true', inA_iff] at h7
    have := mems_len (mems_ok h7.2)
    show (m.mems.flatMap fun x => uintsL [x.id, x.inc, x.st]).length ≤ 2000
    omega
  · have : (uintsL [if m.seed = true then (1 : Int) else 0]).length ≤ 10 * [if m.seed = true then (1 : Int) else 0].length := uintsL_len _ (by intro n hn; simp at hn; split at hn <;> omega)
    show (uintsL [if m.seed = true then (1 : Int) else 0]).length ≤ 2000
    simp at this; omega
theorem item_len (i : Int) (b : List UInt8) (hb : b.length ≤ 100000) : (itemL (i, b)).length ≤ b.length + 11 := by
  have := uv_len10 (n := b.length) (by omega)
  simp only [itemL, List.length_cons, List.length_append]; omega
theorem rec_len {m : Msg} (h : rightA m = true) : (recL (itemsA m)).length ≤ 40000 := by
  have hb : ∀ i ∈ hasA m.kind, (itemL (i, bodyA m i)).length ≤ if i = 5 then 16395 else 2011 := fun i hi => by
    have h1 := body_len h hi
    have h2 := item_len i (bodyA m i) (by split at h1 <;> omega)
    split at h1 <;> simp_all <;> omega
  have hsum : ∀ l : List Int, (∀ i ∈ l, (itemL (i, bodyA m i)).length ≤ if i = 5 then 16395 else 2011) → (recL (l.map fun i => (i, bodyA m i))).length ≤ (l.map fun i => if i = 5 then 16395 else 2011).sum := by
    intro l
    induction l with
    | nil => intro _; simp [recL]
    | cons i l ih =>
      intro hl
      have h1 := ih fun j hj => hl j (List.mem_cons_of_mem _ hj)
      have h2 := hl i (List.mem_cons_self ..)
      simp only [recL, List.map_cons, List.flatMap_cons, List.length_append, List.sum_cons] at h1 ⊢
      omega
  refine Nat.le_trans (hsum _ hb) ?_
  unfold hasA
  repeat' split
  all_goals decide
set_option maxRecDepth 20000 in
theorem Encode_any (X : HP) (v : MV) (m : Msg) (hm : MsgAt X v m) (hr : rightA m = true) :
    Ctr Try.prog 13 [.agg (mC v m).toArray] [X] (fun r H => ∃ rv, r = .tuple #[rv, .int .i64 0] ∧ H = [slc 5 1 rv (recL (itemsA m)).length (bV (recL (itemsA m))), X]) := by
  have hkl := kind_len m.kind
  have hk := right_kind hr
  refine Ctr.enter Try.func13 (by kernel_rfl) rfl Try.ntmps13 rfl rfl ?_
  intro G F R hE
  refine K_regionA rfl ?_
  refine J_box rfl rfl (fun _ _ _ => trivial) ?_
  intro bx
  (refine go ?_)
  refine J_loadAgg (U := tab) 0 rfl rfl rfl rfl rfl rfl ?_
  (refine go ?_)
  (first | refine J_callE rfl rfl rfl rfl (Right_any X v m hm) entA ?_ (fun _ _ _ _ _ => trivial) | refine J_call0E rfl rfl rfl (Right_any X v m hm) entA ?_ (fun _ _ _ _ _ => trivial) | (refine go ?_; first | refine J_callE rfl rfl rfl rfl (Right_any X v m hm) entA ?_ (fun _ _ _ _ _ => trivial) | refine J_call0E rfl rfl rfl (Right_any X v m hm) entA ?_ (fun _ _ _ _ _ => trivial)))
  rintro _ _ ⟨rfl, rfl⟩
  rw [hr]
  (refine go ?_)
  (first | refine J_callE rfl rfl rfl rfl (has_any m.kind) entA ?_ (fun _ _ _ _ _ => trivial) | refine J_call0E rfl rfl rfl (has_any m.kind) entA ?_ (fun _ _ _ _ _ => trivial) | (refine go ?_; first | refine J_callE rfl rfl rfl rfl (has_any m.kind) entA ?_ (fun _ _ _ _ _ => trivial) | refine J_call0E rfl rfl rfl (has_any m.kind) entA ?_ (fun _ _ _ _ _ => trivial)))
  rintro _ _ rfl
  (first | refine J_shape 0 rfl ?_ | refine K_shape 0 rfl ?_)
  rintro ha hc rfl
  (refine go ?_)
  refine K_loop (fun y : Nat × List It × HP × Option Addr × Nat => y.1 ≤ (hasA m.kind).length ∧ y.2.1.length = y.1 ∧ y.2.1.map It.p = (itemsA m).take y.1 ∧ (∀ x ∈ y.2.1, BAt y.2.2.1 x.v x.b) ∧ MsgAt y.2.2.1 v m ∧ (∀ h, y.2.2.1 h → ∃ h', sub h' h ∧ X h')) (fun y => (hasA m.kind).length - y.1)
    (fun y => [(1, ptr bx), (4, .slice y.2.2.2.1 y.2.1.length y.2.2.2.2), (12, .slice ha (hasA m.kind).length hc), (13, .int .i64 ((hasA m.kind).length : Int)), (14, .int .i64 (y.1 : Int))])
    (fun y => slc 79 2 (.slice y.2.2.2.1 y.2.1.length y.2.2.2.2) y.2.1.length (y.2.1.flatMap itC) :: y.2.2.1 :: slc 3 1 (.slice ha (hasA m.kind).length hc) (hasA m.kind).length (iV (hasA m.kind)) :: pts bx (cl (mC v m) 55) :: F) (0, [], X, none, 0)
    ⟨Nat.zero_le _, rfl, rfl, by simp, hm, fun h hx => ⟨h, sub.refl h, hx⟩⟩ rfl (by repeat (first | exact keep_nil | refine keep_cons rfl ?_)) (Ent.trans entA (slc_lift 79 2 none _)) ?_
  rintro ⟨i, its, Z, a1, c1⟩ ⟨hi, hil, hip, hib, hmz, hzx⟩ ih
  simp only at hi hil hip hib hmz hzx
  (refine go ?_)
  refine K_condP rfl rfl ?_ ?_
  case' refine_2 =>
    intro hge
    simp only at hge
    have hend : its.map It.p = itemsA m := by rw [hip, List.take_of_length_le (by unfold itemsA; rw [List.length_map]; omega)]
    (refine go ?_)
    refine J_slcVw 0 rfl ?_
    intro hvi
    simp only at hvi ⊢
    refine J_ent (Ent.resep [slc 79 2 (.slice a1 its.length c1) its.length (its.flatMap itC), Z] _) ?_
    have hia : ItemsAt (Sep [slc 79 2 (.slice a1 its.length c1) its.length (its.flatMap itC), Z]) (.slice a1 its.length c1) its :=
      ⟨hvi.mono (Sep_get (i := 0) rfl), fun x hx => (hib x hx).mono (Sep_get (i := 1) rfl)⟩
    have htl := tlvEncode_any _ _ its hia (by omega) (by rw [hend]; exact has_rise m) (by rw [hend]; have := rec_len hr; omega)
    rw [hend] at htl
    (first | refine J_callE rfl rfl rfl rfl (htl) entA ?_ (fun _ _ _ _ _ => trivial) | refine J_call0E rfl rfl rfl (htl) entA ?_ (fun _ _ _ _ _ => trivial) | (refine go ?_; first | refine J_callE rfl rfl rfl rfl (htl) entA ?_ (fun _ _ _ _ _ => trivial) | refine J_call0E rfl rfl rfl (htl) entA ?_ (fun _ _ _ _ _ => trivial)))
    rintro _ _ ⟨rv, rfl, rfl⟩
    (refine go ?_)
    refine K_ent (Ent.pick [1] rfl) ?_
    refine K_ent (Ent.unsep _ _) ?_
    refine K_ent (Ent.pick [1] rfl) ?_
    refine K_ent (Ent.head (B := [X]) (fun h hs => by obtain ⟨h', s1, s2⟩ := hzx h hs; exact ⟨h', s1, Sep_one' s2⟩)) ?_
    (first | refine K_return hE Try.func13 rfl _ rfl ⟨_, rfl, rfl⟩ entA | refine K_fallEnd hE Try.func13 rfl _ rfl ⟨_, rfl, rfl⟩ entA)
  intro hlt
  simp only at hlt
  have hi' : i < (hasA m.kind).length := by omega
  obtain ⟨k, hk1⟩ : ∃ k, (hasA m.kind)[i]? = some k := ⟨(hasA m.kind)[i], by simp⟩
  have hkm := List.mem_of_getElem? hk1
  obtain ⟨r1, r2, -, -⟩ := has_range hkm
  (refine go ?_)
  refine J_slcVw 2 rfl ?_
  intro hvw
  obtain ⟨b, o, c', he⟩ := hvw.some (ine hi')
  simp only [Value.slice.injEq, true_and] at he
  obtain ⟨rfl, rfl⟩ := he
  refine J_at1 (U := tab) i rfl rfl rfl rfl rfl rfl rfl rfl hi' ?_
  refine J_loadAt (U := tab) 2 i rfl rfl rfl hvw rfl (iV_get hk1) rfl rfl ?_
  (refine go ?_)
  refine J_loadAgg (U := tab) 3 rfl rfl rfl rfl rfl rfl ?_
  (refine go ?_)
  (first | refine J_callE rfl rfl rfl rfl (body_any Z v m hmz k ⟨r1, r2⟩ (right_fits hr hkm) (by omega)) entA ?_ (fun _ _ _ _ _ => trivial) | refine J_call0E rfl rfl rfl (body_any Z v m hmz k ⟨r1, r2⟩ (right_fits hr hkm) (by omega)) entA ?_ (fun _ _ _ _ _ => trivial) | (refine go ?_; first | refine J_callE rfl rfl rfl rfl (body_any Z v m hmz k ⟨r1, r2⟩ (right_fits hr hkm) (by omega)) entA ?_ (fun _ _ _ _ _ => trivial) | refine J_call0E rfl rfl rfl (body_any Z v m hmz k ⟨r1, r2⟩ (right_fits hr hkm) (by omega)) entA ?_ (fun _ _ _ _ _ => trivial)))
  rintro r _ ⟨Y, hby, rfl⟩
  simp only
  obtain ⟨ra, rc, rfl, hrc⟩ := hby.2
  (refine go ?_)
  refine J_buildSlice1 (U := tab) (cs := itC ⟨k, .slice ra (bodyA m k).length rc, bodyA m k⟩) rfl rfl rfl rfl rfl rfl rfl rfl rfl (fun _ _ _ => trivial) ?_
  intro row
  (refine go ?_)
  refine J_append (U := tab) (mm := 1) (news := itC ⟨k, .slice ra (bodyA m k).length rc, bodyA m k⟩) 3 0 rfl rfl rfl rfl rfl rfl rfl rfl rfl rfl rfl rfl (Vw.pts rfl) rfl (by intro v hv; simp [itC] at hv; rcases hv with rfl | rfl <;> rfl) (by omega) (by show (_ + _) * 32 ≤ _; omega) (fun _ => rfl) (fun _ _ _ => trivial) ?_
  intro v1
  rw [show its.flatMap itC ++ itC (⟨k, .slice ra (bodyA m k).length rc, bodyA m k⟩ : It) = (its ++ [(⟨k, .slice ra (bodyA m k).length rc, bodyA m k⟩ : It)]).flatMap itC from by simp, show its.length + 1 = (its ++ [(⟨k, .slice ra (bodyA m k).length rc, bodyA m k⟩ : It)]).length from by simp]
  (first | refine J_shape 3 rfl ?_ | refine K_shape 3 rfl ?_)
  rintro a2 c2 rfl
  (refine go ?_)
  refine K_ent (Ent.pick [1, 2] rfl) ?_
  refine K_ent (Ent.resep [Y, Z] _) ?_
  refine K_again ih (i + 1, its ++ [(⟨k, .slice ra (bodyA m k).length rc, bodyA m k⟩ : It)], Sep [Y, Z], a2, c2) rfl ⟨by simp only; omega, by simp only [List.length_append, List.length_singleton]; omega, by simp only [List.map_append, hip, items_get hk1]; rfl, (fun x hx => by
    rcases List.mem_append.1 hx with h | h
    · exact (hib x h).mono (Sep_get (i := 1) rfl)
    · rw [List.mem_singleton.1 h]; exact hby), hmz.mono (Sep_get (i := 1) rfl), fun h hs => by
      obtain ⟨h1, s1, z1⟩ := Sep_get (i := 1) rfl h hs
      obtain ⟨h2, s2, x2⟩ := hzx h1 z1
      exact ⟨h2, sub.trans s2 s1, x2⟩⟩ (by simp only; omega) (by repeat (first | exact keep_nil | refine keep_cons rfl ?_)) entA
end Go.Proofs.Ythcjmhlmoamjpaa

/- wire, part f: numbers of bytes. -/
set_option linter.unusedVariables false
set_option linter.unusedSimpArgs false
namespace Go.Proofs.Ythcjmhlmoamjpaa
open Go Go.SL
theorem cutL_small : ∀ (bs : List UInt8) (i acc n : Nat) (r : List UInt8) (ok : Bool), acc < 2 ^ (7 * i) → cutL i acc bs = some (n, r, ok) → n < 2 ^ (7 * (i + bs.length)) := by
  intro bs
  induction bs with
  | nil => intro i acc n r ok _ h; simp [cutL] at h
  | cons c bs ih =>
    intro i acc n r ok ha h
    simp only [cutL] at h
    split at h
    · cases h
    · split at h
      · rename_i hc
        simp only [Option.some.injEq, Prod.mk.injEq] at h
        have h1 := step_lt ha hc
        have h2 : 2 ^ (7 * (i + 1)) ≤ 2 ^ (7 * (i + (c :: bs).length)) := Nat.pow_le_pow_right (by omega) (by simp only [List.length_cons]; omega)
        omega
      · have h1 := ih (i + 1) _ n r ok (step_lt ha (Nat.mod_lt _ (by omega))) h
        rwa [show i + 1 + bs.length = i + (c :: bs).length from by simp only [List.length_cons]; omega] at h1
theorem toUint_lt {bs : List UInt8} {n : Nat} (h : toUintA bs = some n) (hl : bs.length ≤ 6) : n < 4398046511104 := by
  unfold toUintA cutA at h
  split at h
  · cases h
    cases hc : cutL 0 0 bs with
    | none => simp
    | some x =>
      obtain ⟨m, r, ok⟩ := x
      have h1 := cutL_small bs 0 0 m r ok (by simp) hc
      have h2 : 2 ^ (7 * (0 + bs.length)) ≤ 2 ^ 42 := Nat.pow_le_pow_right (by omega) (by omega)
      simp only [Option.getD_some]
      have h3 : (2 : Nat) ^ 42 = 4398046511104 := by decide
      omega
  · cases h
theorem num1_end (bs : List UInt8) (f k : Nat) (h : bs.length < k) : num1 bs f k = none := by
  cases f with
  | zero => rfl
  | succ f => rw [num1, if_neg (by omega)]
theorem num1_spec : ∀ (f k : Nat) (bs : List UInt8) (n j : Nat), num1 bs f k = some (n, j) → k ≤ j ∧ j < k + f ∧ j ≤ bs.length ∧ toUintA (bs.take j) = some n := by
  intro f
  induction f with
  | zero => intro k bs n j h; cases h
  | succ f ih =>
    intro k bs n j h
    rw [num1] at h
    split at h
    · rename_i hk
      split at h
      · rename_i m hm
        simp only [Option.some.injEq, Prod.mk.injEq] at h
        obtain ⟨rfl, rfl⟩ := h
        exact ⟨Nat.le_refl _, by omega, hk, hm⟩
      · obtain ⟨h1, h2, h3, h4⟩ := ih (k + 1) bs n j h
        exact ⟨by omega, by omega, h3, h4⟩
    · cases h
theorem numA_spec {bs : List UInt8} {n j : Nat} (h : numA bs = some (n, j)) : 1 ≤ j ∧ j ≤ 6 ∧ j ≤ bs.length ∧ n < 4398046511104 := by
  obtain ⟨h1, h2, h3, h4⟩ := num1_spec 6 1 bs n j h
  exact ⟨h1, by omega, h3, toUint_lt h4 (by rw [List.length_take]; omega)⟩
theorem numsL_fuel : ∀ (f g : Nat) (bs : List UInt8), bs.length ≤ f → bs.length ≤ g → numsL f bs = numsL g bs
  | 0, 0, _, _, _ => rfl
  | 0, g + 1, bs, hf, _ => by
    have : bs = [] := List.eq_nil_of_length_eq_zero (by omega)
    subst this; rfl
  | f + 1, 0, bs, _, hg => by
    have : bs = [] := List.eq_nil_of_length_eq_zero (by omega)
    subst this; rfl
  | f + 1, g + 1, bs, hf, hg => by
    rw [numsL, numsL]
    split
    · rfl
    · cases hn : numA bs with
      | none => rfl
      | some x =>
        obtain ⟨n, k⟩ := x
        have := numA_spec hn
        simp only
        rw [numsL_fuel f g _ (by rw [List.length_drop]; omega) (by rw [List.length_drop]; omega)]
theorem numsA_nil : numsA [] = [] := rfl
theorem numsA_none {bs : List UInt8} (h0 : bs ≠ []) (h : numA bs = none) : numsA bs = [-1] := by
  unfold numsA
  cases hl : bs.length with
  | zero => exact absurd (List.eq_nil_of_length_eq_zero hl) h0
  | succ f => rw [numsL, if_neg h0, h]
theorem numsA_cons {bs : List UInt8} {n k : Nat} (h : numA bs = some (n, k)) : numsA bs = (n : Int) :: numsA (bs.drop k) := by
  have h1 := numA_spec h
  unfold numsA
  obtain ⟨f, hf⟩ : ∃ f, bs.length = f + 1 := ⟨bs.length - 1, by omega⟩
  rw [hf, numsL, if_neg (by intro e; rw [e] at hf; simp at hf), h]
  simp only
  rw [numsL_fuel f _ _ (by rw [List.length_drop]; omega) (Nat.le_refl _)]
theorem numsA_len : ∀ (f : Nat) (bs : List UInt8), bs.length ≤ f → (numsA bs).length ≤ bs.length
  | 0, bs, h => by
    have : bs = [] := List.eq_nil_of_length_eq_zero (by omega)
    subst this; simp [numsA_nil]
  | f + 1, bs, h => by
    by_cases h0 : bs = []
    · subst h0; simp [numsA_nil]
    · have hp := List.length_pos_iff.2 h0
      cases hn : numA bs with
      | none => rw [numsA_none h0 hn]; simp only [List.length_singleton]; omega
      | some x =>
        obtain ⟨n, k⟩ := x
        have h1 := numA_spec hn
        have h2 := numsA_len f (bs.drop k) (by rw [List.length_drop]; omega)
        rw [numsA_cons hn, List.length_cons]
        rw [List.length_drop] at h2
        omega
attribute [local irreducible] J K Ctr Ends pts slc mapR mapI sbRow stock arrS loopP CtrY

theorem numbers_any (v : Value) (h1 : ∃ a n c, v = .slice a n c) : Ctr Try.prog 46 [v] [] (fun r H => ∃ b, r = .func (.func 62) #[] #[ptr b] ∧ H = [pts b (cl [v] 47)]) := by
  obtain ⟨a, n, c, rfl⟩ := h1
  refine Ctr.enter Try.func46 (by kernel_rfl) rfl Try.ntmps46 rfl rfl ?_
  intro G F R hE
  (refine go ?_)
  refine J_box rfl rfl (fun _ _ _ => trivial) ?_
  intro b
  (refine go ?_)
  (first | refine K_return hE Try.func46 rfl _ rfl ⟨b, rfl, rfl⟩ entA | refine K_fallEnd hE Try.func46 rfl _ rfl ⟨b, rfl, rfl⟩ entA)
set_option maxRecDepth 20000 in
set_option maxHeartbeats 1000000 in
theorem numbers1_any (A : HP) (bx : Nat) (v : Value) (bs : List UInt8) (hv : BAt A v bs) (hl : bs.length ≤ 1000000000) :
    IterI 62 [ptr bx] (bs.length + 1) [pts bx (cl [v] 47), A] [A] (fun xs => xs = numsA bs) := by
  intro l Lp Inv hy
  refine Ctr.enter Try.func62 (by kernel_rfl) rfl Try.ntmps62 rfl rfl ?_
  intro G F R hE
  refine K_loop (fun y : Value × List UInt8 × List Int => BAt A y.1 y.2.1 ∧ y.2.1.length + y.2.2.length ≤ bs.length ∧ y.2.2 ++ numsA y.2.1 = numsA bs) (fun y => y.2.1.length)
    (fun _ => [(0, .func (.yield l) #[] #[]), (1, ptr bx)])
    (fun y => Lp :: Inv y.2.2 :: pts bx (cl [y.1] 47) :: A :: F) (v, bs, []) ⟨hv, by simp, by simp⟩ rfl (by repeat (first | exact keep_nil | refine keep_cons rfl ?_)) entA ?_
  rintro ⟨v1, rest, dn⟩ ⟨hv1, hr1, hr2⟩ ih
  simp only at hv1 hr1 hr2
  obtain ⟨a, c, rfl, hc⟩ := hv1.2
  (refine go ?_)
  refine K_condP rfl rfl ?_ ?_
  case' refine_2 =>
    intro hge
    have hnil : rest = [] := List.eq_nil_of_length_eq_zero (by omega)
    rw [hnil, numsA_nil, List.append_nil] at hr2
    (refine go ?_)
    (first | refine K_return hE Try.func62 rfl _ rfl ⟨_, hr2, rfl⟩ entA | refine K_fallEnd hE Try.func62 rfl _ rfl ⟨_, hr2, rfl⟩ entA)
  intro hlt
  have hne : rest ≠ [] := fun e => by rw [e] at hlt; simp at hlt
  (refine go ?_)
  refine K_loop (fun y : Nat × Int × Nat => 1 ≤ y.1 ∧ y.1 ≤ 7 ∧ ((y.2.2 = 0 ∧ y.2.1 = -1 ∧ numA rest = num1 rest (7 - y.1) y.1) ∨ (0 < y.2.2 ∧ ∃ n : Nat, y.2.1 = n ∧ numA rest = some (n, y.2.2)))) (fun y => 8 - y.1)
    (fun y => [(0, .func (.yield l) #[] #[]), (1, ptr bx), (3, .int .i64 y.2.1), (4, .int .i64 (y.2.2 : Int)), (5, .int .i64 (y.1 : Int))])
    (fun y => Lp :: Inv dn :: pts bx (cl [.slice a rest.length c] 47) :: A :: F) (1, -1, 0) ⟨by simp, by simp, .inl ⟨rfl, rfl, rfl⟩⟩ rfl (by repeat (first | exact keep_nil | refine keep_cons rfl ?_)) entA ?_
  rintro ⟨k, nn, many⟩ ⟨hk1, hk7, hcase⟩ ih2
  simp only at hk1 hk7 hcase
  repeat' (first | (with_reducible intro _hh) | refine go1 ?_ | refine J_fork ?_ ?_ | refine J_gsP rfl rfl rfl rfl ?_ ?_ | refine K_condP rfl rfl ?_ ?_)
  · rename_i hle0
    have hle := hle0
    have hz := _hh
    simp only at hle hz
    rcases hcase with ⟨rfl, rfl, hnum⟩ | ⟨hpos, -⟩
    case inr => exfalso; omega
    have hkl : k ≤ rest.length := by omega
    have hk6 : k ≤ 6 := by omega
    have hfr := hv1.front k hkl
    have hnext : numA rest = match toUintA (rest.take k) with
        | some n => some (n, k)
        | none => num1 rest (7 - (k + 1)) (k + 1) := by
      rw [hnum, show 7 - k = (7 - (k + 1)) + 1 by omega, num1, if_pos hkl]
      all_goals (cases toUintA (rest.take k) <;> rfl)
    refine J_sliceAny (U := tab) (p := 0) (q := (k : Int)) rfl rfl rfl rfl rfl rfl rfl (by omega) (by omega) (.inr (by omega)) ?_
    (first | refine J_slot 25 ((.slice (sliceAt a c 0 1) (rest.take k).length c)) rfl ((by rw [show ((k : Int)).toNat = k from by omega, List.length_take, Nat.min_eq_left hkl]; rfl)) ?_ | refine K_slot 25 ((.slice (sliceAt a c 0 1) (rest.take k).length c)) rfl ((by rw [show ((k : Int)).toNat = k from by omega, List.length_take, Nat.min_eq_left hkl]; rfl)) ?_)
    have hfr : BAt A (.slice (sliceAt a c 0 1) (rest.take k).length c) (rest.take k) := by rw [List.length_take, Nat.min_eq_left hkl]; exact hfr
    (first | refine J_callE rfl rfl rfl rfl (ToUint_any A _ (rest.take k) hfr (by rw [List.length_take]; omega)) entA ?_ (fun _ _ _ _ _ => trivial) | refine J_call0E rfl rfl rfl (ToUint_any A _ (rest.take k) hfr (by rw [List.length_take]; omega)) entA ?_ (fun _ _ _ _ _ => trivial) | (refine go ?_; first | refine J_callE rfl rfl rfl rfl (ToUint_any A _ (rest.take k) hfr (by rw [List.length_take]; omega)) entA ?_ (fun _ _ _ _ _ => trivial) | refine J_call0E rfl rfl rfl (ToUint_any A _ (rest.take k) hfr (by rw [List.length_take]; omega)) entA ?_ (fun _ _ _ _ _ => trivial)))
    rintro _ _ ⟨rfl, rfl⟩
    cases htu : toUintA (rest.take k) with
    | none =>
      rw [htu] at hnext
      simp only
      (refine go ?_)
      refine K_again ih2 (k + 1, -1, 0) rfl ⟨by simp only; omega, by simp only; omega, .inl ⟨rfl, rfl, hnext⟩⟩ (by simp only; omega) (by repeat (first | exact keep_nil | refine keep_cons rfl ?_)) entA
    | some n =>
      rw [htu] at hnext
      simp only
      have hn42 := toUint_lt htu (by rw [List.length_take]; omega)
      (refine go ?_)
      refine K_again ih2 (k + 1, (n : Int), k) rfl ⟨by simp only; omega, by simp only; omega, .inr ⟨by simp only; omega, n, rfl, hnext⟩⟩ (by simp only; omega) (by repeat (first | exact keep_nil | refine keep_cons rfl ?_)) entA
  · have hmany := _hh
    simp only at hmany
    rcases hcase with ⟨h0, -, -⟩ | ⟨hpos, n, rfl, hnum⟩
    · exfalso; omega
    obtain ⟨j1, j2, j3, j4⟩ := numA_spec hnum
    have hcons := numsA_cons hnum
    have hcut := hv1.cut many j3
    refine J_yield rfl rfl rfl (hy dn (n : Int) (by omega)) entA ?_ (fun _ _ _ _ _ => trivial)
    rintro _ _ ⟨rfl, rfl⟩
    (refine go ?_)
    refine J_sliceAny (U := tab) (p := (many : Int)) (q := (rest.length : Int)) rfl rfl rfl rfl rfl rfl rfl (by omega) (by omega) (.inl rfl) ?_
    refine J_slot 44 (.slice (sliceAt a c many 1) (rest.length - many) (c - many)) rfl (by rw [show ((many : Int)).toNat = many from by omega, show ((rest.length : Int)).toNat = rest.length from by omega]; rfl) ?_
    (refine go ?_)
    refine K_again ih (.slice (sliceAt a c many 1) (rest.length - many) (c - many), rest.drop many, dn ++ [(n : Int)]) rfl (⟨hcut, by simp only [List.length_drop, List.length_append, List.length_singleton]; omega, by simp only [List.append_assoc]; rw [← hr2, hcons]; rfl⟩) (by simp only [List.length_drop]; omega) (by repeat (first | exact keep_nil | refine keep_cons rfl ?_)) entA
  · have hgt := _hh
    simp only at hgt
    rcases hcase with ⟨h0, rfl, hnum⟩ | ⟨hpos, n, rfl, hnum⟩
    · have hno : numA rest = none := by
        rw [hnum]
        rcases Nat.lt_or_ge rest.length k with h | h
        · exact num1_end _ _ _ h
        · rw [show 7 - k = 0 by omega]; rfl
      have hlast := numsA_none hne hno
      refine J_yield rfl rfl rfl (hy dn (-1) (by omega)) entA ?_ (fun _ _ _ _ _ => trivial)
      rintro _ _ ⟨rfl, rfl⟩
      (refine go ?_)
      (first | refine K_return hE Try.func62 rfl _ rfl ⟨_, by rw [← hr2, hlast], rfl⟩ entA | refine K_fallEnd hE Try.func62 rfl _ rfl ⟨_, by rw [← hr2, hlast], rfl⟩ entA)
    obtain ⟨j1, j2, j3, j4⟩ := numA_spec hnum
    have hcons := numsA_cons hnum
    have hcut := hv1.cut many j3
    refine J_yield rfl rfl rfl (hy dn (n : Int) (by omega)) entA ?_ (fun _ _ _ _ _ => trivial)
    rintro _ _ ⟨rfl, rfl⟩
    (refine go ?_)
    refine J_sliceAny (U := tab) (p := (many : Int)) (q := (rest.length : Int)) rfl rfl rfl rfl rfl rfl rfl (by omega) (by omega) (.inl rfl) ?_
    refine J_slot 44 (.slice (sliceAt a c many 1) (rest.length - many) (c - many)) rfl (by rw [show ((many : Int)).toNat = many from by omega, show ((rest.length : Int)).toNat = rest.length from by omega]; rfl) ?_
    (refine go ?_)
    refine K_again ih (.slice (sliceAt a c many 1) (rest.length - many) (c - many), rest.drop many, dn ++ [(n : Int)]) rfl (⟨hcut, by simp only [List.length_drop, List.length_append, List.length_singleton]; omega, by simp only [List.append_assoc]; rw [← hr2, hcons]; rfl⟩) (by simp only [List.length_drop]; omega) (by repeat (first | exact keep_nil | refine keep_cons rfl ?_)) entA
set_option maxRecDepth 20000 in
theorem one_any (A : HP) (v : Value) (bs : List UInt8) (hv : BAt A v bs) (hl : bs.length ≤ 100000000) :
    Ctr Try.prog 31 [v] [A] (fun r H => r = (match oneA bs with | some n => .tuple #[.int .i64 n, .bool true] | none => .tuple #[.int .i64 0, .bool false]) ∧ H = [A]) := by
  obtain ⟨a, c, rfl, hc⟩ := hv.2
  have hnl := numsA_len bs.length bs (Nat.le_refl _)
  refine Ctr.enter Try.func31 (by kernel_rfl) rfl Try.ntmps31 rfl rfl ?_
  intro G F R hE
  (refine go ?_)
  (first | refine J_callE rfl rfl rfl rfl (numbers_any _ ⟨a, _, c, rfl⟩) entA ?_ (fun _ _ _ _ _ => trivial) | refine J_call0E rfl rfl rfl (numbers_any _ ⟨a, _, c, rfl⟩) entA ?_ (fun _ _ _ _ _ => trivial) | (refine go ?_; first | refine J_callE rfl rfl rfl rfl (numbers_any _ ⟨a, _, c, rfl⟩) entA ?_ (fun _ _ _ _ _ => trivial) | refine J_call0E rfl rfl rfl (numbers_any _ ⟨a, _, c, rfl⟩) entA ?_ (fun _ _ _ _ _ => trivial)))
  rintro _ _ ⟨b, rfl, rfl⟩
  (refine go ?_)
  (first | refine J_callE rfl rfl rfl rfl (CollectI_any 62 [ptr b] (bs.length + 1) [pts b (cl [.slice a bs.length c] 47), A] [A] (fun xs => xs = numsA bs) (by omega) (numbers1_any A b _ bs hv (by omega))) entA ?_ (fun _ _ _ _ _ => trivial) | refine J_call0E rfl rfl rfl (CollectI_any 62 [ptr b] (bs.length + 1) [pts b (cl [.slice a bs.length c] 47), A] [A] (fun xs => xs = numsA bs) (by omega) (numbers1_any A b _ bs hv (by omega))) entA ?_ (fun _ _ _ _ _ => trivial) | (refine go ?_; first | refine J_callE rfl rfl rfl rfl (CollectI_any 62 [ptr b] (bs.length + 1) [pts b (cl [.slice a bs.length c] 47), A] [A] (fun xs => xs = numsA bs) (by omega) (numbers1_any A b _ bs hv (by omega))) entA ?_ (fun _ _ _ _ _ => trivial) | refine J_call0E rfl rfl rfl (CollectI_any 62 [ptr b] (bs.length + 1) [pts b (cl [.slice a bs.length c] 47), A] [A] (fun xs => xs = numsA bs) (by omega) (numbers1_any A b _ bs hv (by omega))) entA ?_ (fun _ _ _ _ _ => trivial)))
  rintro r _ ⟨_, rfl, rfl⟩
  (first | refine J_shape 0 rfl ?_ | refine K_shape 0 rfl ?_)
  rintro ra rc rfl
  have hone : oneA bs = match numsA bs with | [n] => if n < 0 then none else some n | _ => none := rfl
  rw [hone] at hE
  generalize hL : numsA bs = L at *
  match L, hL with
  | [], _ =>
    (refine go ?_)
    (first | refine K_return hE Try.func31 rfl _ rfl ⟨rfl, rfl⟩ entA | refine K_fallEnd hE Try.func31 rfl _ rfl ⟨rfl, rfl⟩ entA)
  | [n], _ =>
    (refine go ?_)
    refine J_slcAt 0 rfl (by simp) ?_
    rintro bb oo cc hsl hvl
    simp only [Value.slice.injEq] at hsl
    obtain ⟨rfl, -, rfl⟩ := hsl
    refine J_at1 (U := tab) 0 rfl rfl rfl rfl rfl rfl rfl rfl (by simp) ?_
    (refine go ?_)
    refine J_loadAt (U := tab) 0 0 rfl rfl rfl hvl rfl (show (iV [n])[0]? = some (.int .i64 n) from rfl) rfl rfl ?_
    (refine go ?_)
    refine K_condP rfl rfl ?_ ?_
    · intro hneg
      have e : (match [n] with | [n] => if n < 0 then none else some n | _ => none : Option Int) = none := if_pos hneg
      rw [e] at hE
      (refine go ?_)
      (first | refine K_return hE Try.func31 rfl _ rfl ⟨rfl, rfl⟩ entA | refine K_fallEnd hE Try.func31 rfl _ rfl ⟨rfl, rfl⟩ entA)
    · intro hpos
      have e : (match [n] with | [n] => if n < 0 then none else some n | _ => none : Option Int) = some n := if_neg hpos
      rw [e] at hE
      (refine go ?_)
      refine J_at1 (U := tab) 0 rfl rfl rfl rfl rfl rfl rfl rfl (by simp) ?_
      refine J_loadAt (U := tab) 0 0 rfl rfl rfl hvl rfl (show (iV [n])[0]? = some (.int .i64 n) from rfl) rfl rfl ?_
      (refine go ?_)
      (first | refine K_return hE Try.func31 rfl _ rfl ⟨rfl, rfl⟩ entA | refine K_fallEnd hE Try.func31 rfl _ rfl ⟨rfl, rfl⟩ entA)
  | n :: m :: L, _ =>
    (refine go ?_)
    (first | refine K_return hE Try.func31 rfl _ rfl ⟨rfl, rfl⟩ entA | refine K_fallEnd hE Try.func31 rfl _ rfl ⟨rfl, rfl⟩ entA)
end Go.Proofs.Ythcjmhlmoamjpaa

/- slices.Clone at bytes. -/
set_option linter.unusedVariables false
set_option linter.unusedSimpArgs false
namespace Go.Proofs.Ythcjmhlmoamjpaa
open Go Go.SL
attribute [local irreducible] J K Ctr Ends pts slc mapR mapI sbRow

theorem Clone_bytes (A : HP) (v : Value) (bs : List UInt8) (hv : Vw A v bs.length (bV bs)) (hlen : bs.length ≤ 1000000000) :
    Ctr Try.prog 61 [v] [A] (fun r H => H = [slc 5 1 r bs.length (bV bs), A]) := by
  obtain ⟨a, c0, rfl⟩ := hv.shape
  cases a with
  | none =>
    have hb : bs = [] := by
      obtain ⟨a, cap, h1, h2 | ⟨b, o, h2, _⟩⟩ := hv
      · simpa [bV] using h2
      · simp only [Value.slice.injEq] at h1; rw [← h1.1] at h2; cases h2
    subst hb
    refine Ctr.enter Try.func61 (by kernel_rfl) rfl Try.ntmps61 rfl rfl ?_
    intro G F R hR
    (refine go ?_)
    have he : c0 = c0 := rfl
    refine K_ent (slc_lift 5 1 none _) ?_
    refine K_return hR Try.func61 rfl _ rfl rfl (Ent.fin [0, 1] 0 rfl rfl)
  | some a =>
    refine Ctr.enter Try.func61 (by kernel_rfl) rfl Try.ntmps61 rfl rfl ?_
    intro G F R hR
    (refine go ?_)
    refine J_buildSlice1 (U := tab) rfl rfl rfl rfl rfl rfl rfl rfl rfl (fun _ _ _ => trivial) ?_
    intro b0
    (refine go ?_)
    refine J_ent (slc_row 5 1 b0 0 0 [] [] _ rfl (Nat.le_refl _) (by simp)) ?_
    refine J_append (U := tab) (mm := bs.length) (news := bV bs) 0 1 rfl rfl rfl rfl rfl rfl rfl rfl rfl rfl rfl rfl hv (by show _ = _ * 1; rw [bV_length]; omega) (bV_one bs) (by omega) (by show _ * 1 ≤ _; omega) (fun _ => rfl) (fun _ _ _ => trivial) ?_
    intro v'
    have e1 : (0 : Nat) + bs.length = bs.length := by omega
    rw [e1, List.nil_append]
    (refine go ?_)
    refine K_return hR Try.func61 rfl _ rfl rfl (Ent.fin [0, 1] 0 rfl rfl)

end Go.Proofs.Ythcjmhlmoamjpaa

/- tlv: the items of bytes; Decode. -/
set_option linter.unusedVariables false
set_option linter.unusedSimpArgs false
namespace Go.Proofs.Ythcjmhlmoamjpaa
open Go Go.SL
theorem cutL_len : ∀ (bs : List UInt8) (i acc n : Nat) (r : List UInt8) (ok : Bool), cutL i acc bs = some (n, r, ok) → r.length < bs.length := by
  intro bs
  induction bs with
  | nil => intro i acc n r ok h; simp [cutL] at h
  | cons c bs ih =>
    intro i acc n r ok h
    simp only [cutL] at h
    split at h
    · cases h
    · split at h
      · simp only [Option.some.injEq, Prod.mk.injEq] at h
        rw [← h.2.1, List.length_cons]; omega
      · have := ih _ _ n r ok h
        rw [List.length_cons]; omega
theorem cutA_len (bs : List UInt8) : (cutA bs).2.1.length ≤ bs.length := by
  unfold cutA
  cases h : cutL 0 0 bs with
  | none => simp
  | some x =>
    obtain ⟨n, r, ok⟩ := x
    have := cutL_len bs 0 0 _ _ _ h
    simp only [Option.getD_some]; omega
theorem tlvL_fuel : ∀ (f g : Nat) (b : List UInt8), b.length ≤ f → b.length ≤ g → tlvL f b = tlvL g b
  | 0, 0, _, _, _ => rfl
  | 0, g + 1, b, hf, _ => by
    have : b = [] := List.eq_nil_of_length_eq_zero (by omega)
    subst this; rfl
  | f + 1, 0, b, _, hg => by
    have : b = [] := List.eq_nil_of_length_eq_zero (by omega)
    subst this; rfl
  | f + 1, g + 1, [], _, _ => rfl
  | f + 1, g + 1, c :: r, hf, hg => by
    rw [tlvL, tlvL]
    have := cutA_len r
    rw [List.length_cons] at hf hg
    split
    · rw [tlvL_fuel f g _ (by rw [List.length_drop]; omega) (by rw [List.length_drop]; omega)]
    · rfl
def tlvI (b : List UInt8) : List (Int × List UInt8) := tlvL b.length b
theorem tlvI_nil : tlvI [] = [] := rfl
theorem tlvI_cons {c : UInt8} {r : List UInt8} (h : (cutA r).2.2 = true ∧ (cutA r).1 ≤ (cutA r).2.1.length) : tlvI (c :: r) = ((c.toNat : Int), (cutA r).2.1.take (cutA r).1) :: tlvI ((cutA r).2.1.drop (cutA r).1) := by
  have h1 := cutA_len r
  unfold tlvI
  rw [List.length_cons, tlvL]
  rw [if_pos h, tlvL_fuel _ _ _ (by rw [List.length_drop]; omega) (Nat.le_refl _)]
theorem tlvI_bad {c : UInt8} {r : List UInt8} (h : ¬ ((cutA r).2.2 = true ∧ (cutA r).1 ≤ (cutA r).2.1.length)) : tlvI (c :: r) = [(0, [])] := by
  unfold tlvI
  rw [List.length_cons, tlvL]
  rw [if_neg h]
attribute [local irreducible] J K Ctr Ends pts slc mapR mapI sbRow stock arrS loopP CtrY

theorem items_any (v : Value) (h1 : ∃ a n c, v = .slice a n c) : Ctr Try.prog 45 [v] [] (fun r H => ∃ b, r = .func (.func 59) #[] #[ptr b] ∧ H = [pts b (cl [v] 47)]) := by
  obtain ⟨a, n, c, rfl⟩ := h1
  refine Ctr.enter Try.func45 (by kernel_rfl) rfl Try.ntmps45 rfl rfl ?_
  intro G F R hE
  (refine go ?_)
  refine J_box rfl rfl (fun _ _ _ => trivial) ?_
  intro b
  (refine go ?_)
  (first | refine K_return hE Try.func45 rfl _ rfl ⟨b, rfl, rfl⟩ entA | refine K_fallEnd hE Try.func45 rfl _ rfl ⟨b, rfl, rfl⟩ entA)
set_option maxRecDepth 20000 in
set_option maxHeartbeats 1000000 in
theorem items1_any (A : HP) (bx : Nat) (v : Value) (bs : List UInt8) (hv : BAt A v bs) (hl : bs.length ≤ 1000000000) (l : Nat) (Lp LpD InvE : HP) (Inv : Nat → HP) (good : Nat → Bool)
    (hy : ∀ i x, (tlvI bs)[i]? = some x → (∀ j, j < i → good j = true) → ∀ r, (∃ a n c, r = .slice a n c) → CtrY Try.prog l [.agg #[.int .i64 x.1, r] ] [Lp, Inv i, slc 5 1 r x.2.length (bV x.2)]
      (fun v H => (good i = true ∧ v = .bool true ∧ H = [Lp, Inv (i + 1)]) ∨ (good i = false ∧ v = .bool false ∧ H = [LpD, InvE]))) :
    Ctr Try.prog 59 [.func (.yield l) #[] #[], ptr bx] [Lp, Inv 0, pts bx (cl [v] 47), A]
      (fun _ H => ((∀ i, i < (tlvI bs).length → good i = true) ∧ H = [Lp, Inv (tlvI bs).length, A]) ∨ ((∃ i, i < (tlvI bs).length ∧ good i = false) ∧ H = [LpD, InvE, A])) := by
  refine Ctr.enter Try.func59 (by kernel_rfl) rfl Try.ntmps59 rfl rfl ?_
  intro G F R hE
  refine K_loop (fun y : Value × List UInt8 × Nat => BAt A y.1 y.2.1 ∧ y.2.1.length ≤ bs.length ∧ (tlvI bs).drop y.2.2 = tlvI y.2.1 ∧ y.2.2 ≤ (tlvI bs).length ∧ ∀ j, j < y.2.2 → good j = true) (fun y => y.2.1.length)
    (fun _ => [(0, .func (.yield l) #[] #[]), (1, ptr bx)])
    (fun y => Lp :: Inv y.2.2 :: pts bx (cl [y.1] 47) :: A :: F) (v, bs, 0) ⟨hv, Nat.le_refl _, by simp, Nat.zero_le _, fun j hj => absurd hj (Nat.not_lt_zero j)⟩ rfl (by repeat (first | exact keep_nil | refine keep_cons rfl ?_)) entA ?_
  rintro ⟨v1, rest, i⟩ ⟨hv1, hr1, hr2, hr3, hgd⟩ ih
  simp only at hv1 hr1 hr2 hr3 hgd
  obtain ⟨a, c, rfl, hc⟩ := hv1.2
  (refine go ?_)
  match rest, hr2, hv1, hr1, hc, ih with
  | [], hr2, hv1, hr1, hc, ih =>
    have hfin : i = (tlvI bs).length := by
      rw [tlvI_nil] at hr2
      have : (tlvI bs).length ≤ i := by simpa using hr2
      omega
    subst hfin
    (refine go ?_)
    (first | refine K_return hE Try.func59 rfl _ rfl (.inl ⟨hgd, rfl⟩) entA | refine K_fallEnd hE Try.func59 rfl _ rfl (.inl ⟨hgd, rfl⟩) entA)
  | c0 :: rst, hr2, hv1, hr1, hc, ih =>
    have hcut := hv1.cut 1 (by simp)
    rw [List.drop_succ_cons, List.drop_zero] at hcut
    (first | refine J_slot 8 ((.bool true)) rfl ((congrArg Value.bool (decide_eq_true (by simp only [List.length_cons]; omega)))) ?_ | refine K_slot 8 ((.bool true)) rfl ((congrArg Value.bool (decide_eq_true (by simp only [List.length_cons]; omega)))) ?_)
    (refine go ?_)
    refine J_sliceAny (U := tab) (p := 1) (q := ((c0 :: rst).length : Int)) rfl rfl rfl rfl rfl rfl rfl (by omega) (by simp only [List.length_cons]; omega) (.inl rfl) ?_
    (first | refine J_slot 11 ((.slice (sliceAt a c 1 1) rst.length (c - 1))) rfl ((by rw [show ((c0 :: rst).length : Int).toNat = rst.length + 1 from by simp [List.length_cons], show (1 : Int).toNat = 1 from rfl, show rst.length + 1 - 1 = rst.length by omega]; rfl)) ?_ | refine K_slot 11 ((.slice (sliceAt a c 1 1) rst.length (c - 1))) rfl ((by rw [show ((c0 :: rst).length : Int).toNat = rst.length + 1 from by simp [List.length_cons], show (1 : Int).toNat = 1 from rfl, show rst.length + 1 - 1 = rst.length by omega]; rfl)) ?_)
    (first | refine J_callE rfl rfl rfl rfl (cut_any A _ rst hcut.1 hcut.2 (by simp only [List.length_cons] at hr1; omega)) entA ?_ (fun _ _ _ _ _ => trivial) | refine J_call0E rfl rfl rfl (cut_any A _ rst hcut.1 hcut.2 (by simp only [List.length_cons] at hr1; omega)) entA ?_ (fun _ _ _ _ _ => trivial) | (refine go ?_; first | refine J_callE rfl rfl rfl rfl (cut_any A _ rst hcut.1 hcut.2 (by simp only [List.length_cons] at hr1; omega)) entA ?_ (fun _ _ _ _ _ => trivial) | refine J_call0E rfl rfl rfl (cut_any A _ rst hcut.1 hcut.2 (by simp only [List.length_cons] at hr1; omega)) entA ?_ (fun _ _ _ _ _ => trivial)))
    rintro _ _ ⟨rv, rfl, hrv, rfl⟩
    have hrv : BAt A rv (cutA rst).2.1 := hrv
    have hcl := cutA_len rst
    have hrl : rst.length < 1000000000 := by simp only [List.length_cons] at hr1; omega
    have hget : ∀ x, tlvI (c0 :: rst) = x :: tlvI ((cutA rst).2.1.drop (cutA rst).1) ∨ tlvI (c0 :: rst) = [x] → (tlvI bs)[i]? = some x := by
      intro x hx
      have := congrArg (fun l => l[0]?) hr2
      simp only [List.getElem?_drop, Nat.add_zero] at this
      rw [this]
      rcases hx with h | h <;> rw [h] <;> rfl
    obtain ⟨ra, rc, rfl, hrc⟩ := hrv.2
    by_cases hok : (cutA rst).2.2 = true ∧ (cutA rst).1 ≤ (cutA rst).2.1.length
    · have hcons := tlvI_cons (c := c0) hok
      have hx := hget _ (.inl hcons)
      rw [hok.1]
      have hfr := hrv.front (cutA rst).1 hok.2
      have hct := hrv.cut (cutA rst).1 hok.2
      have hil := (List.getElem?_eq_some_iff.1 hx).1
      (refine go ?_)
      refine K_condP rfl rfl ?_ ?_
      · intro hbig; exfalso; omega
      intro _
      have hpos : 0 < (c0 :: rst).length := by simp only [List.length_cons]; omega
      obtain ⟨ba, oa, ca, hsl⟩ := bV_at hv1.1 hpos
      simp only [Value.slice.injEq, true_and] at hsl
      obtain ⟨rfl, rfl⟩ := hsl
      obtain ⟨n, hn⟩ : ∃ n, n = (cutA rst).1 := ⟨_, rfl⟩
      have hxl : ((cutA rst).2.1.take n).length = n := by rw [hn, List.length_take]; omega
      rw [← hn] at hfr hct hcons hx hok ⊢
      have hc256 : c0.toNat < 256 := c0.toNat_lt
      have hnl := hok.2
      have hr1' : rst.length + 1 ≤ bs.length := hr1
      refine K_drawA (fun w => Sat G w ([A, pts bx (cl [.slice (some ⟨ba, oa, none⟩) (c0 :: rst).length c] 47)])) (.st 0 (.st 1 (.st 2 (.st 3 (.st 4 (.st 5 (.st 6 (.st 7 (.act 8 (.st 9 (.act 10 (.st 11 .nil)))))))))))) rfl (by kernel_rfl) (by kernel_rfl) (by kernel_rfl) (fun w hw => hw.ent entA) ?_
      (refine go ?_)
      refine J_at1 (U := tab) 0 rfl rfl rfl rfl rfl rfl rfl rfl hpos ?_
      (refine go ?_)
      refine J_isLoad ?_
      refine J_loadAtS (U := tab) 0 0 rfl rfl rfl hv1.1 rfl (show (bV (c0 :: rst))[0]? = some (u8 c0) from rfl) rfl rfl ?_
      (refine go ?_)
      refine J_sliceAny (U := tab) (p := 0) (q := (n : Int)) rfl rfl rfl rfl rfl rfl rfl (by omega) (by omega) (.inr (by omega)) ?_
      (first | refine J_slot 35 ((.slice (sliceAt ra rc 0 1) ((cutA rst).2.1.take n).length rc)) rfl ((by rw [hxl, show ((n : Int)).toNat = n from by omega]; rfl)) ?_ | refine K_slot 35 ((.slice (sliceAt ra rc 0 1) ((cutA rst).2.1.take n).length rc)) rfl ((by rw [hxl, show ((n : Int)).toNat = n from by omega]; rfl)) ?_)
      have hfr : BAt A (.slice (sliceAt ra rc 0 1) ((cutA rst).2.1.take n).length rc) ((cutA rst).2.1.take n) := by rw [hxl]; exact hfr
      (first | refine J_callE rfl rfl rfl rfl (Clone_bytes A _ ((cutA rst).2.1.take n) hfr.1 (by omega)) entA ?_ (fun _ _ w hp hw => by obtain rfl := hp; exact hw.ent entA) | refine J_call0E rfl rfl rfl (Clone_bytes A _ ((cutA rst).2.1.take n) hfr.1 (by omega)) entA ?_ (fun _ _ w hp hw => by obtain rfl := hp; exact hw.ent entA))
      rintro r _ rfl
      (first | refine J_shape 0 rfl ?_ | refine K_shape 0 rfl ?_)
      rintro rr rrc rfl
      (refine go ?_)
      refine J_yield rfl rfl rfl (hy i _ hx hgd (.slice rr ((cutA rst).2.1.take n).length rrc) ⟨_, _, _, rfl⟩) entA ?_ (fun _ _ w hp hw => by rcases hp with ⟨_, _, rfl⟩ | ⟨_, _, rfl⟩ <;> exact hw.ent entA)
      rintro _ _ (⟨hg, rfl, rfl⟩ | ⟨hg, rfl, rfl⟩)
      · (refine go ?_)
        refine J_sliceAny (U := tab) (p := (n : Int)) (q := ((cutA rst).2.1.length : Int)) rfl rfl rfl rfl rfl rfl rfl (by omega) (by omega) (.inl rfl) ?_
        (first | refine J_slot 42 ((.slice (sliceAt ra rc n 1) ((cutA rst).2.1.length - n) (rc - n))) rfl ((by rw [show ((n : Int)).toNat = n from by omega, show (((cutA rst).2.1.length : Int)).toNat = (cutA rst).2.1.length from by omega]; rfl)) ?_ | refine K_slot 42 ((.slice (sliceAt ra rc n 1) ((cutA rst).2.1.length - n) (rc - n))) rfl ((by rw [show ((n : Int)).toNat = n from by omega, show (((cutA rst).2.1.length : Int)).toNat = (cutA rst).2.1.length from by omega]; rfl)) ?_)
        (refine go ?_)
        have hnx : (tlvI bs).drop (i + 1) = tlvI ((cutA rst).2.1.drop n) := by
          have := congrArg (fun l => l.drop 1) hr2
          simp only [hcons, List.drop_drop] at this
          simpa using this
        refine K_again ih (.slice (sliceAt ra rc n 1) ((cutA rst).2.1.length - n) (rc - n), (cutA rst).2.1.drop n, i + 1) rfl (⟨hct, by simp only [List.length_drop]; omega, hnx, by simp only; omega, fun j hj => by
          rcases Nat.lt_or_ge j i with h | h
          · exact hgd j h
          · rw [show j = i by simp only at hj; omega]; exact hg⟩) (by simp only [List.length_drop, List.length_cons]; omega) (by repeat (first | exact keep_nil | refine keep_cons rfl ?_)) entA
      · (refine go ?_)
        (first | refine K_return hE Try.func59 rfl _ rfl (.inr ⟨⟨i, hil, hg⟩, rfl⟩) entA | refine K_fallEnd hE Try.func59 rfl _ rfl (.inr ⟨⟨i, hil, hg⟩, rfl⟩) entA)
    · have hbad := tlvI_bad (c := c0) hok
      have hx := hget _ (.inr hbad)
      cases hok2 : (cutA rst).2.2 with
      | false =>
        (refine go ?_)
        refine J_ent (slc_lift 5 1 none _) ?_
        refine J_yield rfl rfl rfl (hy i (0, []) hx hgd (.slice none 0 0) ⟨_, _, _, rfl⟩) entA ?_ (fun _ _ _ _ _ => trivial)
        rintro _ _ (⟨hg, rfl, rfl⟩ | ⟨hg, rfl, rfl⟩)
        · (refine go ?_)
          have hfin : i + 1 = (tlvI bs).length := by
            have := congrArg List.length hr2
            rw [hbad, List.length_drop] at this
            simp only [List.length_singleton] at this
            omega
          rw [hfin]
          have hall : ∀ j, j < (tlvI bs).length → good j = true := fun j hj => by
            rcases Nat.lt_or_ge j i with h | h
            · exact hgd j h
            · rw [show j = i by omega]; exact hg
          (first | refine K_return hE Try.func59 rfl _ rfl (.inl ⟨hall, rfl⟩) entA | refine K_fallEnd hE Try.func59 rfl _ rfl (.inl ⟨hall, rfl⟩) entA)
        · (refine go ?_)
          have hil := (List.getElem?_eq_some_iff.1 hx).1
          (first | refine K_return hE Try.func59 rfl _ rfl (.inr ⟨⟨i, hil, hg⟩, rfl⟩) entA | refine K_fallEnd hE Try.func59 rfl _ rfl (.inr ⟨⟨i, hil, hg⟩, rfl⟩) entA)
      | true =>
        have hgt : ¬ (cutA rst).1 ≤ (cutA rst).2.1.length := fun h => hok ⟨hok2, h⟩
        (refine go ?_)
        refine K_condP rfl rfl ?_ ?_
        case' refine_2 => (intro h; exfalso; omega)
        intro _
        (refine go ?_)
        refine J_ent (slc_lift 5 1 none _) ?_
        refine J_yield rfl rfl rfl (hy i (0, []) hx hgd (.slice none 0 0) ⟨_, _, _, rfl⟩) entA ?_ (fun _ _ _ _ _ => trivial)
        rintro _ _ (⟨hg, rfl, rfl⟩ | ⟨hg, rfl, rfl⟩)
        · (refine go ?_)
          have hfin : i + 1 = (tlvI bs).length := by
            have := congrArg List.length hr2
            rw [hbad, List.length_drop] at this
            simp only [List.length_singleton] at this
            omega
          rw [hfin]
          have hall : ∀ j, j < (tlvI bs).length → good j = true := fun j hj => by
            rcases Nat.lt_or_ge j i with h | h
            · exact hgd j h
            · rw [show j = i by omega]; exact hg
          (first | refine K_return hE Try.func59 rfl _ rfl (.inl ⟨hall, rfl⟩) entA | refine K_fallEnd hE Try.func59 rfl _ rfl (.inl ⟨hall, rfl⟩) entA)
        · (refine go ?_)
          have hil := (List.getElem?_eq_some_iff.1 hx).1
          (first | refine K_return hE Try.func59 rfl _ rfl (.inr ⟨⟨i, hil, hg⟩, rfl⟩) entA | refine K_fallEnd hE Try.func59 rfl _ rfl (.inr ⟨⟨i, hil, hg⟩, rfl⟩) entA)
theorem tlvI_len : ∀ (f : Nat) (b : List UInt8), b.length ≤ f → (tlvI b).length ≤ b.length
  | 0, b, h => by
    have : b = [] := List.eq_nil_of_length_eq_zero (by omega)
    subst this; simp [tlvI_nil]
  | f + 1, [], _ => by simp [tlvI_nil]
  | f + 1, c :: r, h => by
    have h1 := cutA_len r
    rw [List.length_cons] at h
    by_cases hk : (cutA r).2.2 = true ∧ (cutA r).1 ≤ (cutA r).2.1.length
    · have h2 := tlvI_len f ((cutA r).2.1.drop (cutA r).1) (by rw [List.length_drop]; omega)
      rw [List.length_drop] at h2
      rw [tlvI_cons hk, List.length_cons, List.length_cons]
      omega
    · rw [tlvI_bad hk, List.length_cons]; simp
def goodI (xs : List (Int × List UInt8)) (i : Nat) : Bool := match xs[i]? with
  | some x => decide (lastN xs i < x.1) && decide (x.1 ≤ 63)
  | none => true
theorem goodI_at {xs : List (Int × List UInt8)} {i : Nat} {x : Int × List UInt8} (h : xs[i]? = some x) : goodI xs i = (decide (lastN xs i < x.1) && decide (x.1 ≤ 63)) := by unfold goodI; rw [h]
theorem rise_all : ∀ (l : List (Int × List UInt8)) (last : Int), (riseOk last l = true ↔ ∀ i x, l[i]? = some x → (match (l.take i).getLast? with | some y => y.1 | none => last) < x.1 ∧ x.1 ≤ 63) := by
  intro l
  induction l with
  | nil => intro last; simp [riseOk]
  | cons y l ih =>
    intro last
    simp only [riseOk, Bool.and_eq_true, decide_eq_true_eq, ih]
    constructor
    · rintro ⟨⟨h1, h2⟩, h3⟩ i x hx
      cases i with
      | zero => simp at hx; subst hx; exact ⟨h1, h2⟩
      | succ i =>
        have := h3 i x (by simpa using hx)
        rw [List.take_succ_cons]
        cases hl : l.take i with
        | nil => rw [hl] at this; simpa using this
        | cons z r => rw [hl] at this; rw [List.getLast?_cons_cons]; exact this
    · intro h
      refine ⟨by simpa using h 0 y rfl, fun i x hx => ?_⟩
      have := h (i + 1) x (by simpa using hx)
      rw [List.take_succ_cons] at this
      cases hl : l.take i with
      | nil => rw [hl] at this; simpa using this
      | cons z r => rw [hl, List.getLast?_cons_cons] at this; exact this
theorem rise_good (xs : List (Int × List UInt8)) : riseOk 0 xs = true ↔ ∀ i, i < xs.length → goodI xs i = true := by
  rw [rise_all]
  constructor
  · intro h i hi
    have hx : xs[i]? = some xs[i] := by simp
    rw [goodI_at hx, Bool.and_eq_true, decide_eq_true_eq, decide_eq_true_eq]
    exact h i _ hx
  · intro h i x hx
    have := h i (List.getElem?_eq_some_iff.1 hx).1
    rw [goodI_at hx, Bool.and_eq_true, decide_eq_true_eq, decide_eq_true_eq] at this
    exact this
end Go.Proofs.Ythcjmhlmoamjpaa
namespace Go.Proofs.Ythcjmhlmoamjpaa
open Go Go.SL
/-- What stands while the items are taken in. -/
def DI (b2 b3 b4 b5 : Nat) (xs : List (Int × List UInt8)) (i : Nat) : HP := fun h => ∃ x : List It × HP × Value, (x.1.map It.p = xs.take i ∧ ∀ y ∈ x.1, BAt x.2.1 y.v y.b) ∧
  Sep [pts b2 (cl [.slice none 0 0] 75), pts b3 (cl [.int .i64 0] 26), pts b4 (cl [x.2.2] 75), pts b5 (cl [.int .i64 (lastN xs i)] 3), slc 79 2 x.2.2 x.1.length (x.1.flatMap itC), x.2.1] h
theorem DI_open (b2 b3 b4 b5 : Nat) (xs : List (Int × List UInt8)) (i : Nat) : ∀ h, DI b2 b3 b4 b5 xs i h → ∃ x : List It × HP × Value, (x.1.map It.p = xs.take i ∧ ∀ y ∈ x.1, BAt x.2.1 y.v y.b) ∧
  Sep [pts b2 (cl [.slice none 0 0] 75), pts b3 (cl [.int .i64 0] 26), pts b4 (cl [x.2.2] 75), pts b5 (cl [.int .i64 (lastN xs i)] 3), slc 79 2 x.2.2 x.1.length (x.1.flatMap itC), x.2.1] h := fun h hs => hs
theorem DI_close (b2 b3 b4 b5 : Nat) (xs : List (Int × List UInt8)) (i : Nat) (its : List It) (Z : HP) (v : Value) (h1 : its.map It.p = xs.take i) (h2 : ∀ y ∈ its, BAt Z y.v y.b) (H : List HP) :
    Ent (pts b2 (cl [.slice none 0 0] 75) :: pts b3 (cl [.int .i64 0] 26) :: pts b4 (cl [v] 75) :: pts b5 (cl [.int .i64 (lastN xs i)] 3) :: slc 79 2 v its.length (its.flatMap itC) :: Z :: H) (DI b2 b3 b4 b5 xs i :: H) :=
  Ent.fold (A := DI b2 b3 b4 b5 xs i) (B := [pts b2 (cl [.slice none 0 0] 75), pts b3 (cl [.int .i64 0] 26), pts b4 (cl [v] 75), pts b5 (cl [.int .i64 (lastN xs i)] 3), slc 79 2 v its.length (its.flatMap itC), Z]) fun h hs => ⟨h, sub.refl h, (its, Z, v), ⟨h1, h2⟩, hs⟩
def DE (b2 b3 : Nat) : HP := Sep [pts b2 (cl [.slice none 0 0] 75), pts b3 (cl [.int .i64 2] 26)]
theorem DE_close (b2 b3 : Nat) (H : List HP) : Ent (pts b2 (cl [.slice none 0 0] 75) :: pts b3 (cl [.int .i64 2] 26) :: H) (DE b2 b3 :: H) := Ent.resep [pts b2 (cl [.slice none 0 0] 75), pts b3 (cl [.int .i64 2] 26)] H
theorem DE_open (b2 b3 : Nat) (H : List HP) : Ent (DE b2 b3 :: H) (pts b2 (cl [.slice none 0 0] 75) :: pts b3 (cl [.int .i64 2] 26) :: H) := Ent.unsep [pts b2 (cl [.slice none 0 0] 75), pts b3 (cl [.int .i64 2] 26)] H
attribute [local irreducible] J K Ctr Ends pts slc mapR mapI sbRow stock arrS loopP CtrY DI DE

set_option maxRecDepth 20000 in
set_option maxHeartbeats 1000000 in
theorem tlvDecode_any (A : HP) (v : Value) (bs : List UInt8) (hv : BAt A v bs) (hl : bs.length ≤ 1000000000) :
    Ctr Try.prog 30 [v] [A] (fun r H => (tlvA bs = none ∧ r = .tuple #[.slice none 0 0, .int .i64 2] ∧ H = [A]) ∨ (∃ (xs : List (Int × List UInt8)) (its : List It) (Z : HP) (rv : Value), tlvA bs = some xs ∧ its.map It.p = xs ∧ ItemsAt Z rv its ∧ r = .tuple #[rv, .int .i64 0] ∧ H = [Z, A])) := by
  obtain ⟨a, c, rfl, hc⟩ := hv.2
  have htl : tlvA bs = if 65536 < bs.length then none else if riseOk 0 (tlvI bs) then some (tlvI bs) else none := rfl
  refine Ctr.enter Try.func30 (by kernel_rfl) rfl Try.ntmps30 rfl rfl ?_
  intro G F R hE
  refine K_regionA rfl ?_
  refine J_alloc (U := tab) rfl rfl rfl (fun _ _ _ => trivial) ?_
  intro b2
  refine J_alloc (U := tab) rfl rfl rfl (fun _ _ _ => trivial) ?_
  intro b3
  (refine go ?_)
  refine K_condP rfl rfl ?_ ?_
  · intro hbig
    have hbig : 65536 < bs.length := by omega
    rw [if_pos hbig] at htl
    (refine go ?_)
    refine K_noMarks hE ?_
    refine K_returnCC (U := tab) 1 0 hE Try.func30 rfl rfl rfl rfl rfl rfl rfl rfl (Ent.refl _) rfl rfl (.inl ⟨htl, rfl, rfl⟩) entA
  intro hsm
  have hsm : ¬ 65536 < bs.length := by omega
  rw [if_neg hsm] at htl
  (refine go ?_)
  refine J_alloc (U := tab) rfl rfl rfl (fun _ _ _ => trivial) ?_
  intro b4
  (refine go ?_)
  refine J_alloc (U := tab) rfl rfl rfl (fun _ _ _ => trivial) ?_
  intro b5
  (refine go ?_)
  (first | refine J_callE rfl rfl rfl rfl (items_any _ ⟨a, _, c, rfl⟩) entA ?_ (fun _ _ _ _ _ => trivial) | refine J_call0E rfl rfl rfl (items_any _ ⟨a, _, c, rfl⟩) entA ?_ (fun _ _ _ _ _ => trivial) | (refine go ?_; first | refine J_callE rfl rfl rfl rfl (items_any _ ⟨a, _, c, rfl⟩) entA ?_ (fun _ _ _ _ _ => trivial) | refine J_call0E rfl rfl rfl (items_any _ ⟨a, _, c, rfl⟩) entA ?_ (fun _ _ _ _ _ => trivial)))
  rintro _ _ ⟨bx, rfl, rfl⟩
  (refine go ?_)
  refine K_adv1 rfl ?_
  refine K_ent (Ent.trans (Ent.resep [] _) (Ent.trans (slc_lift 79 2 none _) (Ent.trans entA (DI_close b2 b3 b4 b5 (tlvI bs) 0 [] (Sep []) (.slice none 0 0) rfl (by simp) (pts bx (cl [.slice a bs.length c] 47) :: A :: F))))) ?_
  refine K_rangeP (Fr := F) (Pre := fun _ _ => [DI b2 b3 b4 b5 (tlvI bs) 0, pts bx (cl [.slice a bs.length c] 47), A]) (fun _ _ Lp v H => ((∀ i, i < (tlvI bs).length → goodI (tlvI bs) i = true) ∧ H = [Lp .ready none, DI b2 b3 b4 b5 (tlvI bs) (tlvI bs).length, A]) ∨ ((∃ i, i < (tlvI bs).length ∧ goodI (tlvI bs) i = false) ∧ H = [Lp .done (some .ret), DE b2 b3, A])) rfl hE.1.1 rfl ?c (fun l r => entA) ?hend
  case c =>
    intro l r
    refine Ctr.pre (items1_any A bx _ bs hv hl l _ _ (DE b2 b3) (DI b2 b3 b4 b5 (tlvI bs)) (goodI (tlvI bs)) ?hy) entA
    case hy =>
      intro i x hx hgd rv hrv
      obtain ⟨va, vn, vc, rfl⟩ := hrv
      refine CtrY.of_K rfl rfl ?_
      intro G2 F2 R2 hY
      refine K_regionA rfl ?_
      refine J_alloc (U := tab) rfl rfl rfl (fun _ _ _ => trivial) ?_
      intro b6
      (refine go ?_)
      refine K_ent (Ent.pick [1] rfl) ?_
      refine K_beginRound rfl hY ?_
      refine K_ent (Ent.pick [2] rfl) ?_
      refine K_open (DI_open b2 b3 b4 b5 (tlvI bs) i) ?_
      rintro ⟨its, Z, vi⟩ ⟨hip, hib⟩
      simp only at hip hib
      have hgi := goodI_at hx
      obtain ⟨xn, xb⟩ := x
      simp only at hgi
      have hln := lastN_succ hx
      refine K_shape 4 rfl ?_
      intro ia ic hvi
      simp only at hvi
      subst hvi
      simp only
      refine K_ent (Ent.pick [7, 0, 1, 2, 3] rfl) ?_
      repeat' (first | (with_reducible intro _hh) | refine go1 ?_ | refine J_fork ?_ ?_ | refine J_gsP rfl rfl rfl rfl ?_ ?_ | refine K_condP rfl rfl ?_ ?_)
      · have hbad : goodI (tlvI bs) i = false := by rw [hgi, decide_eq_false (by omega), Bool.false_and]
        refine K_ent (Ent.trans (Ent.pick [1, 2] rfl) (DE_close b2 b3 _)) ?_
        refine K_roundRet hY rfl entA (.inr ⟨hbad, rfl, rfl⟩)
      · have hbad : goodI (tlvI bs) i = false := by rw [hgi, decide_eq_false (show ¬ xn ≤ 63 by omega), Bool.and_false]
        refine K_ent (Ent.trans (Ent.pick [1, 2] rfl) (DE_close b2 b3 _)) ?_
        refine K_roundRet hY rfl entA (.inr ⟨hbad, rfl, rfl⟩)
      · rename_i h1
        have hgood : goodI (tlvI bs) i = true := by rw [hgi, decide_eq_true (by omega), decide_eq_true (by omega)]; rfl
        refine J_isStore ?_
        refine J_store (U := tab) 4 (fun _ _ => trivial) rfl rfl rfl rfl rfl rfl rfl rfl rfl ?_
        (refine go ?_)
        refine J_loadAgg (U := tab) 0 rfl rfl rfl rfl rfl rfl ?_
        (refine go ?_)
        refine J_slcB (bs := xb) 8 rfl ?_
        intro hbx
        obtain ⟨_, _, hvx, hxc⟩ := hbx.2
        simp only [Value.slice.injEq, true_and] at hvx
        obtain ⟨-, rfl, rfl⟩ := hvx
        have hil := (List.getElem?_eq_some_iff.1 hx).1
        have hxl := tlvI_len bs.length bs (Nat.le_refl _)
        have hitl : its.length = i := by
          have := congrArg List.length hip
          rw [List.length_map, List.length_take] at this
          omega
        refine J_buildSlice1 (U := tab) (cs := itC ⟨xn, .slice va xb.length vc, xb⟩) rfl rfl rfl rfl rfl rfl rfl rfl rfl (fun _ _ _ => trivial) ?_
        intro row
        (refine go ?_)
        refine J_append (U := tab) (mm := 1) (news := itC ⟨xn, .slice va xb.length vc, xb⟩) 6 0 rfl rfl rfl rfl rfl rfl rfl rfl rfl rfl rfl rfl (Vw.pts rfl) rfl (by intro v hv; simp [itC] at hv; rcases hv with rfl | rfl <;> rfl) (by omega) (by show (_ + _) * 32 ≤ _; omega) (fun _ => rfl) (fun _ _ _ => trivial) ?_
        intro v1
        rw [show its.flatMap itC ++ itC (⟨xn, .slice va xb.length vc, xb⟩ : It) = (its ++ [(⟨xn, .slice va xb.length vc, xb⟩ : It)]).flatMap itC from by simp, show its.length + 1 = (its ++ [(⟨xn, .slice va xb.length vc, xb⟩ : It)]).length from by simp]
        (first | refine J_shape 6 rfl ?_ | refine K_shape 6 rfl ?_)
        rintro ja jc rfl
        (refine go ?_)
        refine J_isStore ?_
        refine J_store (U := tab) 4 (fun _ _ => trivial) rfl rfl rfl rfl rfl rfl rfl rfl rfl ?_
        (refine go ?_)
        have hln2 : lastN (tlvI bs) (i + 1) = xn := hln
        have hip2 : (its ++ [(⟨xn, .slice va xb.length vc, xb⟩ : It)]).map It.p = (tlvI bs).take (i + 1) := by
          rw [List.map_append, hip, List.take_add_one, hx]; rfl
        have hcl := DI_close b2 b3 b4 b5 (tlvI bs) (i + 1) (its ++ [(⟨xn, .slice va xb.length vc, xb⟩ : It)]) (Sep [slc 5 1 (.slice va xb.length vc) xb.length (bV xb), Z]) (.slice ja (its ++ [(⟨xn, .slice va xb.length vc, xb⟩ : It)]).length jc) hip2 (fun y hy => by
          rcases List.mem_append.1 hy with h | h
          · exact (hib y h).mono (Sep_get (i := 1) rfl)
          · rw [List.mem_singleton.1 h]; exact hbx.mono (Sep_get (i := 0) rfl))
        rw [hln2] at hcl
        refine K_ent (Ent.trans (Ent.pick [9, 7] rfl) (Ent.trans (Ent.resep [_, _] _) (Ent.trans entA (hcl _)))) ?_
        refine K_roundEnd hY rfl entA (.inl ⟨hgood, rfl, rfl⟩)
  rintro l r v H' (⟨hall, rfl⟩ | ⟨⟨i, hi, hbad⟩, rfl⟩)
  · refine ⟨_, _, _, rfl, by decide, ?_⟩
    have hr : riseOk 0 (tlvI bs) = true := (rise_good _).2 hall
    rw [if_pos hr] at htl
    rw [hE.1.2]
    refine K_open (DI_open b2 b3 b4 b5 (tlvI bs) _) ?_
    rintro ⟨its, Z, vi⟩ ⟨hip, hib⟩
    simp only at hip hib
    rw [List.take_length] at hip
    refine K_shape 4 rfl ?_
    intro ia ic hvi
    simp only at hvi
    subst hvi
    simp only
    refine K_slcVw 4 rfl ?_
    intro hvw
    have hia : ItemsAt (Sep [slc 79 2 (.slice ia its.length ic) its.length (its.flatMap itC), Z]) (.slice ia its.length ic) its := ⟨hvw.mono (Sep_get (i := 0) rfl), fun y hy => (hib y hy).mono (Sep_get (i := 1) rfl)⟩
    (refine go ?_)
    refine K_ent (Ent.trans (Ent.pick [4, 5] rfl) (Ent.resep [slc 79 2 (.slice ia its.length ic) its.length (its.flatMap itC), Z] _)) ?_
    refine K_returnCC (U := tab) 1 2 hE Try.func30 rfl rfl rfl rfl rfl rfl rfl rfl entA rfl rfl (.inr ⟨tlvI bs, its, _, _, htl, hip, hia, rfl, rfl⟩) entA
  · refine ⟨_, _, _, rfl, by decide, ?_⟩
    have hr : ¬ riseOk 0 (tlvI bs) = true := fun h => by rw [(rise_good _).1 h i hi] at hbad; cases hbad
    rw [if_neg hr] at htl
    rw [hE.1.2]
    refine K_ent (DE_open b2 b3 _) ?_
    refine K_returnCC (U := tab) 0 1 hE Try.func30 rfl rfl rfl rfl rfl rfl rfl rfl entA rfl rfl (.inl ⟨htl, rfl, rfl⟩) entA
end Go.Proofs.Ythcjmhlmoamjpaa

