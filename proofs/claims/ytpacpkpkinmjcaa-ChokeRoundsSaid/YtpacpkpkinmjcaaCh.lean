/- choke, part h: the reference's Right. -/
import Derived.Test.YtpacpkpkinmjcaaCg
set_option linter.unusedVariables false
set_option linter.unusedSimpArgs false
namespace Go.Proofs.Ytpacpkpkinmjcaa
open Go Go.SL
theorem mem_step {l : List Rt} {k : Nat} {y : Rt} {t : Int} (hy : l[k]? = some y) : decide (t ∈ (l.take (k + 1)).map Rt.id) = (decide (t ∈ (l.take k).map Rt.id) || decide (y.id = t)) := by
  rw [List.take_add_one, hy, Option.toList_some, List.map_append, List.map_cons, List.map_nil, Bool.eq_iff_iff, Bool.or_eq_true, decide_eq_true_iff, decide_eq_true_iff, decide_eq_true_iff, List.mem_append, List.mem_singleton, eq_comm (a := t) (b := y.id)]
attribute [local irreducible] J K Ctr Ends pts slc mapR mapI sbRow stock arrS loopP CtrY belowN mixV nextS

set_option maxRecDepth 20000 in
theorem refRight_any (A : HP) (v : Value) (l : List Rt) (hv : Vw A v l.length (rV l)) (hl : l.length ≤ 9223372036854775807) :
    Ctr Try.prog 20 [v] [A] (fun r H => r = .int .i64 (rightA l) ∧ H = [A]) := by
  obtain ⟨a, c0, rfl⟩ := hv.shape
  refine Ctr.enter Try.func20 (by kernel_rfl) rfl Try.ntmps20 rfl rfl ?_
  intro G F R hE
  (refine go ?_)
  refine K_condP rfl rfl ?_ ?_
  · intro hbig
    have : rightA l = 1 := by unfold rightA; rw [if_pos (.inl (by omega))]
    (refine go ?_)
    (first | refine K_return hE Try.func20 rfl _ rfl ⟨by rw [this]; rfl, rfl⟩ entA | refine K_fallEnd hE Try.func20 rfl _ rfl ⟨by rw [this]; rfl, rfl⟩ entA)
  intro hsm
  (refine go ?_)
  refine K_loop (fun i : Nat => i ≤ l.length ∧ ∀ x ∈ l.take i, oddR x = false) (fun i => l.length - i) (fun i => [(0, .slice a l.length c0), (3, .bool (twiceUpTo l i)), (4, .int .i64 (i : Int))]) (fun _ => A :: F) 0 ⟨Nat.zero_le _, by simp⟩ (by rfl) (by repeat (first | exact keep_nil | refine keep_cons rfl ?_)) entA ?_
  rintro i ⟨hi, hb⟩ ih
  (refine go ?_)
  refine K_condP rfl rfl ?_ ?_
  case' refine_2.refine_2 =>
    intro hge
    have hil : i = l.length := by omega
    have hany : l.any oddR = false := List.any_eq_false.2 fun x hx => by rw [hb x (by rw [List.take_of_length_le (by omega)]; exact hx)]; simp
    have hr0 : rightA l = if (l.map Rt.id).Nodup then 0 else 5 := by unfold rightA; rw [if_neg (by rintro (h | h); omega; rw [hany] at h; cases h)]
    have htw : twiceUpTo l i = !decide ((l.map Rt.id).Nodup) := by unfold twiceUpTo; rw [List.take_of_length_le (by omega)]
    rw [hr0] at hE
    rw [htw]
    by_cases hn : (l.map Rt.id).Nodup
    · rw [decide_eq_true hn]
      rw [if_pos hn] at hE
      (refine go ?_)
      (first | refine K_return hE Try.func20 rfl _ rfl ⟨rfl, rfl⟩ entA | refine K_fallEnd hE Try.func20 rfl _ rfl ⟨rfl, rfl⟩ entA)
    · rw [decide_eq_false hn]
      rw [if_neg hn] at hE
      (refine go ?_)
      (first | refine K_return hE Try.func20 rfl _ rfl ⟨rfl, rfl⟩ entA | refine K_fallEnd hE Try.func20 rfl _ rfl ⟨rfl, rfl⟩ entA)
  intro hlt
  have hi' : i < l.length := by omega
  obtain ⟨x, hx⟩ : ∃ x, l[i]? = some x := ⟨l[i], by simp [hi']⟩
  obtain ⟨b1, o1, c', he⟩ := hv.some (rne hi')
  simp only [Value.slice.injEq, true_and] at he
  obtain ⟨rfl, rfl⟩ := he
  (repeat (first | refine go1 ?_ | refine J_fork ?_ ?_ | refine J_at (U := tab) i 3 rfl rfl rfl rfl rfl rfl rfl rfl hi' ?_ | (refine J_isLoad ?_; first | refine J_loadAt (U := tab) 0 (i * 3 + 1) rfl rfl rfl hv (Nat.add_assoc _ _ _) (rtB hx) rfl rfl ?_ | refine J_loadAt (U := tab) 0 (i * 3 + 0) rfl rfl rfl hv (Nat.add_assoc _ _ _) (rtI hx) rfl rfl ?_ | refine J_loadAt (U := tab) 0 (i * 3 + 2) rfl rfl rfl hv (Nat.add_assoc _ _ _) (rtW hx) rfl rfl ?_)))
  (first | refine J_callE rfl rfl rfl rfl (IsId_any x.id) entA ?_ (fun _ _ _ _ _ => trivial) | refine J_call0E rfl rfl rfl (IsId_any x.id) entA ?_ (fun _ _ _ _ _ => trivial) | (refine go ?_; first | refine J_callE rfl rfl rfl rfl (IsId_any x.id) entA ?_ (fun _ _ _ _ _ => trivial) | refine J_call0E rfl rfl rfl (IsId_any x.id) entA ?_ (fun _ _ _ _ _ => trivial)))
  rintro _ _ ⟨rfl, rfl⟩
  have hodd : ∀ o : Bool, oddR x = o → o = true → rightA l = 1 := fun o h1 h2 => by
    unfold rightA
    rw [if_pos (.inr (List.any_eq_true.2 ⟨x, List.mem_of_getElem? hx, h1.trans h2⟩))]
  by_cases hid : 1 ≤ x.id ∧ x.id ≤ 65536
  case neg =>
    have h1 := hodd _ rfl (by simp [oddR]; omega)
    rw [decide_eq_false hid]
    (repeat (first | refine go1 ?_ | refine J_fork ?_ ?_ | refine J_at (U := tab) i 3 rfl rfl rfl rfl rfl rfl rfl rfl hi' ?_ | (refine J_isLoad ?_; first | refine J_loadAt (U := tab) 0 (i * 3 + 1) rfl rfl rfl hv (Nat.add_assoc _ _ _) (rtB hx) rfl rfl ?_ | refine J_loadAt (U := tab) 0 (i * 3 + 0) rfl rfl rfl hv (Nat.add_assoc _ _ _) (rtI hx) rfl rfl ?_ | refine J_loadAt (U := tab) 0 (i * 3 + 2) rfl rfl rfl hv (Nat.add_assoc _ _ _) (rtW hx) rfl rfl ?_)))
    (first | refine K_return hE Try.func20 rfl _ rfl ⟨by rw [h1]; rfl, rfl⟩ entA | refine K_fallEnd hE Try.func20 rfl _ rfl ⟨by rw [h1]; rfl, rfl⟩ entA)
  rw [decide_eq_true hid]
  (repeat (first | refine go1 ?_ | refine J_fork ?_ ?_ | refine J_at (U := tab) i 3 rfl rfl rfl rfl rfl rfl rfl rfl hi' ?_ | (refine J_isLoad ?_; first | refine J_loadAt (U := tab) 0 (i * 3 + 1) rfl rfl rfl hv (Nat.add_assoc _ _ _) (rtB hx) rfl rfl ?_ | refine J_loadAt (U := tab) 0 (i * 3 + 0) rfl rfl rfl hv (Nat.add_assoc _ _ _) (rtI hx) rfl rfl ?_ | refine J_loadAt (U := tab) 0 (i * 3 + 2) rfl rfl rfl hv (Nat.add_assoc _ _ _) (rtW hx) rfl rfl ?_)))
  refine J_gsP rfl rfl rfl rfl ?_ ?_
  · intro hneg
    have h1 := hodd _ rfl (by simp [oddR]; omega)
    (repeat (first | refine go1 ?_ | refine J_fork ?_ ?_ | refine J_at (U := tab) i 3 rfl rfl rfl rfl rfl rfl rfl rfl hi' ?_ | (refine J_isLoad ?_; first | refine J_loadAt (U := tab) 0 (i * 3 + 1) rfl rfl rfl hv (Nat.add_assoc _ _ _) (rtB hx) rfl rfl ?_ | refine J_loadAt (U := tab) 0 (i * 3 + 0) rfl rfl rfl hv (Nat.add_assoc _ _ _) (rtI hx) rfl rfl ?_ | refine J_loadAt (U := tab) 0 (i * 3 + 2) rfl rfl rfl hv (Nat.add_assoc _ _ _) (rtW hx) rfl rfl ?_)))
    (first | refine K_return hE Try.func20 rfl _ rfl ⟨by rw [h1]; rfl, rfl⟩ entA | refine K_fallEnd hE Try.func20 rfl _ rfl ⟨by rw [h1]; rfl, rfl⟩ entA)
  intro hnn
  (repeat (first | refine go1 ?_ | refine J_fork ?_ ?_ | refine J_at (U := tab) i 3 rfl rfl rfl rfl rfl rfl rfl rfl hi' ?_ | (refine J_isLoad ?_; first | refine J_loadAt (U := tab) 0 (i * 3 + 1) rfl rfl rfl hv (Nat.add_assoc _ _ _) (rtB hx) rfl rfl ?_ | refine J_loadAt (U := tab) 0 (i * 3 + 0) rfl rfl rfl hv (Nat.add_assoc _ _ _) (rtI hx) rfl rfl ?_ | refine J_loadAt (U := tab) 0 (i * 3 + 2) rfl rfl rfl hv (Nat.add_assoc _ _ _) (rtW hx) rfl rfl ?_)))
  refine K_condP rfl rfl ?_ ?_
  · intro hbig
    have h1 := hodd _ rfl (by simp [oddR]; omega)
    (refine go ?_)
    (first | refine K_return hE Try.func20 rfl _ rfl ⟨by rw [h1]; rfl, rfl⟩ entA | refine K_fallEnd hE Try.func20 rfl _ rfl ⟨by rw [h1]; rfl, rfl⟩ entA)
  intro hnb
  have hox : oddR x = false := by simp [oddR]; omega
  (refine go ?_)
  have ihO := ih
  clear ih
  refine K_loop (fun k : Nat => k ≤ i) (fun k => i - k) (fun k => [(0, .slice (some ⟨b1, o1, none⟩) l.length c0), (3, .bool (decide (x.id ∈ (l.take k).map Rt.id) || twiceUpTo l i)), (4, .int .i64 (i : Int)), (6, .int .i64 (k : Int))]) (fun _ => A :: F) 0 (Nat.zero_le _) rfl (by repeat (first | exact keep_nil | refine keep_cons rfl ?_)) entA ?_
  rintro k hk ih
  (refine go ?_)
  refine K_condP rfl rfl ?_ ?_
  case' refine_2 =>
    intro hge
    have hki : k = i := by omega
    subst hki
    clear ih
    have ih := ihO
    (first | refine J_slot 3 ((.bool (twiceUpTo l (k + 1)))) rfl ((by rw [twice_step hx, Bool.or_comm])) ?_ | refine K_slot 3 ((.bool (twiceUpTo l (k + 1)))) rfl ((by rw [twice_step hx, Bool.or_comm])) ?_)
    (refine go ?_)
    refine K_again ih (k + 1) rfl (⟨by omega, allTake hb hx hox⟩) (by omega) (by repeat (first | exact keep_nil | refine keep_cons rfl ?_)) entA
  intro hlt2
  have hk' : k < l.length := by omega
  obtain ⟨y, hy⟩ : ∃ y, l[k]? = some y := ⟨l[k], by simp [hk']⟩
  have hst := mem_step (t := x.id) hy
  cases hcur : (decide (x.id ∈ (l.take k).map Rt.id) || twiceUpTo l i) with
  | true =>
    (refine go ?_)
    refine K_drawA (fun w => Sat G w ([A])) (.st 0 (.st 1 (.st 2 (.st 3 (.st 4 (.st 5 (.st 6 (.st 7 (.st 8 (.st 9 (.st 10 (.st 11 (.st 12 (.st 13 (.st 14 .nil))))))))))))))) rfl (by kernel_rfl) (by kernel_rfl) (by kernel_rfl) (fun w hw => hw.ent entA) ?_
    (refine go ?_)
    (first | refine J_slot 3 ((.bool (or (decide (x.id ∈ (l.take (k + 1)).map Rt.id)) (twiceUpTo l i)))) rfl ((by rw [hst, Bool.or_right_comm, hcur]; rfl)) ?_ | refine K_slot 3 ((.bool (or (decide (x.id ∈ (l.take (k + 1)).map Rt.id)) (twiceUpTo l i)))) rfl ((by rw [hst, Bool.or_right_comm, hcur]; rfl)) ?_)
    refine K_again ih (k + 1) rfl (by omega) (by omega) (by repeat (first | exact keep_nil | refine keep_cons rfl ?_)) entA
  | false =>
    (refine go ?_)
    refine K_drawA (fun w => Sat G w ([A])) (.st 0 (.st 1 (.st 2 (.st 3 (.st 4 (.st 5 (.st 6 (.st 7 (.st 8 (.st 9 (.st 10 (.st 11 (.st 12 (.st 13 (.st 14 .nil))))))))))))))) rfl (by kernel_rfl) (by kernel_rfl) (by kernel_rfl) (fun w hw => hw.ent entA) ?_
    (repeat (first | refine go1 ?_ | refine J_fork ?_ ?_ | refine J_at (U := tab) i 3 rfl rfl rfl rfl rfl rfl rfl rfl hi' ?_ | (refine J_isLoad ?_; first | refine J_loadAtS (U := tab) 0 (i * 3 + 1) rfl rfl rfl hv (Nat.add_assoc _ _ _) (rtB hx) rfl rfl ?_ | refine J_loadAtS (U := tab) 0 (i * 3 + 0) rfl rfl rfl hv (Nat.add_assoc _ _ _) (rtI hx) rfl rfl ?_ | refine J_loadAtS (U := tab) 0 (i * 3 + 2) rfl rfl rfl hv (Nat.add_assoc _ _ _) (rtW hx) rfl rfl ?_) | refine J_at (U := tab) k 3 rfl rfl rfl rfl rfl rfl rfl rfl hk' ?_ | (refine J_isLoad ?_; first | refine J_loadAtS (U := tab) 0 (k * 3 + 1) rfl rfl rfl hv (Nat.add_assoc _ _ _) (rtB hy) rfl rfl ?_ | refine J_loadAtS (U := tab) 0 (k * 3 + 0) rfl rfl rfl hv (Nat.add_assoc _ _ _) (rtI hy) rfl rfl ?_ | refine J_loadAtS (U := tab) 0 (k * 3 + 2) rfl rfl rfl hv (Nat.add_assoc _ _ _) (rtW hy) rfl rfl ?_)))
    (first | refine J_slot 3 ((.bool (or (decide (x.id ∈ (l.take (k + 1)).map Rt.id)) (twiceUpTo l i)))) rfl ((by rw [hst, Bool.or_right_comm, hcur]; rfl)) ?_ | refine K_slot 3 ((.bool (or (decide (x.id ∈ (l.take (k + 1)).map Rt.id)) (twiceUpTo l i)))) rfl ((by rw [hst, Bool.or_right_comm, hcur]; rfl)) ?_)
    refine K_again ih (k + 1) rfl (by omega) (by omega) (by repeat (first | exact keep_nil | refine keep_cons rfl ?_)) entA
end Go.Proofs.Ytpacpkpkinmjcaa
