/- choke, part g: the reference's best, Right, Same. -/
import Derived.Test.YtpacpkpkinmjcaaCf
set_option linter.unusedVariables false
set_option linter.unusedSimpArgs false
namespace Go.Proofs.Ytpacpkpkinmjcaa
open Go Go.SL
attribute [local irreducible] J K Ctr Ends pts slc mapR mapI sbRow stock arrS loopP CtrY belowN mixV nextS

set_option maxRecDepth 20000 in
theorem best_any (A B : HP) (v u : Value) (l : List Rt) (b : List Int) (hv : Vw A v l.length (rV l)) (hu : Vw B u b.length (iV b)) (hl : l.length ≤ 1000000) (hbl : b.length ≤ 1000000) :
    Ctr Try.prog 34 [v, u] [A, B] (fun r H => ∃ at_, BestP l b at_ ∧ r = .int .i64 at_ ∧ H = [A, B]) := by
  obtain ⟨a, c0, rfl⟩ := hv.shape
  obtain ⟨a2, c2, rfl⟩ := hu.shape
  refine Ctr.enter Try.func34 (by kernel_rfl) rfl Try.ntmps34 rfl rfl ?_
  intro G F R hE
  (refine go ?_)
  refine K_loop (fun y : Nat × Int => y.1 ≤ l.length ∧ BestP (l.take y.1) b y.2) (fun y => l.length - y.1) (fun y => [(0, .slice a l.length c0), (1, .slice a2 b.length c2), (5, .int .i64 y.2), (6, .int .i64 (y.1 : Int))]) (fun _ => A :: B :: F) (0, -1) ⟨Nat.zero_le _, .inl ⟨rfl, by simp⟩⟩ rfl (by repeat (first | exact keep_nil | refine keep_cons rfl ?_)) entA ?_
  rintro ⟨i, at_⟩ ⟨hi, hb⟩ ih
  simp only at hi hb
  simp only
  (refine go ?_)
  refine K_condP rfl rfl ?_ ?_
  case' refine_2 =>
    intro hge
    rw [List.take_of_length_le (by omega)] at hb
    (refine go ?_)
    (first | refine K_return hE Try.func34 rfl _ rfl ⟨_, hb, rfl, rfl⟩ entA | refine K_fallEnd hE Try.func34 rfl _ rfl ⟨_, hb, rfl, rfl⟩ entA)
  intro hlt
  have hi' : i < l.length := by omega
  obtain ⟨x, hx⟩ : ∃ x, l[i]? = some x := ⟨l[i], by simp [hi']⟩
  obtain ⟨b1, o1, c', he⟩ := hv.some (rne hi')
  simp only [Value.slice.injEq, true_and] at he
  obtain ⟨rfl, rfl⟩ := he
  (repeat (first | refine go1 ?_ | refine J_fork ?_ ?_ | refine J_at (U := tab) i 3 rfl rfl rfl rfl rfl rfl rfl rfl hi' ?_ | (refine J_isLoad ?_; first | refine J_loadAt (U := tab) 0 (i * 3 + 1) rfl rfl rfl hv (Nat.add_assoc _ _ _) (rtB hx) rfl rfl ?_ | refine J_loadAt (U := tab) 0 (i * 3 + 0) rfl rfl rfl hv (Nat.add_assoc _ _ _) (rtI hx) rfl rfl ?_ | refine J_loadAt (U := tab) 0 (i * 3 + 2) rfl rfl rfl hv (Nat.add_assoc _ _ _) (rtW hx) rfl rfl ?_)))
  cases hw : x.w with
  | false =>
    (repeat (first | refine go1 ?_ | refine J_fork ?_ ?_ | refine J_at (U := tab) i 3 rfl rfl rfl rfl rfl rfl rfl rfl hi' ?_ | (refine J_isLoad ?_; first | refine J_loadAt (U := tab) 0 (i * 3 + 1) rfl rfl rfl hv (Nat.add_assoc _ _ _) (rtB hx) rfl rfl ?_ | refine J_loadAt (U := tab) 0 (i * 3 + 0) rfl rfl rfl hv (Nat.add_assoc _ _ _) (rtI hx) rfl rfl ?_ | refine J_loadAt (U := tab) 0 (i * 3 + 2) rfl rfl rfl hv (Nat.add_assoc _ _ _) (rtW hx) rfl rfl ?_)))
    refine K_again ih (i + 1, at_) rfl (⟨by simp only; omega, hb.skip hx (fun h => by have := h.1; rw [hw] at this; cases this)⟩) (by simp only; omega) (by repeat (first | exact keep_nil | refine keep_cons rfl ?_)) entA
  | true =>
    (repeat (first | refine go1 ?_ | refine J_fork ?_ ?_ | refine J_at (U := tab) i 3 rfl rfl rfl rfl rfl rfl rfl rfl hi' ?_ | (refine J_isLoad ?_; first | refine J_loadAt (U := tab) 0 (i * 3 + 1) rfl rfl rfl hv (Nat.add_assoc _ _ _) (rtB hx) rfl rfl ?_ | refine J_loadAt (U := tab) 0 (i * 3 + 0) rfl rfl rfl hv (Nat.add_assoc _ _ _) (rtI hx) rfl rfl ?_ | refine J_loadAt (U := tab) 0 (i * 3 + 2) rfl rfl rfl hv (Nat.add_assoc _ _ _) (rtW hx) rfl rfl ?_)))
    (first | refine J_callE rfl rfl rfl rfl (has_any B (.slice a2 b.length c2) b x.id hu (by omega)) entA ?_ (fun _ _ _ _ _ => trivial) | refine J_call0E rfl rfl rfl (has_any B (.slice a2 b.length c2) b x.id hu (by omega)) entA ?_ (fun _ _ _ _ _ => trivial) | (refine go ?_; first | refine J_callE rfl rfl rfl rfl (has_any B (.slice a2 b.length c2) b x.id hu (by omega)) entA ?_ (fun _ _ _ _ _ => trivial) | refine J_call0E rfl rfl rfl (has_any B (.slice a2 b.length c2) b x.id hu (by omega)) entA ?_ (fun _ _ _ _ _ => trivial)))
    rintro _ _ ⟨rfl, rfl⟩
    by_cases hm : x.id ∈ b
    · rw [decide_eq_true hm]
      (refine go ?_)
      refine K_again ih (i + 1, at_) rfl (⟨by simp only; omega, hb.skip hx (fun h => h.2 hm)⟩) (by simp only; omega) (by repeat (first | exact keep_nil | refine keep_cons rfl ?_)) entA
    rw [decide_eq_false hm]
    have hok : okB b x := ⟨hw, hm⟩
    (refine go ?_)
    rcases id hb with ⟨h1, h2⟩ | ⟨k, z, h1, h2, h3, h4⟩
    · have hb2 := hb.turn hx hok (fun k z h => by omega)
      subst h1
      refine K_drawA (fun w => Sat G w ([A])) (.st 0 (.st 1 (.st 2 (.st 3 (.st 4 (.st 5 (.st 6 (.st 7 (.st 8 (.st 9 (.st 10 (.st 11 (.st 12 (.st 13 (.st 14 (.st 15 (.st 16 (.st 17 (.st 18 (.st 19 (.st 20 (.st 21 (.st 22 (.st 23 (.st 24 (.st 25 (.st 26 (.st 27 (.st 28 (.st 29 (.st 30 (.st 31 (.st 32 (.st 33 (.st 34 (.st 35 (.st 36 (.st 37 (.st 38 (.st 39 (.st 40 .nil))))))))))))))))))))))))))))))))))))))))) rfl (by kernel_rfl) (by kernel_rfl) (by kernel_rfl) (fun w hw => hw.ent entA) ?_
      (refine go ?_)
      refine K_again ih (i + 1, (i : Int)) rfl (⟨by simp only; omega, hb2⟩) (by simp only; omega) (by repeat (first | exact keep_nil | refine keep_cons rfl ?_)) entA
    · subst h1
      have hkl := (List.getElem?_eq_some_iff.1 h2).1
      have hz : l[k]? = some z := by rw [List.getElem?_take_of_lt (by simp at hkl; omega)] at h2; exact h2
      have hk' : k < l.length := (List.getElem?_eq_some_iff.1 hz).1
      have hturn : lessB x z → BestP (l.take (i + 1)) b (i : Int) := fun h => hb.turn hx hok (fun k' z' h' hz' => by
        have : k' = k := by omega
        subst this
        rw [hz] at hz'
        cases hz'
        exact h)
      have hkeep : ¬ lessB x z → BestP (l.take (i + 1)) b (k : Int) := fun h => hb.keep hx hz h
      refine K_drawA (fun w => Sat G w ([A])) (.st 0 (.st 1 (.st 2 (.st 3 (.st 4 (.st 5 (.st 6 (.st 7 (.st 8 (.st 9 (.st 10 (.st 11 (.st 12 (.st 13 (.st 14 (.st 15 (.st 16 (.st 17 (.st 18 (.st 19 (.st 20 (.st 21 (.st 22 (.st 23 (.st 24 (.st 25 (.st 26 (.st 27 (.st 28 (.st 29 (.st 30 (.st 31 (.st 32 (.st 33 (.st 34 (.st 35 (.st 36 (.st 37 (.st 38 (.st 39 (.st 40 .nil))))))))))))))))))))))))))))))))))))))))) rfl (by kernel_rfl) (by kernel_rfl) (by kernel_rfl) (fun w hw => hw.ent entA) ?_
      repeat' (first | (with_reducible intro _hh) | refine go1 ?_ | refine J_fork ?_ ?_ | refine J_gsP rfl rfl rfl rfl ?_ ?_ | refine K_condP rfl rfl ?_ ?_ | refine J_at (U := tab) i 3 rfl rfl rfl rfl rfl rfl rfl rfl hi' ?_ | (refine J_isLoad ?_; first | refine J_loadAtS (U := tab) 0 (i * 3 + 1) rfl rfl rfl hv (Nat.add_assoc _ _ _) (rtB hx) rfl rfl ?_ | refine J_loadAtS (U := tab) 0 (i * 3 + 0) rfl rfl rfl hv (Nat.add_assoc _ _ _) (rtI hx) rfl rfl ?_ | refine J_loadAtS (U := tab) 0 (i * 3 + 2) rfl rfl rfl hv (Nat.add_assoc _ _ _) (rtW hx) rfl rfl ?_) | refine J_at (U := tab) k 3 rfl rfl rfl rfl rfl rfl rfl rfl hk' ?_ | (refine J_isLoad ?_; first | refine J_loadAtS (U := tab) 0 (k * 3 + 1) rfl rfl rfl hv (Nat.add_assoc _ _ _) (rtB hz) rfl rfl ?_ | refine J_loadAtS (U := tab) 0 (k * 3 + 0) rfl rfl rfl hv (Nat.add_assoc _ _ _) (rtI hz) rfl rfl ?_ | refine J_loadAtS (U := tab) 0 (k * 3 + 2) rfl rfl rfl hv (Nat.add_assoc _ _ _) (rtW hz) rfl rfl ?_))
      · refine K_again ih (i + 1, (i : Int)) rfl (⟨by simp only; omega, hturn (by unfold lessB; omega)⟩) (by simp only; omega) (by repeat (first | exact keep_nil | refine keep_cons rfl ?_)) entA
      · refine K_again ih (i + 1, (i : Int)) rfl (⟨by simp only; omega, hturn (by unfold lessB; omega)⟩) (by simp only; omega) (by repeat (first | exact keep_nil | refine keep_cons rfl ?_)) entA
      · refine K_again ih (i + 1, (k : Int)) rfl (⟨by simp only; omega, hkeep (by unfold lessB; omega)⟩) (by simp only; omega) (by repeat (first | exact keep_nil | refine keep_cons rfl ?_)) entA
      · refine K_again ih (i + 1, (k : Int)) rfl (⟨by simp only; omega, hkeep (by unfold lessB; omega)⟩) (by simp only; omega) (by repeat (first | exact keep_nil | refine keep_cons rfl ?_)) entA
theorem SameI_any (A B : HP) (v1 v2 : Value) (l1 l2 : List Int) (h1 : Vw A v1 l1.length (iV l1)) (h2 : Vw B v2 l2.length (iV l2)) (hl : l1.length ≤ 1000000000) :
    Ctr Try.prog 12 [v1, v2] [A, B] (fun r H => r = .bool (decide (l1 = l2)) ∧ H = [A, B]) := by
  obtain ⟨a1, c1, rfl⟩ := h1.shape
  obtain ⟨a2, c2, rfl⟩ := h2.shape
  refine Ctr.enter Try.func12 (by kernel_rfl) rfl Try.ntmps12 rfl rfl ?_
  intro G F R hE
  (refine go ?_)
  refine K_condP rfl rfl ?_ ?_
  · intro hne
    rw [decide_eq_false (show ¬ l1 = l2 from fun e => by subst e; exact hne rfl)] at hE
    (refine go ?_)
    (first | refine K_return hE Try.func12 rfl _ rfl ⟨rfl, rfl⟩ entA | refine K_fallEnd hE Try.func12 rfl _ rfl ⟨rfl, rfl⟩ entA)
  intro heqn
  have hlen : l1.length = l2.length := by omega
  (refine go ?_)
  refine K_loop (fun i : Nat => i ≤ l1.length ∧ ∀ j, j < i → l1[j]? = l2[j]?) (fun i => l1.length - i)
    (fun i => [(0, .slice a1 l1.length c1), (1, .slice a2 l2.length c2), (5, .int .i64 (i : Int))])
    (fun _ => A :: B :: F) 0 ⟨Nat.zero_le _, fun j hj => by omega⟩ rfl (by repeat (first | exact keep_nil | refine keep_cons rfl ?_)) entA ?_
  rintro i ⟨hi, heq⟩ ih
  (refine go ?_)
  refine K_condP rfl rfl ?_ ?_
  case' refine_2.refine_2 =>
    intro hge
    have hie : i = l1.length := by omega
    rw [decide_eq_true (show l1 = l2 from List.ext_getElem? fun j => by
      rcases Nat.lt_or_ge j l1.length with h | h
      · exact heq j (by omega)
      · rw [List.getElem?_eq_none (by omega), List.getElem?_eq_none (by omega)])] at hE
    (refine go ?_)
    (first | refine K_return hE Try.func12 rfl _ rfl ⟨rfl, rfl⟩ entA | refine K_fallEnd hE Try.func12 rfl _ rfl ⟨rfl, rfl⟩ entA)
  intro hlt
  have hi1 : i < l1.length := by omega
  have hi2 : i < l2.length := by omega
  obtain ⟨x, hx⟩ : ∃ x, l1[i]? = some x := ⟨l1[i], by simp⟩
  obtain ⟨y, hy⟩ : ∃ y, l2[i]? = some y := ⟨l2[i], by simp⟩
  obtain ⟨b1, o1, k1, hs1⟩ := h1.some (ine hi1)
  obtain ⟨b2, o2, k2, hs2⟩ := h2.some (ine hi2)
  simp only [Value.slice.injEq, true_and] at hs1 hs2
  obtain ⟨rfl, rfl⟩ := hs1
  obtain ⟨rfl, rfl⟩ := hs2
  (refine go ?_)
  refine K_drawA (fun w => Sat G w ([A, B])) (.st 0 (.st 1 (.st 2 (.st 3 (.st 4 (.st 5 (.st 6 (.st 7 (.st 8 .nil))))))))) rfl (by kernel_rfl) (by kernel_rfl) (by kernel_rfl) (fun w hw => hw.ent entA) ?_
  (refine go ?_)
  refine J_at1 (U := tab) i rfl rfl rfl rfl rfl rfl rfl rfl hi1 ?_
  refine J_isLoad ?_
  refine J_loadAtS (U := tab) 0 i rfl rfl rfl h1 rfl (iV_get hx) rfl rfl ?_
  (refine go ?_)
  refine J_at1 (U := tab) i rfl rfl rfl rfl rfl rfl rfl rfl hi2 ?_
  refine J_isLoad ?_
  refine J_loadAtS (U := tab) 1 i rfl rfl rfl h2 rfl (iV_get hy) rfl rfl ?_
  (refine go ?_)
  refine K_condP rfl rfl ?_ ?_
  · intro hxy
    rw [decide_eq_false (show ¬ l1 = l2 from fun e => by subst e; rw [hx] at hy; cases hy; exact hxy rfl)] at hE
    (refine go ?_)
    (first | refine K_return hE Try.func12 rfl _ rfl ⟨rfl, rfl⟩ entA | refine K_fallEnd hE Try.func12 rfl _ rfl ⟨rfl, rfl⟩ entA)
  intro hxy
  have hxy' : x = y := Decidable.not_not.1 hxy
  (refine go ?_)
  refine K_again ih (i + 1) rfl (⟨by omega, fun j hj => by
    rcases Nat.lt_or_ge j i with h | h
    · exact heq j h
    · rw [show j = i from by omega, hx, hy, hxy']⟩) (by omega) (by repeat (first | exact keep_nil | refine keep_cons rfl ?_)) entA
def sameIn (l : List Rt) (i k : Nat) : Bool := match l[i]?, l[k]? with
  | some x, some y => decide (y.id = x.id)
  | _, _ => false
def twiceUpTo (l : List Rt) (i : Nat) : Bool := !decide (((l.take i).map Rt.id).Nodup)
theorem twice_step {l : List Rt} {i : Nat} {x : Rt} (hx : l[i]? = some x) : twiceUpTo l (i + 1) = (twiceUpTo l i || decide (x.id ∈ (l.take i).map Rt.id)) := by
  unfold twiceUpTo
  rw [List.take_add_one, hx]
  simp only [Option.toList_some, List.map_append, List.map_cons, List.map_nil]
  rw [Bool.eq_iff_iff]
  simp only [Bool.not_eq_true', decide_eq_false_iff_not, Bool.or_eq_true, decide_eq_true_eq, List.nodup_append]
  constructor
  · intro h
    by_cases h1 : ((l.take i).map Rt.id).Nodup
    · refine .inr (Decidable.byContradiction fun h2 => h ⟨h1, by simp, ?_⟩)
      rintro a ha b hb rfl
      simp at hb
      subst hb
      exact h2 ha
    · exact .inl h1
  · rintro (h | h) ⟨h1, h2, h3⟩
    · exact h h1
    · exact h3 _ h _ (by simp) rfl
end Go.Proofs.Ytpacpkpkinmjcaa
