/- choke, part p: ChokeTurns. -/
import Derived.Test.YtpacpkpkinmjcaaCn
set_option linter.unusedVariables false
set_option linter.unusedSimpArgs false
namespace Go.Proofs.Ytpacpkpkinmjcaa
open Go Go.SL
/-- The one that is tried may be, where nothing else is told than ahead. -/
def TI (l : List Rt) (s t : Int) : Prop := (othersA l s = [] → t = 0) ∧ (othersA l s ≠ [] → t ∈ othersA l s)
theorem tried_mem {o : List Int} (h : o ≠ []) (t : Int) (turn : Bool) (seed : Int) : triedA o t turn seed ∈ o := by
  have hpos : 0 < o.length := by
    rcases Nat.eq_zero_or_pos o.length with h0 | h0
    · exact absurd (List.eq_nil_of_length_eq_zero h0) h
    · exact h0
  unfold triedA
  by_cases hc : turn = true ∨ t ∉ o
  · rw [if_pos hc]
    have hlt : drawA seed o.length < o.length := belowN_lt (mixV_lt _) hpos
    rw [List.getD_eq_getElem?_getD, List.getElem?_eq_getElem hlt]
    exact List.getElem_mem hlt
  · rw [if_neg hc]
    exact Decidable.byContradiction fun hn => hc (.inr hn)
theorem turns_law {l : List Rt} {s t : Int} {turn : Bool} {seed : Int} (h : (chooseA l s t turn seed).2.2 = 0) :
    TI l s (chooseA l s t turn seed).2.1 ∧ ((chooseA l s t turn seed).2.1 ≠ 0 → (chooseA l s t turn seed).2.1 ∈ (chooseA l s t turn seed).1) ∧ (turn = false → TI l s t → (chooseA l s t turn seed).2.1 = t) := by
  obtain ⟨hs, hr⟩ := choose_ok h
  unfold chooseA
  rw [if_neg (by omega), if_neg (by rw [hr]; simp)]
  by_cases ho : othersA l s = []
  · rw [if_pos ho]
    exact ⟨⟨fun _ => rfl, fun hn => absurd ho hn⟩, fun hn => absurd rfl hn, fun _ ht => (ht.1 ho).symm⟩
  · rw [if_neg ho]
    refine ⟨⟨fun hn => absurd hn ho, fun _ => tried_mem ho _ _ _⟩, fun _ => ?_, fun htf ht => ?_⟩
    · simp only; rw [risI_mem]; simp
    · simp only
      have := ht.2 ho
      unfold triedA
      rw [if_neg (by rintro (h | h); rw [htf] at h; cases h; exact h this)]
theorem others_i64 {l : List Rt} {s n : Int} (ho : ∀ x ∈ l, oddR x = false) (h : n ∈ othersA l s) : 1 ≤ n ∧ n ≤ 65536 := by
  unfold othersA at h
  rw [risI_mem] at h
  obtain ⟨u, hu, rfl⟩ := List.mem_map.1 h
  obtain ⟨x, hx, _, h1, _⟩ := mem_want.1 (List.mem_of_mem_drop hu)
  have := ho x hx
  simp [oddR] at this
  omega
theorem tried_i64 {l : List Rt} {s t : Int} {turn : Bool} {seed : Int} (h : (chooseA l s t turn seed).2.2 = 0) : i64 (chooseA l s t turn seed).2.1 := by
  have hr := (choose_ok h).2
  obtain ⟨h1, -, -⟩ := turns_law h
  obtain ⟨_, _, hodd⟩ := right_zero (l := l) (by rw [hr]; simp)
  by_cases ho : othersA l s = []
  · rw [h1.1 ho]; decide
  · have := others_i64 hodd (h1.2 ho)
    unfold i64
    omega
structure TS where
  i : Nat
  t : Int
  mo : Option Nat
  may : List Int
attribute [local irreducible] J K Ctr Ends pts slc mapR mapI sbRow stock arrS loopP CtrY belowN mixV nextS chooseA rank wh TI newE

set_option maxRecDepth 20000 in
theorem ChokeTurns_any (X : HP) (v : Value) (l : List Rt) (s e : Int) (hv : Vw X v l.length (rV l)) (hl : l.length ≤ 9223372036854775807) (hs : i64 s) (he : i64 e) :
    Ctr Try.prog 7 [v, .int .i64 s, .int .i64 e] [X] (fun r H => r = .bool true ∧ H = [X]) := by
  obtain ⟨a, c0, rfl⟩ := hv.shape
  refine Ctr.enter Try.func7 (by kernel_rfl) rfl Try.ntmps7 rfl rfl ?_
  intro G F R hE
  (refine go ?_)
  (first | refine J_callE rfl rfl rfl rfl (awake_any) entA ?_ (fun _ _ _ _ _ => trivial) | refine J_call0E rfl rfl rfl (awake_any) entA ?_ (fun _ _ _ _ _ => trivial) | (refine go ?_; first | refine J_callE rfl rfl rfl rfl (awake_any) entA ?_ (fun _ _ _ _ _ => trivial) | refine J_call0E rfl rfl rfl (awake_any) entA ?_ (fun _ _ _ _ _ => trivial)))
  rintro _ _ ⟨rfl, rfl⟩
  (refine go ?_)
  (first | refine J_callE rfl rfl rfl rfl (New_any s e) entA ?_ (fun _ _ _ _ _ => trivial) | refine J_call0E rfl rfl rfl (New_any s e) entA ?_ (fun _ _ _ _ _ => trivial) | (refine go ?_; first | refine J_callE rfl rfl rfl rfl (New_any s e) entA ?_ (fun _ _ _ _ _ => trivial) | refine J_call0E rfl rfl rfl (New_any s e) entA ?_ (fun _ _ _ _ _ => trivial)))
  rintro _ _ (⟨hn, rfl, rfl⟩ | ⟨hn, b, rfl, rfl⟩)
  · (refine go ?_)
    (first | refine K_return hE Try.func7 rfl _ rfl ⟨rfl, rfl⟩ entA | refine K_fallEnd hE Try.func7 rfl _ rfl ⟨rfl, rfl⟩ entA)
  have hse : 1 ≤ s ∧ s ≤ 16 ∧ 1 ≤ e ∧ e ≤ 1000 := by
    unfold newE at hn
    split at hn
    · cases hn
    · omega
  (refine go ?_)
  refine J_gsP rfl rfl rfl rfl ?_ ?_
  · intro h50
    (refine go ?_)
    (first | refine K_return hE Try.func7 rfl _ rfl ⟨rfl, rfl⟩ entA | refine K_fallEnd hE Try.func7 rfl _ rfl ⟨rfl, rfl⟩ entA)
  intro h50
  (refine go ?_)
  refine K_condP rfl rfl ?_ ?_
  · intro h200
    (refine go ?_)
    (first | refine K_return hE Try.func7 rfl _ rfl ⟨rfl, rfl⟩ entA | refine K_fallEnd hE Try.func7 rfl _ rfl ⟨rfl, rfl⟩ entA)
  intro h200
  (refine go ?_)
  refine K_loop (fun y : TS => (y.i : Int) ≤ 3 * e ∧ i64 y.t ∧ (y.mo = none → y.may = []) ∧ (y.i = 0 ∨ TI l s y.t)) (fun y => (3 * e).toNat - y.i) (fun y => [(0, .slice a l.length c0), (1, .int .i64 s), (2, .int .i64 e), (8, ptr b), (10, .int .i64 y.t), (11, .int .i64 (y.i : Int))]) (fun y => wh b s e (y.i : Int) y.t y.mo y.may :: X :: F) ⟨0, 0, none, []⟩ ⟨by simp only; omega, by decide, fun _ => rfl, .inl rfl⟩ rfl (by repeat (first | exact keep_nil | refine keep_cons rfl ?_)) entA ?_
  rintro ⟨i, t, mo, may⟩ ⟨hi, ht, hmo, hti⟩ ih
  simp only at hi ht hmo hti
  simp only
  (repeat (first | refine go1 ?_ | refine J_fork ?_ ?_ | refine J_mul rfl rfl rfl (by simp only [inK]; omega) ?_))
  refine K_condP rfl rfl ?_ ?_
  case' refine_2 =>
    intro hge
    (refine go ?_)
    (first | refine K_return hE Try.func7 rfl _ rfl ⟨rfl, rfl⟩ entA | refine K_fallEnd hE Try.func7 rfl _ rfl ⟨rfl, rfl⟩ entA)
  intro hlt
  (repeat (first | refine go1 ?_ | refine J_fork ?_ ?_ | refine J_mul rfl rfl rfl (by simp only [inK]; omega) ?_))
  (first | refine J_callE rfl rfl rfl rfl (Round_any X (.slice a l.length c0) l b s e (i : Int) t (7 * (i : Int)) mo may hv hl hs ht (by omega) (by omega)) entA ?_ (fun _ _ _ _ _ => trivial) | refine J_call0E rfl rfl rfl (Round_any X (.slice a l.length c0) l b s e (i : Int) t (7 * (i : Int)) mo may hv hl hs ht (by omega) (by omega)) entA ?_ (fun _ _ _ _ _ => trivial) | (refine go ?_; first | refine J_callE rfl rfl rfl rfl (Round_any X (.slice a l.length c0) l b s e (i : Int) t (7 * (i : Int)) mo may hv hl hs ht (by omega) (by omega)) entA ?_ (fun _ _ _ _ _ => trivial) | refine J_call0E rfl rfl rfl (Round_any X (.slice a l.length c0) l b s e (i : Int) t (7 * (i : Int)) mo may hv hl hs ht (by omega) (by omega)) entA ?_ (fun _ _ _ _ _ => trivial)))
  rintro _ _ (⟨h1, rfl, rfl⟩ | ⟨h1, w, bm, rfl, rfl⟩)
  · obtain ⟨h2, -⟩ := choose_err h1
    generalize (chooseA l s t (decide ((i : Int) % e = 0)) (7 * (i : Int))).2.2 = er at h1 h2
    repeat' (first | (with_reducible intro _hh) | refine go1 ?_ | refine J_fork ?_ ?_ | refine J_gsP rfl rfl rfl rfl ?_ ?_ | refine K_condP rfl rfl ?_ ?_)
    all_goals first
      | (exfalso; omega)
      | (first | refine K_return hE Try.func7 rfl _ rfl ⟨rfl, rfl⟩ entA | refine K_fallEnd hE Try.func7 rfl _ rfl ⟨rfl, rfl⟩ entA)
      | ((first | refine J_slot 6 ((.bool true)) rfl ((congrArg Value.bool (decide_eq_true (by omega)))) ?_ | refine K_slot 6 ((.bool true)) rfl ((congrArg Value.bool (decide_eq_true (by omega)))) ?_); (first | refine K_return hE Try.func7 rfl _ rfl ⟨rfl, rfl⟩ entA | refine K_fallEnd hE Try.func7 rfl _ rfl ⟨rfl, rfl⟩ entA))
  obtain ⟨q1, q2, q3⟩ := turns_law h1
  have q4 := tried_i64 h1
  generalize (chooseA l s t (decide ((i : Int) % e = 0)) (7 * (i : Int))).2.1 = t' at q1 q2 q3 q4
  generalize (chooseA l s t (decide ((i : Int) % e = 0)) (7 * (i : Int))).1 = may' at q2
  have hnext : ((i + 1 : Nat) : Int) ≤ 3 * e ∧ i64 t' ∧ (some bm = none → may' = []) ∧ (i + 1 = 0 ∨ TI l s t') := ⟨by omega, q4, (fun h => by cases h), .inr q1⟩
  (repeat (first | refine go1 ?_ | refine J_fork ?_ ?_ | refine J_rem rfl rfl rfl (by omega) (by omega) ?_))
  by_cases hm : (i : Int) % e = 0
  · (first | refine J_slot 76 ((.bool false)) rfl ((congrArg Value.bool (decide_eq_false (fun h => h hm)))) ?_ | refine K_slot 76 ((.bool false)) rfl ((congrArg Value.bool (decide_eq_false (fun h => h hm)))) ?_)
    (refine go ?_)
    (first | refine J_callE rfl rfl rfl rfl (Tried_any b s e ((i : Int) + 1) t' (some bm) may') entA ?_ (fun _ _ _ _ _ => trivial) | refine J_call0E rfl rfl rfl (Tried_any b s e ((i : Int) + 1) t' (some bm) may') entA ?_ (fun _ _ _ _ _ => trivial) | (refine go ?_; first | refine J_callE rfl rfl rfl rfl (Tried_any b s e ((i : Int) + 1) t' (some bm) may') entA ?_ (fun _ _ _ _ _ => trivial) | refine J_call0E rfl rfl rfl (Tried_any b s e ((i : Int) + 1) t' (some bm) may') entA ?_ (fun _ _ _ _ _ => trivial)))
    rintro _ _ ⟨rfl, rfl⟩
    (refine go ?_)
    refine J_gsP rfl rfl rfl rfl ?_ ?_
    · intro hz
      (refine go ?_)
      (first | refine J_callE rfl rfl rfl rfl (May_any b s e ((i : Int) + 1) t' (some bm) may' t' (fun h => by cases h)) entA ?_ (fun _ _ _ _ _ => trivial) | refine J_call0E rfl rfl rfl (May_any b s e ((i : Int) + 1) t' (some bm) may' t' (fun h => by cases h)) entA ?_ (fun _ _ _ _ _ => trivial) | (refine go ?_; first | refine J_callE rfl rfl rfl rfl (May_any b s e ((i : Int) + 1) t' (some bm) may' t' (fun h => by cases h)) entA ?_ (fun _ _ _ _ _ => trivial) | refine J_call0E rfl rfl rfl (May_any b s e ((i : Int) + 1) t' (some bm) may' t' (fun h => by cases h)) entA ?_ (fun _ _ _ _ _ => trivial)))
      rintro _ _ ⟨rfl, rfl⟩
      rw [decide_eq_true (q2 hz)]
      (refine go ?_)
      refine K_again ih ⟨i + 1, t', some bm, may'⟩ rfl hnext (by simp only; omega) (by repeat (first | exact keep_nil | refine keep_cons rfl ?_)) entA
    intro hz
    (refine go ?_)
    refine K_again ih ⟨i + 1, t', some bm, may'⟩ rfl hnext (by simp only; omega) (by repeat (first | exact keep_nil | refine keep_cons rfl ?_)) entA
  · have hi0 : i ≠ 0 := fun h => hm (by subst h; simp)
    have htt : t' = t := q3 (decide_eq_false hm) (by rcases hti with h | h; exact absurd h hi0; exact h)
    subst htt
    (first | refine J_slot 76 ((.bool true)) rfl ((congrArg Value.bool (decide_eq_true hm))) ?_ | refine K_slot 76 ((.bool true)) rfl ((congrArg Value.bool (decide_eq_true hm))) ?_)
    (refine go ?_)
    (first | refine J_callE rfl rfl rfl rfl (Tried_any b s e ((i : Int) + 1) t' (some bm) may') entA ?_ (fun _ _ _ _ _ => trivial) | refine J_call0E rfl rfl rfl (Tried_any b s e ((i : Int) + 1) t' (some bm) may') entA ?_ (fun _ _ _ _ _ => trivial) | (refine go ?_; first | refine J_callE rfl rfl rfl rfl (Tried_any b s e ((i : Int) + 1) t' (some bm) may') entA ?_ (fun _ _ _ _ _ => trivial) | refine J_call0E rfl rfl rfl (Tried_any b s e ((i : Int) + 1) t' (some bm) may') entA ?_ (fun _ _ _ _ _ => trivial)))
    rintro _ _ ⟨rfl, rfl⟩
    (refine go ?_)
    (first | refine J_slot 81 ((.bool false)) rfl ((by simp)) ?_ | refine K_slot 81 ((.bool false)) rfl ((by simp)) ?_)
    (refine go ?_)
    (first | refine J_callE rfl rfl rfl rfl (Tried_any b s e ((i : Int) + 1) t' (some bm) may') entA ?_ (fun _ _ _ _ _ => trivial) | refine J_call0E rfl rfl rfl (Tried_any b s e ((i : Int) + 1) t' (some bm) may') entA ?_ (fun _ _ _ _ _ => trivial) | (refine go ?_; first | refine J_callE rfl rfl rfl rfl (Tried_any b s e ((i : Int) + 1) t' (some bm) may') entA ?_ (fun _ _ _ _ _ => trivial) | refine J_call0E rfl rfl rfl (Tried_any b s e ((i : Int) + 1) t' (some bm) may') entA ?_ (fun _ _ _ _ _ => trivial)))
    rintro _ _ ⟨rfl, rfl⟩
    (refine go ?_)
    refine J_gsP rfl rfl rfl rfl ?_ ?_
    · intro hz
      (refine go ?_)
      (first | refine J_callE rfl rfl rfl rfl (May_any b s e ((i : Int) + 1) t' (some bm) may' t' (fun h => by cases h)) entA ?_ (fun _ _ _ _ _ => trivial) | refine J_call0E rfl rfl rfl (May_any b s e ((i : Int) + 1) t' (some bm) may' t' (fun h => by cases h)) entA ?_ (fun _ _ _ _ _ => trivial) | (refine go ?_; first | refine J_callE rfl rfl rfl rfl (May_any b s e ((i : Int) + 1) t' (some bm) may' t' (fun h => by cases h)) entA ?_ (fun _ _ _ _ _ => trivial) | refine J_call0E rfl rfl rfl (May_any b s e ((i : Int) + 1) t' (some bm) may' t' (fun h => by cases h)) entA ?_ (fun _ _ _ _ _ => trivial)))
      rintro _ _ ⟨rfl, rfl⟩
      rw [decide_eq_true (q2 hz)]
      (refine go ?_)
      refine K_again ih ⟨i + 1, t', some bm, may'⟩ rfl hnext (by simp only; omega) (by repeat (first | exact keep_nil | refine keep_cons rfl ?_)) entA
    intro hz
    (refine go ?_)
    refine K_again ih ⟨i + 1, t', some bm, may'⟩ rfl hnext (by simp only; omega) (by repeat (first | exact keep_nil | refine keep_cons rfl ?_)) entA
end Go.Proofs.Ytpacpkpkinmjcaa
