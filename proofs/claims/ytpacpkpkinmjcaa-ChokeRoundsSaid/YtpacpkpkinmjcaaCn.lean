/- choke, part n: the wheels. -/
import Derived.Test.YtpacpkpkinmjcaaCl
set_option linter.unusedVariables false
set_option linter.unusedSimpArgs false
namespace Go.Proofs.Ytpacpkpkinmjcaa
open Go Go.SL
/-- The program's wheel; the reference's. -/
def whM (mo : Option Nat) (may : List Int) : HP := match mo with
  | none => emp
  | some bm => mapR (Value.int .i64) bm (stL may)
def wh (b : Nat) (s e r t : Int) (mo : Option Nat) (may : List Int) : HP := star (pts b (cl [.int .i64 s, .int .i64 e, .int .i64 r, .int .i64 t, .map mo] 73)) (whM mo may)
def rw14 (b : Nat) (s e r t : Int) (v : Value) (may : List Int) : HP := star (pts b (cl [.int .i64 s, .int .i64 e, .int .i64 r, v, .int .i64 t] 48)) (slc 3 1 v may.length (iV may))
def newE (s e : Int) : Int := if s < 1 ∨ 16 < s ∨ e < 1 ∨ 1000 < e then 1 else 0
attribute [local irreducible] J K Ctr Ends pts slc mapR mapI sbRow stock arrS loopP CtrY belowN mixV nextS chooseA rank

theorem New_any (s e : Int) : Ctr Try.prog 13 [.int .i64 s, .int .i64 e] [] (fun r H => (newE s e = 1 ∧ r = .tuple #[.pointer none, .int .i64 1] ∧ H = []) ∨ (newE s e = 0 ∧ ∃ b, r = .tuple #[ptr b, .int .i64 0] ∧ H = [wh b s e 0 0 none []])) := by
  refine Ctr.enter Try.func13 (by kernel_rfl) rfl Try.ntmps13 rfl rfl ?_
  intro G F R hE
  repeat' (first | (with_reducible intro _hh) | refine go1 ?_ | refine J_fork ?_ ?_ | refine J_gsP rfl rfl rfl rfl ?_ ?_ | refine K_condP rfl rfl ?_ ?_)
  · (first | refine K_return hE Try.func13 rfl _ rfl (.inl ⟨by unfold newE; rw [if_pos (by omega)], rfl, rfl⟩) entA | refine K_fallEnd hE Try.func13 rfl _ rfl (.inl ⟨by unfold newE; rw [if_pos (by omega)], rfl, rfl⟩) entA)
  · (first | refine K_return hE Try.func13 rfl _ rfl (.inl ⟨by unfold newE; rw [if_pos (by omega)], rfl, rfl⟩) entA | refine K_fallEnd hE Try.func13 rfl _ rfl (.inl ⟨by unfold newE; rw [if_pos (by omega)], rfl, rfl⟩) entA)
  · (first | refine K_return hE Try.func13 rfl _ rfl (.inl ⟨by unfold newE; rw [if_pos (by omega)], rfl, rfl⟩) entA | refine K_fallEnd hE Try.func13 rfl _ rfl (.inl ⟨by unfold newE; rw [if_pos (by omega)], rfl, rfl⟩) entA)
  · (first | refine K_return hE Try.func13 rfl _ rfl (.inl ⟨by unfold newE; rw [if_pos (by omega)], rfl, rfl⟩) entA | refine K_fallEnd hE Try.func13 rfl _ rfl (.inl ⟨by unfold newE; rw [if_pos (by omega)], rfl, rfl⟩) entA)
  refine J_box rfl rfl (fun _ _ _ => trivial) ?_
  intro b
  (refine go ?_)
  refine K_ent (Ent.addEmp _) ?_
  refine K_ent (Ent.pick [1, 0] rfl) ?_
  refine K_ent (Ent.join _ _ _) ?_
  (first | refine K_return hE Try.func13 rfl _ rfl (.inr ⟨by unfold newE; rw [if_neg (by omega)], b, rfl, rfl⟩) entA | refine K_fallEnd hE Try.func13 rfl _ rfl (.inr ⟨by unfold newE; rw [if_neg (by omega)], b, rfl, rfl⟩) entA)
theorem refNew_any (s e : Int) : Ctr Try.prog 14 [.int .i64 s, .int .i64 e] [] (fun r H => (newE s e = 1 ∧ r = .tuple #[.pointer none, .int .i64 1] ∧ H = []) ∨ (newE s e = 0 ∧ ∃ b, r = .tuple #[ptr b, .int .i64 0] ∧ H = [rw14 b s e 0 0 (.slice none 0 0) []])) := by
  refine Ctr.enter Try.func14 (by kernel_rfl) rfl Try.ntmps14 rfl rfl ?_
  intro G F R hE
  repeat' (first | (with_reducible intro _hh) | refine go1 ?_ | refine J_fork ?_ ?_ | refine J_gsP rfl rfl rfl rfl ?_ ?_ | refine K_condP rfl rfl ?_ ?_)
  · (first | refine K_return hE Try.func14 rfl _ rfl (.inl ⟨by unfold newE; rw [if_pos (by omega)], rfl, rfl⟩) entA | refine K_fallEnd hE Try.func14 rfl _ rfl (.inl ⟨by unfold newE; rw [if_pos (by omega)], rfl, rfl⟩) entA)
  · (first | refine K_return hE Try.func14 rfl _ rfl (.inl ⟨by unfold newE; rw [if_pos (by omega)], rfl, rfl⟩) entA | refine K_fallEnd hE Try.func14 rfl _ rfl (.inl ⟨by unfold newE; rw [if_pos (by omega)], rfl, rfl⟩) entA)
  · (first | refine K_return hE Try.func14 rfl _ rfl (.inl ⟨by unfold newE; rw [if_pos (by omega)], rfl, rfl⟩) entA | refine K_fallEnd hE Try.func14 rfl _ rfl (.inl ⟨by unfold newE; rw [if_pos (by omega)], rfl, rfl⟩) entA)
  · (first | refine K_return hE Try.func14 rfl _ rfl (.inl ⟨by unfold newE; rw [if_pos (by omega)], rfl, rfl⟩) entA | refine K_fallEnd hE Try.func14 rfl _ rfl (.inl ⟨by unfold newE; rw [if_pos (by omega)], rfl, rfl⟩) entA)
  refine J_box rfl rfl (fun _ _ _ => trivial) ?_
  intro b
  (refine go ?_)
  refine K_ent (slc_lift 3 1 none _) ?_
  refine K_ent (Ent.pick [1, 0] rfl) ?_
  refine K_ent (Ent.join _ _ _) ?_
  (first | refine K_return hE Try.func14 rfl _ rfl (.inr ⟨by unfold newE; rw [if_neg (by omega)], b, rfl, rfl⟩) entA | refine K_fallEnd hE Try.func14 rfl _ rfl (.inr ⟨by unfold newE; rw [if_neg (by omega)], b, rfl, rfl⟩) entA)
theorem Tried_any (b : Nat) (s e r t : Int) (mo : Option Nat) (may : List Int) : Ctr Try.prog 17 [ptr b] [wh b s e r t mo may] (fun v H => v = .int .i64 t ∧ H = [wh b s e r t mo may]) := by
  refine Ctr.enter Try.func17 (by kernel_rfl) rfl Try.ntmps17 rfl rfl ?_
  intro G F R hE
  refine K_ent (Ent.part _ _ _) ?_
  (refine go ?_)
  refine K_ent (Ent.join _ _ _) ?_
  (first | refine K_return hE Try.func17 rfl _ rfl ⟨rfl, rfl⟩ entA | refine K_fallEnd hE Try.func17 rfl _ rfl ⟨rfl, rfl⟩ entA)
theorem May_any (b : Nat) (s e r t : Int) (mo : Option Nat) (may : List Int) (n : Int) (hmo : mo = none → may = []) : Ctr Try.prog 18 [ptr b, .int .i64 n] [wh b s e r t mo may] (fun v H => v = .bool (decide (n ∈ may)) ∧ H = [wh b s e r t mo may]) := by
  have hki : KeyOk Try.prog 3 (Value.int .i64) := keyInt Try.underlying3
  refine Ctr.enter Try.func18 (by kernel_rfl) rfl Try.ntmps18 rfl rfl ?_
  intro G F R hE
  refine K_ent (Ent.part _ _ _) ?_
  cases mo with
  | none =>
    have := hmo rfl
    subst this
    (refine go ?_)
    refine J_lookupNil (U := tab) (key := n) rfl hki rfl rfl rfl rfl rfl rfl rfl ?_
    (refine go ?_)
    refine K_ent (Ent.join _ _ _) ?_
    (first | refine K_return hE Try.func18 rfl _ rfl ⟨by simp; rfl, rfl⟩ entA | refine K_fallEnd hE Try.func18 rfl _ rfl ⟨by simp; rfl, rfl⟩ entA)
  | some bm =>
    (refine go ?_)
    refine J_lookup (U := tab) (key := n) 1 rfl hki rfl rfl rfl rfl rfl rfl rfl rfl ?_
    (refine go ?_)
    (first | refine J_slot 4 ((.bool (decide (n ∈ may)))) rfl ((stL_look may n)) ?_ | refine K_slot 4 ((.bool (decide (n ∈ may)))) rfl ((stL_look may n)) ?_)
    refine K_ent (Ent.pick [1, 0] rfl) ?_
    refine K_ent (Ent.pick [1, 0] rfl) ?_
    refine K_ent (Ent.join _ _ _) ?_
    (first | refine K_return hE Try.func18 rfl _ rfl ⟨rfl, rfl⟩ entA | refine K_fallEnd hE Try.func18 rfl _ rfl ⟨rfl, rfl⟩ entA)
theorem refMay_any (b : Nat) (s e r t : Int) (v : Value) (may : List Int) (n : Int) (hl : may.length ≤ 1000000000) : Ctr Try.prog 19 [ptr b, .int .i64 n] [rw14 b s e r t v may] (fun w H => w = .bool (decide (n ∈ may)) ∧ H = [rw14 b s e r t v may]) := by
  refine Ctr.enter Try.func19 (by kernel_rfl) rfl Try.ntmps19 rfl rfl ?_
  intro G F R hE
  refine K_ent (Ent.part _ _ _) ?_
  (first | refine J_shape 1 rfl ?_ | refine K_shape 1 rfl ?_)
  rintro va vc rfl
  (refine go ?_)
  refine J_slcVw 1 rfl ?_
  intro hv
  (first | refine J_callE rfl rfl rfl rfl (has_any _ _ may n hv hl) entA ?_ (fun _ _ _ _ _ => trivial) | refine J_call0E rfl rfl rfl (has_any _ _ may n hv hl) entA ?_ (fun _ _ _ _ _ => trivial) | (refine go ?_; first | refine J_callE rfl rfl rfl rfl (has_any _ _ may n hv hl) entA ?_ (fun _ _ _ _ _ => trivial) | refine J_call0E rfl rfl rfl (has_any _ _ may n hv hl) entA ?_ (fun _ _ _ _ _ => trivial)))
  rintro _ _ ⟨rfl, rfl⟩
  (refine go ?_)
  refine K_ent (Ent.pick [1, 0] rfl) ?_
  refine K_ent (Ent.join _ _ _) ?_
  (first | refine K_return hE Try.func19 rfl _ rfl ⟨rfl, rfl⟩ entA | refine K_fallEnd hE Try.func19 rfl _ rfl ⟨rfl, rfl⟩ entA)
theorem Round_any (A : HP) (v : Value) (l : List Rt) (b : Nat) (s e r t seed : Int) (mo : Option Nat) (may : List Int) (hv : Vw A v l.length (rV l)) (hl : l.length ≤ 9223372036854775807) (hs : i64 s) (ht : i64 t) (he : 1 ≤ e) (hr : 0 ≤ r ∧ r ≤ 1000000000) :
    Ctr Try.prog 15 [ptr b, v, .int .u64 seed] [wh b s e r t mo may, A]
      (fun u H => ((chooseA l s t (decide (r % e = 0)) seed).2.2 ≠ 0 ∧ u = .tuple #[.slice none 0 0, .int .i64 (chooseA l s t (decide (r % e = 0)) seed).2.2] ∧ H = [wh b s e r t mo may, A]) ∨
        ((chooseA l s t (decide (r % e = 0)) seed).2.2 = 0 ∧ ∃ w bm, u = .tuple #[w, .int .i64 0] ∧ H = [wh b s e (r + 1) (chooseA l s t (decide (r % e = 0)) seed).2.1 (some bm) (chooseA l s t (decide (r % e = 0)) seed).1, slc 3 1 w (chooseA l s t (decide (r % e = 0)) seed).1.length (iV (chooseA l s t (decide (r % e = 0)) seed).1), A])) := by
  have hki : KeyOk Try.prog 3 (Value.int .i64) := keyInt Try.underlying3
  obtain ⟨a, c0, rfl⟩ := hv.shape
  have h1 := Choose_any A (.slice a l.length c0) l s t (decide (r % e = 0)) seed hv hl hs ht
  have h65 : (chooseA l s t (decide (r % e = 0)) seed).2.2 = 0 → (chooseA l s t (decide (r % e = 0)) seed).1.length ≤ 65 := fun h => by
    have h2 := (choose_ok h).2
    have h3 := (right_zero (l := l) (by rw [h2]; simp)).1
    have h4 := chooseA_len l s t (decide (r % e = 0)) seed
    omega
  generalize chooseA l s t (decide (r % e = 0)) seed = res at h1 h65 ⊢
  obtain ⟨rl, rt, re⟩ := res
  simp only at h1 h65 ⊢
  refine Ctr.enter Try.func15 (by kernel_rfl) rfl Try.ntmps15 rfl rfl ?_
  intro G F R hE
  refine K_ent (Ent.part _ _ _) ?_
  (refine go ?_)
  refine K_drawA (fun w => Sat G w ([pts b (cl [.int .i64 s, .int .i64 e, .int .i64 r, .int .i64 t, .map mo] 73)])) (.st 0 (.st 1 (.st 2 (.st 3 (.st 4 (.st 5 (.st 6 (.st 7 (.st 8 (.st 9 (.st 10 (.st 11 (.st 12 (.st 13 (.st 14 (.st 15 (.st 16 (.st 17 (.st 18 (.st 19 (.act 20 (.st 21 (.st 22 (.st 23 (.st 24 (.st 25 (.st 26 (.st 27 .nil)))))))))))))))))))))))))))) rfl (by kernel_rfl) (by kernel_rfl) (by kernel_rfl) (fun w hw => hw.ent entA) ?_
  (repeat (first | refine go1 ?_ | refine J_fork ?_ ?_ | refine J_rem rfl rfl rfl (by omega) (by omega) ?_))
  (first | refine J_callE rfl rfl rfl rfl (h1) entA ?_ (fun _ _ w hp hw => by obtain ⟨_, rfl, rfl⟩ := hp; exact hw.ent entA) | refine J_call0E rfl rfl rfl (h1) entA ?_ (fun _ _ w hp hw => by obtain ⟨_, rfl, rfl⟩ := hp; exact hw.ent entA))
  rintro _ _ ⟨w, rfl, rfl⟩
  (refine go ?_)
  by_cases hz : re = 0
  case neg =>
    (first | refine J_slot 39 ((.bool true)) rfl ((congrArg Value.bool (decide_eq_true hz))) ?_ | refine K_slot 39 ((.bool true)) rfl ((congrArg Value.bool (decide_eq_true hz))) ?_)
    (refine go ?_)
    refine K_ent (Ent.pick [2, 3] rfl) ?_
    refine K_ent (Ent.join _ _ _) ?_
    (first | refine K_return hE Try.func15 rfl _ rfl (.inl ⟨hz, rfl, rfl⟩) entA | refine K_fallEnd hE Try.func15 rfl _ rfl (.inl ⟨hz, rfl, rfl⟩) entA)
  subst hz
  have h65' := h65 rfl
  (first | refine J_shape 0 rfl ?_ | refine K_shape 0 rfl ?_)
  rintro wa wc rfl
  (refine go ?_)
  refine J_makeMap rfl (fun _ _ _ => trivial) ?_
  intro bm
  (first | refine K_ent (Ent.fold (B := [_]) (A := mapR (Value.int .i64) bm (stL [])) (fun h hs => ⟨h, sub.refl h, mapR_new (Value.int .i64) bm h (Sep_one hs)⟩)) ?_ | refine J_ent (Ent.fold (B := [_]) (A := mapR (Value.int .i64) bm (stL [])) (fun h hs => ⟨h, sub.refl h, mapR_new (Value.int .i64) bm h (Sep_one hs)⟩)) ?_)
  refine J_ent (Ent.pick [3, 0, 1, 2] rfl) ?_
  (refine go ?_)
  refine K_loop (fun i : Nat => i ≤ rl.length) (fun i => rl.length - i) (fun i => [(0, ptr b), (8, .slice wa rl.length wc), (56, .slice wa rl.length wc), (57, .int .i64 rl.length), (58, .int .i64 (i : Int))]) (fun i => pts b (cl [.int .i64 s, .int .i64 e, .int .i64 (r + 1), .int .i64 rt, .map (some bm)] 73) :: mapR (Value.int .i64) bm (stL (rl.take i)) :: slc 3 1 (.slice wa rl.length wc) rl.length (iV rl) :: A :: F) 0 (Nat.zero_le _) rfl (by repeat (first | exact keep_nil | refine keep_cons rfl ?_)) entA ?_
  rintro i hi ih
  (refine go ?_)
  refine K_condP rfl rfl ?_ ?_
  · intro hlt
    have hi' : i < rl.length := by omega
    obtain ⟨x, hx⟩ : ∃ x, rl[i]? = some x := ⟨rl[i], by simp [hi']⟩
    refine K_slcF 2 rfl (by omega) ?_
    intro ob oo ooc he hle2 hcl2 hvo
    simp only [Value.slice.injEq, true_and] at he
    obtain ⟨rfl, rfl⟩ := he
    (refine go ?_)
    refine J_at1 (U := tab) i rfl rfl rfl rfl rfl rfl rfl rfl hi' ?_
    refine J_loadAt (U := tab) 2 i rfl rfl rfl hvo rfl (iV_get hx) rfl rfl ?_
    (refine go ?_)
    refine J_mapUpdate (U := tab) (key := x) 1 hki (fun _ _ => trivial) rfl rfl rfl rfl rfl rfl rfl rfl ?_
    rw [← stL_add, show rl.take i ++ [x] = rl.take (i + 1) from by rw [List.take_add_one, hx]; rfl]
    (refine go ?_)
    refine K_again ih (i + 1) rfl (by omega) (by omega) (by repeat (first | exact keep_nil | refine keep_cons rfl ?_)) entA
  intro hge
  have hil : i = rl.length := by omega
  subst hil
  rw [List.take_length]
  (refine go ?_)
  refine K_ent (Ent.join _ _ _) ?_
  (first | refine K_return hE Try.func15 rfl _ rfl (.inr ⟨rfl, _, bm, rfl, rfl⟩) entA | refine K_fallEnd hE Try.func15 rfl _ rfl (.inr ⟨rfl, _, bm, rfl, rfl⟩) entA)
theorem refRound_any (A : HP) (v : Value) (l : List Rt) (b : Nat) (s e r t seed : Int) (lv : Value) (may : List Int) (hv : Vw A v l.length (rV l)) (hl : l.length ≤ 9223372036854775807) (hs : i64 s) (ht : i64 t) (he : 1 ≤ e) (hr : 0 ≤ r ∧ r ≤ 1000000000) :
    Ctr Try.prog 16 [ptr b, v, .int .u64 seed] [rw14 b s e r t lv may, A]
      (fun u H => ((chooseA l s t (decide (r % e = 0)) seed).2.2 ≠ 0 ∧ u = .tuple #[.slice none 0 0, .int .i64 (chooseA l s t (decide (r % e = 0)) seed).2.2] ∧ H = [rw14 b s e r t lv may, A]) ∨
        ((chooseA l s t (decide (r % e = 0)) seed).2.2 = 0 ∧ ∃ w, u = .tuple #[w, .int .i64 0] ∧ H = [rw14 b s e (r + 1) (chooseA l s t (decide (r % e = 0)) seed).2.1 w (chooseA l s t (decide (r % e = 0)) seed).1, A])) := by
  obtain ⟨a, c0, rfl⟩ := hv.shape
  have h1 := refChoose_any A (.slice a l.length c0) l s t (decide (r % e = 0)) seed hv hl hs ht
  generalize chooseA l s t (decide (r % e = 0)) seed = res at h1 ⊢
  obtain ⟨rl, rt, re⟩ := res
  simp only at h1 ⊢
  refine Ctr.enter Try.func16 (by kernel_rfl) rfl Try.ntmps16 rfl rfl ?_
  intro G F R hE
  refine K_ent (Ent.part _ _ _) ?_
  (first | refine J_shape 1 rfl ?_ | refine K_shape 1 rfl ?_)
  rintro la lc rfl
  (refine go ?_)
  refine K_drawA (fun w => Sat G w ([pts b (cl [.int .i64 s, .int .i64 e, .int .i64 r, .slice la may.length lc, .int .i64 t] 48)])) (.st 0 (.st 1 (.st 2 (.st 3 (.st 4 (.st 5 (.st 6 (.st 7 (.st 8 (.st 9 (.st 10 (.st 11 (.st 12 (.st 13 (.st 14 (.st 15 (.st 16 (.st 17 (.st 18 (.st 19 (.act 20 (.st 21 (.st 22 (.st 23 (.st 24 (.st 25 (.st 26 (.st 27 .nil)))))))))))))))))))))))))))) rfl (by kernel_rfl) (by kernel_rfl) (by kernel_rfl) (fun w hw => hw.ent entA) ?_
  (repeat (first | refine go1 ?_ | refine J_fork ?_ ?_ | refine J_rem rfl rfl rfl (by omega) (by omega) ?_))
  (first | refine J_callE rfl rfl rfl rfl (h1) entA ?_ (fun _ _ w hp hw => by obtain ⟨_, rfl, rfl⟩ := hp; exact hw.ent entA) | refine J_call0E rfl rfl rfl (h1) entA ?_ (fun _ _ w hp hw => by obtain ⟨_, rfl, rfl⟩ := hp; exact hw.ent entA))
  rintro _ _ ⟨w, rfl, rfl⟩
  (refine go ?_)
  by_cases hz : re = 0
  case neg =>
    (first | refine J_slot 37 ((.bool true)) rfl ((congrArg Value.bool (decide_eq_true hz))) ?_ | refine K_slot 37 ((.bool true)) rfl ((congrArg Value.bool (decide_eq_true hz))) ?_)
    (refine go ?_)
    refine K_ent (Ent.pick [2, 3] rfl) ?_
    refine K_ent (Ent.join _ _ _) ?_
    (first | refine K_return hE Try.func16 rfl _ rfl (.inl ⟨hz, rfl, rfl⟩) entA | refine K_fallEnd hE Try.func16 rfl _ rfl (.inl ⟨hz, rfl, rfl⟩) entA)
  subst hz
  (first | refine J_shape 0 rfl ?_ | refine K_shape 0 rfl ?_)
  rintro wa wc rfl
  refine K_ent (Ent.pick [2, 0] rfl) ?_
  (refine go ?_)
  refine K_ent (Ent.join _ _ _) ?_
  (first | refine K_return hE Try.func16 rfl _ rfl (.inr ⟨rfl, _, rfl, rfl⟩) entA | refine K_fallEnd hE Try.func16 rfl _ rfl (.inr ⟨rfl, _, rfl, rfl⟩) entA)
end Go.Proofs.Ytpacpkpkinmjcaa
