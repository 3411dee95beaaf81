/- choke, part q: ChokeStays. -/
import Derived.Test.YtpacpkpkinmjcaaCp
set_option linter.unusedVariables false
set_option linter.unusedSimpArgs false
namespace Go.Proofs.Ytpacpkpkinmjcaa
open Go Go.SL
theorem choose_bad {l : List Rt} {s t : Int} {turn : Bool} {seed : Int} (hs : 1 ≤ s ∧ s ≤ 16) (h : rightA l ≠ 0) : (chooseA l s t turn seed).2.2 = rightA l := by
  unfold chooseA
  rw [if_neg (by omega), if_pos h]
attribute [local irreducible] J K Ctr Ends pts slc mapR mapI sbRow stock arrS loopP CtrY belowN mixV nextS chooseA rank wh TI newE rightA

set_option maxRecDepth 20000 in
theorem ChokeStays_any (X : HP) (v u : Value) (l o : List Rt) (s e : Int) (hv : Vw X v l.length (rV l)) (hu : Vw X u o.length (rV o)) (hl : l.length ≤ 9223372036854775807) (hol : o.length ≤ 9223372036854775807) (hs : i64 s) (he : i64 e) :
    Ctr Try.prog 8 [v, u, .agg #[.int .i64 s, .int .i64 e] ] [X] (fun r H => r = .bool true ∧ H = [X]) := by
  obtain ⟨a, c0, rfl⟩ := hv.shape
  obtain ⟨a2, c2, rfl⟩ := hu.shape
  refine Ctr.enter Try.func8 (by kernel_rfl) rfl Try.ntmps8 rfl rfl ?_
  intro G F R hE
  refine K_regionA rfl ?_
  refine J_box rfl rfl (fun _ _ _ => trivial) ?_
  intro bx
  (refine go ?_)
  (first | refine J_callE rfl rfl rfl rfl (awake_any) entA ?_ (fun _ _ _ _ _ => trivial) | refine J_call0E rfl rfl rfl (awake_any) entA ?_ (fun _ _ _ _ _ => trivial) | (refine go ?_; first | refine J_callE rfl rfl rfl rfl (awake_any) entA ?_ (fun _ _ _ _ _ => trivial) | refine J_call0E rfl rfl rfl (awake_any) entA ?_ (fun _ _ _ _ _ => trivial)))
  rintro _ _ ⟨rfl, rfl⟩
  (repeat (first | refine go1 ?_ | refine J_fork ?_ ?_ | refine J_indexArr (U := tab) rfl rfl rfl rfl rfl rfl (by omega) (by omega) ?_))
  (first | refine J_callE rfl rfl rfl rfl (New_any s e) entA ?_ (fun _ _ _ _ _ => trivial) | refine J_call0E rfl rfl rfl (New_any s e) entA ?_ (fun _ _ _ _ _ => trivial) | (refine go ?_; first | refine J_callE rfl rfl rfl rfl (New_any s e) entA ?_ (fun _ _ _ _ _ => trivial) | refine J_call0E rfl rfl rfl (New_any s e) entA ?_ (fun _ _ _ _ _ => trivial)))
  rintro _ _ (⟨hn, rfl, rfl⟩ | ⟨hn, b, rfl, rfl⟩)
  · (refine go ?_)
    (first | refine K_return hE Try.func8 rfl _ rfl ⟨rfl, rfl⟩ entA | refine K_fallEnd hE Try.func8 rfl _ rfl ⟨rfl, rfl⟩ entA)
  have hse : 1 ≤ s ∧ s ≤ 16 ∧ 1 ≤ e ∧ e ≤ 1000 := by
    unfold newE at hn
    split at hn
    · cases hn
    · omega
  (refine go ?_)
  refine J_gsP rfl rfl rfl rfl ?_ ?_
  · intro h50
    (refine go ?_)
    (first | refine K_return hE Try.func8 rfl _ rfl ⟨rfl, rfl⟩ entA | refine K_fallEnd hE Try.func8 rfl _ rfl ⟨rfl, rfl⟩ entA)
  intro h64
  (refine go ?_)
  refine K_condP rfl rfl ?_ ?_
  · intro h200
    (refine go ?_)
    (first | refine K_return hE Try.func8 rfl _ rfl ⟨rfl, rfl⟩ entA | refine K_fallEnd hE Try.func8 rfl _ rfl ⟨rfl, rfl⟩ entA)
  intro h200
  (refine go ?_)
  refine K_loop (fun i : Nat => i ≤ l.length) (fun i => l.length - i) (fun i => [(0, .slice a l.length c0), (1, .slice a2 o.length c2), (8, ptr b), (10, .int .i64 (i : Int))]) (fun i => wh b s e 0 0 none [] :: X :: F) 0 (Nat.zero_le _) rfl (by repeat (first | exact keep_nil | refine keep_cons rfl ?_)) entA ?_
  rintro i hi ih
  (refine go ?_)
  refine K_condP rfl rfl ?_ ?_
  · intro hlt
    have hi' : i < l.length := by omega
    obtain ⟨x, hx⟩ : ∃ x, l[i]? = some x := ⟨l[i], by simp [hi']⟩
    obtain ⟨b1, o1, c', he1⟩ := hv.some (rne hi')
    simp only [Value.slice.injEq, true_and] at he1
    obtain ⟨rfl, rfl⟩ := he1
    (repeat (first | refine go1 ?_ | refine J_fork ?_ ?_ | refine J_at (U := tab) i 3 rfl rfl rfl rfl rfl rfl rfl rfl hi' ?_ | (refine J_isLoad ?_; first | refine J_loadAt (U := tab) 1 (i * 3 + 1) rfl rfl rfl hv (Nat.add_assoc _ _ _) (rtB hx) rfl rfl ?_ | refine J_loadAt (U := tab) 1 (i * 3 + 0) rfl rfl rfl hv (Nat.add_assoc _ _ _) (rtI hx) rfl rfl ?_ | refine J_loadAt (U := tab) 1 (i * 3 + 2) rfl rfl rfl hv (Nat.add_assoc _ _ _) (rtW hx) rfl rfl ?_)))
    (first | refine J_callE rfl rfl rfl rfl (May_any b s e 0 0 none [] x.id (fun _ => rfl)) entA ?_ (fun _ _ _ _ _ => trivial) | refine J_call0E rfl rfl rfl (May_any b s e 0 0 none [] x.id (fun _ => rfl)) entA ?_ (fun _ _ _ _ _ => trivial) | (refine go ?_; first | refine J_callE rfl rfl rfl rfl (May_any b s e 0 0 none [] x.id (fun _ => rfl)) entA ?_ (fun _ _ _ _ _ => trivial) | refine J_call0E rfl rfl rfl (May_any b s e 0 0 none [] x.id (fun _ => rfl)) entA ?_ (fun _ _ _ _ _ => trivial)))
    rintro _ _ ⟨rfl, rfl⟩
    rw [decide_eq_false (show ¬ x.id ∈ ([] : List Int) from by simp)]
    (refine go ?_)
    refine K_again ih (i + 1) rfl (by omega) (by omega) (by repeat (first | exact keep_nil | refine keep_cons rfl ?_)) entA
  intro hge
  clear ih
  (refine go ?_)
  (first | refine J_callE rfl rfl rfl rfl (Round_any X (.slice a l.length c0) l b s e 0 0 3 none [] hv hl hs (by decide) (by omega) (by omega)) entA ?_ (fun _ _ _ _ _ => trivial) | refine J_call0E rfl rfl rfl (Round_any X (.slice a l.length c0) l b s e 0 0 3 none [] hv hl hs (by decide) (by omega) (by omega)) entA ?_ (fun _ _ _ _ _ => trivial) | (refine go ?_; first | refine J_callE rfl rfl rfl rfl (Round_any X (.slice a l.length c0) l b s e 0 0 3 none [] hv hl hs (by decide) (by omega) (by omega)) entA ?_ (fun _ _ _ _ _ => trivial) | refine J_call0E rfl rfl rfl (Round_any X (.slice a l.length c0) l b s e 0 0 3 none [] hv hl hs (by decide) (by omega) (by omega)) entA ?_ (fun _ _ _ _ _ => trivial)))
  rintro _ _ (⟨h1, rfl, rfl⟩ | ⟨h1, w, bm, rfl, rfl⟩)
  · generalize (chooseA l s 0 (decide ((0 : Int) % e = 0)) 3).2.2 = er at h1
    (refine go ?_)
    (first | refine J_slot 76 ((.bool true)) rfl ((congrArg Value.bool (decide_eq_true h1))) ?_ | refine K_slot 76 ((.bool true)) rfl ((congrArg Value.bool (decide_eq_true h1))) ?_)
    (refine go ?_)
    (first | refine J_callE rfl rfl rfl rfl (Tried_any b s e 0 0 none []) entA ?_ (fun _ _ _ _ _ => trivial) | refine J_call0E rfl rfl rfl (Tried_any b s e 0 0 none []) entA ?_ (fun _ _ _ _ _ => trivial) | (refine go ?_; first | refine J_callE rfl rfl rfl rfl (Tried_any b s e 0 0 none []) entA ?_ (fun _ _ _ _ _ => trivial) | refine J_call0E rfl rfl rfl (Tried_any b s e 0 0 none []) entA ?_ (fun _ _ _ _ _ => trivial)))
    rintro _ _ ⟨rfl, rfl⟩
    (refine go ?_)
    (first | refine K_return hE Try.func8 rfl _ rfl ⟨rfl, rfl⟩ entA | refine K_fallEnd hE Try.func8 rfl _ rfl ⟨rfl, rfl⟩ entA)
  have h65 : (chooseA l s 0 (decide ((0 : Int) % e = 0)) 3).1.length ≤ 65 := by
    have h4 := chooseA_len l s 0 (decide ((0 : Int) % e = 0)) 3
    omega
  have q4 := tried_i64 h1
  generalize (chooseA l s 0 (decide ((0 : Int) % e = 0)) 3).2.1 = t' at q4
  generalize (chooseA l s 0 (decide ((0 : Int) % e = 0)) 3).1 = may' at h65
  (first | refine J_shape 1 rfl ?_ | refine K_shape 1 rfl ?_)
  rintro wa wc rfl
  (refine go ?_)
  (first | refine J_callE rfl rfl rfl rfl (Tried_any b s e (0 + 1) t' (some bm) may') entA ?_ (fun _ _ _ _ _ => trivial) | refine J_call0E rfl rfl rfl (Tried_any b s e (0 + 1) t' (some bm) may') entA ?_ (fun _ _ _ _ _ => trivial) | (refine go ?_; first | refine J_callE rfl rfl rfl rfl (Tried_any b s e (0 + 1) t' (some bm) may') entA ?_ (fun _ _ _ _ _ => trivial) | refine J_call0E rfl rfl rfl (Tried_any b s e (0 + 1) t' (some bm) may') entA ?_ (fun _ _ _ _ _ => trivial)))
  rintro _ _ ⟨rfl, rfl⟩
  (refine go ?_)
  (first | refine J_callE rfl rfl rfl rfl (refRight_any X (.slice a2 o.length c2) o hu hol) entA ?_ (fun _ _ _ _ _ => trivial) | refine J_call0E rfl rfl rfl (refRight_any X (.slice a2 o.length c2) o hu hol) entA ?_ (fun _ _ _ _ _ => trivial) | (refine go ?_; first | refine J_callE rfl rfl rfl rfl (refRight_any X (.slice a2 o.length c2) o hu hol) entA ?_ (fun _ _ _ _ _ => trivial) | refine J_call0E rfl rfl rfl (refRight_any X (.slice a2 o.length c2) o hu hol) entA ?_ (fun _ _ _ _ _ => trivial)))
  rintro _ _ ⟨rfl, rfl⟩
  (refine go ?_)
  refine K_condP rfl rfl ?_ ?_
  · intro hok
    (refine go ?_)
    (first | refine K_return hE Try.func8 rfl _ rfl ⟨rfl, rfl⟩ entA | refine K_fallEnd hE Try.func8 rfl _ rfl ⟨rfl, rfl⟩ entA)
  intro hbad
  have h2 := choose_bad (l := o) (s := s) (t := t') (turn := decide ((0 + 1 : Int) % e = 0)) (seed := 4) ⟨hse.1, hse.2.1⟩ hbad
  (refine go ?_)
  (first | refine J_callE rfl rfl rfl rfl (Round_any X (.slice a2 o.length c2) o b s e (0 + 1) t' 4 (some bm) may' hu hol hs q4 (by omega) (by omega)) entA ?_ (fun _ _ _ _ _ => trivial) | refine J_call0E rfl rfl rfl (Round_any X (.slice a2 o.length c2) o b s e (0 + 1) t' 4 (some bm) may' hu hol hs q4 (by omega) (by omega)) entA ?_ (fun _ _ _ _ _ => trivial) | (refine go ?_; first | refine J_callE rfl rfl rfl rfl (Round_any X (.slice a2 o.length c2) o b s e (0 + 1) t' 4 (some bm) may' hu hol hs q4 (by omega) (by omega)) entA ?_ (fun _ _ _ _ _ => trivial) | refine J_call0E rfl rfl rfl (Round_any X (.slice a2 o.length c2) o b s e (0 + 1) t' 4 (some bm) may' hu hol hs q4 (by omega) (by omega)) entA ?_ (fun _ _ _ _ _ => trivial)))
  rintro _ _ (⟨h3, rfl, rfl⟩ | ⟨h3, w2, bm2, rfl, rfl⟩)
  rotate_left
  · exact absurd (h2 ▸ h3) hbad
  rw [h2]
  (refine go ?_)
  (first | refine J_slot 95 ((.bool false)) rfl ((by simp)) ?_ | refine K_slot 95 ((.bool false)) rfl ((by simp)) ?_)
  (refine go ?_)
  (first | refine J_callE rfl rfl rfl rfl (Tried_any b s e (0 + 1) t' (some bm) may') entA ?_ (fun _ _ _ _ _ => trivial) | refine J_call0E rfl rfl rfl (Tried_any b s e (0 + 1) t' (some bm) may') entA ?_ (fun _ _ _ _ _ => trivial) | (refine go ?_; first | refine J_callE rfl rfl rfl rfl (Tried_any b s e (0 + 1) t' (some bm) may') entA ?_ (fun _ _ _ _ _ => trivial) | refine J_call0E rfl rfl rfl (Tried_any b s e (0 + 1) t' (some bm) may') entA ?_ (fun _ _ _ _ _ => trivial)))
  rintro _ _ ⟨rfl, rfl⟩
  (refine go ?_)
  (first | refine J_slot 100 ((.bool false)) rfl ((by simp)) ?_ | refine K_slot 100 ((.bool false)) rfl ((by simp)) ?_)
  (refine go ?_)
  refine K_loop (fun i : Nat => i ≤ may'.length) (fun i => may'.length - i) (fun i => [(8, ptr b), (11, .slice wa may'.length wc), (17, .int .i64 (i : Int))]) (fun i => wh b s e (0 + 1) t' (some bm) may' :: slc 3 1 (.slice wa may'.length wc) may'.length (iV may') :: X :: F) 0 (Nat.zero_le _) rfl (by repeat (first | exact keep_nil | refine keep_cons rfl ?_)) entA ?_
  rintro k hk ih
  (refine go ?_)
  refine K_condP rfl rfl ?_ ?_
  · intro hlt
    have hk' : k < may'.length := by omega
    obtain ⟨x, hx⟩ : ∃ x, may'[k]? = some x := ⟨may'[k], by simp [hk']⟩
    refine K_slcF 1 rfl (by omega) ?_
    intro ob oo ooc he2 hle2 hcl2 hvo
    simp only [Value.slice.injEq, true_and] at he2
    obtain ⟨rfl, rfl⟩ := he2
    (refine go ?_)
    refine J_at1 (U := tab) k rfl rfl rfl rfl rfl rfl rfl rfl hk' ?_
    refine J_loadAt (U := tab) 1 k rfl rfl rfl hvo rfl (iV_get hx) rfl rfl ?_
    (first | refine J_callE rfl rfl rfl rfl (May_any b s e (0 + 1) t' (some bm) may' x (fun h => by cases h)) entA ?_ (fun _ _ _ _ _ => trivial) | refine J_call0E rfl rfl rfl (May_any b s e (0 + 1) t' (some bm) may' x (fun h => by cases h)) entA ?_ (fun _ _ _ _ _ => trivial) | (refine go ?_; first | refine J_callE rfl rfl rfl rfl (May_any b s e (0 + 1) t' (some bm) may' x (fun h => by cases h)) entA ?_ (fun _ _ _ _ _ => trivial) | refine J_call0E rfl rfl rfl (May_any b s e (0 + 1) t' (some bm) may' x (fun h => by cases h)) entA ?_ (fun _ _ _ _ _ => trivial)))
    rintro _ _ ⟨rfl, rfl⟩
    rw [decide_eq_true (List.mem_of_getElem? hx)]
    (refine go ?_)
    refine K_again ih (k + 1) rfl (by omega) (by omega) (by repeat (first | exact keep_nil | refine keep_cons rfl ?_)) entA
  intro hge2
  (refine go ?_)
  (first | refine K_return hE Try.func8 rfl _ rfl ⟨rfl, rfl⟩ entA | refine K_fallEnd hE Try.func8 rfl _ rfl ⟨rfl, rfl⟩ entA)
end Go.Proofs.Ytpacpkpkinmjcaa
