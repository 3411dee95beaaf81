/- choke, part m: ChokeTurned. -/
import Derived.Test.YtpacpkpkinmjcaaCk
set_option linter.unusedVariables false
set_option linter.unusedSimpArgs false
namespace Go.Proofs.Ytpacpkpkinmjcaa
open Go Go.SL
theorem right_rev (l : List Rt) : rightA l.reverse = rightA l := by
  unfold rightA
  rw [List.length_reverse, List.any_reverse, List.map_reverse]
  have : (l.map Rt.id).reverse.Nodup ↔ (l.map Rt.id).Nodup := (List.reverse_perm _).nodup_iff
  simp only [this]
theorem rank_rev (l : List Rt) : rank l.reverse = rank l := by
  refine rank_is ((rank_perm l).trans ?_) (rank_sorted l)
  unfold wantW
  exact ((List.reverse_perm l).symm.filter _).map _
theorem choose_rev (l : List Rt) (slots tried : Int) (turn : Bool) (seed : Int) : chooseA l.reverse slots tried turn seed = chooseA l slots tried turn seed := by
  unfold chooseA firstA othersA
  rw [rank_rev, right_rev]
/-- Half turned. -/
def half (l : List Rt) (i : Nat) : List Rt := l.reverse.take i ++ l.drop i
theorem half_len (l : List Rt) (i : Nat) (hi : i ≤ l.length) : (half l i).length = l.length := by
  unfold half; rw [List.length_append, List.length_take, List.length_drop, List.length_reverse]; omega
theorem half_zero (l : List Rt) : half l 0 = l := by simp [half]
theorem half_end (l : List Rt) : half l l.length = l.reverse := by
  unfold half; rw [List.drop_length, List.append_nil, List.take_of_length_le (by simp)]
theorem half_set {l : List Rt} {i : Nat} {x : Rt} (hi : i < l.length) (hx : l[l.length - 1 - i]? = some x) : (half l i).set i x = half l (i + 1) := by
  have hr : l.reverse[i]? = some x := by rw [List.getElem?_reverse hi]; exact hx
  unfold half
  rw [List.take_add_one, hr, Option.toList_some, List.append_assoc]
  have hl : (l.reverse.take i).length = i := by rw [List.length_take, List.length_reverse]; omega
  rw [List.set_append_right _ _ (by omega), hl, Nat.sub_self, List.drop_eq_getElem_cons hi]
  rfl
attribute [local irreducible] J K Ctr Ends pts slc mapR mapI sbRow stock arrS loopP CtrY belowN mixV nextS chooseA half

set_option maxRecDepth 20000 in
theorem ChokeTurned_any (X : HP) (v : Value) (l : List Rt) (p q seed : Int) (hv : Vw X v l.length (rV l)) (hl : l.length ≤ 9223372036854775807) (hp : i64 p) (hq : i64 q) :
    Ctr Try.prog 5 [v, .agg #[.int .i64 p, .int .i64 q], .int .u64 seed] [X] (fun r H => r = .bool true ∧ H = [X]) := by
  obtain ⟨a, c0, rfl⟩ := hv.shape
  refine Ctr.enter Try.func5 (by kernel_rfl) rfl Try.ntmps5 rfl rfl ?_
  intro G F R hE
  refine K_regionA rfl ?_
  refine J_box rfl rfl (fun _ _ _ => trivial) ?_
  intro bx
  (refine go ?_)
  (first | refine J_callE rfl rfl rfl rfl (awake_any) entA ?_ (fun _ _ _ _ _ => trivial) | refine J_call0E rfl rfl rfl (awake_any) entA ?_ (fun _ _ _ _ _ => trivial) | (refine go ?_; first | refine J_callE rfl rfl rfl rfl (awake_any) entA ?_ (fun _ _ _ _ _ => trivial) | refine J_call0E rfl rfl rfl (awake_any) entA ?_ (fun _ _ _ _ _ => trivial)))
  rintro _ _ ⟨rfl, rfl⟩
  (refine go ?_)
  refine K_condP rfl rfl ?_ ?_
  · intro hbig
    (refine go ?_)
    (first | refine K_return hE Try.func5 rfl _ rfl ⟨rfl, rfl⟩ entA | refine K_fallEnd hE Try.func5 rfl _ rfl ⟨rfl, rfl⟩ entA)
  intro hsm
  have h64 : l.length ≤ 64 := by omega
  (refine go ?_)
  refine J_buildSlice1 (U := tab) (cs := []) rfl rfl rfl rfl rfl rfl rfl rfl rfl (fun _ _ _ => trivial) ?_
  intro b0
  (refine go ?_)
  refine J_ent (slc_row 34 3 b0 0 0 [] [] _ rfl (Nat.le_refl _) (by simp)) ?_
  refine J_append (U := tab) (mm := l.length) (news := rV l) 0 2 rfl rfl rfl rfl rfl rfl rfl rfl rfl rfl rfl rfl hv (by rw [rV_len]; rfl) (rV_one l) (by omega) (by show _ * 24 ≤ _; omega) (fun _ => rfl) (fun _ _ _ => trivial) ?_
  intro v1
  have e1 : (0 : Nat) + l.length = l.length := by omega
  rw [e1, List.nil_append]
  (first | refine J_shape 0 rfl ?_ | refine K_shape 0 rfl ?_)
  rintro va vc rfl
  (refine go ?_)
  refine K_loop (fun i : Nat => i ≤ l.length) (fun i => l.length - i) (fun i => [(0, .slice a l.length c0), (2, .int .u64 seed), (4, ptr bx), (8, .slice va l.length vc), (9, .int .i64 (i : Int))]) (fun i => slc 34 3 (.slice va l.length vc) l.length (rV (half l i)) :: pts bx (cl [.int .i64 p, .int .i64 q] 23) :: X :: F) 0 (Nat.zero_le _) rfl (by repeat (first | exact keep_nil | refine keep_cons rfl ?_)) (by rw [half_zero]; exact entA) ?_
  rintro i hi ih
  (refine go ?_)
  refine K_condP rfl rfl ?_ ?_
  · intro hlt
    have hi' : i < l.length := by omega
    have hj : l.length - 1 - i < l.length := by omega
    obtain ⟨x, hx⟩ : ∃ x, l[l.length - 1 - i]? = some x := ⟨l[l.length - 1 - i], by simp [hj]⟩
    obtain ⟨b, o, c', he⟩ := hv.some (rne hi')
    simp only [Value.slice.injEq, true_and] at he
    obtain ⟨rfl, rfl⟩ := he
    have hhl := half_len l i (by omega)
    have hset := half_set hi' hx
    refine K_slcCases (fun a hv0 hn _ => by omega) ?_
    rintro b1 o1 c1 pre junk hvv hpre hnc hcap hcl
    simp only [Value.slice.injEq, true_and] at hvv
    obtain ⟨rfl, rfl⟩ := hvv
    have hwl : (rV (half l i)).length = l.length * 3 := by rw [rV_len, hhl]
    (refine go ?_)
    (first | refine J_slot 42 ((.int .i64 ((l.length - 1 - i : Nat) : Int))) rfl ((congrArg (Value.int .i64) (by omega))) ?_ | refine K_slot 42 ((.int .i64 ((l.length - 1 - i : Nat) : Int))) rfl ((congrArg (Value.int .i64) (by omega))) ?_)
    refine J_at (U := tab) (l.length - 1 - i) 3 rfl rfl rfl rfl rfl rfl rfl rfl hj ?_
    refine J_loadElem (U := tab) (es := rC x) 2 ((l.length - 1 - i) * 3) rfl rfl rfl hv rfl (fun q v hq => ?_) rfl rfl rfl ?_
    · have hj3 : q < 3 := by
        rcases Nat.lt_or_ge q 3 with h | h
        · exact h
        · rw [List.getElem?_eq_none (by rw [rC_len]; exact h)] at hq; cases hq
      rw [rV_eq, chunk_get rC_len hx q hj3]; exact hq
    refine J_at (U := tab) i 3 rfl rfl rfl rfl rfl rfl rfl rfl hi' ?_
    refine J_storeRow (U := tab) (l' := pre ++ rV (half l (i + 1)) ++ junk) 0 (fun _ _ => trivial) rfl rfl rfl rfl rfl rfl rfl ?_ ?_ rfl ?_
    · show o1 + i * 3 + 3 ≤ _
      rw [List.length_append, List.length_append, hwl]; omega
    · show _ = List.take (o1 + i * 3) (pre ++ rV (half l i) ++ junk) ++ rC x ++ List.drop (o1 + i * 3 + (rC x).length) (pre ++ rV (half l i) ++ junk)
      rw [← hpre, splice_mid _ _ _ _ _ (by rw [rC_len, hwl]; omega), ← hset, rV_eq, chunk_set rC_len (by omega)]
      rfl
    (first | refine K_ent (slc_closeN (sz := 3) (nn := l.length) (c := vc) hpre hnc (by rw [rV_len, half_len l (i + 1) (by omega)]; rw [hwl] at hcap; exact hcap) (by rw [rV_len, half_len l (i + 1) (by omega)]) _) ?_ | refine J_ent (slc_closeN (sz := 3) (nn := l.length) (c := vc) hpre hnc (by rw [rV_len, half_len l (i + 1) (by omega)]; rw [hwl] at hcap; exact hcap) (by rw [rV_len, half_len l (i + 1) (by omega)]) _) ?_)
    (refine go ?_)
    refine K_again ih (i + 1) rfl (by omega) (by omega) (by repeat (first | exact keep_nil | refine keep_cons rfl ?_)) entA
  intro hge
  have hil : i = l.length := by omega
  subst hil
  rw [half_end]
  refine K_slcLe 0 rfl ?_
  intro hle hcl hvb
  have h1 := Choose_any X (.slice a l.length c0) l p q true seed hv hl hp hq
  have h2 := Choose_any _ (.slice va l.length vc) l.reverse p q true seed (by rw [List.length_reverse]; exact hvb) (by rw [List.length_reverse]; exact hl) hp hq
  rw [choose_rev] at h2
  have hlen := chooseA_len l p q true seed
  generalize chooseA l p q true seed = res at h1 h2 hlen
  obtain ⟨rl, rt, re⟩ := res
  simp only at h1 h2 hlen
  have hrl : rl.length ≤ 1000000000 := by omega
  (repeat (first | refine go1 ?_ | refine J_fork ?_ ?_ | refine J_indexArr (U := tab) rfl rfl rfl rfl rfl rfl (by omega) (by omega) ?_))
  (first | refine J_callE rfl rfl rfl rfl (h1) entA ?_ (fun _ _ _ _ _ => trivial) | refine J_call0E rfl rfl rfl (h1) entA ?_ (fun _ _ _ _ _ => trivial) | (refine go ?_; first | refine J_callE rfl rfl rfl rfl (h1) entA ?_ (fun _ _ _ _ _ => trivial) | refine J_call0E rfl rfl rfl (h1) entA ?_ (fun _ _ _ _ _ => trivial)))
  rintro _ _ ⟨w1, rfl, rfl⟩
  (repeat (first | refine go1 ?_ | refine J_fork ?_ ?_ | refine J_indexArr (U := tab) rfl rfl rfl rfl rfl rfl (by omega) (by omega) ?_))
  (first | refine J_callE rfl rfl rfl rfl (h2) entA ?_ (fun _ _ _ _ _ => trivial) | refine J_call0E rfl rfl rfl (h2) entA ?_ (fun _ _ _ _ _ => trivial) | (refine go ?_; first | refine J_callE rfl rfl rfl rfl (h2) entA ?_ (fun _ _ _ _ _ => trivial) | refine J_call0E rfl rfl rfl (h2) entA ?_ (fun _ _ _ _ _ => trivial)))
  rintro _ _ ⟨w2, rfl, rfl⟩
  refine J_slcVw 0 rfl ?_
  intro hv2
  refine J_slcVw 2 rfl ?_
  intro hv1
  (refine go ?_)
  (first | refine J_callE rfl rfl rfl rfl (SameI_any _ _ w1 w2 rl rl hv1 hv2 hrl) entA ?_ (fun _ _ _ _ _ => trivial) | refine J_call0E rfl rfl rfl (SameI_any _ _ w1 w2 rl rl hv1 hv2 hrl) entA ?_ (fun _ _ _ _ _ => trivial) | (refine go ?_; first | refine J_callE rfl rfl rfl rfl (SameI_any _ _ w1 w2 rl rl hv1 hv2 hrl) entA ?_ (fun _ _ _ _ _ => trivial) | refine J_call0E rfl rfl rfl (SameI_any _ _ w1 w2 rl rl hv1 hv2 hrl) entA ?_ (fun _ _ _ _ _ => trivial)))
  rintro _ _ ⟨rfl, rfl⟩
  rw [decide_eq_true (rfl : rl = rl)]
  repeat' (first | (with_reducible intro _hh) | refine go1 ?_ | refine J_fork ?_ ?_ | refine J_gsP rfl rfl rfl rfl ?_ ?_ | refine K_condP rfl rfl ?_ ?_)
  · (first | refine J_slot 6 ((.bool true)) rfl ((by simp)) ?_ | refine K_slot 6 ((.bool true)) rfl ((by simp)) ?_)
    (first | refine K_return hE Try.func5 rfl _ rfl ⟨rfl, rfl⟩ entA | refine K_fallEnd hE Try.func5 rfl _ rfl ⟨rfl, rfl⟩ entA)
  · exact absurd rfl _hh
end Go.Proofs.Ytpacpkpkinmjcaa
