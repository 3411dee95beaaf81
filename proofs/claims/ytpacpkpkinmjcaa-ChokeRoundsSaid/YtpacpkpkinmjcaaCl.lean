/- choke, part l: ChokeFair. -/
import Derived.Test.YtpacpkpkinmjcaaCl0
set_option linter.unusedVariables false
set_option linter.unusedSimpArgs false
namespace Go.Proofs.Ytpacpkpkinmjcaa
open Go Go.SL
theorem right_vals (l : List Rt) : rightA l = 0 ∨ rightA l = 1 ∨ rightA l = 5 := by
  unfold rightA; split
  · simp
  · split <;> simp
theorem choose_err {l : List Rt} {slots tried : Int} {turn : Bool} {seed : Int} (h : (chooseA l slots tried turn seed).2.2 ≠ 0) : ((chooseA l slots tried turn seed).2.2 = 1 ∨ (chooseA l slots tried turn seed).2.2 = 5) ∧ (chooseA l slots tried turn seed).1 = [] := by
  unfold chooseA at h ⊢
  split at h
  · rename_i h1; rw [if_pos h1]; simp
  · rename_i h1
    rw [if_neg h1]
    split at h
    · rename_i h2
      rw [if_pos h2]
      have := right_vals l
      simp only at h2 ⊢
      refine ⟨?_, trivial⟩
      rcases this with h3 | h3 | h3
      · exact absurd h3 h2
      · exact .inl h3
      · exact .inr h3
    · split at h
      · exact absurd rfl h
      · exact absurd rfl h
theorem choose_ok {l : List Rt} {slots tried : Int} {turn : Bool} {seed : Int} (h : (chooseA l slots tried turn seed).2.2 = 0) : (1 ≤ slots ∧ slots ≤ 16) ∧ rightA l = 0 := by
  unfold chooseA at h
  split at h
  · cases h
  · rename_i h1
    split at h
    · rename_i h2; exact absurd h h2
    · rename_i h2; exact ⟨by omega, Decidable.not_not.1 h2⟩
attribute [local irreducible] J K Ctr Ends pts slc mapR mapI sbRow stock arrS loopP CtrY belowN mixV nextS chooseA rank

set_option maxRecDepth 20000 in
theorem ChokeFair_any (X : HP) (v : Value) (l : List Rt) (slots seed : Int) (hv : Vw X v l.length (rV l)) (hl : l.length ≤ 9223372036854775807) (hs : i64 slots) :
    Ctr Try.prog 4 [v, .int .i64 slots, .int .u64 seed] [X] (fun r H => r = .bool true ∧ H = [X]) := by
  obtain ⟨a, c0, rfl⟩ := hv.shape
  have hki : KeyOk Try.prog 3 (Value.int .i64) := keyInt Try.underlying3
  refine Ctr.enter Try.func4 (by kernel_rfl) rfl Try.ntmps4 rfl rfl ?_
  intro G F R hE
  (refine go ?_)
  (first | refine J_callE rfl rfl rfl rfl (awake_any) entA ?_ (fun _ _ _ _ _ => trivial) | refine J_call0E rfl rfl rfl (awake_any) entA ?_ (fun _ _ _ _ _ => trivial) | (refine go ?_; first | refine J_callE rfl rfl rfl rfl (awake_any) entA ?_ (fun _ _ _ _ _ => trivial) | refine J_call0E rfl rfl rfl (awake_any) entA ?_ (fun _ _ _ _ _ => trivial)))
  rintro _ _ ⟨rfl, rfl⟩
  (refine go ?_)
  refine K_condP rfl rfl ?_ ?_
  · intro hbig
    (refine go ?_)
    (first | refine K_return hE Try.func4 rfl _ rfl ⟨rfl, rfl⟩ entA | refine K_fallEnd hE Try.func4 rfl _ rfl ⟨rfl, rfl⟩ entA)
  intro hsm
  have h1 := Choose_any X (.slice a l.length c0) l slots 0 false seed hv hl hs (by decide)
  have hlen := chooseA_len l slots 0 false seed
  by_cases he : (chooseA l slots 0 false seed).2.2 ≠ 0
  · obtain ⟨he1, he2⟩ := choose_err he
    rw [he2] at h1
    generalize (chooseA l slots 0 false seed).2.2 = e at h1 he he1
    (refine go ?_)
    (first | refine J_callE rfl rfl rfl rfl (h1) entA ?_ (fun _ _ _ _ _ => trivial) | refine J_call0E rfl rfl rfl (h1) entA ?_ (fun _ _ _ _ _ => trivial) | (refine go ?_; first | refine J_callE rfl rfl rfl rfl (h1) entA ?_ (fun _ _ _ _ _ => trivial) | refine J_call0E rfl rfl rfl (h1) entA ?_ (fun _ _ _ _ _ => trivial)))
    rintro _ _ ⟨w1, rfl, rfl⟩
    (first | refine J_shape 0 rfl ?_ | refine K_shape 0 rfl ?_)
    rintro wa wc rfl
    repeat' (first | (with_reducible intro _hh) | refine go1 ?_ | refine J_fork ?_ ?_ | refine J_gsP rfl rfl rfl rfl ?_ ?_ | refine K_condP rfl rfl ?_ ?_ | (exfalso; omega))
    all_goals first
      | (exfalso; omega)
      | ((first | refine J_slot 6 ((.bool true)) rfl (rfl) ?_ | refine K_slot 6 ((.bool true)) rfl (rfl) ?_); (first | refine K_return hE Try.func4 rfl _ rfl ⟨rfl, rfl⟩ entA | refine K_fallEnd hE Try.func4 rfl _ rfl ⟨rfl, rfl⟩ entA))
      | trace_state
  have he0 : (chooseA l slots 0 false seed).2.2 = 0 := Decidable.not_not.1 he
  obtain ⟨⟨hs1, hs2⟩, hr⟩ := choose_ok he0
  obtain ⟨-, hfair⟩ := fair_law (seed := seed) hs1 hs2 hr
  obtain ⟨h64, hnd, hodd⟩ := right_zero (l := l) (by rw [hr]; simp)
  rw [he0] at h1
  generalize (chooseA l slots 0 false seed).1 = may at h1 hlen hfair
  generalize (chooseA l slots 0 false seed).2.1 = tried at h1 hfair
  clear he he0
  (refine go ?_)
  (first | refine J_callE rfl rfl rfl rfl (h1) entA ?_ (fun _ _ _ _ _ => trivial) | refine J_call0E rfl rfl rfl (h1) entA ?_ (fun _ _ _ _ _ => trivial) | (refine go ?_; first | refine J_callE rfl rfl rfl rfl (h1) entA ?_ (fun _ _ _ _ _ => trivial) | refine J_call0E rfl rfl rfl (h1) entA ?_ (fun _ _ _ _ _ => trivial)))
  rintro _ _ ⟨w1, rfl, rfl⟩
  (first | refine J_shape 0 rfl ?_ | refine K_shape 0 rfl ?_)
  rintro wa wc rfl
  (refine go ?_)
  refine J_makeMap rfl (fun _ _ _ => trivial) ?_
  intro bm
  (first | refine K_ent (Ent.fold (B := [_]) (A := mapR (Value.int .i64) bm (stL [])) (fun h hs => ⟨h, sub.refl h, mapR_new (Value.int .i64) bm h (Sep_one hs)⟩)) ?_ | refine J_ent (Ent.fold (B := [_]) (A := mapR (Value.int .i64) bm (stL [])) (fun h hs => ⟨h, sub.refl h, mapR_new (Value.int .i64) bm h (Sep_one hs)⟩)) ?_)
  (refine go ?_)
  refine K_loop (fun i : Nat => i ≤ may.length) (fun i => may.length - i) (fun i => [(0, .slice a l.length c0), (1, .int .i64 slots), (8, .slice wa may.length wc), (9, .int .i64 tried), (11, .map (some bm)), (12, .int .i64 (i : Int))]) (fun i => mapR (Value.int .i64) bm (stL (may.take i)) :: slc 3 1 (.slice wa may.length wc) may.length (iV may) :: X :: F) 0 (Nat.zero_le _) rfl (by repeat (first | exact keep_nil | refine keep_cons rfl ?_)) entA ?_
  rintro i hi ih
  (refine go ?_)
  refine K_condP rfl rfl ?_ ?_
  · intro hlt
    have hi' : i < may.length := by omega
    obtain ⟨x, hx⟩ : ∃ x, may[i]? = some x := ⟨may[i], by simp [hi']⟩
    refine K_slcF 1 rfl (by omega) ?_
    intro ob oo ooc he hle2 hcl2 hvo
    simp only [Value.slice.injEq, true_and] at he
    obtain ⟨rfl, rfl⟩ := he
    (refine go ?_)
    refine J_at1 (U := tab) i rfl rfl rfl rfl rfl rfl rfl rfl hi' ?_
    refine J_loadAt (U := tab) 1 i rfl rfl rfl hvo rfl (iV_get hx) rfl rfl ?_
    refine J_mapUpdate (U := tab) (key := x) 0 hki (fun _ _ => trivial) rfl rfl rfl rfl rfl rfl rfl rfl ?_
    rw [← stL_add, show may.take i ++ [x] = may.take (i + 1) from by rw [List.take_add_one, hx]; rfl]
    (refine go ?_)
    refine K_again ih (i + 1) rfl (by omega) (by omega) (by repeat (first | exact keep_nil | refine keep_cons rfl ?_)) entA
  intro hge
  have hil : i = may.length := by omega
  subst hil
  rw [List.take_length]
  clear ih
  (refine go ?_)
  refine K_loop (fun y : Nat × Nat × Int × Int => y.1 ≤ l.length ∧ Gath l may tried y.1 y.2.1 y.2.2.1 y.2.2.2) (fun y => l.length - y.1) (fun y => [(0, .slice a l.length c0), (1, .int .i64 slots), (8, .slice wa may.length wc), (9, .int .i64 tried), (11, .map (some bm)), (13, .int .i64 (y.2.1 : Int)), (14, .int .i64 y.2.2.1), (15, .int .i64 y.2.2.2), (16, .int .i64 (y.1 : Int))]) (fun y => mapR (Value.int .i64) bm (stL may) :: slc 3 1 (.slice wa may.length wc) may.length (iV may) :: X :: F) (0, 0, 2199023255552, -1) ⟨Nat.zero_le _, ⟨rfl, .inl rfl, .inl rfl⟩⟩ rfl (by repeat (first | exact keep_nil | refine keep_cons rfl ?_)) entA ?_
  rintro ⟨i, want, least, most⟩ ⟨hi, hg⟩ ih
  simp only at hi hg
  simp only
  (refine go ?_)
  refine K_condP rfl rfl ?_ ?_
  case' refine_2 =>
    intro hge
    have hwant := gath_want hg (by omega)
    have hle := gath_le hodd hfair hg
    have hfl := hfair.len
    have hn1 := (stL_len may).2.2 hfair.nodup
    subst hwant
    (refine go ?_)
    have hlt := stL_look may tried
    rcases hfair.tr with ⟨ht0, ht1⟩ | htm
    · repeat' (first | (with_reducible intro _hh) | refine go1 ?_ | refine J_fork ?_ ?_ | refine J_gsP rfl rfl rfl rfl ?_ ?_ | refine K_condP rfl rfl ?_ ?_ | refine J_lenMap (U := tab) 0 rfl rfl rfl rfl rfl ?_ | (refine J_lookup (U := tab) (key := tried) 0 rfl hki rfl rfl rfl rfl rfl rfl rfl rfl ?_; refine J_slot 138 (.bool (decide (tried ∈ may))) rfl hlt ?_))
      all_goals first
        | (exfalso; omega)
        | (first | refine K_return hE Try.func4 rfl _ rfl ⟨rfl, rfl⟩ entA | refine K_fallEnd hE Try.func4 rfl _ rfl ⟨rfl, rfl⟩ entA)
        | ((first | refine J_slot 6 ((.bool true)) rfl ((congrArg Value.bool (decide_eq_true (by omega)))) ?_ | refine K_slot 6 ((.bool true)) rfl ((congrArg Value.bool (decide_eq_true (by omega)))) ?_); (first | refine K_return hE Try.func4 rfl _ rfl ⟨rfl, rfl⟩ entA | refine K_fallEnd hE Try.func4 rfl _ rfl ⟨rfl, rfl⟩ entA))
        | trace_state
    · rw [decide_eq_true htm] at hlt
      repeat' (first | (with_reducible intro _hh) | refine go1 ?_ | refine J_fork ?_ ?_ | refine J_gsP rfl rfl rfl rfl ?_ ?_ | refine K_condP rfl rfl ?_ ?_ | refine J_lenMap (U := tab) 0 rfl rfl rfl rfl rfl ?_ | (refine J_lookup (U := tab) (key := tried) 0 rfl hki rfl rfl rfl rfl rfl rfl rfl rfl ?_; refine J_slot 138 (.bool true) rfl hlt ?_))
      all_goals first
        | (exfalso; omega)
        | (first | refine K_return hE Try.func4 rfl _ rfl ⟨rfl, rfl⟩ entA | refine K_fallEnd hE Try.func4 rfl _ rfl ⟨rfl, rfl⟩ entA)
        | ((first | refine J_slot 6 ((.bool true)) rfl ((congrArg Value.bool (decide_eq_true (by omega)))) ?_ | refine K_slot 6 ((.bool true)) rfl ((congrArg Value.bool (decide_eq_true (by omega)))) ?_); (first | refine K_return hE Try.func4 rfl _ rfl ⟨rfl, rfl⟩ entA | refine K_fallEnd hE Try.func4 rfl _ rfl ⟨rfl, rfl⟩ entA))
        | trace_state
  intro hlt
  have hi' : i < l.length := by omega
  obtain ⟨x, hx⟩ : ∃ x, l[i]? = some x := ⟨l[i], by simp [hi']⟩
  obtain ⟨b1, o1, c', he⟩ := hv.some (rne hi')
  simp only [Value.slice.injEq, true_and] at he
  obtain ⟨rfl, rfl⟩ := he
  have hxl := List.mem_of_getElem? hx
  have htw := take_want hx
  have hlk := stL_look may x.id
  have hwb : want ≤ l.length := by rw [hg.w]; exact Nat.le_trans (List.length_filter_le _ _) (by rw [List.length_take]; omega)
  (repeat (first | refine go1 ?_ | refine J_fork ?_ ?_ | refine J_at (U := tab) i 3 rfl rfl rfl rfl rfl rfl rfl rfl hi' ?_ | (refine J_isLoad ?_; first | refine J_loadAt (U := tab) 2 (i * 3 + 1) rfl rfl rfl hv (Nat.add_assoc _ _ _) (rtB hx) rfl rfl ?_ | refine J_loadAt (U := tab) 2 (i * 3 + 0) rfl rfl rfl hv (Nat.add_assoc _ _ _) (rtI hx) rfl rfl ?_ | refine J_loadAt (U := tab) 2 (i * 3 + 2) rfl rfl rfl hv (Nat.add_assoc _ _ _) (rtW hx) rfl rfl ?_)))
  cases hw : x.w with
  | false =>
    have hnm := not_want hnd hfair hxl hw
    rw [hw] at htw
    rw [decide_eq_false hnm] at hlk
    (repeat (first | refine go1 ?_ | refine J_fork ?_ ?_ | refine J_at (U := tab) i 3 rfl rfl rfl rfl rfl rfl rfl rfl hi' ?_ | (refine J_isLoad ?_; first | refine J_loadAt (U := tab) 2 (i * 3 + 1) rfl rfl rfl hv (Nat.add_assoc _ _ _) (rtB hx) rfl rfl ?_ | refine J_loadAt (U := tab) 2 (i * 3 + 0) rfl rfl rfl hv (Nat.add_assoc _ _ _) (rtI hx) rfl rfl ?_ | refine J_loadAt (U := tab) 2 (i * 3 + 2) rfl rfl rfl hv (Nat.add_assoc _ _ _) (rtW hx) rfl rfl ?_)))
    refine J_lookup (U := tab) (key := x.id) 0 rfl hki rfl rfl rfl rfl rfl rfl rfl rfl ?_
    (first | refine J_slot 77 ((.bool false)) rfl (hlk) ?_ | refine K_slot 77 ((.bool false)) rfl (hlk) ?_)
    (refine go ?_)
    refine K_again ih (i + 1, want, least, most) rfl (⟨by simp only; omega, ⟨by rw [htw, ← hg.w]; rfl, hg.least, hg.most⟩⟩) (by simp only; omega) (by repeat (first | exact keep_nil | refine keep_cons rfl ?_)) entA
  | true =>
    rw [hw] at htw
    have hw1 : want + 1 = ((l.take (i + 1)).filter (·.w)).length := by rw [htw, ← hg.w]; rfl
    (repeat (first | refine go1 ?_ | refine J_fork ?_ ?_ | refine J_at (U := tab) i 3 rfl rfl rfl rfl rfl rfl rfl rfl hi' ?_ | (refine J_isLoad ?_; first | refine J_loadAt (U := tab) 2 (i * 3 + 1) rfl rfl rfl hv (Nat.add_assoc _ _ _) (rtB hx) rfl rfl ?_ | refine J_loadAt (U := tab) 2 (i * 3 + 0) rfl rfl rfl hv (Nat.add_assoc _ _ _) (rtI hx) rfl rfl ?_ | refine J_loadAt (U := tab) 2 (i * 3 + 2) rfl rfl rfl hv (Nat.add_assoc _ _ _) (rtW hx) rfl rfl ?_)))
    (first | refine J_slot 13 ((.int .i64 ((want + 1 : Nat) : Int))) rfl ((congrArg (Value.int .i64) (by omega))) ?_ | refine K_slot 13 ((.int .i64 ((want + 1 : Nat) : Int))) rfl ((congrArg (Value.int .i64) (by omega))) ?_)
    refine J_lookup (U := tab) (key := x.id) 0 rfl hki rfl rfl rfl rfl rfl rfl rfl rfl ?_
    by_cases hm : x.id ∈ may
    · rw [decide_eq_true hm] at hlk
      (first | refine J_slot 86 ((.bool true)) rfl (hlk) ?_ | refine K_slot 86 ((.bool true)) rfl (hlk) ?_)
      (repeat (first | refine go1 ?_ | refine J_fork ?_ ?_ | refine J_at (U := tab) i 3 rfl rfl rfl rfl rfl rfl rfl rfl hi' ?_ | (refine J_isLoad ?_; first | refine J_loadAt (U := tab) 2 (i * 3 + 1) rfl rfl rfl hv (Nat.add_assoc _ _ _) (rtB hx) rfl rfl ?_ | refine J_loadAt (U := tab) 2 (i * 3 + 0) rfl rfl rfl hv (Nat.add_assoc _ _ _) (rtI hx) rfl rfl ?_ | refine J_loadAt (U := tab) 2 (i * 3 + 2) rfl rfl rfl hv (Nat.add_assoc _ _ _) (rtW hx) rfl rfl ?_)))
      refine K_condP rfl rfl ?_ ?_
      · intro hne
        (repeat (first | refine go1 ?_ | refine J_fork ?_ ?_ | refine J_at (U := tab) i 3 rfl rfl rfl rfl rfl rfl rfl rfl hi' ?_ | (refine J_isLoad ?_; first | refine J_loadAt (U := tab) 2 (i * 3 + 1) rfl rfl rfl hv (Nat.add_assoc _ _ _) (rtB hx) rfl rfl ?_ | refine J_loadAt (U := tab) 2 (i * 3 + 0) rfl rfl rfl hv (Nat.add_assoc _ _ _) (rtI hx) rfl rfl ?_ | refine J_loadAt (U := tab) 2 (i * 3 + 2) rfl rfl rfl hv (Nat.add_assoc _ _ _) (rtW hx) rfl rfl ?_)))
        refine K_again ih (i + 1, want + 1, min least x.by_, most) rfl (⟨by simp only; omega, ⟨hw1, by
          rcases Int.le_total least x.by_ with h | h
          · rw [Int.min_eq_left h]; exact hg.least
          · rw [Int.min_eq_right h]; exact .inr ⟨x, hxl, hw, hm, hne, rfl⟩, hg.most⟩⟩) (by simp only; omega) (by repeat (first | exact keep_nil | refine keep_cons rfl ?_)) entA
      intro heq
      (refine go ?_)
      refine K_again ih (i + 1, want + 1, least, most) rfl (⟨by simp only; omega, ⟨hw1, hg.least, hg.most⟩⟩) (by simp only; omega) (by repeat (first | exact keep_nil | refine keep_cons rfl ?_)) entA
    · rw [decide_eq_false hm] at hlk
      (first | refine J_slot 86 ((.bool false)) rfl (hlk) ?_ | refine K_slot 86 ((.bool false)) rfl (hlk) ?_)
      (repeat (first | refine go1 ?_ | refine J_fork ?_ ?_ | refine J_at (U := tab) i 3 rfl rfl rfl rfl rfl rfl rfl rfl hi' ?_ | (refine J_isLoad ?_; first | refine J_loadAt (U := tab) 2 (i * 3 + 1) rfl rfl rfl hv (Nat.add_assoc _ _ _) (rtB hx) rfl rfl ?_ | refine J_loadAt (U := tab) 2 (i * 3 + 0) rfl rfl rfl hv (Nat.add_assoc _ _ _) (rtI hx) rfl rfl ?_ | refine J_loadAt (U := tab) 2 (i * 3 + 2) rfl rfl rfl hv (Nat.add_assoc _ _ _) (rtW hx) rfl rfl ?_)))
      refine K_again ih (i + 1, want + 1, least, max most x.by_) rfl (⟨by simp only; omega, ⟨hw1, hg.least, by
          rcases Int.le_total most x.by_ with h | h
          · rw [Int.max_eq_right h]; exact .inr ⟨x, hxl, hw, hm, rfl⟩
          · rw [Int.max_eq_left h]; exact hg.most⟩⟩) (by simp only; omega) (by repeat (first | exact keep_nil | refine keep_cons rfl ?_)) entA
end Go.Proofs.Ytpacpkpkinmjcaa
