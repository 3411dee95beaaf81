/- choke, part j: the reference's Choose. -/
import Derived.Test.YtpacpkpkinmjcaaCi
set_option linter.unusedVariables false
set_option linter.unusedSimpArgs false
namespace Go.Proofs.Ytpacpkpkinmjcaa
open Go Go.SL
theorem right_zero {l : List Rt} (h : ¬ rightA l ≠ 0) : l.length ≤ 64 ∧ (l.map Rt.id).Nodup ∧ ∀ x ∈ l, oddR x = false := by
  have h0 : rightA l = 0 := Decidable.not_not.1 h
  unfold rightA at h0
  split at h0
  · cases h0
  · rename_i h1
    split at h0
    · rename_i h2
      refine ⟨by omega, h2, fun x hx => ?_⟩
      cases ho : oddR x with
      | false => rfl
      | true => exact absurd (.inr (List.any_eq_true.2 ⟨x, hx, ho⟩)) h1
    · cases h0
theorem topI_zero (l : List Rt) : topI l 0 = [] := by simp [topI, risI]
theorem restI_zero (l : List Rt) (F : List Int) : restI (l.take 0) F = [] := by simp [restI, risI]
attribute [local irreducible] J K Ctr Ends pts slc mapR mapI sbRow stock arrS loopP CtrY belowN mixV nextS topI restI rank

set_option maxRecDepth 20000 in
theorem refChoose_any (A : HP) (v : Value) (l : List Rt) (slots tried : Int) (turn : Bool) (seed : Int) (hv : Vw A v l.length (rV l)) (hl : l.length ≤ 9223372036854775807) (hs : i64 slots) (ht : i64 tried) :
    Ctr Try.prog 11 [v, .int .i64 slots, .int .i64 tried, .bool turn, .int .u64 seed] [A]
      (fun r H => ∃ w, r = .tuple #[w, .int .i64 (chooseA l slots tried turn seed).2.1, .int .i64 (chooseA l slots tried turn seed).2.2] ∧ H = [slc 3 1 w (chooseA l slots tried turn seed).1.length (iV (chooseA l slots tried turn seed).1), A]) := by
  obtain ⟨a, c0, rfl⟩ := hv.shape
  obtain ⟨res, hres⟩ : ∃ res, res = chooseA l slots tried turn seed := ⟨_, rfl⟩
  rw [← hres]
  unfold chooseA at hres
  refine Ctr.enter Try.func11 (by kernel_rfl) rfl Try.ntmps11 rfl rfl ?_
  intro G F R hE
  (refine go ?_)
  refine J_gsP rfl rfl rfl rfl ?_ ?_
  · intro h
    rw [if_pos (.inl h)] at hres
    subst hres
    (refine go ?_)
    (first | refine K_ent (slc_lift 3 1 none _) ?_ | refine J_ent (slc_lift 3 1 none _) ?_)
    (first | refine K_return hE Try.func11 rfl _ rfl ⟨_, rfl, rfl⟩ entA | refine K_fallEnd hE Try.func11 rfl _ rfl ⟨_, rfl, rfl⟩ entA)
  intro h1
  (refine go ?_)
  refine K_condP rfl rfl ?_ ?_
  · intro h
    rw [if_pos (.inr h)] at hres
    subst hres
    (refine go ?_)
    (first | refine K_ent (slc_lift 3 1 none _) ?_ | refine J_ent (slc_lift 3 1 none _) ?_)
    (first | refine K_return hE Try.func11 rfl _ rfl ⟨_, rfl, rfl⟩ entA | refine K_fallEnd hE Try.func11 rfl _ rfl ⟨_, rfl, rfl⟩ entA)
  intro h2
  rw [if_neg (by omega)] at hres
  (refine go ?_)
  (first | refine J_callE rfl rfl rfl rfl (refRight_any A (.slice a l.length c0) l hv hl) entA ?_ (fun _ _ _ _ _ => trivial) | refine J_call0E rfl rfl rfl (refRight_any A (.slice a l.length c0) l hv hl) entA ?_ (fun _ _ _ _ _ => trivial) | (refine go ?_; first | refine J_callE rfl rfl rfl rfl (refRight_any A (.slice a l.length c0) l hv hl) entA ?_ (fun _ _ _ _ _ => trivial) | refine J_call0E rfl rfl rfl (refRight_any A (.slice a l.length c0) l hv hl) entA ?_ (fun _ _ _ _ _ => trivial)))
  rintro _ _ ⟨rfl, rfl⟩
  (refine go ?_)
  refine K_condP rfl rfl ?_ ?_
  · intro h
    rw [if_pos h] at hres
    subst hres
    (refine go ?_)
    (first | refine K_ent (slc_lift 3 1 none _) ?_ | refine J_ent (slc_lift 3 1 none _) ?_)
    (first | refine K_return hE Try.func11 rfl _ rfl ⟨_, rfl, rfl⟩ entA | refine K_fallEnd hE Try.func11 rfl _ rfl ⟨_, rfl, rfl⟩ entA)
  intro h3
  rw [if_neg h3] at hres
  obtain ⟨h64, hnd, hodd⟩ := right_zero h3
  have hwl := wantW_len l
  have hrl := rank_len l
  obtain ⟨q, hq⟩ : ∃ q : Nat, (q : Int) = slots - 1 := ⟨(slots - 1).toNat, by omega⟩
  obtain ⟨k0, hk0⟩ : ∃ k : Nat, (k : Int) = min (slots - 1) (rank l).length := ⟨(min (slots - 1) (rank l).length).toNat, by omega⟩
  have hf : firstA l slots = topI l k0 := by unfold firstA topI; rw [← hk0, Int.toNat_natCast]
  have ho : othersA l slots = restI l (topI l k0) := by rw [rest_top hnd]; unfold othersA; rw [← hk0, Int.toNat_natCast]
  rw [hf, ho] at hres
  clear hf ho
  (refine go ?_)
  refine K_ent (slc_lift 3 1 none _) ?_
  refine K_loop (fun y : Nat × Value => y.1 ≤ q) (fun y => q - y.1) (fun y => [(0, .slice a l.length c0), (1, .int .i64 slots), (2, .int .i64 tried), (3, .bool turn), (4, .int .u64 seed), (14, y.2), (15, .int .i64 (y.1 : Int))]) (fun y => slc 3 1 y.2 (topI l (min y.1 (rank l).length)).length (iV (topI l (min y.1 (rank l).length))) :: A :: F) (0, .slice none 0 0) (Nat.zero_le _) rfl (by repeat (first | exact keep_nil | refine keep_cons rfl ?_)) (by rw [Nat.zero_min, topI_zero]; exact entA) ?_
  rintro ⟨k, w⟩ hk ih
  simp only at hk
  (first | refine J_shape 0 rfl ?_ | refine K_shape 0 rfl ?_)
  intro wa wc hw
  simp only at hw
  subst hw
  simp only
  refine K_slcLe 0 rfl ?_
  intro hle hcl hvw
  have htl := topI_len l (min k (rank l).length)
  (refine go ?_)
  refine K_condP rfl rfl ?_ ?_
  · intro hlt
    have hkq : k < q := by omega
    (refine go ?_)
    (first | refine J_callE rfl rfl rfl rfl (best_any A _ (.slice a l.length c0) _ l _ hv hvw (by omega) (by omega)) entA ?_ (fun _ _ _ _ _ => trivial) | refine J_call0E rfl rfl rfl (best_any A _ (.slice a l.length c0) _ l _ hv hvw (by omega) (by omega)) entA ?_ (fun _ _ _ _ _ => trivial) | (refine go ?_; first | refine J_callE rfl rfl rfl rfl (best_any A _ (.slice a l.length c0) _ l _ hv hvw (by omega) (by omega)) entA ?_ (fun _ _ _ _ _ => trivial) | refine J_call0E rfl rfl rfl (best_any A _ (.slice a l.length c0) _ l _ hv hvw (by omega) (by omega)) entA ?_ (fun _ _ _ _ _ => trivial)))
    rintro _ _ ⟨at_, hb, rfl, rfl⟩
    rcases Nat.lt_or_ge k (rank l).length with hkr | hkr
    · rw [Nat.min_eq_left (Nat.le_of_lt hkr)] at *
      obtain ⟨t, htk⟩ : ∃ t, (rank l)[k]? = some t := ⟨(rank l)[k], by simp [hkr]⟩
      obtain ⟨j, x, rfl, hx, hxt⟩ := best_some hnd htk hb
      have hj := (List.getElem?_eq_some_iff.1 hx).1
      obtain ⟨b1, o1, c', he⟩ := hv.some (rne hj)
      simp only [Value.slice.injEq, true_and] at he
      obtain ⟨rfl, rfl⟩ := he
      have hsu := topI_succ htk
      rw [← hxt] at hsu
      (repeat (first | refine go1 ?_ | refine J_fork ?_ ?_ | refine J_at (U := tab) j 3 rfl rfl rfl rfl rfl rfl rfl rfl hj ?_ | (refine J_isLoad ?_; first | refine J_loadAt (U := tab) 1 (j * 3 + 1) rfl rfl rfl hv (Nat.add_assoc _ _ _) (rtB hx) rfl rfl ?_ | refine J_loadAt (U := tab) 1 (j * 3 + 0) rfl rfl rfl hv (Nat.add_assoc _ _ _) (rtI hx) rfl rfl ?_ | refine J_loadAt (U := tab) 1 (j * 3 + 2) rfl rfl rfl hv (Nat.add_assoc _ _ _) (rtW hx) rfl rfl ?_) | refine J_at (U := tab) j 3 rfl rfl rfl rfl rfl rfl rfl rfl hj ?_ | (refine J_isLoad ?_; first | refine J_loadAt (U := tab) 0 (j * 3 + 1) rfl rfl rfl hv (Nat.add_assoc _ _ _) (rtB hx) rfl rfl ?_ | refine J_loadAt (U := tab) 0 (j * 3 + 0) rfl rfl rfl hv (Nat.add_assoc _ _ _) (rtI hx) rfl rfl ?_ | refine J_loadAt (U := tab) 0 (j * 3 + 2) rfl rfl rfl hv (Nat.add_assoc _ _ _) (rtW hx) rfl rfl ?_)))
      have hri := rising_any _ (.slice wa (topI l k).length wc) (topI l k) x.id hvw (by omega) ⟨wa, wc, rfl, hle⟩
      rw [hsu] at hri
      (first | refine J_callE rfl rfl rfl rfl (hri) entA ?_ (fun _ _ _ _ _ => trivial) | refine J_call0E rfl rfl rfl (hri) entA ?_ (fun _ _ _ _ _ => trivial) | (refine go ?_; first | refine J_callE rfl rfl rfl rfl (hri) entA ?_ (fun _ _ _ _ _ => trivial) | refine J_call0E rfl rfl rfl (hri) entA ?_ (fun _ _ _ _ _ => trivial)))
      rintro nv _ rfl
      rw [show topI l (k + 1) = topI l (min (k + 1) (rank l).length) from by rw [Nat.min_eq_left hkr]]
      (first | refine J_shape 0 rfl ?_ | refine K_shape 0 rfl ?_)
      rintro va2 vc2 rfl
      (refine go ?_)
      refine K_again ih (k + 1, .slice va2 (topI l (min (k + 1) (rank l).length)).length vc2) rfl (by simp only; omega) (by simp only; omega) (by repeat (first | exact keep_nil | refine keep_cons rfl ?_)) entA
    · have h1 := best_none (by omega) hb
      subst h1
      rw [show min k (rank l).length = min (k + 1) (rank l).length from by omega]
      (refine go ?_)
      refine K_again ih (k + 1, .slice wa (topI l (min (k + 1) (rank l).length)).length wc) rfl (by simp only; omega) (by simp only; omega) (by repeat (first | exact keep_nil | refine keep_cons rfl ?_)) entA
  intro hge
  have hkk : min k (rank l).length = k0 := by omega
  rw [hkk] at hle hcl hvw htl ⊢
  clear ih
  generalize hF : topI l k0 = first at *
  (refine go ?_)
  refine K_ent (slc_lift 3 1 none _) ?_
  refine K_loop (fun y : Nat × Value => y.1 ≤ l.length) (fun y => l.length - y.1) (fun y => [(0, .slice a l.length c0), (1, .int .i64 slots), (2, .int .i64 tried), (3, .bool turn), (4, .int .u64 seed), (14, .slice wa first.length wc), (17, y.2), (18, .int .i64 (y.1 : Int))]) (fun y => slc 3 1 y.2 (restI (l.take y.1) first).length (iV (restI (l.take y.1) first)) :: slc 3 1 (.slice wa first.length wc) first.length (iV first) :: A :: F) (0, .slice none 0 0) (Nat.zero_le _) rfl (by repeat (first | exact keep_nil | refine keep_cons rfl ?_)) (by rw [restI_zero]; exact entA) ?_
  rintro ⟨i, u⟩ hi ih
  simp only at hi
  (first | refine J_shape 0 rfl ?_ | refine K_shape 0 rfl ?_)
  intro ua uc hu
  simp only at hu
  subst hu
  simp only
  have hrl2 := rest_len (l.take i) first
  have htk2 : (l.take i).length ≤ l.length := by rw [List.length_take]; omega
  refine K_slcLe 0 rfl ?_
  intro hule hucl huvw
  (refine go ?_)
  refine K_condP rfl rfl ?_ ?_
  · intro hlt
    have hi' : i < l.length := by omega
    obtain ⟨x, hx⟩ : ∃ x, l[i]? = some x := ⟨l[i], by simp [hi']⟩
    obtain ⟨b1, o1, c', he⟩ := hv.some (rne hi')
    simp only [Value.slice.injEq, true_and] at he
    obtain ⟨rfl, rfl⟩ := he
    (repeat (first | refine go1 ?_ | refine J_fork ?_ ?_ | refine J_at (U := tab) i 3 rfl rfl rfl rfl rfl rfl rfl rfl hi' ?_ | (refine J_isLoad ?_; first | refine J_loadAt (U := tab) 2 (i * 3 + 1) rfl rfl rfl hv (Nat.add_assoc _ _ _) (rtB hx) rfl rfl ?_ | refine J_loadAt (U := tab) 2 (i * 3 + 0) rfl rfl rfl hv (Nat.add_assoc _ _ _) (rtI hx) rfl rfl ?_ | refine J_loadAt (U := tab) 2 (i * 3 + 2) rfl rfl rfl hv (Nat.add_assoc _ _ _) (rtW hx) rfl rfl ?_)))
    cases hw : x.w with
    | false =>
      rw [rest_skip hx (fun h => by rw [hw] at h; cases h.1)]
      (refine go ?_)
      refine K_again ih (i + 1, .slice ua (restI (l.take (i + 1)) first).length uc) rfl (by simp only; omega) (by simp only; omega) (by repeat (first | exact keep_nil | refine keep_cons rfl ?_)) entA
    | true =>
      (repeat (first | refine go1 ?_ | refine J_fork ?_ ?_ | refine J_at (U := tab) i 3 rfl rfl rfl rfl rfl rfl rfl rfl hi' ?_ | (refine J_isLoad ?_; first | refine J_loadAt (U := tab) 2 (i * 3 + 1) rfl rfl rfl hv (Nat.add_assoc _ _ _) (rtB hx) rfl rfl ?_ | refine J_loadAt (U := tab) 2 (i * 3 + 0) rfl rfl rfl hv (Nat.add_assoc _ _ _) (rtI hx) rfl rfl ?_ | refine J_loadAt (U := tab) 2 (i * 3 + 2) rfl rfl rfl hv (Nat.add_assoc _ _ _) (rtW hx) rfl rfl ?_)))
      (first | refine J_callE rfl rfl rfl rfl (has_any _ (.slice wa first.length wc) first x.id hvw (by omega)) entA ?_ (fun _ _ _ _ _ => trivial) | refine J_call0E rfl rfl rfl (has_any _ (.slice wa first.length wc) first x.id hvw (by omega)) entA ?_ (fun _ _ _ _ _ => trivial) | (refine go ?_; first | refine J_callE rfl rfl rfl rfl (has_any _ (.slice wa first.length wc) first x.id hvw (by omega)) entA ?_ (fun _ _ _ _ _ => trivial) | refine J_call0E rfl rfl rfl (has_any _ (.slice wa first.length wc) first x.id hvw (by omega)) entA ?_ (fun _ _ _ _ _ => trivial)))
      rintro _ _ ⟨rfl, rfl⟩
      by_cases hm : x.id ∈ first
      · rw [decide_eq_true hm, rest_skip hx (fun h => h.2 hm)]
        (refine go ?_)
        refine K_again ih (i + 1, .slice ua (restI (l.take (i + 1)) first).length uc) rfl (by simp only; omega) (by simp only; omega) (by repeat (first | exact keep_nil | refine keep_cons rfl ?_)) entA
      rw [decide_eq_false hm]
      (repeat (first | refine go1 ?_ | refine J_fork ?_ ?_ | refine J_at (U := tab) i 3 rfl rfl rfl rfl rfl rfl rfl rfl hi' ?_ | (refine J_isLoad ?_; first | refine J_loadAt (U := tab) 2 (i * 3 + 1) rfl rfl rfl hv (Nat.add_assoc _ _ _) (rtB hx) rfl rfl ?_ | refine J_loadAt (U := tab) 2 (i * 3 + 0) rfl rfl rfl hv (Nat.add_assoc _ _ _) (rtI hx) rfl rfl ?_ | refine J_loadAt (U := tab) 2 (i * 3 + 2) rfl rfl rfl hv (Nat.add_assoc _ _ _) (rtW hx) rfl rfl ?_)))
      have hri := rising_any _ (.slice ua (restI (l.take i) first).length uc) (restI (l.take i) first) x.id huvw (by omega) ⟨ua, uc, rfl, hule⟩
      rw [rest_add hx ⟨hw, hm⟩] at hri
      (first | refine J_callE rfl rfl rfl rfl (hri) entA ?_ (fun _ _ _ _ _ => trivial) | refine J_call0E rfl rfl rfl (hri) entA ?_ (fun _ _ _ _ _ => trivial) | (refine go ?_; first | refine J_callE rfl rfl rfl rfl (hri) entA ?_ (fun _ _ _ _ _ => trivial) | refine J_call0E rfl rfl rfl (hri) entA ?_ (fun _ _ _ _ _ => trivial)))
      rintro nv _ rfl
      (first | refine J_shape 0 rfl ?_ | refine K_shape 0 rfl ?_)
      rintro va2 vc2 rfl
      (refine go ?_)
      refine K_again ih (i + 1, .slice va2 (restI (l.take (i + 1)) first).length vc2) rfl (by simp only; omega) (by simp only; omega) (by repeat (first | exact keep_nil | refine keep_cons rfl ?_)) entA
  intro hge
  have hil : i = l.length := by omega
  subst hil
  rw [List.take_length] at hrl2 hule hucl huvw ⊢
  generalize restI l first = others at hrl2 hule hucl huvw hres ⊢
  clear ih
  (refine go ?_)
  refine K_condP rfl rfl ?_ ?_
  · intro h0
    have ho0 : others = [] := List.eq_nil_of_length_eq_zero (by omega)
    rw [if_pos ho0] at hres
    subst hres
    (refine go ?_)
    (first | refine K_return hE Try.func11 rfl _ rfl ⟨_, rfl, rfl⟩ entA | refine K_fallEnd hE Try.func11 rfl _ rfl ⟨_, rfl, rfl⟩ entA)
  intro h0
  have hop : 0 < others.length := by omega
  rw [if_neg (fun e => by rw [e] at hop; simp at hop)] at hres
  refine K_adv1 rfl ?_
  refine K_mid 2 (fun t : Int => t = triedA others tried turn seed) (fun t => [(2, .int .i64 t), (14, .slice wa first.length wc)]) (fun t => slc 3 1 (.slice wa first.length wc) first.length (iV first) :: A :: F) rfl ?_ ?_
  · rintro t rfl
    generalize triedA others tried turn seed = t at *
    subst hres
    (refine go ?_)
    have hri := rising_any _ (.slice wa first.length wc) first t hvw (by omega) ⟨wa, wc, rfl, hle⟩
    rw [← hF, show insL t (topI l k0) = risI (topI l k0 ++ [t]) from by unfold topI; rw [insL_ris, risI_ris], hF] at hri
    (first | refine J_callE rfl rfl rfl rfl (hri) entA ?_ (fun _ _ _ _ _ => trivial) | refine J_call0E rfl rfl rfl (hri) entA ?_ (fun _ _ _ _ _ => trivial) | (refine go ?_; first | refine J_callE rfl rfl rfl rfl (hri) entA ?_ (fun _ _ _ _ _ => trivial) | refine J_call0E rfl rfl rfl (hri) entA ?_ (fun _ _ _ _ _ => trivial)))
    rintro nv _ rfl
    (first | refine J_shape 0 rfl ?_ | refine K_shape 0 rfl ?_)
    rintro va2 vc2 rfl
    (refine go ?_)
    (first | refine K_return hE Try.func11 rfl _ rfl ⟨_, rfl, rfl⟩ entA | refine K_fallEnd hE Try.func11 rfl _ rfl ⟨_, rfl, rfl⟩ entA)
  · intro tail
    have hrange := belowN_lt (x := (mixV (nextS seed)).toNat) (n := others.length) (mixV_lt _) hop
    have hbel := fun b => refBelow_any b seed others.length (by omega)
    generalize hd : belowN (mixV (nextS seed)).toNat others.length = d at hrange hbel
    obtain ⟨x, hx⟩ : ∃ x, others[d]? = some x := ⟨others[d], by simp [hrange]⟩
    have hxd : others.getD (drawA seed others.length) 0 = x := by
      rw [show drawA seed others.length = d from hd, List.getD_eq_getElem?_getD, hx]; rfl
    have hdraw : turn = true ∨ tried ∉ others → x = triedA others tried turn seed := fun h => by unfold triedA; rw [if_pos h, hxd]
    refine K_slcF 0 rfl hop ?_
    intro ob oo ooc he hle2 hcl2 hvo
    simp only [Value.slice.injEq, true_and] at he
    obtain ⟨rfl, rfl⟩ := he
    cases turn with
    | true =>
      have ht1 := hdraw (.inl rfl)
      (refine go ?_)
      refine J_box rfl rfl (fun _ _ _ => trivial) ?_
      intro bs
      (refine go ?_)
      (first | refine J_callE rfl rfl rfl rfl (hbel bs) entA ?_ (fun _ _ _ _ _ => trivial) | refine J_call0E rfl rfl rfl (hbel bs) entA ?_ (fun _ _ _ _ _ => trivial) | (refine go ?_; first | refine J_callE rfl rfl rfl rfl (hbel bs) entA ?_ (fun _ _ _ _ _ => trivial) | refine J_call0E rfl rfl rfl (hbel bs) entA ?_ (fun _ _ _ _ _ => trivial)))
      rintro _ _ ⟨rfl, rfl⟩
      (refine go ?_)
      refine J_at1 (U := tab) d rfl rfl rfl rfl rfl rfl rfl rfl hrange ?_
      refine J_loadAt (U := tab) 1 d rfl rfl rfl hvo rfl (iV_get hx) rfl rfl ?_
      (refine goR ?_)
      refine K_to tail x rfl ht1 (by repeat (first | exact keep_nil | refine keep_cons rfl ?_)) entA
    | false =>
      (refine go ?_)
      (first | refine J_callE rfl rfl rfl rfl (has_any _ (.slice (some ⟨ob, oo, none⟩) others.length uc) others tried hvo (by omega)) entA ?_ (fun _ _ _ _ _ => trivial) | refine J_call0E rfl rfl rfl (has_any _ (.slice (some ⟨ob, oo, none⟩) others.length uc) others tried hvo (by omega)) entA ?_ (fun _ _ _ _ _ => trivial) | (refine go ?_; first | refine J_callE rfl rfl rfl rfl (has_any _ (.slice (some ⟨ob, oo, none⟩) others.length uc) others tried hvo (by omega)) entA ?_ (fun _ _ _ _ _ => trivial) | refine J_call0E rfl rfl rfl (has_any _ (.slice (some ⟨ob, oo, none⟩) others.length uc) others tried hvo (by omega)) entA ?_ (fun _ _ _ _ _ => trivial)))
      rintro _ _ ⟨rfl, rfl⟩
      by_cases hmem : tried ∈ others
      · rw [decide_eq_true hmem]
        have ht1 : tried = triedA others tried false seed := by unfold triedA; rw [if_neg (by rintro (h | h); cases h; exact h hmem)]
        (refine goR ?_)
        refine K_condF rfl rfl ?_
        refine K_to tail tried rfl ht1 (by repeat (first | exact keep_nil | refine keep_cons rfl ?_)) entA
      · rw [decide_eq_false hmem]
        have ht1 := hdraw (.inr hmem)
        (refine go ?_)
        refine J_box rfl rfl (fun _ _ _ => trivial) ?_
        intro bs
        (refine go ?_)
        (first | refine J_callE rfl rfl rfl rfl (hbel bs) entA ?_ (fun _ _ _ _ _ => trivial) | refine J_call0E rfl rfl rfl (hbel bs) entA ?_ (fun _ _ _ _ _ => trivial) | (refine go ?_; first | refine J_callE rfl rfl rfl rfl (hbel bs) entA ?_ (fun _ _ _ _ _ => trivial) | refine J_call0E rfl rfl rfl (hbel bs) entA ?_ (fun _ _ _ _ _ => trivial)))
        rintro _ _ ⟨rfl, rfl⟩
        (refine go ?_)
        refine J_at1 (U := tab) d rfl rfl rfl rfl rfl rfl rfl rfl hrange ?_
        refine J_loadAt (U := tab) 1 d rfl rfl rfl hvo rfl (iV_get hx) rfl rfl ?_
        (refine goR ?_)
        refine K_to tail x rfl ht1 (by repeat (first | exact keep_nil | refine keep_cons rfl ?_)) entA
end Go.Proofs.Ytpacpkpkinmjcaa
