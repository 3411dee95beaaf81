/- choke, part k: awake; ChokeChooses. -/
import Derived.Test.YtpacpkpkinmjcaaCj
set_option linter.unusedVariables false
set_option linter.unusedSimpArgs false
namespace Go.Proofs.Ytpacpkpkinmjcaa
open Go Go.SL
theorem rank_is {l : List Rt} {s : List Wt} (hp : s.Perm (wantW l)) (hs : s.Pairwise fun a b => before b a = false) : rank l = s :=
  List.Perm.eq_of_pairwise (fun a b _ _ h1 h2 => before_tot a b h2 h1) (rank_sorted l) hs ((rank_perm l).trans hp.symm)
theorem risI_is {l s : List Int} (hp : s.Perm l) (hs : s.Pairwise (· ≤ ·)) : risI l = s := sorted_eq ((risI_perm0 l).trans hp.symm) (risI_sorted l) hs
def wakeL : List Rt := [⟨1, 5, true⟩, ⟨2, 9, true⟩, ⟨3, 7, false⟩]
theorem wake_choose : chooseA wakeL 2 0 true 3 = ([1, 2], 1, 0) := by
  have hr : rank wakeL = [⟨2, 9⟩, ⟨1, 5⟩] := rank_is (by decide) (by decide)
  have hf : firstA wakeL 2 = [2] := by unfold firstA; rw [hr]; exact risI_is (List.Perm.refl _) (by decide)
  have ho : othersA wakeL 2 = [1] := by unfold othersA; rw [hr]; exact risI_is (List.Perm.refl _) (by decide)
  have hd : drawA 3 1 = 0 := by
    have := belowN_lt (x := (mixV (nextS 3)).toNat) (n := 1) (mixV_lt _) (by omega)
    unfold drawA; omega
  have hr0 : rightA wakeL = 0 := by decide
  have ht : triedA [1] 0 true 3 = 1 := by unfold triedA; rw [if_pos (.inl rfl), show ([1] : List Int).length = 1 from rfl, hd]; rfl
  unfold chooseA
  rw [if_neg (by decide), if_neg (by rw [hr0]; decide), ho, if_neg (by decide), hf, ht, risI_is (s := [1, 2]) (by decide) (by decide)]
theorem firstA_len (l : List Rt) (slots : Int) : (firstA l slots).length ≤ l.length := by
  unfold firstA
  rw [risI_len, List.length_map, List.length_take]
  have h1 := rank_len l
  have h2 := wantW_len l
  omega
theorem chooseA_len (l : List Rt) (slots tried : Int) (turn : Bool) (seed : Int) : (chooseA l slots tried turn seed).1.length ≤ l.length + 1 := by
  have h := firstA_len l slots
  unfold chooseA
  split
  · simp
  · split
    · simp
    · split
      · simp only; omega
      · simp only [risI_len, List.length_append, List.length_singleton]; omega
attribute [local irreducible] J K Ctr Ends pts slc mapR mapI sbRow stock arrS loopP CtrY belowN mixV nextS chooseA

theorem awake_any : Ctr Try.prog 9 [] [] (fun r H => r = .bool true ∧ H = []) := by
  refine Ctr.enter Try.func9 (by kernel_rfl) rfl Try.ntmps9 rfl rfl ?_
  intro G F R hE
  (refine go ?_)
  refine J_buildSlice1 (U := tab) (cs := rV wakeL) rfl rfl rfl rfl rfl rfl rfl rfl rfl (fun _ _ _ => trivial) ?_
  intro b
  have hc := Choose_any _ (.slice (some ⟨b, 0, none⟩) 3 3) wakeL 2 0 true 3 (Vw.pts rfl : Vw (pts b (cl (rV wakeL) 34)) (.slice (some ⟨b, 0, none⟩) 3 3) 3 (rV wakeL)) (by decide) (by decide) (by decide)
  rw [wake_choose] at hc
  have hc2 : Ctr Try.prog 10 [.slice (some ⟨b, 0, none⟩) 3 3, .int .i64 2, .int .i64 0, .bool true, .int .u64 3] [pts b (cl (rV wakeL) 34)] (fun r H => ∃ w, r = .tuple #[w, .int .i64 1, .int .i64 0] ∧ H = [slc 3 1 w 2 (iV [1, 2]), pts b (cl (rV wakeL) 34)]) := hc
  (refine go ?_)
  (first | refine J_callE rfl rfl rfl rfl (hc2) entA ?_ (fun _ _ _ _ _ => trivial) | refine J_call0E rfl rfl rfl (hc2) entA ?_ (fun _ _ _ _ _ => trivial) | (refine go ?_; first | refine J_callE rfl rfl rfl rfl (hc2) entA ?_ (fun _ _ _ _ _ => trivial) | refine J_call0E rfl rfl rfl (hc2) entA ?_ (fun _ _ _ _ _ => trivial)))
  rintro _ _ ⟨w, rfl, rfl⟩
  refine J_slcAt 0 rfl (by decide) ?_
  rintro bb oo cc rfl hvl
  (refine go ?_)
  refine J_at1 (U := tab) 1 rfl rfl rfl rfl rfl rfl rfl rfl (by decide) ?_
  (refine go ?_)
  refine J_isLoad ?_
  refine J_loadAt (U := tab) 0 1 rfl rfl rfl hvl rfl (iV_get (x := 2) rfl) rfl rfl ?_
  (refine go ?_)
  (first | refine K_return hE Try.func9 rfl _ rfl ⟨rfl, rfl⟩ entA | refine K_fallEnd hE Try.func9 rfl _ rfl ⟨rfl, rfl⟩ entA)
set_option maxRecDepth 20000 in
theorem ChokeChooses_any (X : HP) (v : Value) (l : List Rt) (p q : Int) (turn : Bool) (hv : Vw X v l.length (rV l)) (hl : l.length ≤ 9223372036854775807) (hp : i64 p) (hq : i64 q) :
    Ctr Try.prog 3 [v, .agg #[.int .i64 p, .int .i64 q], .bool turn] [X] (fun r H => r = .bool true ∧ H = [X]) := by
  obtain ⟨a, c0, rfl⟩ := hv.shape
  refine Ctr.enter Try.func3 (by kernel_rfl) rfl Try.ntmps3 rfl rfl ?_
  intro G F R hE
  refine K_regionA rfl ?_
  refine J_box rfl rfl (fun _ _ _ => trivial) ?_
  intro bx
  (refine go ?_)
  (first | refine J_callE rfl rfl rfl rfl (awake_any) entA ?_ (fun _ _ _ _ _ => trivial) | refine J_call0E rfl rfl rfl (awake_any) entA ?_ (fun _ _ _ _ _ => trivial) | (refine go ?_; first | refine J_callE rfl rfl rfl rfl (awake_any) entA ?_ (fun _ _ _ _ _ => trivial) | refine J_call0E rfl rfl rfl (awake_any) entA ?_ (fun _ _ _ _ _ => trivial)))
  rintro _ _ ⟨rfl, rfl⟩
  (refine go ?_)
  refine K_condP rfl rfl ?_ ?_
  · intro hbig
    (refine go ?_)
    (first | refine K_return hE Try.func3 rfl _ rfl ⟨rfl, rfl⟩ entA | refine K_fallEnd hE Try.func3 rfl _ rfl ⟨rfl, rfl⟩ entA)
  intro hsm
  (repeat (first | refine go1 ?_ | refine J_fork ?_ ?_ | refine J_indexArr (U := tab) rfl rfl rfl rfl rfl rfl (by omega) (by omega) ?_ | refine J_convW (U := tab) rfl rfl rfl rfl rfl rfl ?_))
  have h1 := Choose_any X (.slice a l.length c0) l p q turn (IntKind.u64.wrap q) hv hl hp hq
  have h2 := refChoose_any X (.slice a l.length c0) l p q turn (IntKind.u64.wrap q) hv hl hp hq
  have hlen := chooseA_len l p q turn (IntKind.u64.wrap q)
  generalize chooseA l p q turn (IntKind.u64.wrap q) = res at h1 h2 hlen
  obtain ⟨rl, rt, re⟩ := res
  simp only at h1 h2 hlen
  have hrl : rl.length ≤ 1000000000 := by omega
  (first | refine J_callE rfl rfl rfl rfl (h1) entA ?_ (fun _ _ _ _ _ => trivial) | refine J_call0E rfl rfl rfl (h1) entA ?_ (fun _ _ _ _ _ => trivial) | (refine go ?_; first | refine J_callE rfl rfl rfl rfl (h1) entA ?_ (fun _ _ _ _ _ => trivial) | refine J_call0E rfl rfl rfl (h1) entA ?_ (fun _ _ _ _ _ => trivial)))
  rintro _ _ ⟨w1, rfl, rfl⟩
  (repeat (first | refine go1 ?_ | refine J_fork ?_ ?_ | refine J_indexArr (U := tab) rfl rfl rfl rfl rfl rfl (by omega) (by omega) ?_ | refine J_convW (U := tab) rfl rfl rfl rfl rfl rfl ?_))
  (first | refine J_callE rfl rfl rfl rfl (h2) entA ?_ (fun _ _ _ _ _ => trivial) | refine J_call0E rfl rfl rfl (h2) entA ?_ (fun _ _ _ _ _ => trivial) | (refine go ?_; first | refine J_callE rfl rfl rfl rfl (h2) entA ?_ (fun _ _ _ _ _ => trivial) | refine J_call0E rfl rfl rfl (h2) entA ?_ (fun _ _ _ _ _ => trivial)))
  rintro _ _ ⟨w2, rfl, rfl⟩
  refine J_slcVw 0 rfl ?_
  intro hv2
  refine J_slcVw 2 rfl ?_
  intro hv1
  (refine go ?_)
  (first | refine J_callE rfl rfl rfl rfl (SameI_any _ _ w1 w2 rl rl hv1 hv2 hrl) entA ?_ (fun _ _ _ _ _ => trivial) | refine J_call0E rfl rfl rfl (SameI_any _ _ w1 w2 rl rl hv1 hv2 hrl) entA ?_ (fun _ _ _ _ _ => trivial) | (refine go ?_; first | refine J_callE rfl rfl rfl rfl (SameI_any _ _ w1 w2 rl rl hv1 hv2 hrl) entA ?_ (fun _ _ _ _ _ => trivial) | refine J_call0E rfl rfl rfl (SameI_any _ _ w1 w2 rl rl hv1 hv2 hrl) entA ?_ (fun _ _ _ _ _ => trivial)))
  rintro _ _ ⟨rfl, rfl⟩
  rw [decide_eq_true (rfl : rl = rl)]
  repeat' (first | (with_reducible intro _hh) | refine go1 ?_ | refine J_fork ?_ ?_ | refine J_gsP rfl rfl rfl rfl ?_ ?_ | refine K_condP rfl rfl ?_ ?_)
  · (first | refine J_slot 6 ((.bool true)) rfl ((by simp)) ?_ | refine K_slot 6 ((.bool true)) rfl ((by simp)) ?_)
    (first | refine K_return hE Try.func3 rfl _ rfl ⟨rfl, rfl⟩ entA | refine K_fallEnd hE Try.func3 rfl _ rfl ⟨rfl, rfl⟩ entA)
  · exact absurd rfl _hh
end Go.Proofs.Ytpacpkpkinmjcaa
