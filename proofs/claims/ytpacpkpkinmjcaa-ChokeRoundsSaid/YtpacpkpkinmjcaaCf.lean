/- choke, part f: the reference's small functions. -/
import Derived.Test.YtpacpkpkinmjcaaCe
set_option linter.unusedVariables false
set_option linter.unusedSimpArgs false
namespace Go.Proofs.Ytpacpkpkinmjcaa
open Go Go.SL
theorem rtI {l : List Rt} {i : Nat} {x : Rt} (h : l[i]? = some x) : (rV l)[i * 3 + 0]? = some (.int .i64 x.id) := by rw [rV_eq, chunk_get rC_len h 0 (by omega)]; rfl
theorem rtB {l : List Rt} {i : Nat} {x : Rt} (h : l[i]? = some x) : (rV l)[i * 3 + 1]? = some (.int .i64 x.by_) := by rw [rV_eq, chunk_get rC_len h 1 (by omega)]; rfl
theorem rtW {l : List Rt} {i : Nat} {x : Rt} (h : l[i]? = some x) : (rV l)[i * 3 + 2]? = some (.bool x.w) := by rw [rV_eq, chunk_get rC_len h 2 (by omega)]; rfl
theorem rne {l : List Rt} {i : Nat} (h : i < l.length) : rV l ≠ [] := fun e => by have := congrArg List.length e; rw [rV_len] at this; simp at this; omega
/-- A number more in a list, ahead of the first that is not less. -/
def insL (n : Int) : List Int → List Int
  | [] => [n]
  | x :: l => if x < n then x :: insL n l else n :: x :: l
theorem insL_at (n : Int) : ∀ (l : List Int) (i : Nat), (∀ y ∈ l.take i, y < n) → (∀ y, l[i]? = some y → ¬ y < n) → insL n l = l.take i ++ n :: l.drop i
  | [], i, _, _ => by simp [insL]
  | x :: l, 0, _, h => by simp only [insL]; rw [if_neg (h x rfl)]; rfl
  | x :: l, i + 1, h1, h2 => by
    simp only [insL]
    rw [if_pos (h1 x (by simp)), insL_at n l i (fun y hy => h1 y (by simp [hy])) (fun y hy => h2 y (by simpa using hy))]
    rfl
theorem insL_len (n : Int) (l : List Int) : (insL n l).length = l.length + 1 := by
  induction l with
  | nil => rfl
  | cons x l ih => simp only [insL]; split <;> simp [ih]
/-- What best tells: where the best of those that may be is, or that there is none. -/
def okB (b : List Int) (x : Rt) : Prop := x.w = true ∧ x.id ∉ b
def lessB (y x : Rt) : Prop := x.by_ < y.by_ ∨ (x.by_ = y.by_ ∧ y.id < x.id)
def BestP (l : List Rt) (b : List Int) (at_ : Int) : Prop :=
  (at_ = -1 ∧ ∀ x ∈ l, ¬ okB b x) ∨ ∃ k x, at_ = ((k : Nat) : Int) ∧ l[k]? = some x ∧ okB b x ∧ ∀ y ∈ l, okB b y → ¬ lessB y x
theorem BestP.skip {l : List Rt} {b : List Int} {i : Nat} {x : Rt} {at_ : Int} (h : BestP (l.take i) b at_) (hx : l[i]? = some x) (hn : ¬ okB b x) : BestP (l.take (i + 1)) b at_ := by
  have ht : l.take (i + 1) = l.take i ++ [x] := by rw [List.take_add_one, hx]; rfl
  rw [ht]
  rcases h with ⟨h1, h2⟩ | ⟨k, z, h1, h2, h3, h4⟩
  · refine .inl ⟨h1, fun y hy => ?_⟩
    rcases List.mem_append.1 hy with h | h
    · exact h2 y h
    · simp at h; subst h; exact hn
  · refine .inr ⟨k, z, h1, by rw [List.getElem?_append_left (List.getElem?_eq_some_iff.1 h2).1]; exact h2, h3, fun y hy hyo => ?_⟩
    rcases List.mem_append.1 hy with h | h
    · exact h4 y h hyo
    · simp at h; subst h; exact absurd hyo hn
theorem BestP.keep {l : List Rt} {b : List Int} {i k : Nat} {x z : Rt} (h : BestP (l.take i) b (k : Int)) (hx : l[i]? = some x) (hz : l[k]? = some z) (hn : ¬ lessB x z) : BestP (l.take (i + 1)) b (k : Int) := by
  have ht : l.take (i + 1) = l.take i ++ [x] := by rw [List.take_add_one, hx]; rfl
  rw [ht]
  rcases h with ⟨h1, h2⟩ | ⟨k', z', h1, h2, h3, h4⟩
  · omega
  · have : k' = k := by omega
    subst this
    have hk := (List.getElem?_eq_some_iff.1 h2).1
    have hzz : z' = z := by
      rw [List.getElem?_take_of_lt (by simp at hk; omega), hz] at h2
      exact (Option.some.inj h2).symm
    subst hzz
    refine .inr ⟨k', z', rfl, by rw [List.getElem?_append_left hk]; exact h2, h3, fun y hy hyo => ?_⟩
    rcases List.mem_append.1 hy with h | h
    · exact h4 y h hyo
    · simp at h; subst h; exact hn
theorem lessB_trans {x y z : Rt} (h1 : lessB x y) (h2 : lessB y z) : lessB x z := by unfold lessB at *; omega
theorem BestP.turn {l : List Rt} {b : List Int} {i : Nat} {x : Rt} {at_ : Int} (h : BestP (l.take i) b at_) (hx : l[i]? = some x) (ho : okB b x) (hl : ∀ (k : Nat) z, at_ = k → l[k]? = some z → lessB x z) : BestP (l.take (i + 1)) b (i : Int) := by
  have ht : l.take (i + 1) = l.take i ++ [x] := by rw [List.take_add_one, hx]; rfl
  have hil := (List.getElem?_eq_some_iff.1 hx).1
  rw [ht]
  refine .inr ⟨i, x, rfl, by rw [List.getElem?_append_right (by simp; omega)]; simp [Nat.min_eq_left (Nat.le_of_lt hil)], ho, fun y hy hyo => ?_⟩
  rcases List.mem_append.1 hy with hm | hm
  · rcases h with ⟨h1, h2⟩ | ⟨k, z, h1, h2, h3, h4⟩
    · exact absurd hyo (h2 y hm)
    · intro hyx
      have hk := (List.getElem?_eq_some_iff.1 h2).1
      have hz : l[k]? = some z := by rw [List.getElem?_take_of_lt (by simp at hk; omega)] at h2; exact h2
      exact h4 y hm hyo (lessB_trans hyx (hl k z h1 hz))
  · simp at hm; subst hm
    intro h; unfold lessB at h; omega
attribute [local irreducible] J K Ctr Ends pts slc mapR mapI sbRow stock arrS loopP CtrY belowN mixV nextS

theorem IsId_any (x : Int) : Ctr Try.prog 38 [.int .i64 x] [] (fun r H => r = .bool (decide (1 ≤ x ∧ x ≤ 65536)) ∧ H = []) := by
  refine Ctr.enter Try.func38 (by kernel_rfl) rfl Try.ntmps38 rfl rfl ?_
  intro G F R hE
  repeat' (first | (with_reducible intro _hh) | refine go1 ?_ | refine J_fork ?_ ?_ | refine J_gsP rfl rfl rfl rfl ?_ ?_ | refine K_condP rfl rfl ?_ ?_)
  all_goals (first | refine K_return hE Try.func38 rfl _ rfl ⟨congrArg Value.bool (by first | (rw [decide_eq_decide]; omega) | (symm; apply decide_eq_false; omega)), rfl⟩ entA | refine K_fallEnd hE Try.func38 rfl _ rfl ⟨congrArg Value.bool (by first | (rw [decide_eq_decide]; omega) | (symm; apply decide_eq_false; omega)), rfl⟩ entA)
theorem has_any (A : HP) (v : Value) (l : List Int) (t : Int) (hv : Vw A v l.length (iV l)) (hl : l.length ≤ 1000000000) : Ctr Try.prog 36 [v, .int .i64 t] [A] (fun r H => r = .bool (decide (t ∈ l)) ∧ H = [A]) := by
  obtain ⟨a, c0, rfl⟩ := hv.shape
  refine Ctr.enter Try.func36 (by kernel_rfl) rfl Try.ntmps36 rfl rfl ?_
  intro G F R hE
  (refine go ?_)
  refine K_loop (fun i : Nat => i ≤ l.length ∧ ∀ y ∈ l.take i, ¬ y = t) (fun i => l.length - i) (fun i => [(0, .slice a l.length c0), (1, .int .i64 t), (5, .int .i64 (i : Int))]) (fun _ => A :: F) 0 ⟨by simp, by simp⟩ rfl (by repeat (first | exact keep_nil | refine keep_cons rfl ?_)) entA ?_
  rintro i ⟨hi, hb⟩ ih
  (refine go ?_)
  refine K_condP rfl rfl ?_ ?_
  · intro hlt
    have hi' : i < l.length := by omega
    obtain ⟨x, hx⟩ : ∃ x, l[i]? = some x := ⟨l[i], by simp [hi']⟩
    obtain ⟨b, o, c', he⟩ := hv.some (ine hi')
    simp only [Value.slice.injEq, true_and] at he
    obtain ⟨rfl, rfl⟩ := he
    (refine go ?_)
    refine J_at1 (U := tab) i rfl rfl rfl rfl rfl rfl rfl rfl hi' ?_
    refine J_loadAt (U := tab) 0 i rfl rfl rfl hv rfl (iV_get hx) rfl rfl ?_
    (refine go ?_)
    refine K_condP rfl rfl ?_ ?_
    · intro h
      (refine go ?_)
      have ht : t ∈ l := by rw [← h]; exact List.mem_of_getElem? hx
      (first | refine K_return hE Try.func36 rfl _ rfl ⟨by rw [decide_eq_true ht]; rfl, rfl⟩ entA | refine K_fallEnd hE Try.func36 rfl _ rfl ⟨by rw [decide_eq_true ht]; rfl, rfl⟩ entA)
    intro h
    (refine go ?_)
    refine K_again ih (i + 1) rfl (⟨by omega, allTake hb hx h⟩) (by omega) (by repeat (first | exact keep_nil | refine keep_cons rfl ?_)) entA
  intro hge
  (refine go ?_)
  have ht : t ∉ l := fun h => hb t (by rw [List.take_of_length_le (by omega)]; exact h) rfl
  (first | refine K_return hE Try.func36 rfl _ rfl ⟨by rw [decide_eq_false ht]; rfl, rfl⟩ entA | refine K_fallEnd hE Try.func36 rfl _ rfl ⟨by rw [decide_eq_false ht]; rfl, rfl⟩ entA)
theorem rising_any (A : HP) (v : Value) (l : List Int) (t : Int) (hv : Vw A v l.length (iV l)) (hl : l.length ≤ 1000000) (hc : ∃ a c, v = .slice a l.length c ∧ l.length ≤ c) :
    Ctr Try.prog 35 [v, .int .i64 t] [A] (fun r H => H = [slc 3 1 r (insL t l).length (iV (insL t l)), A]) := by
  obtain ⟨a, c0, rfl, hcap⟩ := hc
  refine Ctr.enter Try.func35 (by kernel_rfl) rfl Try.ntmps35 rfl rfl ?_
  intro G F R hE
  (refine go ?_)
  refine K_loop (fun i : Nat => i ≤ l.length ∧ ∀ y ∈ l.take i, y < t) (fun i => l.length - i) (fun i => [(0, .slice a l.length c0), (1, .int .i64 t), (5, .int .i64 (i : Int))]) (fun _ => A :: F) 0 ⟨by simp, by simp⟩ rfl (by repeat (first | exact keep_nil | refine keep_cons rfl ?_)) entA ?_
  rintro i ⟨hi, hb⟩ ih
  refine K_mid 3 (fun i : Nat => i ≤ l.length ∧ (∀ y ∈ l.take i, y < t) ∧ (∀ y, l[i]? = some y → ¬ y < t)) (fun i => [(0, .slice a l.length c0), (1, .int .i64 t), (5, .int .i64 (i : Int))]) (fun _ => A :: F) rfl ?_ ?_
  · clear ih hi hb i
    rintro i ⟨hi, hb, hn⟩
    have hins := insL_at t l i hb hn
    have hlen := insL_len t l
    have hv1 : Vw A (.slice (sliceAt a c0 0 1) i c0) i (iV (l.take i)) := by
      have := hv.cut0 (s := 1) i
      rwa [Nat.mul_one, show (iV l).take i = iV (l.take i) from by simp [iV]] at this
    have hv2 : Vw A (.slice (sliceAt a c0 i 1) (l.length - i) (c0 - i)) (l.length - i) (iV (l.drop i)) := by
      have := hv.cutk (s := 1) (by rw [iV_len, Nat.mul_one]) hcap i hi
      rwa [Nat.mul_one, show (iV l).drop i = iV (l.drop i) from by simp [iV]] at this
    (refine go ?_)
    refine J_buildSlice1 (U := tab) (cs := []) rfl rfl rfl rfl rfl rfl rfl rfl rfl (fun _ _ _ => trivial) ?_
    intro b0
    (refine go ?_)
    refine J_sliceAny (U := tab) rfl rfl rfl rfl rfl rfl rfl (by omega) (by omega) (.inr (by omega)) ?_
    (first | refine J_slot 24 ((.slice (sliceAt a c0 0 1) i c0)) rfl ((by simp; rfl)) ?_ | refine K_slot 24 ((.slice (sliceAt a c0 0 1) i c0)) rfl ((by simp; rfl)) ?_)
    (refine go ?_)
    refine J_ent (slc_row 3 1 b0 0 0 [] [] _ rfl (Nat.le_refl _) (by simp)) ?_
    refine J_append (U := tab) (mm := i) (news := iV (l.take i)) 0 1 rfl rfl rfl rfl rfl rfl rfl rfl rfl rfl rfl rfl hv1 (by show _ = _ * 1; rw [iV_len, List.length_take]; omega) (iV_one _) (by omega) (by show _ * 8 ≤ _; omega) (fun _ => rfl) (fun _ _ _ => trivial) ?_
    intro v1
    rw [Nat.zero_add, List.nil_append]
    (first | refine J_shape 0 rfl ?_ | refine K_shape 0 rfl ?_)
    rintro va1 vc1 rfl
    (refine go ?_)
    refine J_buildSlice1 (U := tab) (cs := iV [t]) rfl rfl rfl rfl rfl rfl rfl rfl rfl (fun _ _ _ => trivial) ?_
    intro b1
    (refine go ?_)
    refine J_append (U := tab) (mm := 1) (news := iV [t]) 1 0 rfl rfl rfl rfl rfl rfl rfl rfl rfl rfl rfl rfl (Vw.pts rfl) rfl (iV_one _) (by omega) (by show (_ + 1) * 8 ≤ _; omega) (fun _ => rfl) (fun _ _ _ => trivial) ?_
    intro v2
    (first | refine J_shape 1 rfl ?_ | refine K_shape 1 rfl ?_)
    rintro va2 vc2 rfl
    (refine go ?_)
    refine J_sliceAny (U := tab) rfl rfl rfl rfl rfl rfl rfl (by omega) (by omega) (.inl rfl) ?_
    (first | refine J_slot 33 ((.slice (sliceAt a c0 i 1) (l.length - i) (c0 - i))) rfl ((by simp; rfl)) ?_ | refine K_slot 33 ((.slice (sliceAt a c0 i 1) (l.length - i) (c0 - i))) rfl ((by simp; rfl)) ?_)
    (refine go ?_)
    refine J_append (U := tab) (mm := l.length - i) (news := iV (l.drop i)) 1 2 rfl rfl rfl rfl rfl rfl rfl rfl rfl rfl rfl rfl hv2 (by show _ = _ * 1; rw [iV_len, List.length_drop]; omega) (iV_one _) (by omega) (by show _ * 8 ≤ _; omega) (fun _ => rfl) (fun _ _ _ => trivial) ?_
    intro v3
    rw [show iV (l.take i) ++ iV [t] ++ iV (l.drop i) = iV (insL t l) from by rw [hins]; simp [iV], show i + 1 + (l.length - i) = (insL t l).length from by omega]
    (first | refine J_shape 1 rfl ?_ | refine K_shape 1 rfl ?_)
    rintro va3 vc3 rfl
    (refine go ?_)
    (first | refine K_return hE Try.func35 rfl _ rfl rfl entA | refine K_fallEnd hE Try.func35 rfl _ rfl rfl entA)
  · intro tail
    (refine go ?_)
    refine J_gsP rfl rfl rfl rfl ?_ ?_
    rotate_left
    · intro hge
      (refine goR ?_)
      refine K_condF rfl rfl ?_
      refine K_to tail i rfl ⟨hi, hb, fun y hy => by rw [List.getElem?_eq_none (by omega)] at hy; cases hy⟩ (by repeat (first | exact keep_nil | refine keep_cons rfl ?_)) entA
    intro hlt
    have hi' : i < l.length := by omega
    obtain ⟨x, hx⟩ : ∃ x, l[i]? = some x := ⟨l[i], by simp [hi']⟩
    obtain ⟨b, o, c', he⟩ := hv.some (ine hi')
    simp only [Value.slice.injEq, true_and] at he
    obtain ⟨rfl, rfl⟩ := he
    (refine go ?_)
    refine J_at1 (U := tab) i rfl rfl rfl rfl rfl rfl rfl rfl hi' ?_
    (refine go ?_)
    refine J_isLoad ?_
    refine J_loadAt (U := tab) 0 i rfl rfl rfl hv rfl (iV_get hx) rfl rfl ?_
    (refine goR ?_)
    refine K_condP rfl rfl ?_ ?_
    · intro h
      (refine go ?_)
      refine K_again ih (i + 1) rfl (⟨by omega, allTake hb hx h⟩) (by omega) (by repeat (first | exact keep_nil | refine keep_cons rfl ?_)) entA
    intro h
    refine K_to tail i rfl ⟨hi, hb, fun y hy => by rw [hx] at hy; cases hy; exact h⟩ (by repeat (first | exact keep_nil | refine keep_cons rfl ?_)) entA
end Go.Proofs.Ytpacpkpkinmjcaa
