/- choke, part a: the closures, cmp's functions. -/
import Derived.Test.YtpacpkpkinmjcaaCa0
set_option linter.unusedVariables false
set_option linter.unusedSimpArgs false
namespace Go.Proofs.Ytpacpkpkinmjcaa
open Go Go.SL
structure Rt where
  id : Int
  by_ : Int
  w : Bool
deriving DecidableEq
instance : Inhabited Rt := ⟨⟨0, 0, false⟩⟩
def rC (x : Rt) : List Value := [.int .i64 x.id, .int .i64 x.by_, .bool x.w]
theorem rC_len (x : Rt) : (rC x).length = 3 := rfl
def cmpI (x y : Int) : Int := if x < y then -1 else if y < x then 1 else 0
def orL : List Int → Int
  | [] => 0
  | x :: l => if x = 0 then orL l else x
theorem orL_zeros : ∀ (l : List Int) (i : Nat), (∀ y ∈ l.take i, y = 0) → orL l = orL (l.drop i)
  | [], i, _ => by simp
  | x :: l, 0, _ => rfl
  | x :: l, i + 1, h => by
    have hx : x = 0 := h x (by simp)
    rw [List.drop_succ_cons, ← orL_zeros l i (fun y hy => h y (by simp [hy]))]
    simp [orL, hx]
/-- How peers are ordered: those of more bytes first. -/
def cfR (x y : Rt) : Int := orL [cmpI y.by_ x.by_, cmpI x.id y.id]
def oddR (x : Rt) : Bool := decide (x.id < 1) || decide (65536 < x.id) || decide (x.by_ < 0) || decide (1099511627776 < x.by_)
attribute [local irreducible] J K Ctr Ends pts slc mapR mapI sbRow stock arrS loopP CtrY

theorem isNaN_any (x : Int) : Ctr Try.prog 44 [.int .i64 x] [] (fun r H => r = .bool false ∧ H = []) := by
  refine Ctr.enter Try.func44 (by kernel_rfl) rfl Try.ntmps44 rfl rfl ?_
  intro G F R hE
  (refine go ?_)
  (first | refine J_slot 2 ((.bool false)) rfl ((by simp)) ?_ | refine K_slot 2 ((.bool false)) rfl ((by simp)) ?_)
  (first | refine K_return hE Try.func44 rfl _ rfl ⟨rfl, rfl⟩ entA | refine K_fallEnd hE Try.func44 rfl _ rfl ⟨rfl, rfl⟩ entA)
theorem Compare_any (x y : Int) : Ctr Try.prog 28 [.int .i64 x, .int .i64 y] [] (fun r H => r = .int .i64 (cmpI x y) ∧ H = []) := by
  refine Ctr.enter Try.func28 (by kernel_rfl) rfl Try.ntmps28 rfl rfl ?_
  intro G F R hE
  (refine go ?_)
  (first | refine J_callE rfl rfl rfl rfl (isNaN_any x) entA ?_ (fun _ _ _ _ _ => trivial) | refine J_call0E rfl rfl rfl (isNaN_any x) entA ?_ (fun _ _ _ _ _ => trivial) | (refine go ?_; first | refine J_callE rfl rfl rfl rfl (isNaN_any x) entA ?_ (fun _ _ _ _ _ => trivial) | refine J_call0E rfl rfl rfl (isNaN_any x) entA ?_ (fun _ _ _ _ _ => trivial)))
  rintro _ _ ⟨rfl, rfl⟩
  (refine go ?_)
  (first | refine J_callE rfl rfl rfl rfl (isNaN_any y) entA ?_ (fun _ _ _ _ _ => trivial) | refine J_call0E rfl rfl rfl (isNaN_any y) entA ?_ (fun _ _ _ _ _ => trivial) | (refine go ?_; first | refine J_callE rfl rfl rfl rfl (isNaN_any y) entA ?_ (fun _ _ _ _ _ => trivial) | refine J_call0E rfl rfl rfl (isNaN_any y) entA ?_ (fun _ _ _ _ _ => trivial)))
  rintro _ _ ⟨rfl, rfl⟩
  (refine go ?_)
  refine K_condP rfl rfl ?_ ?_
  · intro h
    (refine go ?_)
    (first | refine K_return hE Try.func28 rfl _ rfl ⟨by rw [cmpI, if_pos h]; rfl, rfl⟩ entA | refine K_fallEnd hE Try.func28 rfl _ rfl ⟨by rw [cmpI, if_pos h]; rfl, rfl⟩ entA)
  intro h
  (refine go ?_)
  refine K_condP rfl rfl ?_ ?_
  · intro h2
    (refine go ?_)
    (first | refine K_return hE Try.func28 rfl _ rfl ⟨by rw [cmpI, if_neg h, if_pos h2]; rfl, rfl⟩ entA | refine K_fallEnd hE Try.func28 rfl _ rfl ⟨by rw [cmpI, if_neg h, if_pos h2]; rfl, rfl⟩ entA)
  intro h2
  (refine go ?_)
  (first | refine K_return hE Try.func28 rfl _ rfl ⟨by rw [cmpI, if_neg h, if_neg h2]; rfl, rfl⟩ entA | refine K_fallEnd hE Try.func28 rfl _ rfl ⟨by rw [cmpI, if_neg h, if_neg h2]; rfl, rfl⟩ entA)
theorem Or_any (A : HP) (v : Value) (l : List Int) (hv : Vw A v l.length (iV l)) (hl : l.length ≤ 1000000000) : Ctr Try.prog 27 [v] [A] (fun r H => r = .int .i64 (orL l) ∧ H = [A]) := by
  obtain ⟨a, c, rfl⟩ := hv.shape
  refine Ctr.enter Try.func27 (by kernel_rfl) rfl Try.ntmps27 rfl rfl ?_
  intro G F R hE
  (refine go ?_)
  refine K_loop (fun i : Nat => i ≤ l.length ∧ ∀ y ∈ l.take i, y = 0) (fun i => l.length - i) (fun i => [(3, .int .i64 0), (6, .slice a l.length c), (7, .int .i64 l.length), (8, .int .i64 i)]) (fun _ => A :: F) 0 ⟨Nat.zero_le _, by simp⟩ rfl (by repeat (first | exact keep_nil | refine keep_cons rfl ?_)) entA ?_
  rintro i ⟨hi, hb⟩ ih
  (refine go ?_)
  refine K_condP rfl rfl ?_ ?_
  · intro hlt
    have hi' : i < l.length := by omega
    obtain ⟨x, hx⟩ : ∃ x, l[i]? = some x := ⟨l[i], by simp [hi']⟩
    obtain ⟨b, o, c', he⟩ := hv.some (ine hi')
    simp only [Value.slice.injEq, true_and] at he
    obtain ⟨rfl, rfl⟩ := he
    (refine go ?_)
    refine J_at1 (U := tab) i rfl rfl rfl rfl rfl rfl rfl rfl hi' ?_
    refine J_loadAt (U := tab) 0 i rfl rfl rfl hv rfl (show (iV l)[i]? = some (.int .i64 x) from by simp [iV, hx]) rfl rfl ?_
    (refine go ?_)
    refine K_condP rfl rfl ?_ ?_
    · intro h
      (refine go ?_)
      have h1 : orL l = x := by
        rw [orL_zeros l i hb, List.drop_eq_getElem_cons hi']
        have : l[i] = x := by rw [List.getElem?_eq_getElem hi'] at hx; exact Option.some.inj hx
        rw [this]
        simp only [orL]
        rw [if_neg h]
      (first | refine K_return hE Try.func27 rfl _ rfl ⟨by rw [h1]; rfl, rfl⟩ entA | refine K_fallEnd hE Try.func27 rfl _ rfl ⟨by rw [h1]; rfl, rfl⟩ entA)
    intro h
    (refine go ?_)
    refine K_again ih (i + 1) rfl (⟨by omega, fun y hy => by
      rw [List.take_add_one, hx] at hy
      rcases List.mem_append.1 hy with h' | h'
      · exact hb y h'
      · simp at h'; subst h'; exact Decidable.not_not.1 h⟩) (by omega) (by repeat (first | exact keep_nil | refine keep_cons rfl ?_)) entA
  intro hge
  (refine go ?_)
  have h1 : orL l = 0 := by
    rw [orL_zeros l i hb, List.drop_of_length_le (by omega)]; rfl
  (first | refine K_return hE Try.func27 rfl _ rfl ⟨by rw [h1]; rfl, rfl⟩ entA | refine K_fallEnd hE Try.func27 rfl _ rfl ⟨by rw [h1]; rfl, rfl⟩ entA)
theorem Choose1_any (x : Rt) : Ctr Try.prog 24 [.agg (rC x).toArray] [] (fun r H => r = .bool (!x.w) ∧ H = []) := by
  refine Ctr.enter Try.func24 (by kernel_rfl) rfl Try.ntmps24 rfl rfl ?_
  intro G F R hE
  refine K_regionA rfl ?_
  refine J_box rfl rfl (fun _ _ _ => trivial) ?_
  intro bx
  (refine go ?_)
  (first | refine K_return hE Try.func24 rfl _ rfl ⟨rfl, rfl⟩ entA | refine K_fallEnd hE Try.func24 rfl _ rfl ⟨rfl, rfl⟩ entA)
theorem right1_any (x : Rt) : Ctr Try.prog 39 [.agg (rC x).toArray] [] (fun r H => r = .bool (oddR x) ∧ H = []) := by
  refine Ctr.enter Try.func39 (by kernel_rfl) rfl Try.ntmps39 rfl rfl ?_
  intro G F R hE
  refine K_regionA rfl ?_
  refine J_box rfl rfl (fun _ _ _ => trivial) ?_
  intro bx
  repeat' (first | (with_reducible intro _hh) | refine go1 ?_ | refine J_fork ?_ ?_ | refine J_gsP rfl rfl rfl rfl ?_ ?_ | refine K_condP rfl rfl ?_ ?_)
  all_goals (first | refine K_return hE Try.func39 rfl _ rfl ⟨congrArg Value.bool (by first | rfl | (rw [Bool.eq_iff_iff]; simp [oddR]; omega)), rfl⟩ entA | refine K_fallEnd hE Try.func39 rfl _ rfl ⟨congrArg Value.bool (by first | rfl | (rw [Bool.eq_iff_iff]; simp [oddR]; omega)), rfl⟩ entA)
theorem Choose2_any (x y : Rt) : Ctr Try.prog 26 [.agg (rC x).toArray, .agg (rC y).toArray] [] (fun r H => r = .int .i64 (cfR x y) ∧ H = []) := by
  refine Ctr.enter Try.func26 (by kernel_rfl) rfl Try.ntmps26 rfl rfl ?_
  intro G F R hE
  refine K_regionA rfl ?_
  refine J_box rfl rfl (fun _ _ _ => trivial) ?_
  intro bx
  refine J_box rfl rfl (fun _ _ _ => trivial) ?_
  intro by_
  (refine go ?_)
  refine K_drawA (fun w => Sat G w ([pts bx (cl (cellsL (Value.agg (rC x).toArray)) 34), pts by_ (cl (cellsL (Value.agg (rC y).toArray)) 34)])) (.st 0 (.st 1 (.st 2 (.st 3 (.st 5 (.st 6 (.st 7 (.st 8 (.act 4 (.act 9 (.act 10 (.act 11 (.st 12 .nil))))))))))))) rfl (by kernel_rfl) (by kernel_rfl) (by kernel_rfl) (fun w hw => hw.ent entA) ?_
  (refine go ?_)
  (first | refine J_callE rfl rfl rfl rfl (Compare_any y.by_ x.by_) entA ?_ (fun _ _ w hp hw => by obtain ⟨rfl, rfl⟩ := hp; exact hw.ent entA) | refine J_call0E rfl rfl rfl (Compare_any y.by_ x.by_) entA ?_ (fun _ _ w hp hw => by obtain ⟨rfl, rfl⟩ := hp; exact hw.ent entA))
  rintro _ _ ⟨rfl, rfl⟩
  (refine go ?_)
  (first | refine J_callE rfl rfl rfl rfl (Compare_any x.id y.id) entA ?_ (fun _ _ w hp hw => by obtain ⟨rfl, rfl⟩ := hp; exact hw.ent entA) | refine J_call0E rfl rfl rfl (Compare_any x.id y.id) entA ?_ (fun _ _ w hp hw => by obtain ⟨rfl, rfl⟩ := hp; exact hw.ent entA))
  rintro _ _ ⟨rfl, rfl⟩
  (refine go ?_)
  refine J_buildSlice1 (U := tab) (cs := iV [cmpI y.by_ x.by_, cmpI x.id y.id]) rfl rfl rfl rfl rfl rfl rfl rfl rfl (fun _ w hw => hw.ent entA) ?_
  intro b
  (refine go ?_)
  (first | refine J_callE rfl rfl rfl rfl (Or_any _ _ [cmpI y.by_ x.by_, cmpI x.id y.id] (Vw.pts rfl) (by simp)) entA ?_ (fun _ _ w hp hw => by obtain ⟨rfl, rfl⟩ := hp; exact hw.ent entA) | refine J_call0E rfl rfl rfl (Or_any _ _ [cmpI y.by_ x.by_, cmpI x.id y.id] (Vw.pts rfl) (by simp)) entA ?_ (fun _ _ w hp hw => by obtain ⟨rfl, rfl⟩ := hp; exact hw.ent entA))
  rintro _ _ ⟨rfl, rfl⟩
  (refine go ?_)
  (first | refine K_return hE Try.func26 rfl _ rfl ⟨rfl, rfl⟩ entA | refine K_fallEnd hE Try.func26 rfl _ rfl ⟨rfl, rfl⟩ entA)
end Go.Proofs.Ytpacpkpkinmjcaa
