/- net, part a: numbers compared, places, the small functions. -/
import Derived.Test.YtngmcoopgbflaaaEngN
import Derived.Test.YtngmcoopgbflaaaEngJ
import Derived.Test.YtngmcoopgbflaaaEngK
import Derived.Test.YtngmcoopgbflaaaEngL
import Derived.Test.YtngmcoopgbflaaaTab
set_option linter.unusedVariables false
set_option linter.unusedSimpArgs false
namespace Go.Proofs.Ytngmcoopgbflaaa
open Go Go.SL
attribute [local irreducible] J K Ctr Ends pts slc mapR mapI sbRow stock arrS

def ptr (b : Nat) : Value := .pointer (some ⟨b, 0, none⟩)
/-- A datagram: its numbers, its bytes, and the slice that holds them. -/
structure Fl where
  num : Int
  src : Int
  dst : Int
  due : Int
  v : Value
  bs : List UInt8
def fcell (x : Fl) : List Value := [.int .i64 x.num, .int .i64 x.src, .int .i64 x.dst, .int .i64 x.due, x.v]
theorem fcell_len (x : Fl) : (fcell x).length = 5 := rfl
def cmpI (x y : Int) : Int := if x < y then -1 else if y < x then 1 else 0
def cmpF (a b : Fl) : Int := if cmpI a.due b.due ≠ 0 then cmpI a.due b.due else cmpI a.num b.num

theorem isNaN_any (x : Int) : Ctr Try.prog 47 [.int .i64 x] [] (fun v H => v = .bool false ∧ H = []) := by
  refine Ctr.enter Try.func47 (by kernel_rfl) rfl Try.ntmps47 rfl rfl ?_
  intro G F R hR
  (refine go ?_)
  refine K_return hR Try.func47 rfl _ rfl ⟨by simp [oneOrTuple], rfl⟩ (Ent.fin [] 0 rfl rfl)
theorem Compare_any (x y : Int) : Ctr Try.prog 41 [.int .i64 x, .int .i64 y] [] (fun v H => v = .int .i64 (cmpI x y) ∧ H = []) := by
  refine Ctr.enter Try.func41 (by kernel_rfl) rfl Try.ntmps41 rfl rfl ?_
  intro G F R hR
  (refine go ?_)
  refine J_call [] rfl rfl rfl rfl (isNaN_any x) rfl (fun _ _ _ _ _ => trivial) ?_
  rintro _ _ ⟨rfl, rfl⟩
  (refine go ?_)
  refine J_call [] rfl rfl rfl rfl (isNaN_any y) rfl (fun _ _ _ _ _ => trivial) ?_
  rintro _ _ ⟨rfl, rfl⟩
  repeat' (first | (with_reducible intro _hh) | refine go1 ?_ | refine J_fork ?_ ?_ | refine J_gsP rfl rfl rfl rfl ?_ ?_ | refine K_condP rfl rfl ?_ ?_)
  all_goals refine K_return hR Try.func41 rfl _ rfl ⟨congrArg (Value.int .i64) (by unfold cmpI; first | (rw [if_pos (by omega)]; done) | (rw [if_neg (by omega), if_pos (by omega)]; done) | (rw [if_neg (by omega), if_neg (by omega)]; done)), rfl⟩ (Ent.fin [] 0 rfl rfl)
theorem Or_any (b : Nat) (x y : Int) : Ctr Try.prog 40 [.slice (some ⟨b, 0, none⟩) 2 2] [pts b (cl [.int .i64 x, .int .i64 y] 3)] (fun v H => v = .int .i64 (if x ≠ 0 then x else y) ∧ H = [pts b (cl [.int .i64 x, .int .i64 y] 3)]) := by
  refine Ctr.enter Try.func40 (by kernel_rfl) rfl Try.ntmps40 rfl rfl ?_
  intro G F R hR
  (refine go ?_)
  refine K_loop (fun i : Nat => i ≤ 2 ∧ (0 < i → x = 0) ∧ (1 < i → y = 0)) (fun i => 2 - i) (fun i => [(3, .int .i64 0), (6, .slice (some ⟨b, 0, none⟩) 2 2), (7, .int .i64 2), (8, .int .i64 i)])
    (fun _ => pts b (cl [.int .i64 x, .int .i64 y] 3) :: F) 0 ⟨by omega, by omega, by omega⟩ rfl (by repeat (first | exact keep_nil | refine keep_cons rfl ?_)) (Ent.refl _) ?_
  rintro i ⟨hi, h0, h1⟩ ih
  (refine go ?_)
  refine K_condP rfl rfl ?_ ?_
  · intro hlt
    (refine go ?_)
    refine J_at1 (U := tab) i rfl rfl rfl rfl rfl rfl rfl rfl (by omega) ?_
    match i, hlt, h0, h1 with
    | 0, _, _, _ =>
      (refine go ?_)
      refine K_condP rfl rfl ?_ ?_
      · intro hx
        (refine go ?_)
        refine K_return hR Try.func40 rfl _ rfl ⟨by simp [oneOrTuple, hx], rfl⟩ (Ent.fin [0] 0 rfl rfl)
      · intro hx
        (refine go ?_)
        refine K_again ih 1 rfl ⟨by omega, fun _ => by omega, by omega⟩ (by omega) (by repeat (first | exact keep_nil | refine keep_cons rfl ?_)) (Ent.refl _)
    | 1, _, h0, _ =>
      (refine go ?_)
      refine K_condP rfl rfl ?_ ?_
      · intro hx
        (refine go ?_)
        have := h0 (by omega)
        refine K_return hR Try.func40 rfl _ rfl ⟨by simp [oneOrTuple, this], rfl⟩ (Ent.fin [0] 0 rfl rfl)
      · intro hx
        (refine go ?_)
        refine K_again ih 2 rfl ⟨by omega, fun _ => h0 (by omega), fun _ => by omega⟩ (by omega) (by repeat (first | exact keep_nil | refine keep_cons rfl ?_)) (Ent.refl _)
    | i + 2, hlt, _, _ => exfalso; omega
  · intro hge
    (refine go ?_)
    have h2 : i = 2 := by omega
    have hx := h0 (by omega)
    have hy := h1 (by omega)
    refine K_return hR Try.func40 rfl _ rfl ⟨by simp [oneOrTuple, hx, hy], rfl⟩ (Ent.fin [0] 0 rfl rfl)
theorem put1_any (x y : Fl) : Ctr Try.prog 39 [.agg (fcell x).toArray, .agg (fcell y).toArray] [] (fun v H => v = .int .i64 (cmpF x y) ∧ H = []) := by
  refine Ctr.enter Try.func39 (by kernel_rfl) rfl Try.ntmps39 rfl rfl ?_
  intro G F R hE
  (refine go ?_)
  refine J_box rfl rfl (fun _ _ _ => trivial) ?_
  intro b1
  (refine go ?_)
  refine J_box rfl rfl (fun _ _ _ => trivial) ?_
  intro b2
  rw [show cellsL (Value.agg (fcell x).toArray) = fcell x from rfl, show cellsL (Value.agg (fcell y).toArray) = fcell y from rfl]
  (refine go ?_)
  refine K_drawA (fun w => Sat G w ([pts b1 (cl (fcell x) 34), pts b2 (cl (fcell y) 34)])) (.st 0 (.st 1 (.st 2 (.st 3 (.st 5 (.st 6 (.st 7 (.st 8 (.act 4 (.act 9 (.act 10 (.act 11 (.st 12 .nil))))))))))))) rfl (by kernel_rfl) (by kernel_rfl) (by kernel_rfl) (fun w hw => hw.ent (Ent.pickOnly ([1, 0]) rfl)) ?_
  (refine go ?_)
  refine J_call [] rfl rfl rfl rfl (Compare_any x.due y.due) rfl (fun _ _ w hp hw => by obtain ⟨_, rfl⟩ := hp; exact hw.ent (Ent.pickOnly [1, 0] rfl)) ?_
  rintro _ _ ⟨rfl, rfl⟩
  (refine go ?_)
  refine J_call [] rfl rfl rfl rfl (Compare_any x.num y.num) rfl (fun _ _ w hp hw => by obtain ⟨_, rfl⟩ := hp; exact hw.ent (Ent.pickOnly [1, 0] rfl)) ?_
  rintro _ _ ⟨rfl, rfl⟩
  (refine go ?_)
  refine J_buildSlice1 (U := tab) rfl rfl rfl rfl rfl rfl rfl rfl rfl (fun _ w hw => hw.ent (Ent.pickOnly ([2, 1]) rfl)) ?_
  intro b3
  (refine go ?_)
  refine J_call [0] rfl rfl rfl rfl (Or_any b3 _ _) rfl (fun _ _ w hp hw => by obtain ⟨_, rfl⟩ := hp; exact hw.ent (Ent.pickOnly [2, 1] rfl)) ?_
  rintro _ _ ⟨rfl, rfl⟩
  (refine go ?_)
  refine K_return hE Try.func39 rfl _ rfl ⟨by simp [oneOrTuple, cmpF], rfl⟩ (Ent.fin [] 3 rfl rfl)
theorem moment_any (x : Int) : Ctr Try.prog 22 [.int .i64 x] [] (fun v H => v = .bool (decide (0 ≤ x ∧ x ≤ 1099511627776)) ∧ H = []) := by
  refine Ctr.enter Try.func22 (by kernel_rfl) rfl Try.ntmps22 rfl rfl ?_
  intro G F R hR
  repeat' (first | (with_reducible intro _hh) | refine go1 ?_ | refine J_fork ?_ ?_ | refine J_gsP rfl rfl rfl rfl ?_ ?_ | refine K_condP rfl rfl ?_ ?_)
  · refine K_return hR Try.func22 rfl _ rfl ⟨congrArg Value.bool (decide_eq_decide.2 (by omega)), rfl⟩ (Ent.fin ([]) 0 rfl rfl)
  · refine K_return hR Try.func22 rfl _ rfl ⟨congrArg Value.bool (decide_eq_false (by omega)).symm, rfl⟩ (Ent.fin ([]) 0 rfl rfl)
theorem has_any (bn : Nat) (nodes most sent lost : Int) (way : Value) (x : Int) : Ctr Try.prog 21 [ptr bn, .int .i64 x] [pts bn (cl [.int .i64 nodes, .int .i64 most, way, .int .i64 sent, .int .i64 lost] 57)]
    (fun v H => v = .bool (decide (0 ≤ x ∧ x < nodes)) ∧ H = [pts bn (cl [.int .i64 nodes, .int .i64 most, way, .int .i64 sent, .int .i64 lost] 57)]) := by
  refine Ctr.enter Try.func21 (by kernel_rfl) rfl Try.ntmps21 rfl rfl ?_
  intro G F R hR
  repeat' (first | (with_reducible intro _hh) | refine go1 ?_ | refine J_fork ?_ ?_ | refine J_gsP rfl rfl rfl rfl ?_ ?_ | refine K_condP rfl rfl ?_ ?_)
  · refine K_return hR Try.func21 rfl _ rfl ⟨congrArg Value.bool (decide_eq_decide.2 (by omega)), rfl⟩ (Ent.fin ([0]) 0 rfl rfl)
  · refine K_return hR Try.func21 rfl _ rfl ⟨congrArg Value.bool (decide_eq_false (by omega)).symm, rfl⟩ (Ent.fin ([0]) 0 rfl rfl)
theorem at_any (bn : Nat) (nodes most sent lost : Int) (a0 : Option Addr) (nw cw : Nat) (x : Int) : Ctr Try.prog 25 [ptr bn, .int .i64 x] [pts bn (cl [.int .i64 nodes, .int .i64 most, .slice a0 nw cw, .int .i64 sent, .int .i64 lost] 57)]
    (fun v H => v = .bool (decide (0 ≤ x ∧ x < nw)) ∧ H = [pts bn (cl [.int .i64 nodes, .int .i64 most, .slice a0 nw cw, .int .i64 sent, .int .i64 lost] 57)]) := by
  refine Ctr.enter Try.func25 (by kernel_rfl) rfl Try.ntmps25 rfl rfl ?_
  intro G F R hR
  repeat' (first | (with_reducible intro _hh) | refine go1 ?_ | refine J_fork ?_ ?_ | refine J_gsP rfl rfl rfl rfl ?_ ?_ | refine K_condP rfl rfl ?_ ?_)
  · refine K_return hR Try.func25 rfl _ rfl ⟨congrArg Value.bool (decide_eq_decide.2 (by omega)), rfl⟩ (Ent.fin ([0]) 0 rfl rfl)
  · refine K_return hR Try.func25 rfl _ rfl ⟨congrArg Value.bool (decide_eq_false (by omega)).symm, rfl⟩ (Ent.fin ([0]) 0 rfl rfl)
end Go.Proofs.Ytngmcoopgbflaaa
