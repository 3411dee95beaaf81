/- files, part k: acts that came in; much. -/
import Derived.Test.YtokknepnmfklnaaFh
set_option linter.unusedVariables false
set_option linter.unusedSimpArgs false
namespace Go.Proofs.Ytokknepnmfklnaa
open Go Go.SL
attribute [local irreducible] J K Ctr Ends pts slc mapR mapI sbRow stock arrS

structure ActD where
  do_ : Int
  a : ByteArray
  c : ByteArray
  at_ : Int
  n : Int
  cut : Int
  b : List UInt8
  ba : Option Addr
  bc : Nat
def ActD.bv (x : ActD) : Value := .slice x.ba x.b.length x.bc
def actCells (x : ActD) : List Value := [.int .i64 x.do_, .string x.a, .string x.c, .int .i64 x.at_, .int .i64 x.n, .int .i64 x.cut, .slice x.ba x.b.length x.bc]
def i64 (z : Int) : Prop := -9223372036854775808 ≤ z ∧ z ≤ 9223372036854775807
/-- An act as it may come in. -/
structure ActOk (A : HP) (x : ActD) : Prop where
  view : Vw A x.bv x.b.length (bV x.b)
  len : x.b.length ≤ 9223372036854775807
  do_ : i64 x.do_
  at_ : i64 x.at_
  n : i64 x.n
  cut : i64 x.cut
  la : x.a.size ≤ 9223372036854775807
  lc : x.c.size ≤ 9223372036854775807
structure ActsIn (A : HP) (v : Value) (l : List ActD) : Prop where
  view : Vw A v l.length (l.flatMap actCells)
  each : ∀ x ∈ l, ActOk A x
  len : l.length ≤ 9223372036854775807
theorem act_get {l : List ActD} {i : Nat} {x : ActD} (h : l[i]? = some x) (k : Nat) (hk : k < 7) : (l.flatMap actCells)[i * 7 + k]? = (actCells x)[k]? := by
  induction l generalizing i with
  | nil => simp at h
  | cons y l ih =>
    have hy : (actCells y).length = 7 := rfl
    rw [List.flatMap_cons]
    cases i with
    | zero => simp at h; subst h; rw [List.getElem?_append_left (by omega)]; simp
    | succ i =>
      simp at h
      rw [List.getElem?_append_right (by omega), hy, show (i + 1) * 7 + k - 7 = i * 7 + k by omega, ih h]
section
variable {l : List ActD} {i : Nat} {x : ActD}
theorem actDo (h : l[i]? = some x) : (l.flatMap actCells)[i * 7 + 0]? = some (.int .i64 x.do_) := act_get h 0 (by omega)
theorem actA (h : l[i]? = some x) : (l.flatMap actCells)[i * 7 + 1]? = some (.string x.a) := act_get h 1 (by omega)
theorem actC (h : l[i]? = some x) : (l.flatMap actCells)[i * 7 + 2]? = some (.string x.c) := act_get h 2 (by omega)
theorem actAt (h : l[i]? = some x) : (l.flatMap actCells)[i * 7 + 3]? = some (.int .i64 x.at_) := act_get h 3 (by omega)
theorem actN (h : l[i]? = some x) : (l.flatMap actCells)[i * 7 + 4]? = some (.int .i64 x.n) := act_get h 4 (by omega)
theorem actCut (h : l[i]? = some x) : (l.flatMap actCells)[i * 7 + 5]? = some (.int .i64 x.cut) := act_get h 5 (by omega)
theorem actB (h : l[i]? = some x) : (l.flatMap actCells)[i * 7 + 6]? = some (.slice x.ba x.b.length x.bc) := act_get h 6 (by omega)
end
theorem ActsIn.some {A : HP} {v : Value} {l : List ActD} (h : ActsIn A v l) (h0 : 0 < l.length) : ∃ b o c, v = .slice (Option.some ⟨b, o, none⟩) l.length c := h.view.some (by
  cases l with
  | nil => simp at h0
  | cons y l => simp [actCells])
/-- Few bytes. -/
def Small (x : ActD) : Prop := x.b.length ≤ 3000 ∧ x.a.size ≤ 300 ∧ x.c.size ≤ 300 ∧ ¬ (5000 < x.at_ ∧ x.at_ ≤ 1048576)

set_option maxRecDepth 20000 in
theorem much_any (A : HP) (v : Value) (l : List ActD) (hA : ActsIn A v l) :
    Ctr Try.prog 16 [v] [A] (fun v H => ∃ r, v = .bool r ∧ H = [A] ∧ (r = false → ∀ x ∈ l.take 200, Small x)) := by
  obtain ⟨a0, c0, rfl⟩ := hA.view.shape
  have hll := hA.len
  refine Ctr.enter Try.func16 (by kernel_rfl) rfl Try.ntmps16 rfl rfl ?_
  intro G F R hE
  (refine go ?_)
  refine K_loop (fun s : Nat × Nat => s.1 ≤ l.length ∧ s.1 ≤ 200 ∧ s.2 ≤ 40000 ∧ ∀ x ∈ l.take s.1, Small x) (fun s => l.length - s.1)
    (fun s => [(0, .slice a0 l.length c0), (2, .bool false), (3, .int .i64 s.2), (4, .int .i64 s.1)])
    (fun _ => A :: F) (0, 0) ⟨by simp, by simp, by simp, by simp⟩ rfl (by repeat (first | exact keep_nil | refine keep_cons rfl ?_)) (Ent.refl _) ?_
  rintro ⟨i, n⟩ ⟨hi, hi2, hn, hall⟩ ih
  simp only at hi hi2 hn hall
  by_cases hlt : i < l.length
  · obtain ⟨x, hx⟩ : ∃ x, l[i]? = some x := ⟨l[i], by simp [hlt]⟩
    have hok := hA.each x (List.mem_of_getElem? hx)
    obtain ⟨bb, ob, cb, hsb⟩ := hA.some (by omega)
    simp only [Value.slice.injEq, true_and] at hsb
    obtain ⟨rfl, rfl⟩ := hsb
    have hvA := hA.view
    have h1 := hok.len
    have h2 := hok.la
    have h3 := hok.lc
    obtain ⟨h4, h5⟩ := hok.at_
    repeat' (first | (with_reducible intro _hh) | refine go1 ?_ | refine J_fork ?_ ?_ | refine J_gsP rfl rfl rfl rfl ?_ ?_ | refine K_condP rfl rfl ?_ ?_ | refine J_at (U := tab) i 7 rfl rfl rfl rfl rfl rfl rfl rfl hlt ?_ | (refine J_isLoad ?_; first | refine J_loadAt (U := tab) 0 (i * 7 + 6) rfl rfl rfl hvA (Nat.add_assoc _ _ _) (actB hx) rfl rfl ?_ | refine J_loadAt (U := tab) 0 (i * 7 + 1) rfl rfl rfl hvA (Nat.add_assoc _ _ _) (actA hx) rfl rfl ?_ | refine J_loadAt (U := tab) 0 (i * 7 + 3) rfl rfl rfl hvA (Nat.add_assoc _ _ _) (actAt hx) rfl rfl ?_ | refine J_loadAt (U := tab) 0 (i * 7 + 0) rfl rfl rfl hvA (Nat.add_assoc _ _ _) (actDo hx) rfl rfl ?_ | refine J_loadAt (U := tab) 0 (i * 7 + 2) rfl rfl rfl hvA (Nat.add_assoc _ _ _) (actC hx) rfl rfl ?_ | refine J_loadAt (U := tab) 0 (i * 7 + 4) rfl rfl rfl hvA (Nat.add_assoc _ _ _) (actN hx) rfl rfl ?_ | refine J_loadAt (U := tab) 0 (i * 7 + 5) rfl rfl rfl hvA (Nat.add_assoc _ _ _) (actCut hx) rfl rfl ?_))
    any_goals (exfalso; omega)
    any_goals refine K_return hE Try.func16 rfl _ rfl ⟨true, rfl, rfl, by simp⟩ (Ent.fin [0] 0 rfl rfl)
    any_goals refine K_again ih (i + 1, n + x.b.length) rfl ⟨by simp only; omega, by simp only; omega, by simp only; omega, allTake hall hx ⟨by omega, by omega, by omega, by omega⟩⟩ (by simp only; omega) (by repeat (first | exact keep_nil | refine keep_cons rfl ?_)) (Ent.refl _)
    have : i = 200 := by omega
    subst this
    refine K_return hE Try.func16 rfl _ rfl ⟨false, rfl, rfl, fun _ => hall⟩ (Ent.fin [0] 0 rfl rfl)
  · repeat' (first | (with_reducible intro _hh) | refine go1 ?_ | refine J_fork ?_ ?_ | refine J_gsP rfl rfl rfl rfl ?_ ?_ | refine K_condP rfl rfl ?_ ?_)
    any_goals (exfalso; omega)
    have h200 : l.take 200 = l.take i := by rw [List.take_of_length_le (by omega), List.take_of_length_le (by omega)]
    refine K_return hE Try.func16 rfl _ rfl ⟨false, rfl, rfl, fun _ => by rw [h200]; exact hall⟩ (Ent.fin [0] 0 rfl rfl)
end Go.Proofs.Ytokknepnmfklnaa
