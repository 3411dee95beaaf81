/- choke, part z2: rows of peers that came in. -/
import Derived.Test.YtpacpkpkinmjcaaCz
import Derived.Test.YtpacpkpkinmjcaaCu
set_option linter.unusedVariables false
set_option linter.unusedSimpArgs false
namespace Go.Proofs.Ytpacpkpkinmjcaa
open Go Go.SL Go.RowKit Go.ChangeShapes Go.WideShapes
section
variable {H : Type} {enc : TypeId × Value → H} {W : World} {base : Nat} {spare : Nat → Bool} {held : Bool}
structure RB where
  a : Option Addr
  c : Nat
  l : List Rt
instance : Inhabited RB := ⟨⟨none, 0, []⟩⟩
def rbV (x : RB) : List Value := [.slice x.a x.l.length x.c]
def RRIn (X : HP) (v : Value) (l : List (List Rt)) : Prop := RRAt X v l ∧ l.length ≤ 9223372036854775807
theorem open_rb (fuel : Nat) (cs : List Value) (x : DataW H × List MemPlace) (h : DataW.trod enc Try.prog W base spare held fuel 22 cs = some x) : ∃ y : RB, cs = rbV y ∧ (y.l.length ≤ 9223372036854775807 ∧ Vw (old W) (.slice y.a y.l.length y.c) y.l.length (rV y.l)) := by
  obtain ⟨l, a, c, hcs, h1, h2, h3⟩ := open_rows Try.underlying22 rC 3 (by omega) rC_len (by kernel_rfl) (fun y : Rt => i64 y.id ∧ i64 y.by_) open_rt h
  exact ⟨⟨a, c, l⟩, hcs, h3, h1⟩
theorem open_rr {fuel : Nat} {v : Value} {x : DataW H × List MemPlace} (h : DataW.trod enc Try.prog W base spare held fuel 37 [v] = some x) : ∃ l : List (List Rt), RRIn (old W) v l := by
  obtain ⟨l, a, c, hcs, h1, h2, h3⟩ := open_rows Try.underlying37 rbV 1 (by omega) (fun _ => rfl) (by kernel_rfl) (fun y : RB => y.l.length ≤ 9223372036854775807 ∧ Vw (old W) (.slice y.a y.l.length y.c) y.l.length (rV y.l)) open_rb h
  simp only [List.cons.injEq, and_true] at hcs
  subst hcs
  have hf : l.flatMap rbV = l.map fun y => Value.slice y.a y.l.length y.c := by
    clear h1 h2 h3 h
    induction l with
    | nil => rfl
    | cons y l ih => rw [List.flatMap_cons, ih]; rfl
  refine ⟨l.map RB.l, ⟨l.map fun y => Value.slice y.a y.l.length y.c, ?_, by simp, ⟨a, c, by simp⟩, fun i z hz => ?_⟩, by simpa using h3⟩
  · rw [List.length_map, ← hf]; exact h1
  · rw [List.getElem?_map] at hz
    cases hy : l[i]? with
    | none => rw [hy] at hz; cases hz
    | some y =>
      rw [hy] at hz
      cases hz
      have h4 := h2 y (List.mem_of_getElem? hy)
      exact ⟨_, by rw [List.getElem?_map, hy]; rfl, h4.2, h4.1⟩
end
end Go.Proofs.Ytpacpkpkinmjcaa
