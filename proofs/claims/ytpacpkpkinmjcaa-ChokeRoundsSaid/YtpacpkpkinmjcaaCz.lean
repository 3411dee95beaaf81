/- choke, part z: peers that came in, read off the given row's own reading. -/
import Derived.Test.YtpacpkpkinmjcaaCk
set_option linter.unusedVariables false
set_option linter.unusedSimpArgs false
namespace Go.Proofs.Ytpacpkpkinmjcaa
open Go Go.SL Go.RowKit Go.ChangeShapes Go.WideShapes
section
variable {H : Type} {enc : TypeId × Value → H} {W : World} {base : Nat} {spare : Nat → Bool} {held : Bool}
theorem Parts.bool {n : Nat} {t : TypeId} {ts : List TypeId} {cs : List Value} (h : Parts enc Try.prog W base spare held n (t :: ts) cs) (ht : Try.prog.underlying t = some .bool) : ∃ (z : Bool) (rest : List Value), cs = .bool z :: rest ∧ Parts enc Try.prog W base spare held n ts rest := by
  obtain ⟨c0, rest, x, rfl, h0, hr⟩ := Parts.inv h
  obtain ⟨z, rfl, _⟩ := DataW.trod_bool ht h0
  exact ⟨z, rest, rfl, hr⟩
def RtsIn (X : HP) (v : Value) (l : List Rt) : Prop := Vw X v l.length (rV l) ∧ l.length ≤ 9223372036854775807 ∧ ∀ x ∈ l, i64 x.id ∧ i64 x.by_
theorem i64_of_wf {z : Int} (h : (Lit.int .i64 z).wf = true) : i64 z := by
  have hw := h
  simp only [Lit.wf, Bool.and_eq_true, decide_eq_true_eq] at hw
  have e1 : IntKind.i64.min = -9223372036854775808 := by decide
  have e2 : IntKind.i64.max = 9223372036854775807 := by decide
  rw [e1, e2] at hw
  exact hw
theorem open_rt (fuel : Nat) (cs : List Value) (x : DataW H × List MemPlace) (h : DataW.trod enc Try.prog W base spare held fuel 34 cs = some x) : ∃ y : Rt, cs = rC y ∧ (i64 y.id ∧ i64 y.by_) := by
  obtain ⟨n, hp⟩ := open_struct (Try.underlying34 : _ = some (TypeDesc.struct _)) (by kernel_rfl) (by kernel_rfl) h
  obtain ⟨z0, r0, rfl, w0, hp⟩ := hp.int Try.underlying3
  obtain ⟨z1, r1, rfl, w1, hp⟩ := hp.int Try.underlying3
  obtain ⟨z2, r2, rfl, hp3⟩ := Parts.bool (t := 4) (ts := []) hp Try.underlying4
  have := hp3.inv0
  subst this
  exact ⟨⟨z0, z1, z2⟩, rfl, i64_of_wf w0, i64_of_wf w1⟩
theorem open_rts {fuel : Nat} {v : Value} {x : DataW H × List MemPlace} (h : DataW.trod enc Try.prog W base spare held fuel 22 [v] = some x) : ∃ l : List Rt, RtsIn (old W) v l := by
  obtain ⟨l, a, c, hcs, h1, h2, h3⟩ := open_rows Try.underlying22 rC 3 (by omega) rC_len (by kernel_rfl) (fun y : Rt => i64 y.id ∧ i64 y.by_) open_rt h
  simp only [List.cons.injEq, and_true] at hcs
  subst hcs
  exact ⟨l, h1, h3, h2⟩
end
end Go.Proofs.Ytpacpkpkinmjcaa
