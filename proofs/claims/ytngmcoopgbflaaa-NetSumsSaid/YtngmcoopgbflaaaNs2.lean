/- net, part s2: steps that came in, read off the given row's own reading. -/
import Derived.Test.YtngmcoopgbflaaaNs
set_option linter.unusedVariables false
set_option linter.unusedSimpArgs false
namespace Go.Proofs.Ytngmcoopgbflaaa
open Go Go.SL Go.RowKit Go.ChangeShapes Go.WideShapes
section
variable {H : Type} {enc : TypeId × Value → H} {W : World} {base : Nat} {spare : Nat → Bool} {held : Bool}
theorem u8_of_wf {z : Int} (h : (Lit.int .u8 z).wf = true) : ∃ t : UInt8, Value.int .u8 z = u8 t := by
  have hw := h
  simp only [Lit.wf, Bool.and_eq_true, decide_eq_true_eq] at hw
  have e1 : IntKind.u8.min = 0 := by decide
  have e2 : IntKind.u8.max = 255 := by decide
  exact u8_of_int (by omega) (by omega)
theorem open_step (fuel : Nat) (cs : List Value) (x : DataW H × List MemPlace) (h : DataW.trod enc Try.prog W base spare held fuel 48 cs = some x) : ∃ y : StepD, cs = scell y ∧ SOk (old W) y := by
  obtain ⟨n, hp⟩ := open_struct (Try.underlying48 : _ = some (TypeDesc.struct _)) (by kernel_rfl) (by kernel_rfl) h
  obtain ⟨z0, r0, rfl, w0, hp⟩ := hp.int Try.underlying3
  obtain ⟨z1, r1, rfl, w1, hp⟩ := hp.int Try.underlying3
  obtain ⟨z2, r2, rfl, w2, hp⟩ := hp.int Try.underlying3
  obtain ⟨z3, r3, rfl, w3, hp⟩ := hp.int Try.underlying3
  obtain ⟨a, c, bs, r4, rfl, hl, hv, hp⟩ := hp.bytes Try.underlying22 Try.underlying5 (by kernel_rfl)
  obtain ⟨z5, r5, rfl, w5, hp⟩ := hp.int Try.underlying5
  have := hp.inv0
  subst this
  obtain ⟨t, ht⟩ := u8_of_wf w5
  exact ⟨⟨z0, z1, z2, z3, bs, a, c, t⟩, by unfold scell; simp only; rw [ht], hv, hl⟩
theorem open_steps {fuel : Nat} {v : Value} {x : DataW H × List MemPlace} (h : DataW.trod enc Try.prog W base spare held fuel 41 [v] = some x) : ∃ l : List StepD, StepsIn (old W) v l := by
  obtain ⟨l, a, c, hcs, h1, h2, h3⟩ := open_rows Try.underlying41 scell 6 (by omega) scell_len (by kernel_rfl) (SOk (old W)) open_step h
  simp only [List.cons.injEq, and_true] at hcs
  subst hcs
  exact ⟨l, h1, h2, h3⟩
end
end Go.Proofs.Ytngmcoopgbflaaa
