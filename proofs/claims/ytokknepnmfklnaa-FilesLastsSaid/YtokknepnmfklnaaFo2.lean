/- files, part o2: three numbers that came in; a struct's value. -/
import Derived.Test.YtokknepnmfklnaaFo
import Derived.OpenShut
set_option linter.unusedVariables false
set_option linter.unusedSimpArgs false
namespace Go.Proofs.Ytokknepnmfklnaa
open Go Go.SL Go.RowKit Go.ChangeShapes Go.WideShapes
def aggTy : Option TypeDesc → Bool
  | some (.struct _) => true
  | some (.array _ _) => true
  | _ => false
theorem open_len {H : Type} {enc : TypeId × Value → H} {P : Program} {W : World} {base : Nat} {spare : Nat → Bool} {held : Bool} {fuel : Nat} {t e : TypeId} {a : Option Addr} {len cap : Nat} {d : DataW H} {p : List MemPlace} (ht : P.underlying t = some (.slice e)) (h : DataW.trod enc P W base spare held fuel t [.slice a len cap] = some (d, p)) :
    len = 0 ∨ ∃ el sp, d = .slice el sp ∧ el.length = len := by
  rcases Go.Deep.open_slice ht h with ⟨hcs, _⟩ | ⟨a', len', cap', m, n, D, Pl, hcs, hb, hl, hm, hmm, hx, _⟩
  · simp only [List.cons.injEq, Value.slice.injEq, and_true] at hcs; exact .inl hcs.2.1
  · simp only [List.cons.injEq, Value.slice.injEq, and_true] at hcs
    simp only [Prod.mk.injEq] at hx
    exact .inr ⟨_, _, hx.1, by simp [hcs.2.1]⟩
theorem okWide_agg {P : Program} {w : World} {r : Reach} {base : Nat} {t : TypeId} {v : Value} (ht : aggTy (P.underlying t) = true) (h : Value.okWide P w r base t v) : ∃ cs, v = .agg cs := by
  unfold Value.okWide at h
  unfold aggTy at ht
  split at h
  · obtain ⟨cs, h1, _⟩ := h; exact ⟨cs, h1⟩
  · obtain ⟨cs, h1, _⟩ := h; exact ⟨cs, h1⟩
  · split at ht
    · rename_i h1 h2 _ _ h3; exact absurd h3 (h1 _)
    · rename_i h1 h2 _ _ _ h3; exact absurd h3 (h2 _ _)
    · cases ht
section
variable {H : Type} {enc : TypeId × Value → H} {W : World} {base : Nat} {spare : Nat → Bool} {held : Bool}
set_option maxRecDepth 20000 in
theorem open_arr3 {fuel : Nat} {cs : Array Value} {x : DataW H × List MemPlace} (h : DataW.trod enc Try.prog W base spare held fuel 42 (Value.agg cs).cells.toList = some x) :
    ∃ x y z : Int, cs = #[.int .i64 x, .int .i64 y, .int .i64 z] ∧ i64 x ∧ i64 y ∧ i64 z := by
  obtain ⟨xs, n, _, _, hlen, hxl, hf⟩ := DataW.trod_array (Try.underlying42 : _ = some (TypeDesc.array _ _)) h
  have hc : Try.prog.cellsOf 42 = 3 := by kernel_rfl
  rw [hc] at hlen
  have c3 : Try.prog.cellsOf 3 = 1 := by kernel_rfl
  obtain ⟨l, rfl⟩ : ∃ l : List Value, cs = l.toArray := ⟨cs.toList, by simp⟩
  simp only [Value.cells] at hlen hf
  match l, hlen with
  | [v0, v1, v2], _ =>
    have g : ∀ i, i < 3 → ∃ y, xs[i]? = some y := fun i hi => ⟨xs[i]'(by rw [hxl]; exact hi), by simp⟩
    obtain ⟨y0, e0⟩ := g 0 (by omega)
    obtain ⟨y1, e1⟩ := g 1 (by omega)
    obtain ⟨y2, e2⟩ := g 2 (by omega)
    have h0 := hf 0 (by omega)
    have h1 := hf 1 (by omega)
    have h2 := hf 2 (by omega)
    simp only [c3, e0, e1, e2, Nat.mul_one, List.drop_succ_cons, List.drop_zero, List.take_succ_cons, List.take_zero] at h0 h1 h2
    obtain ⟨z0, r0, _, w0⟩ := DataW.trod_int Try.underlying3 h0
    obtain ⟨z1, r1, _, w1⟩ := DataW.trod_int Try.underlying3 h1
    obtain ⟨z2, r2, _, w2⟩ := DataW.trod_int Try.underlying3 h2
    simp only [List.cons.injEq, and_true] at r0 r1 r2
    subst r0 r1 r2
    exact ⟨z0, z1, z2, rfl, i64_range w0, i64_range w1, i64_range w2⟩
end
end Go.Proofs.Ytokknepnmfklnaa
