/- Engine, part S: rows and arrays of numbers that came in. Nothing here names a program. -/
import Derived.Test.YtpacpkpkinmjcaaEngZ
import Derived.OpenShut
import Derived.Deep.Slices
import Derived.DataElems
set_option linter.unusedVariables false
set_option linter.unusedSimpArgs false
namespace Go.SL
open Go Go.RowKit Go.ChangeShapes Go.WideShapes
def iV (l : List Int) : List Value := l.map (Value.int .i64)
theorem iV_get {l : List Int} {i : Nat} {x : Int} (h : l[i]? = some x) : (iV l)[i]? = some (.int .i64 x) := by simp [iV, h]
theorem iV_len (l : List Int) : (iV l).length = l.length := by simp [iV]
theorem ine {l : List Int} {i : Nat} (h : i < l.length) : iV l ≠ [] := fun e => by have := congrArg List.length e; simp [iV] at this; rw [this] at h; simp at h
abbrev i64 (x : Int) : Prop := -9223372036854775808 ≤ x ∧ x ≤ 9223372036854775807
/-- A row of numbers that came in. -/
theorem ints_view {W : World} {a : Addr} {len cap : Nat} {zs : List Int} (hl : len ≤ zs.length) (hcell : ∀ i, i < zs.length → W.cell? (a.add i) = some (.int .i64 (zs.getD i 0))) (hwf : ∀ n ∈ zs, (Lit.int .i64 n).wf = true) :
    ∃ l : List Int, l.length = len ∧ Vw (old W) (.slice (some a) len cap) len (iV l) ∧ ∀ x ∈ l, i64 x := by
  refine ⟨zs.take len, by simp; omega, ⟨some a, cap, rfl, ?_⟩, fun x hx => i64_range (hwf x (List.mem_of_mem_take hx))⟩
  rcases Nat.eq_zero_or_pos len with h0 | h0
  · left; subst h0; simp [iV]
  · right
    obtain ⟨b, o, spot⟩ := a
    have hsp : spot = none := by simpa [Addr.add] using World.cell?_spot (hcell 0 (by omega))
    subst hsp
    refine ⟨b, o, rfl, fun h ho j c hj => ?_⟩
    have hjl : j < len := by
      rcases Nat.lt_or_ge j len with h | h
      · exact h
      · rw [List.getElem?_eq_none (by simp [iV]; omega)] at hj; cases hj
    have h1 := hcell j (by omega)
    rw [Addr.add_eq] at h1
    have h2 := hcell_of_cell ho h1
    rw [h2]
    simp only [iV, List.getElem?_map, List.getElem?_take, hjl, if_true] at hj
    rw [List.getElem?_eq_getElem (by omega)] at hj
    simp only [Option.map_some, Option.some.injEq] at hj
    rw [← hj, List.getD_eq_getElem?_getD, List.getElem?_eq_getElem (by omega)]
    rfl
def aggTy : Option TypeDesc → Bool
  | some (.struct _) => true
  | some (.array _ _) => true
  | _ => false
theorem open_len {H : Type} {enc : TypeId × Value → H} {P : Program} {W : World} {base : Nat} {spare : Nat → Bool} {held : Bool} {fuel : Nat} {t e : TypeId} {a : Option Addr} {len cap : Nat} {d : DataW H} {p : List MemPlace} (ht : P.underlying t = some (.slice e)) (h : DataW.trod enc P W base spare held fuel t [.slice a len cap] = some (d, p)) :
    len = 0 ∨ ∃ el sp, d = .slice el sp ∧ el.length = len := by
  rcases Go.Deep.open_slice ht h with ⟨hcs, _⟩ | ⟨a', len', cap', m, n, D, Pl, hcs, hb, hl, hm, hmm, hx, _⟩
  · simp only [List.cons.injEq, Value.slice.injEq, and_true] at hcs; exact .inl hcs.2.1
  · simp only [List.cons.injEq, Value.slice.injEq, and_true] at hcs
    simp only [Prod.mk.injEq] at hx
    exact .inr ⟨_, _, hx.1, by simp [hcs.2.1]⟩
theorem okWide_agg {P : Program} {w : World} {r : Reach} {base : Nat} {t : TypeId} {v : Value} (ht : aggTy (P.underlying t) = true) (h : Value.okWide P w r base t v) : ∃ cs, v = .agg cs := by
  unfold Value.okWide at h
  unfold aggTy at ht
  split at h
  · obtain ⟨cs, h1, _⟩ := h; exact ⟨cs, h1⟩
  · obtain ⟨cs, h1, _⟩ := h; exact ⟨cs, h1⟩
  · split at ht
    · rename_i h1 h2 _ _ h3; exact absurd h3 (h1 _)
    · rename_i h1 h2 _ _ _ h3; exact absurd h3 (h2 _ _)
    · cases ht
/-- A row of numbers that came in, as a slice. -/
theorem open_intsV {P : Program} {H : Type} {enc : TypeId × Value → H} {W : World} {base : Nat} {spare : Nat → Bool} {held : Bool} {fuel : Nat} {t e : TypeId} {v : Value} {x : DataW H × List MemPlace} (ht : P.underlying t = some (.slice e)) (he : P.underlying e = some (.int .i64)) (hc : P.cellsOf e = 1) (h : DataW.trod enc P W base spare held fuel t [v] = some x) :
    ∃ l : List Int, Vw (old W) v l.length (iV l) ∧ l.length ≤ 9223372036854775807 ∧ ∀ x ∈ l, i64 x := by
  have hmx : maxLen = 9223372036854775807 := by decide
  rcases open_ints ht he hc h with ⟨hcs, _⟩ | ⟨x, l, c, zs, hcs, _, hl, hm, hz, _, hcell, hwz⟩
  · simp only [List.cons.injEq, and_true] at hcs
    subst hcs
    exact ⟨[], ⟨none, 0, rfl, .inl rfl⟩, by simp, by simp⟩
  · simp only [List.cons.injEq, and_true] at hcs
    subst hcs
    obtain ⟨bs, h1, h2, h3⟩ := ints_view (len := l) (cap := c) (by split at hz <;> omega) hcell hwz
    subst h1
    exact ⟨bs, h2, by omega, h3⟩
/-- An array of numbers that came in. -/
theorem open_arrI {P : Program} {H : Type} {enc : TypeId × Value → H} {W : World} {base : Nat} {spare : Nat → Bool} {held : Bool} {fuel n : Nat} {t e : TypeId} {cs : Array Value} {x : DataW H × List MemPlace} (ht : P.underlying t = some (.array n e)) (he : P.underlying e = some (.int .i64)) (hc : P.cellsOf e = 1) (hct : P.cellsOf t = n) (h : DataW.trod enc P W base spare held fuel t (Value.agg cs).cells.toList = some x) :
    ∃ l : List Int, l.length = n ∧ cs = (iV l).toArray ∧ ∀ x ∈ l, i64 x := by
  obtain ⟨xs, m, _, _, hlen, hxl, hf⟩ := DataW.trod_array ht h
  rw [hct] at hlen
  obtain ⟨l, rfl⟩ : ∃ l : List Value, cs = l.toArray := ⟨cs.toList, by simp⟩
  simp only [Value.cells] at hlen hf
  have key : ∀ i, i < n → ∃ z : Int, l[i]? = some (.int .i64 z) ∧ i64 z := fun i hi => by
    have h1 := hf i hi
    obtain ⟨y, hy⟩ : ∃ y, xs[i]? = some y := ⟨xs[i]'(by rw [hxl]; exact hi), by simp⟩
    rw [hy, hc, Nat.mul_one] at h1
    obtain ⟨z, r, _, w⟩ := DataW.trod_int he h1
    refine ⟨z, ?_, i64_range w⟩
    have := congrArg (fun l : List Value => l[0]?) r
    simpa using this
  refine ⟨(List.range n).map fun i => match l[i]? with | Option.some (Value.int _ z) => z | _ => 0, by simp, ?_, ?_⟩
  · congr 1
    apply List.ext_getElem?
    intro i
    rcases Nat.lt_or_ge i n with hi | hi
    · obtain ⟨z, hz, _⟩ := key i hi
      simp [iV, hi, hz]
    · rw [List.getElem?_eq_none (by simpa using hlen ▸ hi), List.getElem?_eq_none (by simp [iV]; exact hi)]
  · intro x hx
    obtain ⟨i, hi, rfl⟩ := List.mem_map.1 hx
    obtain ⟨z, hz, hr⟩ := key i (by simpa using hi)
    rw [hz]; exact hr
end Go.SL
