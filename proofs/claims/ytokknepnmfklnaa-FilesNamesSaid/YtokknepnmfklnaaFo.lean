/- files, part o: acts that came in, read off the given row's own reading. -/
import Derived.Test.YtokknepnmfklnaaFk
import Derived.Test.YtokknepnmfklnaaEngZ
import Derived.Deep.Slices
import Derived.DataElems
set_option linter.unusedVariables false
set_option linter.unusedSimpArgs false
namespace Go.Proofs.Ytokknepnmfklnaa
open Go Go.SL Go.RowKit Go.ChangeShapes Go.WideShapes

section
variable {H : Type} {enc : TypeId × Value → H} {W : World} {base : Nat} {spare : Nat → Bool} {held : Bool}
theorem open_bytes {fuel : Nat} {v : Value} {x : DataW H × List MemPlace} (h : DataW.trod enc Try.prog W base spare held fuel 22 [v] = some x) :
    ∃ (a : Option Addr) (c : Nat) (bs : List UInt8), v = .slice a bs.length c ∧ bs.length ≤ 9223372036854775807 ∧ Vw (old W) v bs.length (bV bs) := by
  have hmx : maxLen = 9223372036854775807 := by decide
  rcases open_ints Try.underlying22 Try.underlying5 (by kernel_rfl) h with ⟨hcs, _⟩ | ⟨x, l, c, zs, hcs, _, hl, hm, hz, _, hcell, hwz⟩
  · simp only [List.cons.injEq, and_true] at hcs
    subst hcs
    exact ⟨none, 0, [], rfl, by simp, nil_view W⟩
  · simp only [List.cons.injEq, and_true] at hcs
    subst hcs
    obtain ⟨bs, h1, h2⟩ := bytes_view (len := l) (cap := c) (by split at hz <;> omega) hcell hwz
    subst h1
    exact ⟨some x, c, bs, rfl, by omega, h2⟩
set_option maxRecDepth 20000 in
theorem open_act {fuel : Nat} {cs : List Value} {x : DataW H × List MemPlace} (h : DataW.trod enc Try.prog W base spare held fuel 40 cs = some x) : ∃ y : ActD, cs = actCells y ∧ ActOk (old W) y := by
  have hmx : maxLen = 9223372036854775807 := by decide
  obtain ⟨xs, n, _, _, hlen, hxl, hf⟩ := DataW.trod_struct (Try.underlying40 : _ = some (TypeDesc.struct _)) h
  have hc : Try.prog.cellsOf 40 = 7 := by kernel_rfl
  rw [hc] at hlen
  have c3 : Try.prog.cellsOf 3 = 1 := by kernel_rfl
  have c9 : Try.prog.cellsOf 9 = 1 := by kernel_rfl
  have c22 : Try.prog.cellsOf 22 = 1 := by kernel_rfl
  match cs, hlen with
  | [v0, v1, v2, v3, v4, v5, v6], _ =>
    have g : ∀ i, i < 7 → ∃ y, xs[i]? = some y := fun i hi => ⟨xs[i]'(by rw [hxl]; exact hi), by simp⟩
    obtain ⟨y0, e0⟩ := g 0 (by omega)
    obtain ⟨y1, e1⟩ := g 1 (by omega)
    obtain ⟨y2, e2⟩ := g 2 (by omega)
    obtain ⟨y3, e3⟩ := g 3 (by omega)
    obtain ⟨y4, e4⟩ := g 4 (by omega)
    obtain ⟨y5, e5⟩ := g 5 (by omega)
    obtain ⟨y6, e6⟩ := g 6 (by omega)
    have h0 : DataW.trod enc Try.prog W base spare held n 3 (([v0, v1, v2, v3, v4, v5, v6].drop 0).take (Try.prog.cellsOf 3)) = xs[0]? := hf 0 _ rfl
    have h1 : DataW.trod enc Try.prog W base spare held n 9 (([v0, v1, v2, v3, v4, v5, v6].drop 1).take (Try.prog.cellsOf 9)) = xs[1]? := hf 1 _ rfl
    have h2 : DataW.trod enc Try.prog W base spare held n 9 (([v0, v1, v2, v3, v4, v5, v6].drop 2).take (Try.prog.cellsOf 9)) = xs[2]? := hf 2 _ rfl
    have h3 : DataW.trod enc Try.prog W base spare held n 3 (([v0, v1, v2, v3, v4, v5, v6].drop 3).take (Try.prog.cellsOf 3)) = xs[3]? := hf 3 _ rfl
    have h4 : DataW.trod enc Try.prog W base spare held n 3 (([v0, v1, v2, v3, v4, v5, v6].drop 4).take (Try.prog.cellsOf 3)) = xs[4]? := hf 4 _ rfl
    have h5 : DataW.trod enc Try.prog W base spare held n 3 (([v0, v1, v2, v3, v4, v5, v6].drop 5).take (Try.prog.cellsOf 3)) = xs[5]? := hf 5 _ rfl
    have h6 : DataW.trod enc Try.prog W base spare held n 22 (([v0, v1, v2, v3, v4, v5, v6].drop 6).take (Try.prog.cellsOf 22)) = xs[6]? := hf 6 _ rfl
    simp only [c3, c9, c22, List.drop_succ_cons, List.drop_zero, List.take_succ_cons, List.take_zero, e0, e1, e2, e3, e4, e5, e6] at h0 h1 h2 h3 h4 h5 h6
    obtain ⟨z0, r0, _, w0⟩ := DataW.trod_int Try.underlying3 h0
    obtain ⟨s1, r1, _, w1⟩ := DataW.trod_string Try.underlying9 h1
    obtain ⟨s2, r2, _, w2⟩ := DataW.trod_string Try.underlying9 h2
    obtain ⟨z3, r3, _, w3⟩ := DataW.trod_int Try.underlying3 h3
    obtain ⟨z4, r4, _, w4⟩ := DataW.trod_int Try.underlying3 h4
    obtain ⟨z5, r5, _, w5⟩ := DataW.trod_int Try.underlying3 h5
    obtain ⟨a, c, bs, r6, w6, v6'⟩ := open_bytes h6
    simp only [List.cons.injEq, and_true] at r0 r1 r2 r3 r4 r5
    subst r0 r1 r2 r3 r4 r5 r6
    exact ⟨⟨z0, s1, s2, z3, z4, z5, bs, a, c⟩, rfl, ⟨v6', w6, i64_range w0, i64_range w3, i64_range w4, i64_range w5, by simp only; omega, by simp only; omega⟩⟩
theorem open_acts {fuel : Nat} {v : Value} {x : DataW H × List MemPlace} (h : DataW.trod enc Try.prog W base spare held fuel 36 [v] = some x) : ∃ l : List ActD, ActsIn (old W) v l := by
  have hmx : maxLen = 9223372036854775807 := by decide
  rcases Go.Deep.open_slice Try.underlying36 h with ⟨hcs, _⟩ | ⟨a, len, cap, m, n, D, Pl, hcs, hb, hl, hm, hmm, _, hx⟩
  · simp only [List.cons.injEq, and_true] at hcs
    subst hcs
    exact ⟨[], ⟨none, 0, rfl, .inl rfl⟩, by simp, by simp⟩
  · simp only [List.cons.injEq, and_true] at hcs
    subst hcs
    have hc : Try.prog.cellsOf 40 = 7 := by kernel_rfl
    have hml : len ≤ m := by rw [hmm]; split <;> omega
    have hx2 : ∀ i, i < len → ∃ y : ActD, (∀ k, k < 7 → W.cell? (a.add (i * 7 + k)) = (actCells y)[k]?) ∧ ActOk (old W) y := fun i hi => by
      obtain ⟨cs', h1, h2⟩ := hx i (by omega)
      obtain ⟨y, rfl, hy⟩ := open_act h2
      rw [hc] at h1
      obtain ⟨_, _, h3⟩ := World.cells?_some h1
      refine ⟨y, fun k hk => ?_, hy⟩
      rw [← h3 k hk, Addr.add_add]
    have hin : Inhabited ActD := ⟨⟨0, ByteArray.empty, ByteArray.empty, 0, 0, 0, [], none, 0⟩⟩
    obtain ⟨f, hfy⟩ := Go.Deep.choose_lt hx2
    refine ⟨(List.range len).map f, ⟨some a, cap, by simp, ?_⟩, ?_, by simp; omega⟩
    · rcases Nat.eq_zero_or_pos len with h0 | h0
      · left; subst h0; simp
      · right
        obtain ⟨b, o, spot⟩ := a
        have hsp : spot = none := by
          have := (hfy 0 h0).1 0 (by omega)
          rw [Nat.zero_mul, Nat.zero_add] at this
          simpa [Addr.add] using World.cell?_spot (this.trans rfl)
        subst hsp
        refine ⟨b, o, rfl, fun h ho j c hj => ?_⟩
        have hjl : j < len * 7 := by
          rcases Nat.lt_or_ge j (len * 7) with h | h
          · exact h
          · rw [List.getElem?_eq_none (by
              have : ((List.range len).map f |>.flatMap actCells).length = len * 7 := by
                rw [List.length_flatMap, List.map_map]
                have : (List.range len).map ((fun x => (actCells x).length) ∘ f) = List.replicate len 7 := by
                  apply List.ext_getElem
                  · simp
                  · intro i h1 h2; simp [actCells]
                rw [this]; simp
              omega)] at hj; cases hj
        have hj7 : j = j / 7 * 7 + j % 7 := by omega
        have hd : j / 7 < len := by omega
        have hk : j % 7 < 7 := by omega
        have h1 := act_get (l := (List.range len).map f) (i := j / 7) (x := f (j / 7)) (by simp [hd]) (j % 7) hk
        rw [← hj7, hj] at h1
        have h2 := (hfy _ hd).1 _ hk
        rw [← hj7, Addr.add_eq] at h2
        exact hcell_of_cell ho (h2.trans h1.symm)
    · intro x hx
      obtain ⟨i, hi, rfl⟩ := List.mem_map.1 hx
      exact (hfy i (by simpa using hi)).2
end
end Go.Proofs.Ytokknepnmfklnaa
