/- Engine, part W: rows of structs that came in, read off the given row's own reading. Nothing here names a program. -/
import Derived.Test.YtpacpkpkinmjcaaEngS
import Derived.Test.YtpacpkpkinmjcaaEngZ
import Derived.Test.YtpacpkpkinmjcaaEngI
import Derived.Deep.Slices
import Derived.DataElems
set_option linter.unusedVariables false
set_option linter.unusedSimpArgs false
namespace Go.SL
open Go Go.RowKit Go.ChangeShapes Go.WideShapes

section
variable {P : Program} {H : Type} {enc : TypeId × Value → H} {W : World} {base : Nat} {spare : Nat → Bool} {held : Bool}
theorem open_bytesP {t e : TypeId} (ht : P.underlying t = some (.slice e)) (he : P.underlying e = some (.int .u8)) (hc : P.cellsOf e = 1) {fuel : Nat} {cs : List Value} {x : DataW H × List MemPlace} (h : DataW.trod enc P W base spare held fuel t cs = some x) :
    ∃ (a : Option Addr) (c : Nat) (bs : List UInt8), cs = [.slice a bs.length c] ∧ bs.length ≤ 9223372036854775807 ∧ Vw (old W) (.slice a bs.length c) bs.length (bV bs) := by
  have hmx : maxLen = 9223372036854775807 := by decide
  rcases open_ints ht he hc h with ⟨hcs, _⟩ | ⟨x, l, c, zs, hcs, _, hl, hm, hz, _, hcell, hwz⟩
  · subst hcs
    exact ⟨none, 0, [], rfl, by simp, nil_view W⟩
  · subst hcs
    obtain ⟨bs, h1, h2⟩ := bytes_view (len := l) (cap := c) (by split at hz <;> omega) hcell hwz
    subst h1
    exact ⟨some x, c, bs, rfl, by omega, h2⟩
theorem open_rows {α : Type} [Inhabited α] {t e : TypeId} (ht : P.underlying t = some (.slice e)) (g : α → List Value) (s : Nat) (hs0 : 0 < s) (hs : ∀ x, (g x).length = s) (hc : P.cellsOf e = s) (Q : α → Prop)
    (hopen : ∀ (fuel : Nat) (cs : List Value) (x : DataW H × List MemPlace), DataW.trod enc P W base spare held fuel e cs = some x → ∃ y, cs = g y ∧ Q y)
    {fuel : Nat} {cs : List Value} {x : DataW H × List MemPlace} (h : DataW.trod enc P W base spare held fuel t cs = some x) : ∃ (l : List α) (a : Option Addr) (c : Nat), cs = [.slice a l.length c] ∧ Vw (old W) (.slice a l.length c) l.length (l.flatMap g) ∧ (∀ x ∈ l, Q x) ∧ l.length ≤ 9223372036854775807 := by
  have hmx : maxLen = 9223372036854775807 := by decide
  rcases Go.Deep.open_slice ht h with ⟨hcs, _⟩ | ⟨a, len, cap, m, n, D, Pl, hcs, hb, hl, hm, hmm, _, hx⟩
  · subst hcs
    exact ⟨[], none, 0, rfl, ⟨none, 0, rfl, .inl rfl⟩, by simp, by simp⟩
  · subst hcs
    have hml : len ≤ m := by rw [hmm]; split <;> omega
    have hx2 : ∀ i, i < len → ∃ y : α, (∀ k, k < s → W.cell? (a.add (i * s + k)) = (g y)[k]?) ∧ Q y := fun i hi => by
      obtain ⟨cs', h1, h2⟩ := hx i (by omega)
      obtain ⟨y, rfl, hy⟩ := hopen _ _ _ h2
      rw [hc] at h1
      obtain ⟨_, _, h3⟩ := World.cells?_some h1
      refine ⟨y, fun k hk => ?_, hy⟩
      rw [← h3 k hk, Addr.add_add]
    obtain ⟨f, hfy⟩ := Go.Deep.choose_lt hx2
    refine ⟨(List.range len).map f, some a, cap, by simp, ⟨some a, cap, by simp, ?_⟩, ?_, by simp; omega⟩
    · rcases Nat.eq_zero_or_pos len with h0 | h0
      · left; subst h0; simp
      · right
        obtain ⟨b, o, spot⟩ := a
        have hsp : spot = none := by
          have := (hfy 0 h0).1 0 hs0
          rw [Nat.zero_mul, Nat.zero_add, List.getElem?_eq_getElem (by rw [hs]; exact hs0)] at this
          simpa [Addr.add] using World.cell?_spot (this.trans rfl)
        subst hsp
        refine ⟨b, o, rfl, fun h ho j c hj => ?_⟩
        have hjl : j < len * s := by
          rcases Nat.lt_or_ge j (len * s) with h | h
          · exact h
          · rw [List.getElem?_eq_none (by rw [chunk_len hs]; simpa using h)] at hj; cases hj
        have hd : j / s < len := Nat.div_lt_of_lt_mul (by rw [Nat.mul_comm]; exact hjl)
        have hk : j % s < s := Nat.mod_lt _ hs0
        have hjj : j / s * s + j % s = j := by rw [Nat.mul_comm]; exact Nat.div_add_mod _ _
        have h1 := chunk_get hs (l := (List.range len).map f) (i := j / s) (x := f (j / s)) (by simp [hd]) (j % s) hk
        rw [hjj, hj] at h1
        have h2 := (hfy _ hd).1 _ hk
        rw [hjj, Addr.add_eq] at h2
        exact hcell_of_cell ho (h2.trans h1.symm)
    · intro x hx
      obtain ⟨i, hi, rfl⟩ := List.mem_map.1 hx
      exact (hfy i (by simpa using hi)).2
/-- The parts of a struct, one by one: its fields' types with what is asked of the cells of each. -/
inductive Parts (enc : TypeId × Value → H) (P : Program) (W : World) (base : Nat) (spare : Nat → Bool) (held : Bool) (n : Nat) : List TypeId → List Value → Prop where
  | nil : Parts enc P W base spare held n [] []
  | cons {t : TypeId} {ts : List TypeId} {cs rest : List Value} {x : DataW H × List MemPlace} (h : DataW.trod enc P W base spare held n t cs = some x) (hr : Parts enc P W base spare held n ts rest) : Parts enc P W base spare held n (t :: ts) (cs ++ rest)
def offs (P : Program) : Nat → List TypeId → List Nat
  | _, [] => []
  | o, t :: ts => o :: offs P (o + P.cellsOf t) ts
theorem open_struct {t : TypeId} {fs : Array Field} (ht : P.underlying t = some (.struct fs)) (ho : fs.toList.map Field.offset = offs P 0 (fs.toList.map Field.type)) (hn : P.cellsOf t = (fs.toList.map fun f : Field => P.cellsOf f.type).sum)
    {fuel : Nat} {cs : List Value} {x : DataW H × List MemPlace} (h : DataW.trod enc P W base spare held fuel t cs = some x) : ∃ n, Parts enc P W base spare held n (fs.toList.map Field.type) cs := by
  obtain ⟨xs, n, _, _, hlen, hxl, hf⟩ := DataW.trod_struct ht h
  refine ⟨n, ?_⟩
  have key : ∀ (l : List Field) (o k : Nat) (cs : List Value), cs.length = (l.map fun f : Field => P.cellsOf f.type).sum → l.map Field.offset = offs P o (l.map Field.type) →
      (∀ (j : Nat) (f : Field), l[j]? = some f → ∃ y, DataW.trod enc P W base spare held n f.type ((cs.drop (f.offset - o)).take (P.cellsOf f.type)) = some y) → Parts enc P W base spare held n (l.map Field.type) cs := by
    intro l
    induction l with
    | nil => intro o k cs hl _ _; simp at hl; subst hl; exact .nil
    | cons f l ih =>
      intro o k cs hl hoff hall
      simp only [List.map_cons, List.sum_cons] at hl
      simp only [List.map_cons, offs, List.cons.injEq] at hoff
      obtain ⟨h1, h2⟩ := hoff
      obtain ⟨y, hy⟩ := hall 0 f rfl
      rw [h1, Nat.sub_self, List.drop_zero] at hy
      have hsub := ih (o + P.cellsOf f.type) 0 (cs.drop (P.cellsOf f.type)) (by rw [List.length_drop]; omega) h2 (fun j f' hj => by
        obtain ⟨y', hy'⟩ := hall (j + 1) f' (by simpa using hj)
        have hge : o + P.cellsOf f.type ≤ f'.offset := by
          have hmem : f'.offset ∈ offs P (o + P.cellsOf f.type) (l.map Field.type) := by rw [← h2]; exact List.mem_map.2 ⟨f', List.mem_of_getElem? hj, rfl⟩
          have hmono : ∀ (ts : List TypeId) (p q : Nat), q ∈ offs P p ts → p ≤ q := by
            intro ts
            induction ts with
            | nil => intro p q hq; cases hq
            | cons t ts ih => intro p q hq; rcases List.mem_cons.1 hq with rfl | hq; exact Nat.le_refl _; have := ih _ _ hq; omega
          exact hmono _ _ _ hmem
        refine ⟨y', ?_⟩
        rw [List.drop_drop, show P.cellsOf f.type + (f'.offset - (o + P.cellsOf f.type)) = f'.offset - o from by omega]
        exact hy')
      have := Parts.cons hy hsub
      rw [List.take_append_drop] at this
      exact this
  refine key fs.toList 0 0 cs (by rw [hlen, hn]) ho fun j f hj => ?_
  have hj' : fs[j]? = some f := by simpa using hj
  have hjl : j < xs.length := by
    rw [hxl]
    rcases Nat.lt_or_ge j fs.size with h | h
    · exact h
    · rw [Array.getElem?_eq_none h] at hj'; cases hj'
  refine ⟨xs[j], ?_⟩
  rw [Nat.sub_zero]
  have := hf j f hj'
  rw [this]
  simp [hjl]
theorem Parts.inv {n : Nat} {t : TypeId} {ts : List TypeId} {cs : List Value} (h : Parts enc P W base spare held n (t :: ts) cs) : ∃ c0 rest x, cs = c0 ++ rest ∧ DataW.trod enc P W base spare held n t c0 = some x ∧ Parts enc P W base spare held n ts rest := by
  cases h with
  | cons h hr => exact ⟨_, _, _, rfl, h, hr⟩
theorem Parts.inv0 {n : Nat} {cs : List Value} (h : Parts enc P W base spare held n [] cs) : cs = [] := by cases h; rfl
/-- A part that is a number. -/
theorem Parts.int {n : Nat} {t : TypeId} {ts : List TypeId} {cs : List Value} {k : IntKind} (h : Parts enc P W base spare held n (t :: ts) cs) (ht : P.underlying t = some (.int k)) : ∃ (z : Int) (rest : List Value), cs = .int k z :: rest ∧ (Lit.int k z).wf = true ∧ Parts enc P W base spare held n ts rest := by
  obtain ⟨c0, rest, x, rfl, h0, hr⟩ := h.inv
  obtain ⟨z, rfl, _, hw⟩ := DataW.trod_int ht h0
  exact ⟨z, rest, rfl, hw, hr⟩
theorem Parts.str {n : Nat} {t : TypeId} {ts : List TypeId} {cs : List Value} (h : Parts enc P W base spare held n (t :: ts) cs) (ht : P.underlying t = some .string) : ∃ (z : ByteArray) (rest : List Value), cs = .string z :: rest ∧ z.size ≤ 9223372036854775807 ∧ Parts enc P W base spare held n ts rest := by
  have hmx : maxLen = 9223372036854775807 := by decide
  obtain ⟨c0, rest, x, rfl, h0, hr⟩ := h.inv
  obtain ⟨z, rfl, _, hw⟩ := DataW.trod_string ht h0
  exact ⟨z, rest, rfl, by omega, hr⟩
theorem Parts.bytes {n : Nat} {t e : TypeId} {ts : List TypeId} {cs : List Value} (h : Parts enc P W base spare held n (t :: ts) cs) (ht : P.underlying t = some (.slice e)) (he : P.underlying e = some (.int .u8)) (hc : P.cellsOf e = 1) : ∃ (a : Option Addr) (c : Nat) (bs : List UInt8) (rest : List Value), cs = .slice a bs.length c :: rest ∧ bs.length ≤ 9223372036854775807 ∧ Vw (old W) (.slice a bs.length c) bs.length (bV bs) ∧ Parts enc P W base spare held n ts rest := by
  obtain ⟨c0, rest, x, rfl, h0, hr⟩ := h.inv
  obtain ⟨a, c, bs, rfl, h2, h3⟩ := open_bytesP ht he hc h0
  exact ⟨a, c, bs, rest, rfl, h2, h3, hr⟩
end
end Go.SL
