/- Engine, part Z: from a contract that leaves all old memory to the given row's walk; arguments as views. Nothing here names a program. -/
import Derived.Test.YtokknepnmfklnaaEngH
import Derived.ProofKit
import Derived.Below
set_option linter.unusedSimpArgs false
set_option linter.unusedVariables false
namespace Go.SL
open Go.RowKit

/-- All memory as it is. -/
def old (W : World) : HP := fun h => ∀ b, h b = W.heap[b]?
def glob (W : World) : Glob := { tape := W.tape, os := W.os, output := W.output }
theorem Sat_old (W : World) : Sat (glob W) W [old W] := ⟨⟨rfl, Nat.zero_le _⟩, rfl, rfl, fun b => W.heap[b]?, fun _ _ h => h, Sep_one' fun _ => rfl⟩
theorem below_of_sat {W W' : World} (h : Sat (glob W) W' [old W]) : Below W.heap.size W W' := by
  obtain ⟨h1, h2, h3, h0, hw, hs⟩ := h
  have ho := Sep_one hs
  have hb : ∀ k, k < W.heap.size → W'.heap[k]? = W.heap[k]? := fun k hk => by
    have e : W.heap[k]? = some W.heap[k] := by simp [hk]
    rw [e]
    exact hw k _ (by rw [ho k, e])
  refine ⟨h2, h1.1, h3, ?_, hb⟩
  rcases Nat.eq_zero_or_pos W.heap.size with h0 | h0
  · omega
  · have := hb (W.heap.size - 1) (by omega)
    have e : W.heap[W.heap.size - 1]? = some W.heap[W.heap.size - 1] := by simp [h0]
    rw [e] at this
    have := (Array.getElem?_eq_some_iff.1 this).1
    omega
theorem row_walk {P : Program} {f : FuncId} {args : List Value} {W : World} (c : Ctr P f args [old W] (fun v H => v = .bool true ∧ H = [old W])) :
    Calls P f args.toArray W fun e W' => e = .returned (.bool true) ∧ Below W.heap.size W W' :=
  (c.2 (glob W) W [] (Sat_old W)).mono fun e W' h => by
    obtain ⟨v, H, rfl, ⟨rfl, rfl⟩, hs⟩ := h
    exact ⟨rfl, below_of_sat hs⟩

theorem hcell_of_cell {W : World} {h : Hp} {b off : Nat} {v : Value} (ho : old W h) (hc : W.cell? ⟨b, off, none⟩ = some v) : hcell h b off = some v := by
  unfold hcell
  rw [ho b]
  unfold World.cell? at hc
  simp only at hc
  split at hc
  · rename_i c _ _ he
    rw [he]
    simpa using hc
  · cases hc
/-- A row of bytes that came in. -/
theorem bytes_view {W : World} {a : Addr} {len cap : Nat} {zs : List Int} (hl : len ≤ zs.length) (hcell : ∀ i, i < zs.length → W.cell? (a.add i) = some (.int .u8 (zs.getD i 0))) (hwf : ∀ n ∈ zs, (Lit.int .u8 n).wf = true) :
    ∃ bs : List UInt8, bs.length = len ∧ Vw (old W) (.slice (some a) len cap) len (bV bs) := by
  refine ⟨(zs.take len).map fun z => UInt8.ofNat z.toNat, by simp; omega, some a, cap, rfl, ?_⟩
  rcases Nat.eq_zero_or_pos len with h0 | h0
  · left; subst h0; simp [bV]
  · right
    obtain ⟨b, o, spot⟩ := a
    have hsp : spot = none := by simpa [Addr.add] using World.cell?_spot (hcell 0 (by omega))
    subst hsp
    refine ⟨b, o, rfl, fun h ho j c hj => ?_⟩
    have hjl : j < len := by
      rcases Nat.lt_or_ge j len with h | h
      · exact h
      · rw [List.getElem?_eq_none (by simp [bV]; omega)] at hj; cases hj
    have h1 := hcell j (by omega)
    rw [Addr.add_eq] at h1
    have h2 := hcell_of_cell ho h1
    rw [h2]
    have hm : zs[j]'(by omega) ∈ zs := List.getElem_mem _
    have hw := hwf _ hm
    have hb : 0 ≤ zs[j]'(by omega) ∧ zs[j]'(by omega) < 256 := by
      simp only [Lit.wf, Bool.and_eq_true, decide_eq_true_eq] at hw
      have e1 : IntKind.u8.min = 0 := by decide
      have e2 : IntKind.u8.max = 255 := by decide
      omega
    simp only [bV, List.map_map, List.getElem?_map, List.getElem?_take, hjl, if_true] at hj
    rw [List.getElem?_eq_getElem (by omega)] at hj
    simp only [Option.map_some, Option.some.injEq, Function.comp] at hj
    rw [← hj, List.getD_eq_getElem?_getD, List.getElem?_eq_getElem (by omega)]
    simp only [Option.getD_some, u8, UInt8.toNat_ofNat', Option.some.injEq]
    congr 1
    omega
theorem nil_view (W : World) : Vw (old W) (.slice none 0 0) 0 (bV []) := ⟨none, 0, rfl, .inl rfl⟩
theorem i64_range {z : Int} (h : (Lit.int .i64 z).wf = true) : -9223372036854775808 ≤ z ∧ z ≤ 9223372036854775807 := by
  simp only [Lit.wf, Bool.and_eq_true, decide_eq_true_eq] at h
  have e1 : IntKind.i64.min = -9223372036854775808 := by decide
  have e2 : IntKind.i64.max = 9223372036854775807 := by decide
  omega
end Go.SL
