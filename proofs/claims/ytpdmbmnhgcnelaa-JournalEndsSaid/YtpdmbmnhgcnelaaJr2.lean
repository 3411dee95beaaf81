/- journal, part r2 (plain): the file of JournalEnds on its disk. -/
import Derived.Test.YtpdmbmnhgcnelaaJr
import Derived.Test.YtpdmbmnhgcnelaaJm
set_option linter.unusedVariables false
set_option linter.unusedSimpArgs false
namespace Go.Proofs.Ytpdmbmnhgcnelaa
open Go Go.SL

theorem endsFile_len (n : Nat) (x : List UInt8) : (endsFile n x).length = 32 + x.length := by
  unfold endsFile
  split <;> simp only [List.length_append, List.length_replicate, headL_len]
theorem mayW_j (k : Nat) (b : List UInt8) (hk : k + b.length ≤ 1048576) : mayW nmJ (k : Int) b = true := by
  unfold mayW; rw [nmJ_name]; simp; omega
/-- The disk behind Create. -/
def endA1 (f : Nat) : Ab := ((Ab.new 1048576).create true nmJ f).2
def endA2 (f n : Nat) (x : List UInt8) : Ab := ((endA1 f).write true nmJ (n % 2 * 16) (headL n x.length)).2
def endA3 (f n : Nat) (x : List UInt8) : Ab := ((endA2 f n x).write true nmJ 32 x).2
theorem endA1_eq (f : Nat) : endA1 f = { (Ab.new 1048576).chg [(nmJ, f)] with fs := [(f, [], [])] } := by
  simp [endA1, Ab.create, Ab.meet, Ab.new, Ab.look, Ab.lookIn, Ab.chg]
theorem endA1_jf (f : Nat) : JF (endA1 f) nmJ f [] := by
  rw [endA1_eq]
  exact ⟨rfl, rfl, rfl, by simp [Ab.now, Ab.file], by simp⟩
theorem endA1_room (f : Nat) : (endA1 f).room = 1048576 := by rw [endA1_eq]; rfl
theorem endA1_states (f : Nat) : (endA1 f).states.length ≤ 2 := by rw [endA1_eq]; simp [Ab.chg, Ab.new]
theorem endA1_writes (f : Nat) : (endA1 f).writes.length = 0 := by rw [endA1_eq]; simp [Ab.chg, Ab.new]
theorem endA2_law (f n : Nat) (x : List UInt8) (hx : x.length ≤ 2000) : JF (endA2 f n x) nmJ f (wroteL [] (n % 2 * 16) (headL n x.length)) ∧ (endA2 f n x).room = 1048576 ∧ (endA2 f n x).states.length ≤ 2 ∧ (endA2 f n x).writes.length ≤ 1 := by
  have hl := headL_len n x.length
  obtain ⟨-, h2, h3, h4⟩ := (endA1_jf f).write (n % 2 * 16) (headL n x.length) (by rw [endA1_room, hl]; simp only [List.length_nil]; omega)
  have hg := (grow_write (endA1 f) true nmJ (n % 2 * 16) (headL n x.length)).2
  have h0 := endA1_writes f
  exact ⟨h2, h3.trans (endA1_room f), by unfold endA2; rw [h4]; exact endA1_states f, by unfold endA2; omega⟩
theorem endA3_law (f n : Nat) (x : List UInt8) (hx : x.length ≤ 2000) : JF (endA3 f n x) nmJ f (endsFile n x) ∧ (endA3 f n x).room = 1048576 ∧ (endA3 f n x).states.length ≤ 2 ∧ (endA3 f n x).writes.length ≤ 2 := by
  obtain ⟨g1, g2, g3, g4⟩ := endA2_law f n x hx
  have hl := headL_len n x.length
  have hw : (wroteL [] (n % 2 * 16) (headL n x.length)).length ≤ 32 := by
    have := wroteL_len [] (n % 2 * 16) (headL n x.length)
    rw [this, hl]; simp only [List.length_nil]; omega
  obtain ⟨-, h2, h3, h4⟩ := g1.write 32 x (by rw [g2]; omega)
  have hg := (grow_write (endA2 f n x) true nmJ 32 x).2
  rw [ends_file] at h2
  exact ⟨h2, h3.trans g2, by unfold endA3; rw [h4]; exact g3, by unfold endA3; omega⟩
theorem endA3_open {f n : Nat} {a : List UInt8} {A' : Ab} {e : Nat} {x : JN} (hn : 1 ≤ n) (hn2 : n ≤ 2147483648) (ha : a.length ≤ 1000) (hids : ∀ w ∈ (endA3 f n (encL a)).writes, w.1 ∈ (endA3 f n (encL a)).fs.map (·.1)) (hR : OpenR (endA3 f n (encL a)) nmJ e A' x) :
    e = 0 ∧ fileL (endA3 f n (encL a)) nmJ = (if n ≤ 1073741824 then [a] else []) ∧ x = ⟨1, (((if n ≤ 1073741824 then [a] else []).flatMap encL).length : Int), (((if n ≤ 1073741824 then [a] else []).flatMap encL).length : Int), false⟩ ∧ (∃ g, AInv A' nmJ g ((if n ≤ 1073741824 then [a] else []).flatMap encL).length 1048576 ((if n ≤ 1073741824 then [a] else []).flatMap encL)) ∧ A'.writes.length ≤ 3 := by
  have hel := encL_len a (by omega)
  obtain ⟨h1, h2, h3, h4⟩ := endA3_law f n (encL a) (by omega)
  have hfl : fileL (endA3 f n (encL a)) nmJ = (if n ≤ 1073741824 then [a] else []) := by
    rw [h1.fileL, ends_found n _ hn (by omega) (by omega)]
    split
    · have := records_enc [a] (by simp; omega)
      simpa using this
    · exact records_nil
  have hlen : ((if n ≤ 1073741824 then [a] else []).flatMap encL).length ≤ (encL a).length := by
    split
    · simp
    · simp
  obtain ⟨r1, r2, r3, r4⟩ := open_law (h1.putOk hids) nmJ_name nmJ_fresh nmJ_ne hfl (by omega) (by rw [h1.used, h2, endsFile_len]; omega) hR
  rw [h2] at r3
  exact ⟨r1, hfl, r2, r3, by omega⟩
end Go.Proofs.Ytpdmbmnhgcnelaa
