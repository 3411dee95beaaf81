/- journal, part r (plain): a file with one head of any number. -/
import Derived.Test.YtpdmbmnhgcnelaaJl
set_option linter.unusedVariables false
set_option linter.unusedSimpArgs false
namespace Go.Proofs.Ytpdmbmnhgcnelaa
open Go Go.SL

/-- What the two writes leave. -/
def endsFile (n : Nat) (x : List UInt8) : List UInt8 := if n % 2 = 0 then headL n x.length ++ List.replicate 16 0 ++ x else List.replicate 16 0 ++ headL n x.length ++ x
theorem ends_file (n : Nat) (x : List UInt8) : wroteL (wroteL [] (n % 2 * 16) (headL n x.length)) 32 x = endsFile n x := by
  have hh : (headL n x.length).length = 16 := headL_len _ _
  unfold endsFile
  generalize headL n x.length = h at hh ⊢
  rcases Nat.mod_two_eq_zero_or_one n with h0 | h1
  · rw [h0, if_pos rfl, Nat.zero_mul, show wroteL [] 0 h = h from wroteL_nil0 h]
    unfold wroteL
    rw [hh, show 32 + x.length - 16 = 16 + x.length from by omega, ← List.replicate_append_replicate, ← List.append_assoc]
    have hl : (h ++ List.replicate 16 (0 : UInt8)).length = 32 := by rw [List.length_append, hh]; simp
    simp only
    rw [List.take_left' hl, List.drop_of_length_le (by rw [List.length_append, hl]; simp), List.append_nil]
  · rw [h1, if_neg (by omega), Nat.one_mul]
    have e : wroteL [] 16 h = List.replicate 16 0 ++ h := by
      unfold wroteL
      simp only [List.nil_append, List.length_nil, Nat.sub_zero]
      rw [List.take_replicate, List.drop_of_length_le (by simp)]
      rw [show min 16 (16 + h.length) = 16 from by omega, List.append_nil]
    have hl : (List.replicate 16 (0 : UInt8) ++ h).length = 32 := by rw [List.length_append, hh]; simp
    rw [e, ← hl, wroteL_end]
theorem ends_found (n : Nat) (x : List UInt8) (hn : 1 ≤ n) (hn2 : n < 4294967296) (hx : x.length < 4294967296) : foundL (endsFile n x) = if n ≤ 1073741824 then x else [] := by
  unfold endsFile
  rcases Nat.mod_two_eq_zero_or_one n with h0 | h1
  · rw [if_pos h0]
    obtain ⟨p0, p1, p2⟩ := cut16 (headL n x.length) (List.replicate 16 0) x (headL_len _ _) (by simp)
    have hl : (headL n x.length ++ List.replicate 16 0 ++ x).length = 32 + x.length := by simp only [List.length_append, List.length_replicate, headL_len]
    unfold foundL
    rw [if_neg (by omega), p2, lastOf_at p0 hn2 hx, lastOf_zero p1]
    by_cases h : n ≤ 1073741824
    · rw [if_pos ⟨by simp only; omega, h, h0, by omega⟩, if_pos h]; exact List.take_length
    · rw [if_neg (fun hh => h hh.2.1), if_neg h]; rfl
  · rw [if_neg (by omega)]
    obtain ⟨p0, p1, p2⟩ := cut16 (List.replicate 16 0) (headL n x.length) x (by simp) (headL_len _ _)
    have hl : (List.replicate 16 0 ++ headL n x.length ++ x).length = 32 + x.length := by simp only [List.length_append, List.length_replicate, headL_len]
    unfold foundL
    rw [if_neg (by omega), p2, lastOf_zero p0, lastOf_at p1 hn2 hx]
    by_cases h : n ≤ 1073741824
    · rw [if_pos ⟨by simp only; omega, h, h1, by omega⟩, if_pos h]; exact List.take_length
    · rw [if_neg (fun hh => h hh.2.1), if_neg h]; rfl
end Go.Proofs.Ytpdmbmnhgcnelaa
