/- Engine, part V2: the library's sort at strings. Nothing here names a program. -/
import Derived.Test.YtokknepnmfklnaaEngV
set_option linter.unusedSimpArgs false
set_option linter.unusedVariables false
set_option linter.unusedSectionVars false
namespace Go.SL
open Go.Proofs Go.Shelf Go.RowKit Go.Lib Go.Sort
variable {P : Program} {ρ : Ren}
theorem sortStr_ctr (L : SlLaysN.n54 P ρ) (e : TypeId) (v : Value) (l : List (List UInt8)) (hen : P.funcs[ρ.f 54]?.map callable = some true) (hsz : l.length < 4611686018427387904) :
    Ctr P (ρ.f 54) [v] [slc e 1 v l.length (l.map encStr)] (fun r H => r = .tuple #[] ∧ H = [slc e 1 v l.length ((l.mergeSort fun x y => decide (x ≤ y)).map encStr)]) := by
  refine ⟨hen, fun G w F hs => ?_⟩
  obtain ⟨t, o, u, hp, hpw, hA, hB, ⟨hl, hcase⟩, hBB, hd, he⟩ := hs
  rcases hcase with ⟨a0, rfl, hn, hemp⟩ | ⟨b, oo, cap, pre, junk, rfl, hpre, hn, hcap, hpt⟩
  · have hl0 : l = [] := List.eq_nil_of_length_eq_zero hn
    subst hl0
    refine (AnyG.slices_Sort_string_none L a0 0 w).mono ?_
    rintro e' w' ⟨rfl, rfl⟩
    exact ⟨_, _, rfl, ⟨rfl, rfl⟩, t, o, u, hp, hpw, hA, hB, ⟨by simp, .inl ⟨a0, rfl, rfl, hemp⟩⟩, hBB, hd, he⟩
  · have hs1 : Sat G w (pts b (cl (pre ++ l.map encStr ++ junk) e) :: F) := ⟨t, o, u, hp, hpw, hA, hB, hpt, hBB, hd, he⟩
    have hb := hs1.get (i := 0) rfl
    have hlt := hs1.lt (i := 0) rfl
    subst hpre
    have hH : Sort.Holds encStr w b pre.length l.toArray := by
      have h0 := holds_mid hb
      intro j hj
      have := h0 j (by simpa using hj)
      simp only [List.size_toArray] at hj
      rw [getElem!_pos (l.map encStr).toArray j (by simpa using hj)] at this
      rw [getElem!_pos l.toArray j (by simpa using hj)]
      simpa using this
    have hS := AnyG.slices_Sort_string L b pre.length cap l w hH hlt hsz
    refine hS.mono ?_
    rintro e' w' ⟨rfl, n, os, rfl⟩
    refine ⟨_, _, rfl, ⟨rfl, rfl⟩, ?_⟩
    have hml : (l.mergeSort fun x y => decide (x ≤ y)).length = l.length := List.length_mergeSort _
    have h3 := (hs1.ahead n).mapB (Sort.putCells encStr pre.length (l.mergeSort fun x y => decide (x ≤ y)).toArray) (l' := pre ++ (l.mergeSort fun x y => decide (x ≤ y)).map encStr ++ junk) (by
      refine Eq.trans ?_ (putCells_mid pre (l.map encStr) ((l.mergeSort fun x y => decide (x ≤ y)).map encStr) junk (by rw [List.length_map, List.length_map, hml]))
      unfold Sort.putCells
      congr 1
      funext i x
      simp only [List.size_toArray, List.length_map, id]
      split
      · rename_i h
        rw [getElem!_pos (List.map encStr _).toArray (i - pre.length) (by simp; omega), getElem!_pos (l.mergeSort fun x y => decide (x ≤ y)).toArray (i - pre.length) (by simp; omega)]
        simp
      · rfl)
    have h4 := h3.grown os
    refine h4.ent ?_
    exact slc_closeN rfl hn (by rw [List.length_map] at hcap ⊢; rw [hml]; exact hcap) (by rw [List.length_map, hml, Nat.mul_one]) F

theorem ltS_lt (a b : ByteArray) : ltS a b = decide (a.data.toList < b.data.toList) := bytesLess_eq _ _
end Go.SL
