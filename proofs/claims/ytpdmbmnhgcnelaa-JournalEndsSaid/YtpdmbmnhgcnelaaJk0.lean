/- journal, part k0: what Open holds while it ranges; bounds of records. -/
import Derived.Test.YtpdmbmnhgcnelaaJj
set_option linter.unusedVariables false
set_option linter.unusedSimpArgs false
namespace Go.Proofs.Ytpdmbmnhgcnelaa
open Go Go.SL

theorem recordsL_bound : ∀ (f : Nat) (bs : List UInt8), ((recordsL f bs).flatMap encL).length ≤ 2 * bs.length ∧ (recordsL f bs).length ≤ bs.length ∧ ∀ x ∈ recordsL f bs, x.length ≤ 4096
  | 0, bs => by simp [recordsL]
  | f + 1, bs => by
    unfold recordsL
    split
    · simp
    · rename_i k n hl
      have hp := longA_pos hl
      split
      · rename_i hb
        obtain ⟨h1, h2, h3⟩ := recordsL_bound f (bs.drop (k + n))
        have hx : ((bs.drop k).take n).length = n := by rw [List.length_take, List.length_drop]; omega
        have he : (encL ((bs.drop k).take n)).length ≤ n + 2 := by
          have := uv_len 1 n (by have := hp.2.2.2; omega)
          simp only [encL, List.length_append, hx]; omega
        rw [List.length_drop] at h1 h2
        simp only [List.flatMap_cons, List.length_append, List.length_cons]
        refine ⟨by omega, by omega, fun x hm => ?_⟩
        rcases List.mem_cons.1 hm with rfl | hm
        · rw [hx]; omega
        · exact h3 x hm
      · simp
theorem recordsA_bound (bs : List UInt8) : ((recordsA bs).flatMap encL).length ≤ 2 * bs.length ∧ (recordsA bs).length ≤ bs.length ∧ ∀ x ∈ recordsA bs, x.length ≤ 4096 := recordsL_bound _ bs
/-- Slices of bytes in rows. -/
def RowsR (M : Arrs) (cs : List Value) (ls : List (List UInt8)) : Prop := cs.length = ls.length ∧ ∀ (j : Nat) (y : List UInt8), ls[j]? = some y → ∃ cv, cs[j]? = some cv ∧ RIn M 1 cv y.length (bV y)
def LI (lb : Nat) (ls : List (List UInt8)) : HP := fun h => ∃ x : Value × List Value × Arrs, RowsR x.2.2 x.2.1 ls ∧ Sep [pts lb (cl [x.1] 24), slc 22 1 x.1 ls.length x.2.1, arrS 5 x.2.2] h
theorem arrS_nil (e : TypeId) (H : List HP) : Ent H (arrS e [] :: H) := Ent.addEmp H
theorem LI_start (lb : Nat) (a : Option Addr) (H : List HP) : Ent (pts lb (cl [.slice a 0 0] 24) :: H) (LI lb [] :: H) := by
  have h1 : Ent (pts lb (cl [.slice a 0 0] 24) :: H) ([pts lb (cl [.slice a 0 0] 24), slc 22 1 (.slice a 0 0) 0 [], arrS 5 [] ] ++ H) :=
    Ent.cons _ ((slc_lift 22 1 a H).trans (Ent.cons _ (arrS_nil 5 H)))
  exact h1.trans (Ent.fold fun h hs => ⟨h, sub.refl h, (.slice a 0 0, [], []), ⟨rfl, fun j y hj => by simp at hj⟩, hs⟩)
theorem LI_next (lb : Nat) (ls : List (List UInt8)) (x : List UInt8) (v rv : Value) (cs : List Value) (M M' : Arrs) (hR : RowsR M cs ls) (hr : RIn M' 1 rv x.length (bV x)) (hs : ∀ y ∈ M, y ∈ M') (H : List HP) :
    Ent (pts lb (cl [v] 24) :: slc 22 1 v (ls.length + 1) (cs ++ [rv]) :: arrS 5 M' :: H) (LI lb (ls ++ [x]) :: H) := by
  refine Ent.fold (B := [pts lb (cl [v] 24), slc 22 1 v (ls.length + 1) (cs ++ [rv]), arrS 5 M']) fun h hp => ⟨h, sub.refl h, (v, cs ++ [rv], M'), ⟨by simp [hR.1], fun j y hj => ?_⟩, by simp only [List.length_append, List.length_singleton]; exact hp⟩
  simp only
  rw [List.getElem?_append] at hj ⊢
  rw [hR.1]
  split at hj
  · rename_i hlt
    obtain ⟨cv, h1, h2⟩ := hR.2 j y hj
    rw [if_pos hlt]
    exact ⟨cv, h1, h2.mono hs⟩
  · rename_i hge
    rw [if_neg hge]
    have h0 : j - ls.length = 0 := by
      rcases Nat.eq_zero_or_pos (j - ls.length) with h | h
      · exact h
      · rw [List.getElem?_eq_none (by simp; omega)] at hj; cases hj
    rw [h0] at hj ⊢
    cases hj
    exact ⟨rv, rfl, hr⟩
theorem LI_open (lb : Nat) (ls : List (List UInt8)) : ∀ h, LI lb ls h → ∃ x : Value × List Value × Arrs, RowsR x.2.2 x.2.1 ls ∧ Sep [pts lb (cl [x.1] 24), slc 22 1 x.1 ls.length x.2.1, arrS 5 x.2.2] h := fun h hs => hs
/-- A list of texts that is handed out. -/
def listH (v : Value) (ls : List (List UInt8)) : HP := fun h => ∃ x : List Value × Arrs, RowsR x.2 x.1 ls ∧ Sep [slc 22 1 v ls.length x.1, arrS 5 x.2] h
theorem listH_in {v : Value} {ls : List (List UInt8)} {cs : List Value} {M : Arrs} (hR : RowsR M cs ls) (H : List HP) : Ent (slc 22 1 v ls.length cs :: arrS 5 M :: H) (listH v ls :: H) :=
  Ent.fold (B := [slc 22 1 v ls.length cs, arrS 5 M]) fun h hp => ⟨h, sub.refl h, (cs, M), hR, hp⟩
theorem listH_open (v : Value) (ls : List (List UInt8)) : ∀ h, listH v ls h → ∃ x : List Value × Arrs, RowsR x.2 x.1 ls ∧ Sep [slc 22 1 v ls.length x.1, arrS 5 x.2] h := fun h hs => hs
theorem RowsR.lat {v : Value} {ls : List (List UInt8)} {cs : List Value} {M : Arrs} (hR : RowsR M cs ls) (h0 : ∃ h, slc 22 1 v ls.length cs h) : LAt (Sep [slc 22 1 v ls.length cs, arrS 5 M]) v ls := by
  have hv := Vw.of_slc 22 1 v ls.length cs h0
  refine ⟨cs, hv.mono (Sep_get (i := 0) rfl), hR.1, ?_, fun i x hx => ?_⟩
  · obtain ⟨h, hl, ⟨a, rfl, hn, _⟩ | ⟨b, o, cap, pre, junk, rfl, hp, hn, hc, _⟩⟩ := h0
    · exact ⟨a, 0, by rw [hn], by omega⟩
    · exact ⟨_, cap, rfl, hn⟩
  · obtain ⟨cv, h1, h2⟩ := hR.2 i x hx
    obtain ⟨a, c, hv2, hc⟩ := h2.shape
    exact ⟨cv, h1, (h2.view 5).mono (Sep_get (i := 1) rfl), a, c, hv2, hc⟩
section
variable {P : Program} {f : FuncId} {n : Nat} {R : Ending → World → Prop} {G : Glob} {k : List Item} {L : Lst} {H : List HP}
theorem K_lat {v : Value} {ls : List (List UInt8)} {cs : List Value} {M : Arrs} (i : Nat) (hR : RowsR M cs ls) (hi : getL H i = some (slc 22 1 v ls.length cs)) (h : LAt (Sep [slc 22 1 v ls.length cs, arrS 5 M]) v ls → K P f n R G k L H) : K P f n R G k L H :=
  K_sat fun ⟨w, hw⟩ => by
    obtain ⟨h1, _, hA⟩ := hw.getA hi
    exact h (hR.lat ⟨h1, hA⟩)
theorem K_dA {bd : Nat} {A : Ab} (i : Nat) (hi : getL H i = some (diskA bd A)) (h : (∃ D, Rel D A) → K P f n R G k L H) : K P f n R G k L H :=
  K_sat fun ⟨w, hw⟩ => by
    obtain ⟨h1, _, D, hR, _⟩ := hw.getA hi
    exact h ⟨D, hR⟩
end
theorem read_len (A : Ab) (hR : ∃ D, Rel D A) (name : ByteArray) (at_ n : Int) : (A.read name at_ n).1.length ≤ 1048576 := by
  obtain ⟨D, hR⟩ := hR
  unfold Ab.read
  split
  · simp
  split
  · simp
  · rename_i f hf
    split
    · simp
    · have h1 : (A.now f).length ≤ 1048576 := by
        unfold Ab.now Ab.file
        cases h : A.fs.find? (fun x => decide (x.1 = f)) with
        | none => simp
        | some x =>
          have := hR.smallF x (List.mem_of_find?_eq_some h)
          simpa using this.1
      rw [List.length_take, List.length_drop]; omega
end Go.Proofs.Ytpdmbmnhgcnelaa
