/- net, part d: delete, clone, index over datagrams. -/
import Derived.Test.YtngmcoopgbflaaaNc
set_option linter.unusedVariables false
set_option linter.unusedSimpArgs false
namespace Go.Proofs.Ytngmcoopgbflaaa
open Go Go.SL
attribute [local irreducible] J K Ctr Ends pts slc mapR mapI sbRow stock arrS

def Z5 : List Value := [.int .i64 0, .int .i64 0, .int .i64 0, .int .i64 0, .slice none 0 0]
theorem Z5_len : Z5.length = 5 := rfl
set_option maxRecDepth 20000 in
theorem Delete_any (s : Value) (W : List Fl) (i : Nat) (hi : i < W.length) (hW : OneV W) (hlen : W.length ≤ 1000000000) :
    Ctr Try.prog 30 [s, .int .i64 (i : Int), .int .i64 ((i : Int) + 1)] [slc 34 5 s W.length (W.flatMap fcell)]
      (fun r H => H = [slc 34 5 r (W.length - 1) ((W.take i ++ W.drop (i + 1)).flatMap fcell)]) := by
  have hl5 : (W.flatMap fcell).length = W.length * 5 := chunk_len fcell_len W
  have hf1 := (flat_split W i (by omega)).1
  have hf2 := (flat_split W (i + 1) (by omega)).2
  have hone := hW.cells
  have hdel : (W.take i ++ W.drop (i + 1)).flatMap fcell = (W.flatMap fcell).take (i * 5) ++ (W.flatMap fcell).drop ((i + 1) * 5) := by rw [List.flatMap_append, hf1, hf2]
  have hdn : (W.take i ++ W.drop (i + 1)).length = W.length - 1 := by simp only [List.length_append, List.length_take, List.length_drop]; omega
  have hc1 : ((W.flatMap fcell).take (i * 5)).length = i * 5 := by rw [List.length_take, hl5]; omega
  have hc3 : ((W.flatMap fcell).drop ((i + 1) * 5)).length = (W.length - (i + 1)) * 5 := by rw [List.length_drop, hl5]; omega
  refine Ctr.enter Try.func30 (by kernel_rfl) rfl Try.ntmps30 rfl rfl ?_
  intro G F R hE
  refine K_slcF 0 rfl (by omega) ?_
  rintro ba oa c0 rfl hca _ hvs
  refine K_open (slc_openN (by omega)) ?_
  rintro ⟨pre, junk⟩ ⟨hp, _, hcj, _⟩
  simp only at hp hcj
  rw [hl5] at hcj
  have hlL : (pre ++ W.flatMap fcell ++ junk).length = oa + W.length * 5 + junk.length := by simp only [List.length_append, hp, hl5]
  have hd3 : (pre ++ W.flatMap fcell ++ junk).drop (oa + (W.length - 1) * 5) = (W.flatMap fcell).drop ((W.length - 1) * 5) ++ junk := by
    rw [← hp, List.append_assoc, List.drop_length_add_append, List.drop_append_of_le_length (by rw [hl5]; omega)]
  have ht1 : (pre ++ W.flatMap fcell ++ junk).take (oa + i * 5) = pre ++ (W.flatMap fcell).take (i * 5) := by
    rw [← hp, List.append_assoc, List.take_length_add_append, List.take_append_of_le_length (by rw [hl5]; omega)]
  have hd2 : ((pre ++ W.flatMap fcell ++ junk).drop (oa + (i + 1) * 5)).take ((W.flatMap fcell).drop ((i + 1) * 5)).length = (W.flatMap fcell).drop ((i + 1) * 5) := by
    rw [← hp, List.append_assoc, List.drop_length_add_append, List.drop_append_of_le_length (by rw [hl5]; omega)]
    exact List.take_left' rfl
  have hl1 : ((W.flatMap fcell).drop ((W.length - 1) * 5)).length = 5 := by rw [List.length_drop, hl5]; omega
  (refine go ?_)
  refine J_slice3 (U := tab) (p := (i : Int)) (q := (i : Int) + 1) (r := (W.length : Int)) rfl rfl rfl rfl rfl rfl rfl rfl (by omega) (by omega) (by omega) (by omega) ?_
  (refine go ?_)
  refine K_condP rfl rfl ?_ ?_
  · intro h; exfalso; omega
  intro _
  (refine go ?_)
  refine K_drawA (fun w => Sat G w ([])) (.st 0 (.st 1 (.st 2 (.st 3 (.st 4 (.st 5 (.act 6 (.st 7 .nil)))))))) rfl (by kernel_rfl) (by kernel_rfl) (by kernel_rfl) (fun w hw => hw.ent (Ent.pickOnly ([]) rfl)) ?_
  (refine go ?_)
  refine J_sliceAny (U := tab) (p := 0) (q := (i : Int)) rfl rfl rfl rfl rfl rfl rfl (by omega) (by omega) (.inr (by omega)) ?_
  refine J_slot 22 (.slice (some ⟨ba, oa, none⟩) i c0) rfl (by rw [show (0 : Int).toNat = 0 from rfl, sliceAt_zero, show (i : Int).toNat = i from by omega]; rfl) ?_
  (refine go ?_)
  refine J_sliceAny (U := tab) (p := (i : Int) + 1) (q := (W.length : Int)) rfl rfl rfl rfl rfl rfl rfl (by omega) (by omega) (.inl rfl) ?_
  refine J_slot 25 (.slice (sliceAt (some ⟨ba, oa, none⟩) c0 (i + 1) 5) (W.length - (i + 1)) (c0 - (i + 1))) rfl (by
    rw [show ((i : Int) + 1).toNat = i + 1 from by omega, show (W.length : Int).toNat = W.length from by omega]; rfl) ?_
  refine J_appendIn (U := tab) (mm := W.length - (i + 1)) (news := (W.flatMap fcell).drop ((i + 1) * 5)) (l' := pre ++ ((W.take i ++ W.drop (i + 1)).flatMap fcell) ++ ((W.flatMap fcell).drop ((W.length - 1) * 5) ++ junk)) 0 0 rfl rfl rfl rfl rfl rfl rfl rfl rfl rfl (by
    by_cases hic : i + 1 = c0
    · have h0 : W.length - (i + 1) = 0 := by omega
      rw [h0]
      have : (W.flatMap fcell).drop ((i + 1) * 5) = [] := List.eq_nil_of_length_eq_zero (by rw [hc3, h0])
      rw [this]; exact Vw.nil _ _ _
    · rw [sliceAt_some _ _ _ _ _ hic]
      exact Vw.pts hd2) hc3 (fun u hu => hone u (List.mem_of_mem_drop hu)) (by omega) (by
    show oa + (i + (W.length - (i + 1))) * 5 ≤ (pre ++ W.flatMap fcell ++ junk).length
    rw [hlL]; omega) (by
    show _ = (pre ++ W.flatMap fcell ++ junk).take (oa + i * 5) ++ (W.flatMap fcell).drop ((i + 1) * 5) ++ (pre ++ W.flatMap fcell ++ junk).drop (oa + (i + (W.length - (i + 1))) * 5)
    rw [show i + (W.length - (i + 1)) = W.length - 1 from by omega, hd3, ht1, hdel]; simp only [List.append_assoc]) rfl (fun w hw => hw.ent (Ent.pickOnly [] rfl)) ?_
  refine J_slot 26 (.slice (some ⟨ba, oa, none⟩) (W.length - 1) c0) rfl (by rw [show i + (W.length - (i + 1)) = W.length - 1 from by omega]) ?_
  have hlL2 : (pre ++ ((W.take i ++ W.drop (i + 1)).flatMap fcell)).length = oa + (W.length - 1) * 5 := by rw [List.length_append, chunk_len fcell_len, hdn, hp]
  (refine go ?_)
  refine J_sliceAny (U := tab) (p := ((W.length - 1 : Nat) : Int)) (q := (W.length : Int)) rfl rfl rfl rfl rfl rfl rfl (by omega) (by omega) (.inr (by omega)) ?_
  refine J_slot 31 (.slice (some ⟨ba, oa + (W.length - 1) * 5, none⟩) 1 (c0 - (W.length - 1))) rfl (by
    rw [show ((W.length - 1 : Nat) : Int).toNat = W.length - 1 from by omega, sliceAt_some _ _ _ _ _ (by omega), show (W.length : Int).toNat - (W.length - 1) = 1 from by omega]; rfl) ?_
  refine J_clear (U := tab) (l' := pre ++ ((W.take i ++ W.drop (i + 1)).flatMap fcell) ++ (Z5 ++ junk)) 0 (fun _ _ => trivial) rfl rfl rfl rfl rfl rfl rfl rfl (by
    show oa + (W.length - 1) * 5 + 1 * 5 ≤ _
    rw [List.length_append, hlL2, List.length_append, hl1]; omega) (by
    show _ = List.take (oa + (W.length - 1) * 5) _ ++ Z5 ++ List.drop (oa + (W.length - 1) * 5 + 1 * 5) _
    rw [List.take_left' hlL2, show oa + (W.length - 1) * 5 + 1 * 5 = (pre ++ ((W.take i ++ W.drop (i + 1)).flatMap fcell)).length + 5 from by rw [hlL2], List.drop_length_add_append, List.drop_left' hl1]; simp only [List.append_assoc]) rfl ?_
  (refine go ?_)
  refine K_ent (slc_closeN (sz := 5) (e := 34) (c := c0) (cs := (W.take i ++ W.drop (i + 1)).flatMap fcell) (nn := W.length - 1) hp (by omega) (by
    rw [chunk_len fcell_len, hdn, List.length_append]; have h9 : c0 * 5 ≤ W.length * 5 + junk.length := hcj; rw [Z5_len]; omega) (by rw [chunk_len fcell_len, hdn]) _) ?_
  refine K_return hE Try.func30 rfl _ rfl rfl (Ent.fin [0] 0 rfl rfl)

theorem CloneF_any (A : HP) (v : Value) (W : List Fl) (hv : Vw A v W.length (W.flatMap fcell)) (hW : OneV W) (hlen : W.length ≤ 1000000000) :
    Ctr Try.prog 26 [v] [A] (fun r H => H = [slc 34 5 r W.length (W.flatMap fcell), A]) := by
  obtain ⟨a, c0, rfl⟩ := hv.shape
  cases a with
  | none =>
    have hb : W = [] := by
      obtain ⟨a, cap, h1, h2 | ⟨b, o, h2, _⟩⟩ := hv
      · have := congrArg List.length h2
        rw [chunk_len fcell_len] at this
        exact List.eq_nil_of_length_eq_zero (by simp at this; omega)
      · simp only [Value.slice.injEq] at h1; rw [← h1.1] at h2; cases h2
    subst hb
    refine Ctr.enter Try.func26 (by kernel_rfl) rfl Try.ntmps26 rfl rfl ?_
    intro G F R hR
    (refine go ?_)
    have he : c0 = c0 := rfl
    refine K_ent (slc_lift 34 5 none _) ?_
    refine K_return hR Try.func26 rfl _ rfl rfl (Ent.fin [0, 1] 0 rfl rfl)
  | some a =>
    refine Ctr.enter Try.func26 (by kernel_rfl) rfl Try.ntmps26 rfl rfl ?_
    intro G F R hR
    (refine go ?_)
    refine J_buildSlice1 (U := tab) (cs := []) rfl rfl rfl rfl rfl rfl rfl rfl rfl (fun _ _ _ => trivial) ?_
    intro b0
    (refine go ?_)
    refine J_ent (slc_row 34 5 b0 0 0 [] [] _ rfl (Nat.le_refl _) (by simp)) ?_
    refine J_append (U := tab) (mm := W.length) (news := W.flatMap fcell) 0 1 rfl rfl rfl rfl rfl rfl rfl rfl rfl rfl rfl rfl hv (by rw [chunk_len fcell_len]; rfl) hW.cells (by omega) (by show _ * 56 ≤ _; omega) (fun _ => rfl) (fun _ _ _ => trivial) ?_
    intro v'
    have e1 : (0 : Nat) + W.length = W.length := by omega
    rw [e1, List.nil_append]
    (refine go ?_)
    refine K_return hR Try.func26 rfl _ rfl rfl (Ent.fin [0, 1] 0 rfl rfl)
theorem CloneB_any (A : HP) (v : Value) (bs : List UInt8) (hv : Vw A v bs.length (bV bs)) (hlen : bs.length ≤ 1000000000) :
    Ctr Try.prog 27 [v] [A] (fun r H => H = [slc 5 1 r bs.length (bV bs), A]) := by
  obtain ⟨a, c0, rfl⟩ := hv.shape
  cases a with
  | none =>
    have hb : bs = [] := by
      obtain ⟨a, cap, h1, h2 | ⟨b, o, h2, _⟩⟩ := hv
      · simpa [bV] using h2
      · simp only [Value.slice.injEq] at h1; rw [← h1.1] at h2; cases h2
    subst hb
    refine Ctr.enter Try.func27 (by kernel_rfl) rfl Try.ntmps27 rfl rfl ?_
    intro G F R hR
    (refine go ?_)
    have he : c0 = c0 := rfl
    refine K_ent (slc_lift 5 1 none _) ?_
    refine K_return hR Try.func27 rfl _ rfl rfl (Ent.fin [0, 1] 0 rfl rfl)
  | some a =>
    refine Ctr.enter Try.func27 (by kernel_rfl) rfl Try.ntmps27 rfl rfl ?_
    intro G F R hR
    (refine go ?_)
    refine J_buildSlice1 (U := tab) rfl rfl rfl rfl rfl rfl rfl rfl rfl (fun _ _ _ => trivial) ?_
    intro b0
    (refine go ?_)
    refine J_ent (slc_row 5 1 b0 0 0 [] [] _ rfl (Nat.le_refl _) (by simp)) ?_
    refine J_append (U := tab) (mm := bs.length) (news := bV bs) 0 1 rfl rfl rfl rfl rfl rfl rfl rfl rfl rfl rfl rfl hv (by show _ = _ * 1; rw [bV_length]; omega) (bV_one bs) (by omega) (by show _ * 1 ≤ _; omega) (fun _ => rfl) (fun _ _ _ => trivial) ?_
    intro v'
    have e1 : (0 : Nat) + bs.length = bs.length := by omega
    rw [e1, List.nil_append]
    (refine go ?_)
    refine K_return hR Try.func27 rfl _ rfl rfl (Ent.fin [0, 1] 0 rfl rfl)
/-- Is it due later? -/
theorem Due1_any (b : Nat) (now : Int) (x : Fl) : Ctr Try.prog 29 [.agg (fcell x).toArray, ptr b] [pts b (cl [.int .i64 now] 3)] (fun v H => v = .bool (decide (now < x.due)) ∧ H = [pts b (cl [.int .i64 now] 3)]) := by
  refine Ctr.enter Try.func29 (by kernel_rfl) rfl Try.ntmps29 rfl rfl ?_
  intro G F R hR
  (refine go ?_)
  refine J_box rfl rfl (fun _ _ _ => trivial) ?_
  intro b1
  rw [cellsF]
  (refine go ?_)
  refine K_return hR Try.func29 rfl _ rfl ⟨by simp [oneOrTuple], rfl⟩ (Ent.fin [1] 1 rfl rfl)
theorem allTakeF {W : List Fl} {i : Nat} {p : Fl → Bool} (hb : ∀ y ∈ W.take i, p y = false) {x : Fl} (hx : W[i]? = some x) (hp : p x = false) : ∀ y ∈ W.take (i + 1), p y = false := by
  intro y hy
  rw [List.take_add_one, hx] at hy
  rcases List.mem_append.1 hy with h | h
  · exact hb y h
  · simp at h; subst h; exact hp
theorem IndexF_any (A X : HP) (v : Value) (W : List Fl) (hv : Vw A v W.length (W.flatMap fcell)) (hlen : W.length ≤ 1000000000) (g : FuncId) (cap : List Value) (p : Fl → Bool)
    (hf : ∀ x ∈ W, Ctr Try.prog g (.agg (fcell x).toArray :: cap) [X] (fun v H => v = .bool (p x) ∧ H = [X])) :
    Ctr Try.prog 28 [v, .func (.func g) #[] cap.toArray] [A, X]
      (fun r H => ((∃ i : Nat, i < W.length ∧ r = .int .i64 (i : Int) ∧ (∀ y ∈ W.take i, p y = false) ∧ ∃ x, W[i]? = some x ∧ p x = true) ∨ (r = .int .i64 (-1) ∧ ∀ y ∈ W, p y = false)) ∧ H = [A, X]) := by
  obtain ⟨a, c0, rfl⟩ := hv.shape
  refine Ctr.enter Try.func28 (by kernel_rfl) rfl Try.ntmps28 rfl rfl ?_
  intro G F R hR
  (refine go ?_)
  refine K_loop (fun i : Nat => i ≤ W.length ∧ ∀ y ∈ W.take i, p y = false) (fun i => W.length - i) (fun i => [(0, .slice a W.length c0), (1, .func (.func g) #[] cap.toArray), (7, .int .i64 W.length), (8, .int .i64 i)]) (fun _ => [A, X] ++ F) 0 ⟨by simp, by simp⟩ rfl (by repeat (first | exact keep_nil | refine keep_cons rfl ?_)) (Ent.refl _) ?_
  rintro i ⟨hi, hb⟩ ih
  (refine go ?_)
  refine K_condP rfl rfl ?_ ?_
  · intro hlt
    (refine go ?_)
    have hi' : i < W.length := by omega
    obtain ⟨x, hx⟩ : ∃ x, W[i]? = some x := ⟨W[i], by simp⟩
    obtain ⟨b, o, cap', hsl⟩ := hv.some (by rw [← List.length_pos_iff, chunk_len fcell_len]; omega)
    simp only [Value.slice.injEq] at hsl
    obtain ⟨rfl, _, rfl⟩ := hsl
    refine J_at (U := tab) i 5 rfl rfl rfl rfl rfl rfl rfl rfl hi' ?_
    refine J_loadElem (U := tab) (es := fcell x) 0 (i * 5) rfl rfl rfl hv rfl (fcell_get hx) rfl rfl rfl ?_
    refine J_call [1] rfl rfl rfl rfl (hf x (List.mem_of_getElem? hx)) rfl (fun _ _ _ _ _ => trivial) ?_
    rintro _ _ ⟨rfl, rfl⟩
    (refine go ?_)
    refine K_condA rfl rfl ?_ ?_
    · intro hp
      (refine go ?_)
      refine K_return hR Try.func28 rfl _ rfl ⟨.inl ⟨i, hi', rfl, hb, x, hx, hp⟩, rfl⟩ (Ent.fin [1, 0] 0 rfl rfl)
    · intro hp
      (refine go ?_)
      refine K_again ih (i + 1) rfl ⟨by omega, allTakeF hb hx hp⟩ (by omega) (by repeat (first | exact keep_nil | refine keep_cons rfl ?_)) (Ent.pick [1, 0] rfl)
  · intro hge
    (refine go ?_)
    have : i = W.length := by omega
    subst this
    refine K_return hR Try.func28 rfl _ rfl ⟨.inr ⟨rfl, fun y hy => hb y (by simpa using hy)⟩, rfl⟩ (Ent.fin [0, 1] 0 rfl rfl)
end Go.Proofs.Ytngmcoopgbflaaa
