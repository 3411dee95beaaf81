/- net, part c: insert, delete over datagrams. -/
import Derived.Test.YtngmcoopgbflaaaNb
import Derived.Test.YtngmcoopgbflaaaEngO
set_option linter.unusedVariables false
set_option linter.unusedSimpArgs false
namespace Go.Proofs.Ytngmcoopgbflaaa
open Go Go.SL
attribute [local irreducible] J K Ctr Ends pts slc mapR mapI sbRow stock arrS

/-- Every slice of bytes is one. -/
def OneV (W : List Fl) : Prop := ∀ x ∈ W, x.v.oneCell' = true
theorem fcell_one {x : Fl} (h : x.v.oneCell' = true) : ∀ u ∈ fcell x, u.oneCell' = true := by
  intro u hu
  simp only [fcell, List.mem_cons, List.not_mem_nil, or_false] at hu
  rcases hu with rfl | rfl | rfl | rfl | rfl
  · rfl
  · rfl
  · rfl
  · rfl
  · exact h
theorem OneV.cells {W : List Fl} (h : OneV W) : ∀ u ∈ W.flatMap fcell, u.oneCell' = true := by
  intro u hu
  obtain ⟨x, hx, hux⟩ := List.mem_flatMap.1 hu
  exact fcell_one (h x hx) u hux
theorem flat_split (W : List Fl) (i : Nat) (hi : i ≤ W.length) : (W.take i).flatMap fcell = (W.flatMap fcell).take (i * 5) ∧ (W.drop i).flatMap fcell = (W.flatMap fcell).drop (i * 5) := by
  have h1 : W.flatMap fcell = (W.take i).flatMap fcell ++ (W.drop i).flatMap fcell := by rw [← List.flatMap_append, List.take_append_drop]
  have h2 : ((W.take i).flatMap fcell).length = i * 5 := by rw [chunk_len fcell_len, List.length_take, Nat.min_eq_left hi]
  constructor
  · rw [h1, ← h2, List.take_left]
  · rw [h1, ← h2, List.drop_left]
/-- A list with one more. -/
def insAt (W : List Fl) (i : Nat) (x : Fl) : List Fl := W.take i ++ x :: W.drop i
theorem insAt_len (W : List Fl) (i : Nat) (x : Fl) : (insAt W i x).length = W.length + 1 := by unfold insAt; simp; omega
set_option maxRecDepth 20000 in
theorem Insert_any (s : Value) (W : List Fl) (x : Fl) (b1 i : Nat) (hi : i ≤ W.length) (hW : OneV W) (hx : x.v.oneCell' = true) (hlen : W.length ≤ 1000000000) :
    Ctr Try.prog 42 [s, .int .i64 (i : Int), .slice (some ⟨b1, 0, none⟩) 1 1] [slc 34 5 s W.length (W.flatMap fcell), pts b1 (cl (fcell x) 34)]
      (fun r H => H = [slc 34 5 r (W.length + 1) ((insAt W i x).flatMap fcell)]) := by
  refine Ctr.enter Try.func42 (by kernel_rfl) rfl Try.ntmps42 rfl rfl ?_
  intro G F R hE
  refine K_shape 0 rfl ?_
  rintro a0 c0 rfl
  (refine go ?_)
  refine J_sliceAny (U := tab) (p := (i : Int)) (q := (W.length : Int)) rfl rfl rfl rfl rfl rfl rfl (by omega) (by omega) (.inl rfl) ?_
  (refine go ?_)
  refine K_condP rfl rfl ?_ ?_
  · intro hin
    have hie : i = W.length := by omega
    (refine go ?_)
    refine J_append (U := tab) (mm := 1) (news := fcell x) 0 1 rfl rfl rfl rfl rfl rfl rfl rfl rfl rfl rfl rfl (Vw.pts rfl) rfl (fcell_one hx) (by omega) (by show _ * 56 ≤ _; omega) (fun _ => rfl) (fun _ _ _ => trivial) ?_
    intro v'
    have e1 : W.flatMap fcell ++ fcell x = (insAt W i x).flatMap fcell := by subst hie; simp [insAt]
    rw [e1]
    refine J_shape 0 rfl ?_
    rintro a1 c1 rfl
    (refine go ?_)
    refine K_return hE Try.func42 rfl _ rfl rfl (Ent.fin [0] 1 rfl rfl)
  · intro hin
    have hlt : i < W.length := by omega
    (repeat (first | refine go1 ?_ | refine J_fork ?_ ?_ | refine J_cap (U := tab) rfl rfl rfl rfl ?_))
    have hl5 : (W.flatMap fcell).length = W.length * 5 := chunk_len fcell_len W
    obtain ⟨hf1, hf2⟩ := flat_split W i hi
    have hins : (insAt W i x).flatMap fcell = (W.flatMap fcell).take (i * 5) ++ fcell x ++ (W.flatMap fcell).drop (i * 5) := by simp [insAt, hf1, hf2]
    have hone := hW.cells
    refine K_slcF 0 rfl (by omega) ?_
    rintro ba oa ca hsl hca _ hvs
    simp only [Value.slice.injEq, true_and] at hsl
    obtain ⟨rfl, rfl⟩ := hsl
    refine K_condP rfl rfl ?_ ?_
    · intro hgrow
      (refine go ?_)
      refine J_sliceAny (U := tab) (p := 0) (q := (i : Int)) rfl rfl rfl rfl rfl rfl rfl (by omega) (by omega) (.inr (by omega)) ?_
      refine J_slot 34 (.slice (some ⟨ba, oa, none⟩) i c0) rfl (by rw [show (0 : Int).toNat = 0 from rfl, sliceAt_zero]; rfl) ?_
      (refine go ?_)
      refine J_slot 39 (.int .i64 ((W.length + 1 - i : Nat) : Int)) rfl (congrArg (Value.int .i64) (by omega)) ?_
      refine J_appendZ (U := tab) (mm := W.length + 1 - i) (cs := (W.flatMap fcell).take (i * 5)) 0 rfl rfl rfl rfl rfl rfl rfl rfl rfl rfl rfl rfl (hvs.front i c0 (i * 5)) (by rw [List.length_take, hl5]; show min (i * 5) _ = i * 5; omega) (by omega) (by omega) (by omega) (by show _ * 56 ≤ _; omega) (by show _ * 56 ≤ _; omega) (fun _ _ _ => trivial) ?_
      intro v'
      rw [show i + (W.length + 1 - i) = W.length + 1 from by omega]
      refine J_slcAt 0 rfl (by omega) ?_
      rintro b2 o2 c2 rfl _
      refine J_open (slc_openN (by omega)) ?_
      rintro ⟨pre, junk⟩ ⟨hp, hn2, hc2, hcl⟩
      have hsz : Try.t34.size = 5 := rfl
      generalize hZ : cellsL (Value.agg #[Value.int IntKind.i64 0, Value.int IntKind.i64 0, Value.int IntKind.i64 0, Value.int IntKind.i64 0, Value.slice none 0 0]) = Z at hcl hc2
      have hZl : Z.length = 5 := by rw [← hZ]; rfl
      have hc1 : ((W.flatMap fcell).take (i * 5)).length = i * 5 := by rw [List.length_take, hl5]; omega
      have hzz : (List.replicate (W.length + 1 - i) Z).flatten = Z ++ (List.replicate (W.length - i) Z).flatten := by rw [show W.length + 1 - i = (W.length - i) + 1 from by omega, List.replicate_succ]; simp
      have hrl : (List.replicate (W.length - i) Z).flatten.length = (W.length - i) * 5 := by rw [flat_replicate, hZl]
      simp only at hp hn2 hc2 hcl
      have hcj : c2 * 5 ≤ (W.length + 1) * 5 + junk.length := by
        have h1 : ((W.flatMap fcell).take (i * 5) ++ (List.replicate (W.length + 1 - i) Z).flatten).length = (W.length + 1) * 5 := hcl
        rw [h1] at hc2; exact hc2
      (refine go ?_)
      refine J_sliceAny (U := tab) (p := (i : Int)) (q := ((W.length + 1 : Nat) : Int)) rfl rfl rfl rfl rfl rfl rfl (by omega) (by omega) (.inl rfl) ?_
      refine J_slot 43 (.slice (some ⟨b2, o2 + i * 5, none⟩) (W.length + 1 - i) (c2 - i)) rfl (by
        rw [show (i : Int).toNat = i from by omega, sliceAt_some _ _ _ _ _ (by omega)]; rfl) ?_
      (refine go ?_)
      refine J_copy (U := tab) (mm := 1) (src := fcell x) (l' := pre ++ ((W.flatMap fcell).take (i * 5) ++ fcell x) ++ ((List.replicate (W.length - i) Z).flatten ++ junk)) 0 2 rfl rfl rfl rfl rfl rfl rfl rfl (Vw.pts rfl) rfl (fcell_one hx) (by
        rw [show min 1 (W.length + 1 - i) = 1 from by omega]
        simp only [List.length_append, hp, hc1, hzz, hZl, hrl]; show _ + 1 * 5 ≤ _; omega) (by
        rw [show min 1 (W.length + 1 - i) = 1 from by omega, hzz]
        have e1 : pre ++ ((W.flatMap fcell).take (i * 5) ++ (Z ++ (List.replicate (W.length - i) Z).flatten)) ++ junk = pre ++ (W.flatMap fcell).take (i * 5) ++ Z ++ ((List.replicate (W.length - i) Z).flatten ++ junk) := by simp only [List.append_assoc]
        show _ = (pre ++ ((W.flatMap fcell).take (i * 5) ++ (Z ++ (List.replicate (W.length - i) Z).flatten)) ++ junk).take _ ++ (fcell x).take (1 * 5) ++ (pre ++ ((W.flatMap fcell).take (i * 5) ++ (Z ++ (List.replicate (W.length - i) Z).flatten)) ++ junk).drop _
        rw [e1, show (fcell x).take (1 * 5) = fcell x from rfl]
        exact (ins_b (by rw [hp, hc1]) hZl rfl).symm) rfl (fun _ _ => trivial) ?_
      (refine go ?_)
      refine K_drawA (fun w => Sat G w ([])) (.st 0 (.st 1 (.st 2 (.st 3 (.st 4 (.st 5 (.st 6 (.st 7 (.act 8 .nil))))))))) rfl (by kernel_rfl) (by kernel_rfl) (by kernel_rfl) (fun w hw => hw.ent (Ent.pickOnly ([]) rfl)) ?_
      (refine go ?_)
      refine J_sliceAny (U := tab) (p := (i : Int) + 1) (q := ((W.length + 1 : Nat) : Int)) rfl rfl rfl rfl rfl rfl rfl (by omega) (by omega) (.inl rfl) ?_
      refine J_slot 50 (.slice (some ⟨b2, o2 + (i + 1) * 5, none⟩) (W.length - i) (c2 - (i + 1))) rfl (by
        rw [show ((i : Int) + 1).toNat = i + 1 from by omega, sliceAt_some _ _ _ _ _ (by omega), show ((W.length + 1 : Nat) : Int).toNat - (i + 1) = W.length - i from by omega]; rfl) ?_
      (refine go ?_)
      refine J_sliceAny (U := tab) (p := (i : Int)) (q := (W.length : Int)) rfl rfl rfl rfl rfl rfl rfl (by omega) (by omega) (.inl rfl) ?_
      refine J_slot 53 (.slice (some ⟨ba, oa + i * 5, none⟩) (W.length - i) (c0 - i)) rfl (by
        rw [show (i : Int).toNat = i from by omega, sliceAt_some _ _ _ _ _ (by omega)]; rfl) ?_
      refine J_copy (U := tab) (mm := W.length - i) (src := (W.flatMap fcell).drop (i * 5)) (l' := pre ++ ((insAt W i x).flatMap fcell) ++ junk) 0 1 rfl rfl rfl rfl rfl rfl rfl rfl (hvs.back (W.length - i) (c0 - i) (i * 5)) (by rw [List.length_drop, hl5]; show _ = _ * 5; omega) (fun u hu => hone u (List.mem_of_mem_drop hu)) (by
        rw [Nat.min_self]
        simp only [List.length_append, hp, hc1, hrl, fcell_len]; show _ + _ * 5 ≤ _; omega) (by
        rw [Nat.min_self, hins]
        have hd : ((W.flatMap fcell).drop (i * 5)).take ((W.length - i) * 5) = (W.flatMap fcell).drop (i * 5) := List.take_of_length_le (by rw [List.length_drop, hl5]; omega)
        show _ = List.take (o2 + (i + 1) * 5) _ ++ ((W.flatMap fcell).drop (i * 5)).take ((W.length - i) * 5) ++ List.drop (o2 + (i + 1) * 5 + (W.length - i) * 5) _
        rw [hd]
        have h1 : List.take (o2 + (i + 1) * 5) (pre ++ ((W.flatMap fcell).take (i * 5) ++ fcell x) ++ ((List.replicate (W.length - i) Z).flatten ++ junk)) = pre ++ ((W.flatMap fcell).take (i * 5) ++ fcell x) := List.take_left' (by simp only [List.length_append, hp, hc1, fcell_len]; omega)
        have h2 : List.drop (o2 + (i + 1) * 5 + (W.length - i) * 5) (pre ++ ((W.flatMap fcell).take (i * 5) ++ fcell x) ++ ((List.replicate (W.length - i) Z).flatten ++ junk)) = junk := by
          rw [← List.append_assoc]; exact List.drop_left' (by simp only [List.length_append, hp, hc1, hrl, fcell_len]; omega)
        rw [h1, h2]; simp only [List.append_assoc]) rfl (fun _ _ => trivial) ?_
      (refine go ?_)
      refine K_ent (slc_closeN (nn := W.length + 1) hp (by omega) (by rw [chunk_len fcell_len, insAt_len]; exact hcj) (by rw [chunk_len fcell_len, insAt_len]) _) ?_
      refine K_return hE Try.func42 rfl _ rfl rfl (Ent.fin [0] 2 rfl rfl)
    · intro hroom
      have hc1 : ((W.flatMap fcell).take (i * 5)).length = i * 5 := by rw [List.length_take, hl5]; omega
      refine K_open (slc_openN (by omega)) ?_
      rintro ⟨pre, junk⟩ ⟨hp, _, hcj, _⟩
      simp only at hp hcj
      rw [hl5] at hcj
      have hj5 : 5 ≤ junk.length := by have : (W.length + 1) * 5 ≤ c0 * 5 := Nat.mul_le_mul_right 5 (by omega); omega
      have hsp : W.flatMap fcell = (W.flatMap fcell).take (i * 5) ++ (((W.flatMap fcell).drop (i * 5)).take 5 ++ (W.flatMap fcell).drop (i * 5 + 5)) := by
        rw [← List.drop_drop, List.take_append_drop, List.take_append_drop]
      have hd5 : (((W.flatMap fcell).drop (i * 5)).take 5).length = 5 := by rw [List.length_take, List.length_drop, hl5]; omega
      have hd6 : ((W.flatMap fcell).drop (i * 5 + 5)).length = (W.length - i) * 5 - 5 := by rw [List.length_drop, hl5]; omega
      have hdd : ((W.flatMap fcell).drop (i * 5)).take 5 ++ (W.flatMap fcell).drop (i * 5 + 5) = (W.flatMap fcell).drop (i * 5) := by rw [← List.drop_drop, List.take_append_drop]
      have hdl : ((W.flatMap fcell).drop (i * 5)).length = (W.length - i) * 5 := by rw [List.length_drop, hl5]; omega
      (refine go ?_)
      refine J_sliceAny (U := tab) (p := 0) (q := (W.length : Int) + 1) rfl rfl rfl rfl rfl rfl rfl (by omega) (by omega) (.inr (by omega)) ?_
      refine J_slot 60 (.slice (some ⟨ba, oa, none⟩) (W.length + 1) c0) rfl (by rw [show (0 : Int).toNat = 0 from rfl, sliceAt_zero, show ((W.length : Int) + 1).toNat = W.length + 1 from by omega]; rfl) ?_
      (refine go ?_)
      refine J_sliceAny (U := tab) (p := (i : Int) + 1) (q := ((W.length + 1 : Nat) : Int)) rfl rfl rfl rfl rfl rfl rfl (by omega) (by omega) (.inl rfl) ?_
      refine J_slot 66 (.slice (some ⟨ba, oa + (i + 1) * 5, none⟩) (W.length - i) (c0 - (i + 1))) rfl (by
        rw [show ((i : Int) + 1).toNat = i + 1 from by omega, sliceAt_some _ _ _ _ _ (by omega), show ((W.length + 1 : Nat) : Int).toNat - (i + 1) = W.length - i from by omega]; rfl) ?_
      refine J_overlaps (U := tab) (tS := 31) (rs := #[4]) [1, 0] rfl Try.func48 (by kernel_rfl) (by kernel_rfl) (by kernel_rfl) (by kernel_rfl) rfl rfl rfl rfl rfl ?_
      (refine go ?_)
      have hLl : (pre ++ W.flatMap fcell ++ junk).length = oa + W.length * 5 + junk.length := by simp only [List.length_append, hp, hl5]
      have hsl2 : (((pre ++ W.flatMap fcell ++ junk).drop (oa + i * 5)).take ((W.length + 1 - i) * 5)).length = (W.length + 1 - i) * 5 := by rw [List.length_take, List.length_drop, hLl]; omega
      have hst : (((pre ++ W.flatMap fcell ++ junk).drop (oa + i * 5)).take ((W.length + 1 - i) * 5)).take ((W.length - i) * 5) = (W.flatMap fcell).drop (i * 5) := by
        rw [List.take_take, show min ((W.length - i) * 5) ((W.length + 1 - i) * 5) = (W.length - i) * 5 from by omega]
        rw [show oa + i * 5 = pre.length + i * 5 from by omega, List.append_assoc, List.drop_length_add_append, List.drop_append_of_le_length (by rw [hl5]; omega)]
        exact List.take_left' hdl
      refine K_drawA (fun w => Sat G w ([])) (.st 0 (.st 1 (.st 2 (.st 3 (.st 4 (.st 5 (.st 6 (.st 7 (.act 8 .nil))))))))) rfl (by kernel_rfl) (by kernel_rfl) (by kernel_rfl) (fun w hw => hw.ent (Ent.pickOnly ([]) rfl)) ?_
      (refine go ?_)
      refine J_sliceAny (U := tab) (p := (i : Int) + 1) (q := ((W.length + 1 : Nat) : Int)) rfl rfl rfl rfl rfl rfl rfl (by omega) (by omega) (.inl rfl) ?_
      refine J_slot 73 (.slice (some ⟨ba, oa + (i + 1) * 5, none⟩) (W.length - i) (c0 - (i + 1))) rfl (by
        rw [show ((i : Int) + 1).toNat = i + 1 from by omega, sliceAt_some _ _ _ _ _ (by omega), show ((W.length + 1 : Nat) : Int).toNat - (i + 1) = W.length - i from by omega]; rfl) ?_
      (refine go ?_)
      refine J_sliceAny (U := tab) (p := (i : Int)) (q := ((W.length + 1 : Nat) : Int)) rfl rfl rfl rfl rfl rfl rfl (by omega) (by omega) (.inl rfl) ?_
      refine J_slot 76 (.slice (some ⟨ba, oa + i * 5, none⟩) (W.length + 1 - i) (c0 - i)) rfl (by
        rw [show (i : Int).toNat = i from by omega, sliceAt_some _ _ _ _ _ (by omega)]; rfl) ?_
      refine J_copyT (U := tab) (mm := W.length + 1 - i) (src := ((pre ++ W.flatMap fcell ++ junk).drop (oa + i * 5)).take ((W.length + 1 - i) * 5))
        (l' := pre ++ (W.flatMap fcell).take (i * 5) ++ ((W.flatMap fcell).drop (i * 5)).take 5 ++ ((W.flatMap fcell).drop (i * 5) ++ junk.drop 5)) 0 0 rfl rfl rfl rfl rfl rfl rfl rfl (Vw.pts (by rw [hsl2])) hsl2 (by
          rw [show min (W.length + 1 - i) (W.length - i) = W.length - i from by omega]
          show ∀ u ∈ List.take ((W.length - i) * 5) _, _
          rw [hst]; exact fun u hu => hone u (List.mem_of_mem_drop hu)) (by
          rw [show min (W.length + 1 - i) (W.length - i) = W.length - i from by omega]
          show _ + _ * 5 ≤ (pre ++ W.flatMap fcell ++ junk).length
          rw [hLl]; omega) (by
          rw [show min (W.length + 1 - i) (W.length - i) = W.length - i from by omega]
          show _ = (pre ++ W.flatMap fcell ++ junk).take (oa + (i + 1) * 5) ++ List.take ((W.length - i) * 5) _ ++ (pre ++ W.flatMap fcell ++ junk).drop (oa + (i + 1) * 5 + (W.length - i) * 5)
          rw [hst]
          have hA := ins_a (pre := pre) (c1 := (W.flatMap fcell).take (i * 5)) (d := ((W.flatMap fcell).drop (i * 5)).take 5) (c3 := (W.flatMap fcell).drop (i * 5 + 5)) (junk := junk) (q := oa + i * 5) (s := 5) (r := oa + (i + 1) * 5 + (W.length - i) * 5) (by rw [hp, hc1]) hd5 (by rw [hdd, hdl]; omega) hj5
          rw [hdd] at hA
          rw [show (W.flatMap fcell).take (i * 5) ++ (W.flatMap fcell).drop (i * 5) = W.flatMap fcell from List.take_append_drop _ _] at hA
          rw [show oa + (i + 1) * 5 = oa + i * 5 + 5 from by omega] at hA ⊢
          rw [hA]; simp only [List.append_assoc]) rfl (fun _ _ => trivial) ?_
      (refine go ?_)
      refine J_sliceAny (U := tab) (p := (i : Int)) (q := ((W.length + 1 : Nat) : Int)) rfl rfl rfl rfl rfl rfl rfl (by omega) (by omega) (.inl rfl) ?_
      refine J_slot 80 (.slice (some ⟨ba, oa + i * 5, none⟩) (W.length + 1 - i) (c0 - i)) rfl (by
        rw [show (i : Int).toNat = i from by omega, sliceAt_some _ _ _ _ _ (by omega)]; rfl) ?_
      (refine go ?_)
      refine J_copy (U := tab) (mm := 1) (src := fcell x) (l' := pre ++ ((insAt W i x).flatMap fcell) ++ junk.drop 5) 0 1 rfl rfl rfl rfl rfl rfl rfl rfl (Vw.pts rfl) rfl (fcell_one hx) (by
        rw [show min 1 (W.length + 1 - i) = 1 from by omega]
        simp only [List.length_append, hp, hc1, hd5, hdl]; show _ + 1 * 5 ≤ _; omega) (by
        rw [show min 1 (W.length + 1 - i) = 1 from by omega, hins]
        have hB := ins_b (pre := pre) (c1 := (W.flatMap fcell).take (i * 5)) (d := ((W.flatMap fcell).drop (i * 5)).take 5) (rest := (W.flatMap fcell).drop (i * 5) ++ junk.drop 5) (f := fcell x) (q := oa + i * 5) (s := 5) (r := oa + i * 5 + 1 * 5) (by rw [hp, hc1]) hd5 rfl
        show _ = List.take (oa + i * 5) _ ++ (fcell x).take (1 * 5) ++ List.drop (oa + i * 5 + 1 * 5) _
        rw [show (fcell x).take (1 * 5) = fcell x from rfl, hB]; simp only [List.append_assoc]) rfl (fun _ _ => trivial) ?_
      (refine go ?_)
      refine K_ent (slc_closeN (sz := 5) (e := 34) (c := c0) (cs := (insAt W i x).flatMap fcell) (junk := junk.drop 5) (nn := W.length + 1) hp (by omega) (by rw [chunk_len fcell_len, insAt_len, List.length_drop]; have h9 : c0 * 5 ≤ W.length * 5 + junk.length := hcj; omega) (by rw [chunk_len fcell_len, insAt_len]) _) ?_
      refine K_return hE Try.func42 rfl _ rfl rfl (Ent.fin [0] 1 rfl rfl)
end Go.Proofs.Ytngmcoopgbflaaa
