/- choke, part b: slices' functions at peers and at numbers. -/
import Derived.Test.YtpacpkpkinmjcaaCa
set_option linter.unusedVariables false
set_option linter.unusedSimpArgs false
namespace Go.Proofs.Ytpacpkpkinmjcaa
open Go Go.SL
attribute [local irreducible] J K Ctr Ends pts slc mapR mapI sbRow stock arrS loopP CtrY

def rV (l : List Rt) : List Value := l.flatMap rC
theorem rV_eq (l : List Rt) : rV l = l.flatMap rC := rfl
theorem rV_len (l : List Rt) : (rV l).length = l.length * 3 := chunk_len rC_len l
theorem rV_one (l : List Rt) : ∀ v ∈ rV l, v.oneCell' = true := by
  intro v hv
  obtain ⟨x, _, h⟩ := List.mem_flatMap.1 hv
  simp [rC] at h
  rcases h with rfl | rfl | rfl <;> rfl
theorem IndexFunc_rt (A X : HP) (v : Value) (l : List Rt) (hv : Vw A v l.length (rV l)) (hlen : l.length ≤ 1000000000) (g : FuncId) (cap : List Value) (p : Rt → Bool)
    (hf : ∀ x ∈ l, Ctr Try.prog g (.agg (rC x).toArray :: cap) [X] (fun v H => v = .bool (p x) ∧ H = [X])) :
    Ctr Try.prog 41 [v, .func (.func g) #[] cap.toArray] [A, X] (fun r H => r = .int .i64 (idxI p l) ∧ H = [A, X]) := by
  obtain ⟨a, c0, rfl⟩ := hv.shape
  refine Ctr.enter Try.func41 (by kernel_rfl) rfl Try.ntmps41 rfl rfl ?_
  intro G F R hR
  (refine go ?_)
  refine K_loop (fun i : Nat => i ≤ l.length ∧ ∀ y ∈ l.take i, p y = false) (fun i => l.length - i) (fun i => [(0, .slice a l.length c0), (1, .func (.func g) #[] cap.toArray), (7, .int .i64 l.length), (8, .int .i64 i)]) (fun _ => [A, X] ++ F) 0 ⟨by simp, by simp⟩ rfl (by repeat (first | exact keep_nil | refine keep_cons rfl ?_)) (Ent.refl _) ?_
  rintro i ⟨hi, hb⟩ ih
  (refine go ?_)
  refine K_condP rfl rfl ?_ ?_
  · intro hlt
    (refine go ?_)
    have hi' : i < l.length := by omega
    have hx : l[i]? = some l[i] := by simp [hi']
    generalize hxx : l[i] = x at hx
    obtain ⟨b, o, cap', hsl⟩ := hv.some (by rw [← List.length_pos_iff, rV_eq, chunk_len rC_len]; omega)
    simp only [Value.slice.injEq] at hsl
    obtain ⟨rfl, _, rfl⟩ := hsl
    refine J_at (U := tab) i 3 rfl rfl rfl rfl rfl rfl rfl rfl hi' ?_
    refine J_loadElem (U := tab) (es := rC x) 0 (i * 3) rfl rfl rfl hv rfl (fun j v hj => ?_) rfl rfl rfl ?_
    · have hj3 : j < 3 := by
        rcases Nat.lt_or_ge j 3 with h | h
        · exact h
        · rw [List.getElem?_eq_none (by rw [rC_len]; exact h)] at hj; cases hj
      rw [rV_eq, chunk_get rC_len hx j hj3]; exact hj
    refine J_call [1] rfl rfl rfl rfl (hf x (List.mem_of_getElem? hx)) rfl (fun _ _ _ _ _ => trivial) ?_
    rintro _ _ ⟨rfl, rfl⟩
    (refine go ?_)
    refine K_condA rfl rfl ?_ ?_
    · intro hp
      (refine go ?_)
      refine K_return hR Try.func41 rfl _ rfl ⟨by rw [idxI_some hx hp hb]; rfl, rfl⟩ (Ent.fin [1, 0] 0 rfl rfl)
    · intro hp
      (refine go ?_)
      refine K_again ih (i + 1) rfl ⟨by omega, allTake hb hx hp⟩ (by omega) (by repeat (first | exact keep_nil | refine keep_cons rfl ?_)) (Ent.pick [1, 0] rfl)
  · intro hge
    (refine go ?_)
    have : i = l.length := by omega
    subst this
    refine K_return hR Try.func41 rfl _ rfl ⟨by rw [idxI_none (fun x hx => hb x (by simpa using hx))]; rfl, rfl⟩ (Ent.fin [0, 1] 0 rfl rfl)

theorem DeleteFunc_rt (v : Value) (l : List Rt) (X : HP) (g : FuncId) (cap : List Value) (p : Rt → Bool) (hlen : l.length ≤ 1000000000)
    (hf : ∀ x ∈ l, Ctr Try.prog g (.agg (rC x).toArray :: cap) [X] (fun v H => v = .bool (p x) ∧ H = [X])) :
    Ctr Try.prog 22 [v, .func (.func g) #[] cap.toArray] [slc 34 3 v l.length (rV l), X]
      (fun r H => H = [slc 34 3 r (l.filter fun x => !p x).length (rV (l.filter fun x => !p x)), X]) := by
  refine Ctr.enter Try.func22 (by kernel_rfl) rfl Try.ntmps22 rfl rfl ?_
  intro G F R hE
  refine K_shape 0 rfl ?_
  rintro a0 c rfl
  (refine go ?_)
  refine J_slcVw 0 rfl ?_
  intro hv
  refine J_call [0, 1] rfl rfl rfl rfl (IndexFunc_rt _ X _ l hv hlen g cap p hf) rfl (fun _ _ _ _ _ => trivial) ?_
  rintro _ _ ⟨rfl, rfl⟩
  (refine go ?_)
  refine K_condP rfl rfl ?_ ?_
  · intro h0
    have hany : l.any p = false := idxI_neg.1 (by omega)
    have hfl : (l.filter fun x => !p x) = l := List.filter_eq_self.2 fun x hx => by
      have := List.any_eq_false.1 hany x hx
      simpa using this
    rw [hfl] at hE
    (refine go ?_)
    refine K_return hE Try.func22 rfl _ rfl rfl (Ent.fin [0, 1] 0 rfl rfl)
  · intro h0
    obtain ⟨i0, x0, hi0, hx0, hp0, hb0⟩ := idxI_first h0
    have hi0l : i0 < l.length := by
      rcases Nat.lt_or_ge i0 l.length with h | h
      · exact h
      · rw [List.getElem?_eq_none h] at hx0; cases hx0
    rw [hi0]
    (refine go ?_)
    refine K_slcCases (fun a hv0 hn _ => by omega) ?_
    rintro b o c' pre junk hvv hpre hnc hcap hcl
    simp only [Value.slice.injEq, true_and] at hvv
    obtain ⟨rfl, rfl⟩ := hvv
    have h1 : l.take (i0 + 1) = l.take i0 ++ [x0] := by rw [List.take_add_one, hx0]; rfl
    have hft : (l.take i0).filter (fun x => !p x) = l.take i0 := List.filter_eq_self.2 fun x hx => by simp [hb0 x hx]
    refine K_loop (fun s : Nat × Nat × List Rt => s.1 < s.2.1 ∧ s.2.1 ≤ l.length ∧ s.2.2.length = l.length ∧ s.2.2.take s.1 = (l.take s.2.1).filter (fun x => !p x) ∧ s.2.2.drop s.2.1 = l.drop s.2.1) (fun s => l.length - s.2.1)
      (fun s => [(0, .slice (some ⟨b, o, none⟩) l.length c), (1, .func (.func g) #[] cap.toArray), (5, .int .i64 s.1), (6, .int .i64 s.2.1)])
      (fun s => pts b (cl (pre ++ rV s.2.2 ++ junk) 34) :: X :: F) (i0, i0 + 1, l) ⟨by simp, by simp only; omega, rfl, by simp only [h1, List.filter_append, hft]; simp [hp0], rfl⟩ rfl (by repeat (first | exact keep_nil | refine keep_cons rfl ?_)) (Ent.refl _) ?_
    rintro ⟨i, j, E⟩ ⟨hij, hjl, hEl, hEt, hEd⟩ ih
    simp only at hij hjl hEl hEt hEd
    have hwl : (rV E).length = l.length * 3 := by rw [rV_eq, chunk_len rC_len, hEl]
    have hvE : Vw (pts b (cl (pre ++ rV E ++ junk) 34)) (.slice (some ⟨b, o, none⟩) l.length c) l.length (rV E) := Vw.pts (by rw [List.append_assoc, ← hpre, List.drop_left, List.take_left])
    (refine go ?_)
    refine K_condP rfl rfl ?_ ?_
    · intro hlt
      simp only at hlt
      have hj' : j < l.length := by omega
      obtain ⟨x, hx⟩ : ∃ x, l[j]? = some x := ⟨l[j], by simp [hj']⟩
      have hEx : E[j]? = some x := by
        have := congrArg (·[0]?) hEd
        simp only [List.getElem?_drop, Nat.add_zero] at this
        rw [this]; exact hx
      have hmem := List.mem_of_getElem? hx
      have hfx := hf _ hmem
      (refine go ?_)
      refine J_at (U := tab) j 3 rfl rfl rfl rfl rfl rfl rfl rfl hj' ?_
      refine J_loadElem (U := tab) (es := rC x) 0 (j * 3) rfl rfl rfl hvE rfl (fun q v hq => ?_) rfl rfl rfl ?_
      · have hj3 : q < 3 := by
          rcases Nat.lt_or_ge q 3 with h | h
          · exact h
          · rw [List.getElem?_eq_none (by rw [rC_len]; exact h)] at hq; cases hq
        rw [rV_eq, chunk_get rC_len hEx q hj3]; exact hq
      refine J_alloc (U := tab) rfl rfl rfl (fun _ _ _ => trivial) ?_
      intro bv
      (refine go ?_)
      refine J_loadAgg (U := tab) 0 rfl rfl rfl rfl rfl rfl ?_
      refine J_call [2] rfl rfl rfl rfl (hfx) rfl (fun _ _ _ _ _ => trivial) ?_
      rintro _ _ ⟨rfl, rfl⟩
      (refine go ?_)
      refine K_condA rfl rfl ?_ ?_
      · intro hp
        have hp' : p x = false := by simpa using hp
        (refine go ?_)
        refine J_loadAgg (U := tab) 1 rfl rfl rfl rfl rfl rfl ?_
        (refine go ?_)
        refine J_at (U := tab) i 3 rfl rfl rfl rfl rfl rfl rfl rfl (by omega) ?_
        refine J_storeRow (U := tab) (l' := pre ++ rV (E.set i x) ++ junk) 2 (fun _ _ => trivial) rfl rfl rfl rfl rfl rfl rfl ?_ ?_ rfl ?_
        · show o + i * 3 + 3 ≤ _
          rw [List.length_append, List.length_append, hwl]; omega
        · show _ = List.take (o + i * 3) (pre ++ rV E ++ junk) ++ rC x ++ List.drop (o + i * 3 + (rC x).length) (pre ++ rV E ++ junk)
          rw [← hpre, splice_mid _ _ _ _ _ (by rw [rC_len, hwl]; omega), rV_eq, chunk_set rC_len (by omega)]
          rfl
        (refine go ?_)
        refine K_again ih (i + 1, j + 1, E.set i x) rfl ⟨by simp only; omega, by simp only; omega, by simp only [List.length_set]; exact hEl, ?_, ?_⟩ (by simp only; omega) (by repeat (first | exact keep_nil | refine keep_cons rfl ?_)) (Ent.to [2, 0] 1 rfl rfl rfl)
        · simp only
          rw [List.take_add_one, List.take_set_of_le (Nat.le_refl i), hEt, List.take_add_one (l := l), hx, List.getElem?_set_self (by omega)]
          simp [List.filter_append, hp']
        · simp only
          rw [List.drop_set_of_lt (by omega), ← List.drop_drop, hEd, List.drop_drop]
      · intro hp
        have hp' : p x = true := by simpa using hp
        (refine go ?_)
        refine K_again ih (i, j + 1, E) rfl ⟨by simp only; omega, by simp only; omega, hEl, by simp only; rw [hEt, List.take_add_one, hx]; simp [List.filter_append, hp'], by simp only; rw [← List.drop_drop, hEd, List.drop_drop]⟩ (by simp only; omega) (by repeat (first | exact keep_nil | refine keep_cons rfl ?_)) (Ent.to [2, 0] 1 rfl rfl rfl)
    · intro hge
      (refine go ?_)
      simp only at hge
      have hjn : j = l.length := by omega
      subst hjn
      rw [List.take_length] at hEt
      have hlen2 : (l.filter fun x => !p x).length = i := by rw [← hEt, List.length_take]; omega
      refine J_slice (U := tab) rfl rfl rfl rfl rfl rfl rfl (by omega) (by omega) (.inl rfl) ?_
      intro o1 ho1 ho2
      simp only [Int.toNat_natCast] at ho1 ho2
      have ho1' : i ≠ c → o1 = o + i * 3 := ho1
      have hL : (pre ++ rV E ++ junk).length = o + l.length * 3 + junk.length := by rw [List.length_append, List.length_append, hwl, hpre]
      obtain ⟨junk', hjunk, hjl'⟩ : ∃ junk', (pre ++ rV E ++ junk).take o1 ++ (List.replicate (((l.length : Int).toNat - (i : Int).toNat)) [Value.int .i64 0, .int .i64 0, .bool false]).flatten ++ (pre ++ rV E ++ junk).drop (o1 + ((l.length : Int).toNat - (i : Int).toNat) * 3) = pre ++ rV (E.take i) ++ junk' ∧ c * 3 ≤ i * 3 + junk'.length := by
        have hic : i ≠ c := by omega
        rw [ho1' hic, ← hpre, List.append_assoc pre, List.take_length_add_append, List.take_append_of_le_length (by rw [hwl]; omega), rV_eq, rV_eq, chunk_take rC_len E i (by omega)]
        refine ⟨_, by rw [List.append_assoc], ?_⟩
        rw [List.length_append, List.length_drop, flat_replicate]
        simp only [List.length_append, List.length_cons, List.length_nil, chunk_len rC_len, hEl, Int.toNat_natCast]
        have := hcl
        omega
      refine J_clear (U := tab) (l' := pre ++ rV (E.take i) ++ junk') 0 (fun _ _ => trivial) rfl rfl rfl rfl rfl rfl rfl rfl ?_ ?_ rfl ?_
      · have hic : i ≠ c := by omega
        show o1 + ((l.length : Int).toNat - (i : Int).toNat) * 3 ≤ _
        rw [ho1' hic, hL]; omega
      · rw [← hjunk]; rfl
      (refine go ?_)
      refine J_slice (U := tab) rfl rfl rfl rfl rfl rfl rfl (by omega) (by omega) (.inr (by omega)) ?_
      intro o2 ho3 ho4
      have ho2' : o2 = o := by
        by_cases hc0 : (0 : Int).toNat = c
        · exact ho4 hc0
        · have := ho3 hc0; rw [this]; simp
      subst ho2'
      (refine go ?_)
      refine K_ent (slc_closeN (sz := 3) (nn := i) (c := c) hpre (by omega) (by rw [rV_eq, chunk_len rC_len, List.length_take]; omega) (by rw [rV_eq, chunk_len rC_len, List.length_take]; omega) _) ?_
      rw [← hEt, hEt, hlen2, ← hEt] at hE
      refine K_return hE Try.func22 rfl _ rfl rfl (Ent.fin [0, 1] 0 rfl rfl)
theorem Clone_rt (A : HP) (v : Value) (W : List Rt) (hv : Vw A v W.length (rV W)) (hlen : W.length ≤ 1000000000) :
    Ctr Try.prog 23 [v] [A] (fun r H => H = [slc 34 3 r W.length (rV W), A]) := by
  obtain ⟨a, c0, rfl⟩ := hv.shape
  cases a with
  | none =>
    have hb : W = [] := by
      obtain ⟨a, cap, h1, h2 | ⟨b, o, h2, _⟩⟩ := hv
      · have := congrArg List.length h2
        rw [rV_len] at this
        exact List.eq_nil_of_length_eq_zero (by simp at this; omega)
      · simp only [Value.slice.injEq] at h1; rw [← h1.1] at h2; cases h2
    subst hb
    refine Ctr.enter Try.func23 (by kernel_rfl) rfl Try.ntmps23 rfl rfl ?_
    intro G F R hR
    (refine go ?_)
    have he : c0 = c0 := rfl
    refine K_ent (slc_lift 34 3 none _) ?_
    refine K_return hR Try.func23 rfl _ rfl rfl (Ent.fin [0, 1] 0 rfl rfl)
  | some a =>
    refine Ctr.enter Try.func23 (by kernel_rfl) rfl Try.ntmps23 rfl rfl ?_
    intro G F R hR
    (refine go ?_)
    refine J_buildSlice1 (U := tab) (cs := []) rfl rfl rfl rfl rfl rfl rfl rfl rfl (fun _ _ _ => trivial) ?_
    intro b0
    (refine go ?_)
    refine J_ent (slc_row 34 3 b0 0 0 [] [] _ rfl (Nat.le_refl _) (by simp)) ?_
    refine J_append (U := tab) (mm := W.length) (news := rV W) 0 1 rfl rfl rfl rfl rfl rfl rfl rfl rfl rfl rfl rfl hv (by rw [rV_len]; rfl) (rV_one W) (by omega) (by show _ * 24 ≤ _; omega) (fun _ => rfl) (fun _ _ _ => trivial) ?_
    intro v'
    have e1 : (0 : Nat) + W.length = W.length := by omega
    rw [e1, List.nil_append]
    (refine go ?_)
    refine K_return hR Try.func23 rfl _ rfl rfl (Ent.fin [0, 1] 0 rfl rfl)
theorem idx_any {α : Type} (p : α → Bool) (l : List α) : decide (0 ≤ idxI p l) = l.any p := by
  rw [show decide (0 ≤ idxI p l) = decide (¬ idxI p l < 0) from by rw [decide_eq_decide]; omega]
  rw [Bool.eq_iff_iff, decide_eq_true_iff, idxI_neg (p := p) (l := l), Bool.not_eq_false]
theorem idx_mem (t : Int) (l : List Int) : decide (0 ≤ idxI (fun x => decide (x = t)) l) = decide (t ∈ l) := by
  rw [idx_any, Bool.eq_iff_iff, decide_eq_true_iff, List.any_eq_true]
  constructor
  · rintro ⟨x, hx, h⟩; have := of_decide_eq_true h; subst this; exact hx
  · intro h; exact ⟨t, h, decide_eq_true rfl⟩
theorem ContainsFunc_rt (A X : HP) (v : Value) (l : List Rt) (hv : Vw A v l.length (rV l)) (hlen : l.length ≤ 1000000000) (g : FuncId) (cap : List Value) (p : Rt → Bool)
    (hf : ∀ x ∈ l, Ctr Try.prog g (.agg (rC x).toArray :: cap) [X] (fun v H => v = .bool (p x) ∧ H = [X])) :
    Ctr Try.prog 40 [v, .func (.func g) #[] cap.toArray] [A, X] (fun r H => r = .bool (l.any p) ∧ H = [A, X]) := by
  refine Ctr.enter Try.func40 (by kernel_rfl) rfl Try.ntmps40 rfl rfl ?_
  intro G F R hE
  (refine go ?_)
  (first | refine J_callE rfl rfl rfl rfl (IndexFunc_rt A X v l hv hlen g cap p hf) entA ?_ (fun _ _ _ _ _ => trivial) | refine J_call0E rfl rfl rfl (IndexFunc_rt A X v l hv hlen g cap p hf) entA ?_ (fun _ _ _ _ _ => trivial) | (refine go ?_; first | refine J_callE rfl rfl rfl rfl (IndexFunc_rt A X v l hv hlen g cap p hf) entA ?_ (fun _ _ _ _ _ => trivial) | refine J_call0E rfl rfl rfl (IndexFunc_rt A X v l hv hlen g cap p hf) entA ?_ (fun _ _ _ _ _ => trivial)))
  rintro _ _ ⟨rfl, rfl⟩
  (refine go ?_)
  (first | refine J_slot 4 ((.bool (l.any p))) rfl ((congrArg Value.bool (idx_any p l))) ?_ | refine K_slot 4 ((.bool (l.any p))) rfl ((congrArg Value.bool (idx_any p l))) ?_)
  (first | refine K_return hE Try.func40 rfl _ rfl ⟨rfl, rfl⟩ entA | refine K_fallEnd hE Try.func40 rfl _ rfl ⟨rfl, rfl⟩ entA)
theorem IndexI_any (A : HP) (v : Value) (l : List Int) (t : Int) (hv : Vw A v l.length (iV l)) (hlen : l.length ≤ 1000000000) :
    Ctr Try.prog 45 [v, .int .i64 t] [A] (fun r H => r = .int .i64 (idxI (fun x => decide (x = t)) l) ∧ H = [A]) := by
  obtain ⟨a, c0, rfl⟩ := hv.shape
  refine Ctr.enter Try.func45 (by kernel_rfl) rfl Try.ntmps45 rfl rfl ?_
  intro G F R hE
  (refine go ?_)
  refine K_loop (fun i : Nat => i ≤ l.length ∧ ∀ y ∈ l.take i, decide (y = t) = false) (fun i => l.length - i) (fun i => [(0, .slice a l.length c0), (1, .int .i64 t), (7, .int .i64 l.length), (8, .int .i64 i)]) (fun _ => A :: F) 0 ⟨by simp, by simp⟩ rfl (by repeat (first | exact keep_nil | refine keep_cons rfl ?_)) entA ?_
  rintro i ⟨hi, hb⟩ ih
  (refine go ?_)
  refine K_condP rfl rfl ?_ ?_
  · intro hlt
    have hi' : i < l.length := by omega
    obtain ⟨x, hx⟩ : ∃ x, l[i]? = some x := ⟨l[i], by simp [hi']⟩
    obtain ⟨b, o, c', he⟩ := hv.some (ine hi')
    simp only [Value.slice.injEq, true_and] at he
    obtain ⟨rfl, rfl⟩ := he
    (refine go ?_)
    refine J_at1 (U := tab) i rfl rfl rfl rfl rfl rfl rfl rfl hi' ?_
    refine J_loadAt (U := tab) 0 i rfl rfl rfl hv rfl (iV_get hx) rfl rfl ?_
    (refine go ?_)
    refine K_condP rfl rfl ?_ ?_
    · intro h
      (refine go ?_)
      (first | refine K_return hE Try.func45 rfl _ rfl ⟨by rw [idxI_some hx (decide_eq_true h.symm) hb]; rfl, rfl⟩ entA | refine K_fallEnd hE Try.func45 rfl _ rfl ⟨by rw [idxI_some hx (decide_eq_true h.symm) hb]; rfl, rfl⟩ entA)
    intro h
    (refine go ?_)
    refine K_again ih (i + 1) rfl (⟨by omega, allTake hb hx (decide_eq_false fun e => h e.symm)⟩) (by omega) (by repeat (first | exact keep_nil | refine keep_cons rfl ?_)) entA
  intro hge
  (refine go ?_)
  have : i = l.length := by omega
  subst this
  (first | refine K_return hE Try.func45 rfl _ rfl ⟨by rw [idxI_none (fun x hx => hb x (by simpa using hx))]; rfl, rfl⟩ entA | refine K_fallEnd hE Try.func45 rfl _ rfl ⟨by rw [idxI_none (fun x hx => hb x (by simpa using hx))]; rfl, rfl⟩ entA)
theorem ContainsI_any (A : HP) (v : Value) (l : List Int) (t : Int) (hv : Vw A v l.length (iV l)) (hlen : l.length ≤ 1000000000) :
    Ctr Try.prog 30 [v, .int .i64 t] [A] (fun r H => r = .bool (decide (t ∈ l)) ∧ H = [A]) := by
  refine Ctr.enter Try.func30 (by kernel_rfl) rfl Try.ntmps30 rfl rfl ?_
  intro G F R hE
  (refine go ?_)
  (first | refine J_callE rfl rfl rfl rfl (IndexI_any A v l t hv hlen) entA ?_ (fun _ _ _ _ _ => trivial) | refine J_call0E rfl rfl rfl (IndexI_any A v l t hv hlen) entA ?_ (fun _ _ _ _ _ => trivial) | (refine go ?_; first | refine J_callE rfl rfl rfl rfl (IndexI_any A v l t hv hlen) entA ?_ (fun _ _ _ _ _ => trivial) | refine J_call0E rfl rfl rfl (IndexI_any A v l t hv hlen) entA ?_ (fun _ _ _ _ _ => trivial)))
  rintro _ _ ⟨rfl, rfl⟩
  (refine go ?_)
  (first | refine J_slot 4 ((.bool (decide (t ∈ l)))) rfl ((congrArg Value.bool (idx_mem t l))) ?_ | refine K_slot 4 ((.bool (decide (t ∈ l)))) rfl ((congrArg Value.bool (idx_mem t l))) ?_)
  (first | refine K_return hE Try.func30 rfl _ rfl ⟨rfl, rfl⟩ entA | refine K_fallEnd hE Try.func30 rfl _ rfl ⟨rfl, rfl⟩ entA)
end Go.Proofs.Ytpacpkpkinmjcaa
