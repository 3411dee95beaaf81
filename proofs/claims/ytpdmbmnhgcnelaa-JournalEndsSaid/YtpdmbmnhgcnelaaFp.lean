/- files, part p: SyncNames, the closures and slices' functions of Sync. -/
import Derived.Test.YtpdmbmnhgcnelaaFj
import Derived.Test.YtpdmbmnhgcnelaaEngI
import Derived.Test.YtpdmbmnhgcnelaaEngG
set_option linter.unusedVariables false
set_option linter.unusedSimpArgs false
namespace Go.Proofs.Ytpdmbmnhgcnelaa
open Go Go.SL
attribute [local irreducible] J K Ctr Ends pts slc mapR mapI sbRow stock arrS

abbrev Late := Nat × Nat × Value
def lateC (x : Late) : List Value := [ptr x.1, .int .i64 x.2.1, x.2.2]
theorem wcells_eq (l : List Late) : wcells l = l.flatMap lateC := rfl
theorem lateC_len (x : Late) : (lateC x).length = 3 := rfl

theorem IndexFunc_late (A X : HP) (v : Value) (l : List Late) (hv : Vw A v l.length (wcells l)) (hlen : l.length ≤ 1000000000) (g : FuncId) (cap : List Value) (p : Late → Bool)
    (hf : ∀ x ∈ l, Ctr Try.prog g (.agg #[ptr x.1, .int .i64 x.2.1, x.2.2] :: cap) [X] (fun v H => v = .bool (p x) ∧ H = [X])) :
    Ctr Try.prog 96 [v, .func (.func g) #[] cap.toArray] [A, X] (fun r H => r = .int .i64 (idxI p l) ∧ H = [A, X]) := by
  obtain ⟨a, c0, rfl⟩ := hv.shape
  refine Ctr.enter Try.func96 (by kernel_rfl) rfl Try.ntmps96 rfl rfl ?_
  intro G F R hR
  (refine go ?_)
  refine K_loop (fun i : Nat => i ≤ l.length ∧ ∀ y ∈ l.take i, p y = false) (fun i => l.length - i) (fun i => [(0, .slice a l.length c0), (1, .func (.func g) #[] cap.toArray), (7, .int .i64 l.length), (8, .int .i64 i)]) (fun _ => [A, X] ++ F) 0 ⟨by simp, by simp⟩ rfl (by repeat (first | exact keep_nil | refine keep_cons rfl ?_)) (Ent.refl _) ?_
  rintro i ⟨hi, hb⟩ ih
  (refine go ?_)
  refine K_condP rfl rfl ?_ ?_
  · intro hlt
    (refine go ?_)
    have hi' : i < l.length := by omega
    have hx : l[i]? = some l[i] := by simp [hi']
    generalize hxx : l[i] = x at hx
    obtain ⟨b, o, cap', hsl⟩ := hv.some (by rw [← List.length_pos_iff, wcells_eq, chunk_len lateC_len]; omega)
    simp only [Value.slice.injEq] at hsl
    obtain ⟨rfl, _, rfl⟩ := hsl
    refine J_at (U := tab) i 3 rfl rfl rfl rfl rfl rfl rfl rfl hi' ?_
    refine J_loadElem (U := tab) (es := lateC x) 0 (i * 3) rfl rfl rfl hv rfl (fun j v hj => ?_) rfl rfl rfl ?_
    · have hj3 : j < 3 := by
        rcases Nat.lt_or_ge j 3 with h | h
        · exact h
        · rw [List.getElem?_eq_none (by rw [lateC_len]; exact h)] at hj; cases hj
      rw [wcells_eq, chunk_get lateC_len hx j hj3]; exact hj
    refine J_call [1] rfl rfl rfl rfl (hf x (List.mem_of_getElem? hx)) rfl (fun _ _ _ _ _ => trivial) ?_
    rintro _ _ ⟨rfl, rfl⟩
    (refine go ?_)
    refine K_condA rfl rfl ?_ ?_
    · intro hp
      (refine go ?_)
      refine K_return hR Try.func96 rfl _ rfl ⟨by rw [idxI_some hx hp hb]; rfl, rfl⟩ (Ent.fin [1, 0] 0 rfl rfl)
    · intro hp
      (refine go ?_)
      refine K_again ih (i + 1) rfl ⟨by omega, allTake hb hx hp⟩ (by omega) (by repeat (first | exact keep_nil | refine keep_cons rfl ?_)) (Ent.pick [1, 0] rfl)
  · intro hge
    (refine go ?_)
    have : i = l.length := by omega
    subst this
    refine K_return hR Try.func96 rfl _ rfl ⟨by rw [idxI_none (fun x hx => hb x (by simpa using hx))]; rfl, rfl⟩ (Ent.fin [0, 1] 0 rfl rfl)

/-- Is it that file's write? -/
theorem Sync1_any (c5 f g at_ : Nat) (bv : Value) (files : List (Nat × Value × Value)) (hf : f ∈ files.map (·.1)) (hg : g ∈ files.map (·.1)) (hone : bv.oneCell' = true) :
    Ctr Try.prog 85 [.agg #[ptr g, .int .i64 at_, bv], ptr c5] [star (pts c5 (cl [ptr f] 66)) (stock fileG files)] (fun v H => v = .bool (decide (g = f)) ∧ H = [star (pts c5 (cl [ptr f] 66)) (stock fileG files)]) := by
  have row : ∀ {G : Glob} {w : World} {H : List HP} {i y : Nat}, Sat G w H → getL H i = some (stock fileG files) → y ∈ files.map (·.1) → Row w y := by
    intro G w H i y hs hi hy
    obtain ⟨⟨y', v1, v2⟩, hm, rfl⟩ := List.mem_map.1 hy
    obtain ⟨j, hj⟩ := List.getElem?_of_mem hm
    exact ⟨_, _, file_cells hs hi hj⟩
  refine Ctr.enter Try.func85 (by kernel_rfl) rfl Try.ntmps85 rfl rfl ?_
  intro G F R hE
  refine K_ent (Ent.part _ _ _) ?_
  (refine go ?_)
  refine J_box rfl rfl (fun _ _ _ => trivial) ?_
  intro bx
  (refine go ?_)
  refine J_eqPtr (U := tab) rfl rfl rfl rfl rfl rfl rfl (fun w hw => row (i := 2) hw rfl hg) (fun w hw => row (i := 2) hw rfl hf) ?_
  (refine go ?_)
  refine K_ent (Ent.pick [1, 2] rfl) ?_
  refine K_ent (Ent.join _ _ _) ?_
  refine K_return hE Try.func85 rfl _ rfl ⟨congrArg Value.bool (by simp), rfl⟩ (Ent.fin [0] 1 rfl rfl)

theorem DeleteFunc_late (v : Value) (l : List Late) (X : HP) (g : FuncId) (cap : List Value) (p : Late → Bool) (hlen : l.length ≤ 1000000000) (hsl : ∀ x ∈ l, ∃ a n c, x.2.2 = .slice a n c)
    (hf : ∀ x ∈ l, Ctr Try.prog g (.agg #[ptr x.1, .int .i64 x.2.1, x.2.2] :: cap) [X] (fun v H => v = .bool (p x) ∧ H = [X])) :
    Ctr Try.prog 84 [v, .func (.func g) #[] cap.toArray] [slc 82 3 v l.length (wcells l), X]
      (fun r H => H = [slc 82 3 r (l.filter fun x => !p x).length (wcells (l.filter fun x => !p x)), X]) := by
  refine Ctr.enter Try.func84 (by kernel_rfl) rfl Try.ntmps84 rfl rfl ?_
  intro G F R hE
  refine K_shape 0 rfl ?_
  rintro a0 c rfl
  (refine go ?_)
  refine J_slcVw 0 rfl ?_
  intro hv
  refine J_call [0, 1] rfl rfl rfl rfl (IndexFunc_late _ X _ l hv hlen g cap p hf) rfl (fun _ _ _ _ _ => trivial) ?_
  rintro _ _ ⟨rfl, rfl⟩
  (refine go ?_)
  refine K_condP rfl rfl ?_ ?_
  · intro h0
    have hany : l.any p = false := idxI_neg.1 (by omega)
    have hfl : (l.filter fun x => !p x) = l := List.filter_eq_self.2 fun x hx => by
      have := List.any_eq_false.1 hany x hx
      simpa using this
    rw [hfl] at hE
    (refine go ?_)
    refine K_return hE Try.func84 rfl _ rfl rfl (Ent.fin [0, 1] 0 rfl rfl)
  · intro h0
    obtain ⟨i0, x0, hi0, hx0, hp0, hb0⟩ := idxI_first h0
    have hi0l : i0 < l.length := by
      rcases Nat.lt_or_ge i0 l.length with h | h
      · exact h
      · rw [List.getElem?_eq_none h] at hx0; cases hx0
    rw [hi0]
    (refine go ?_)
    refine K_slcCases (fun a hv0 hn _ => by omega) ?_
    rintro b o c' pre junk hvv hpre hnc hcap hcl
    simp only [Value.slice.injEq, true_and] at hvv
    obtain ⟨rfl, rfl⟩ := hvv
    have h1 : l.take (i0 + 1) = l.take i0 ++ [x0] := by rw [List.take_add_one, hx0]; rfl
    have hft : (l.take i0).filter (fun x => !p x) = l.take i0 := List.filter_eq_self.2 fun x hx => by simp [hb0 x hx]
    refine K_loop (fun s : Nat × Nat × List Late => s.1 < s.2.1 ∧ s.2.1 ≤ l.length ∧ s.2.2.length = l.length ∧ s.2.2.take s.1 = (l.take s.2.1).filter (fun x => !p x) ∧ s.2.2.drop s.2.1 = l.drop s.2.1) (fun s => l.length - s.2.1)
      (fun s => [(0, .slice (some ⟨b, o, none⟩) l.length c), (1, .func (.func g) #[] cap.toArray), (5, .int .i64 s.1), (6, .int .i64 s.2.1)])
      (fun s => pts b (cl (pre ++ wcells s.2.2 ++ junk) 82) :: X :: F) (i0, i0 + 1, l) ⟨by simp, by simp only; omega, rfl, by simp only [h1, List.filter_append, hft]; simp [hp0], rfl⟩ rfl (by repeat (first | exact keep_nil | refine keep_cons rfl ?_)) (Ent.refl _) ?_
    rintro ⟨i, j, E⟩ ⟨hij, hjl, hEl, hEt, hEd⟩ ih
    simp only at hij hjl hEl hEt hEd
    have hwl : (wcells E).length = l.length * 3 := by rw [wcells_eq, chunk_len lateC_len, hEl]
    have hvE : Vw (pts b (cl (pre ++ wcells E ++ junk) 82)) (.slice (some ⟨b, o, none⟩) l.length c) l.length (wcells E) := Vw.pts (by rw [List.append_assoc, ← hpre, List.drop_left, List.take_left])
    (refine go ?_)
    refine K_condP rfl rfl ?_ ?_
    · intro hlt
      simp only at hlt
      have hj' : j < l.length := by omega
      obtain ⟨⟨fx, ax, bx⟩, hx⟩ : ∃ x, l[j]? = some x := ⟨l[j], by simp [hj']⟩
      have hEx : E[j]? = some (fx, ax, bx) := by
        have := congrArg (·[0]?) hEd
        simp only [List.getElem?_drop, Nat.add_zero] at this
        rw [this]; exact hx
      have hmem := List.mem_of_getElem? hx
      obtain ⟨ab, nb, cb, hbx⟩ := hsl _ hmem
      simp only at hbx
      subst hbx
      have hfx := hf _ hmem
      (refine go ?_)
      refine J_at (U := tab) j 3 rfl rfl rfl rfl rfl rfl rfl rfl hj' ?_
      refine J_loadElem (U := tab) (es := lateC (fx, ax, .slice ab nb cb)) 0 (j * 3) rfl rfl rfl hvE rfl (fun q v hq => ?_) rfl rfl rfl ?_
      · have hj3 : q < 3 := by
          rcases Nat.lt_or_ge q 3 with h | h
          · exact h
          · rw [List.getElem?_eq_none (by rw [lateC_len]; exact h)] at hq; cases hq
        rw [wcells_eq, chunk_get lateC_len hEx q hj3]; exact hq
      refine J_alloc (U := tab) rfl rfl rfl (fun _ _ _ => trivial) ?_
      intro bv
      (refine go ?_)
      refine J_loadAgg (U := tab) 0 rfl rfl rfl rfl rfl rfl ?_
      refine J_call [2] rfl rfl rfl rfl (hfx) rfl (fun _ _ _ _ _ => trivial) ?_
      rintro _ _ ⟨rfl, rfl⟩
      (refine go ?_)
      refine K_condA rfl rfl ?_ ?_
      · intro hp
        have hp' : p (fx, ax, .slice ab nb cb) = false := by simpa using hp
        (refine go ?_)
        refine J_loadAgg (U := tab) 1 rfl rfl rfl rfl rfl rfl ?_
        (refine go ?_)
        refine J_at (U := tab) i 3 rfl rfl rfl rfl rfl rfl rfl rfl (by omega) ?_
        refine J_storeRow (U := tab) (l' := pre ++ wcells (E.set i (fx, ax, .slice ab nb cb)) ++ junk) 2 (fun _ _ => trivial) rfl rfl rfl rfl rfl rfl rfl ?_ ?_ rfl ?_
        · show o + i * 3 + 3 ≤ _
          rw [List.length_append, List.length_append, hwl]; omega
        · show _ = List.take (o + i * 3) (pre ++ wcells E ++ junk) ++ lateC (fx, ax, .slice ab nb cb) ++ List.drop (o + i * 3 + (lateC (fx, ax, .slice ab nb cb)).length) (pre ++ wcells E ++ junk)
          rw [← hpre, splice_mid _ _ _ _ _ (by rw [lateC_len, hwl]; omega), wcells_eq, chunk_set lateC_len (by omega)]
          rfl
        (refine go ?_)
        refine K_again ih (i + 1, j + 1, E.set i (fx, ax, .slice ab nb cb)) rfl ⟨by simp only; omega, by simp only; omega, by simp only [List.length_set]; exact hEl, ?_, ?_⟩ (by simp only; omega) (by repeat (first | exact keep_nil | refine keep_cons rfl ?_)) (Ent.to [2, 0] 1 rfl rfl rfl)
        · simp only
          rw [List.take_add_one, List.take_set_of_le (Nat.le_refl i), hEt, List.take_add_one (l := l), hx, List.getElem?_set_self (by omega)]
          simp [List.filter_append, hp']
        · simp only
          rw [List.drop_set_of_lt (by omega), ← List.drop_drop, hEd, List.drop_drop]
      · intro hp
        have hp' : p (fx, ax, .slice ab nb cb) = true := by simpa using hp
        (refine go ?_)
        refine K_again ih (i, j + 1, E) rfl ⟨by simp only; omega, by simp only; omega, hEl, by simp only; rw [hEt, List.take_add_one, hx]; simp [List.filter_append, hp'], by simp only; rw [← List.drop_drop, hEd, List.drop_drop]⟩ (by simp only; omega) (by repeat (first | exact keep_nil | refine keep_cons rfl ?_)) (Ent.to [2, 0] 1 rfl rfl rfl)
    · intro hge
      (refine go ?_)
      simp only at hge
      have hjn : j = l.length := by omega
      subst hjn
      rw [List.take_length] at hEt
      have hlen2 : (l.filter fun x => !p x).length = i := by rw [← hEt, List.length_take]; omega
      refine J_slice (U := tab) rfl rfl rfl rfl rfl rfl rfl (by omega) (by omega) (.inl rfl) ?_
      intro o1 ho1 ho2
      simp only [Int.toNat_natCast] at ho1 ho2
      have ho1' : i ≠ c → o1 = o + i * 3 := ho1
      have hL : (pre ++ wcells E ++ junk).length = o + l.length * 3 + junk.length := by rw [List.length_append, List.length_append, hwl, hpre]
      obtain ⟨junk', hjunk, hjl'⟩ : ∃ junk', (pre ++ wcells E ++ junk).take o1 ++ (List.replicate (((l.length : Int).toNat - (i : Int).toNat)) [Value.pointer none, .int .i64 0, .slice none 0 0]).flatten ++ (pre ++ wcells E ++ junk).drop (o1 + ((l.length : Int).toNat - (i : Int).toNat) * 3) = pre ++ wcells (E.take i) ++ junk' ∧ c * 3 ≤ i * 3 + junk'.length := by
        have hic : i ≠ c := by omega
        rw [ho1' hic, ← hpre, List.append_assoc pre, List.take_length_add_append, List.take_append_of_le_length (by rw [hwl]; omega), wcells_eq, wcells_eq, chunk_take lateC_len E i (by omega)]
        refine ⟨_, by rw [List.append_assoc], ?_⟩
        rw [List.length_append, List.length_drop, flat_replicate]
        simp only [List.length_append, List.length_cons, List.length_nil, chunk_len lateC_len, hEl, Int.toNat_natCast]
        have := hcl
        omega
      refine J_clear (U := tab) (l' := pre ++ wcells (E.take i) ++ junk') 0 (fun _ _ => trivial) rfl rfl rfl rfl rfl rfl rfl rfl ?_ ?_ rfl ?_
      · have hic : i ≠ c := by omega
        show o1 + ((l.length : Int).toNat - (i : Int).toNat) * 3 ≤ _
        rw [ho1' hic, hL]; omega
      · rw [← hjunk]; rfl
      (refine go ?_)
      refine J_slice (U := tab) rfl rfl rfl rfl rfl rfl rfl (by omega) (by omega) (.inr (by omega)) ?_
      intro o2 ho3 ho4
      have ho2' : o2 = o := by
        by_cases hc0 : (0 : Int).toNat = c
        · exact ho4 hc0
        · have := ho3 hc0; rw [this]; simp
      subst ho2'
      (refine go ?_)
      refine K_ent (slc_closeN (sz := 3) (nn := i) (c := c) hpre (by omega) (by rw [wcells_eq, chunk_len lateC_len, List.length_take]; omega) (by rw [wcells_eq, chunk_len lateC_len, List.length_take]; omega) _) ?_
      rw [← hEt, hEt, hlen2, ← hEt] at hE
      refine K_return hE Try.func84 rfl _ rfl rfl (Ent.fin [0, 1] 0 rfl rfl)
end Go.Proofs.Ytpdmbmnhgcnelaa
