/- net, part b: search, insert, delete, clone, index over datagrams. -/
import Derived.Test.YtngmcoopgbflaaaNa
set_option linter.unusedVariables false
set_option linter.unusedSimpArgs false
namespace Go.Proofs.Ytngmcoopgbflaaa
open Go Go.SL
attribute [local irreducible] J K Ctr Ends pts slc mapR mapI sbRow stock arrS

theorem fcell_get {W : List Fl} {i : Nat} {x : Fl} (hx : W[i]? = some x) (q : Nat) (v : Value) (hq : (fcell x)[q]? = some v) : (W.flatMap fcell)[i * 5 + q]? = some v := by
  have hq5 : q < 5 := by
    rcases Nat.lt_or_ge q 5 with h | h
    · exact h
    · rw [List.getElem?_eq_none (by rw [fcell_len]; exact h)] at hq; cases hq
  rw [chunk_get fcell_len hx q hq5]; exact hq
theorem fcell_get0 {x : Fl} (q : Nat) (v : Value) (hq : (fcell x)[q]? = some v) : (fcell x)[0 + q]? = some v := by rw [Nat.zero_add]; exact hq
theorem cellsF (x : Fl) : cellsL (Value.agg (fcell x).toArray) = fcell x := rfl
set_option maxRecDepth 20000 in
theorem Search_any (A : HP) (v : Value) (W : List Fl) (t : Fl) (hv : Vw A v W.length (W.flatMap fcell)) (hlen : W.length ≤ 1000000000)
    (hmono : ∀ (i j : Nat) (x y : Fl), W[i]? = some x → W[j]? = some y → i ≤ j → cmpF y t < 0 → cmpF x t < 0) :
    Ctr Try.prog 38 [v, .agg (fcell t).toArray, .func (.func 39) #[] #[]] [A]
      (fun r H => ∃ (p : Nat) (b : Bool), (p ≤ W.length ∧ (∀ (i : Nat) (x : Fl), i < p → W[i]? = some x → cmpF x t < 0) ∧ (∀ (i : Nat) (x : Fl), p ≤ i → W[i]? = some x → ¬ cmpF x t < 0)) ∧ r = .tuple #[.int .i64 (p : Int), .bool b] ∧ H = [A]) := by
  obtain ⟨a0, c0, rfl⟩ := hv.shape
  refine Ctr.enter Try.func38 (by kernel_rfl) rfl Try.ntmps38 rfl rfl ?_
  intro G F R hE
  (refine go ?_)
  refine J_box rfl rfl (fun _ _ _ => trivial) ?_
  intro bt
  rw [cellsF]
  (refine go ?_)
  refine K_loop (fun s : Nat × Nat => (s.1 ≤ s.2 ∧ s.2 ≤ W.length) ∧ (∀ (i : Nat) (x : Fl), i < s.1 → W[i]? = some x → cmpF x t < 0) ∧ (∀ (i : Nat) (x : Fl), s.2 ≤ i → W[i]? = some x → ¬ cmpF x t < 0)) (fun s => s.2 - s.1)
    (fun s => [(0, .slice a0 W.length c0), (2, .func (.func 39) #[] #[]), (4, .pointer (some ⟨bt, 0, none⟩)), (8, .int .i64 W.length), (9, .int .i64 s.1), (10, .int .i64 s.2)])
    (fun _ => pts bt (cl (fcell t) 34) :: A :: F) (0, W.length) ⟨⟨Nat.zero_le _, Nat.le_refl _⟩, fun i x h => by omega, fun i x h hx => by rw [List.getElem?_eq_none h] at hx; cases hx⟩ rfl (by repeat (first | exact keep_nil | refine keep_cons rfl ?_)) (Ent.refl _) ?_
  rintro ⟨i, j⟩ ⟨⟨hij, hjn⟩, hlo, hhi⟩ ih
  simp only at hij hjn hlo hhi
  (refine go ?_)
  refine K_condP rfl rfl ?_ ?_
  · intro hlt
    simp only at hlt
    (refine go ?_)
    refine J_shr rfl rfl rfl (by omega) ?_
    refine J_slot 22 (.int .u64 (((i + j) / 2 : Nat) : Int)) rfl (congrArg (Value.int .u64) (by
      have e : min (Int.toNat 1) IntKind.u64.bits = 1 := by decide
      rw [e]; simp only []; omega)) ?_
    (refine go ?_)
    have hh : (i + j) / 2 < W.length := by omega
    obtain ⟨x, hx⟩ : ∃ x, W[(i + j) / 2]? = some x := ⟨W[(i + j) / 2], by simp⟩
    obtain ⟨bb, oo, cc, hsl⟩ := hv.some (by rw [← List.length_pos_iff, chunk_len fcell_len]; omega)
    simp only [Value.slice.injEq, true_and] at hsl
    obtain ⟨rfl, rfl⟩ := hsl
    refine K_drawA (fun w => Sat G w ([A, pts bt (cl (fcell t) 34)])) (.st 0 (.st 1 (.st 2 (.st 3 (.st 4 (.st 5 (.act 6 (.st 7 .nil)))))))) rfl (by kernel_rfl) (by kernel_rfl) (by kernel_rfl) (fun w hw => hw.ent (Ent.pickOnly ([1, 0]) rfl)) ?_
    (refine go ?_)
    refine J_at (U := tab) ((i + j) / 2) 5 rfl rfl rfl rfl rfl rfl rfl rfl hh ?_
    refine J_loadElemS (U := tab) (es := fcell x) 0 ((i + j) / 2 * 5) rfl rfl rfl hv rfl (fcell_get hx) rfl rfl rfl ?_
    refine J_loadElemS (U := tab) (es := fcell t) (o := 0) (nn := 1) (cap := 1) 1 0 rfl rfl rfl (Vw.pts rfl) rfl fcell_get0 rfl rfl rfl ?_
    refine J_call [] rfl rfl rfl rfl (put1_any x t) rfl (fun _ _ w hp hw => by obtain ⟨_, rfl⟩ := hp; exact hw.ent (Ent.pickOnly [1, 0] rfl)) ?_
    rintro _ _ ⟨rfl, rfl⟩
    (refine go ?_)
    refine K_condP rfl rfl ?_ ?_
    · intro hc
      (refine go ?_)
      refine K_again ih ((i + j) / 2 + 1, j) rfl ⟨⟨by simp only; omega, hjn⟩, fun i' x' hi' hx' => hmono i' _ x' x hx' hx (by simp only at hi'; omega) hc, hhi⟩ (by simp only; omega) (by repeat (first | exact keep_nil | refine keep_cons rfl ?_)) (Ent.refl _)
    · intro hc
      (refine go ?_)
      refine K_again ih (i, (i + j) / 2) rfl ⟨⟨by simp only; omega, by simp only; omega⟩, hlo, fun i' x' hi' hx' hlt' => hc (hmono _ i' x x' hx hx' hi' hlt')⟩ (by simp only; omega) (by repeat (first | exact keep_nil | refine keep_cons rfl ?_)) (Ent.refl _)
  · intro hge
    simp only at hge
    have hie : i = j := by omega
    subst hie
    refine K_drawA (fun w => Sat G w ([A, pts bt (cl (fcell t) 34)])) (.st 0 (.st 1 (.st 2 (.st 3 (.st 4 (.st 5 (.st 6 (.st 7 (.st 8 (.st 9 (.st 10 (.act 11 (.st 12 (.st 13 (.st 14 (.st 15 .nil)))))))))))))))) rfl (by kernel_rfl) (by kernel_rfl) (by kernel_rfl) (fun w hw => hw.ent (Ent.pickOnly ([1, 0]) rfl)) ?_
    (refine go ?_)
    refine J_gsP rfl rfl rfl rfl ?_ ?_
    · intro hlt
      simp only at hlt
      have hh : i < W.length := by omega
      obtain ⟨x, hx⟩ : ∃ x, W[i]? = some x := ⟨W[i], by simp⟩
      obtain ⟨bb, oo, cc, hsl⟩ := hv.some (by rw [← List.length_pos_iff, chunk_len fcell_len]; omega)
      simp only [Value.slice.injEq, true_and] at hsl
      obtain ⟨rfl, rfl⟩ := hsl
      (refine go ?_)
      refine J_at (U := tab) i 5 rfl rfl rfl rfl rfl rfl rfl rfl hh ?_
      (refine go ?_)
      refine J_loadElemS (U := tab) (es := fcell x) 0 (i * 5) rfl rfl rfl hv rfl (fcell_get hx) rfl rfl rfl ?_
      (refine go ?_)
      refine J_loadElemS (U := tab) (es := fcell t) (o := 0) (nn := 1) (cap := 1) 1 0 rfl rfl rfl (Vw.pts rfl) rfl fcell_get0 rfl rfl rfl ?_
      (refine go ?_)
      refine J_call [] rfl rfl rfl rfl (put1_any x t) rfl (fun _ _ w hp hw => by obtain ⟨_, rfl⟩ := hp; exact hw.ent (Ent.pickOnly [1, 0] rfl)) ?_
      rintro _ _ ⟨rfl, rfl⟩
      (refine go ?_)
      refine K_return hE Try.func38 rfl _ rfl ⟨i, _, ⟨hjn, hlo, hhi⟩, rfl, rfl⟩ (Ent.fin [1] 1 rfl rfl)
    · intro hlt
      (refine go ?_)
      refine K_return hE Try.func38 rfl _ rfl ⟨i, _, ⟨hjn, hlo, hhi⟩, rfl, rfl⟩ (Ent.fin [1] 1 rfl rfl)
end Go.Proofs.Ytngmcoopgbflaaa
