/- journal, part m: Same, awake. -/
import Derived.Test.YtpdmbmnhgcnelaaJl
set_option linter.unusedVariables false
set_option linter.unusedSimpArgs false
namespace Go.Proofs.Ytpdmbmnhgcnelaa
open Go Go.SL
theorem slc_cap {e : TypeId} {n : Nat} {v : Value} {cs : List Value} (h0 : ∃ h, slc e 1 v n cs h) : ∃ a c, v = .slice a n c ∧ n ≤ c := by
  obtain ⟨h, hl, ⟨a, rfl, hn, _⟩ | ⟨b, o, cap, pre, junk, rfl, hp, hn, hc, _⟩⟩ := h0
  · exact ⟨a, 0, by rw [hn], by omega⟩
  · exact ⟨_, cap, rfl, hn⟩
attribute [local irreducible] J K Ctr Ends pts slc mapR mapI sbRow stock arrS loopP CtrY diskA LI listH

theorem Same_any (A B : HP) (v1 v2 : Value) (l1 l2 : List (List UInt8)) (h1 : LAt A v1 l1) (h2 : LAt B v2 l2) (hl : l1.length ≤ 1000000000) :
    Ctr Try.prog 16 [v1, v2] [A, B] (fun r H => r = .bool (decide (l1 = l2)) ∧ H = [A, B]) := by
  obtain ⟨cs1, hv1, hc1, ⟨a1, c1, rfl, hca1⟩, he1⟩ := h1
  obtain ⟨cs2, hv2, hc2, ⟨a2, c2, rfl, hca2⟩, he2⟩ := h2
  refine Ctr.enter Try.func16 (by kernel_rfl) rfl Try.ntmps16 rfl rfl ?_
  intro G F R hE
  (refine go ?_)
  refine K_condP rfl rfl ?_ ?_
  · intro hne
    rw [decide_eq_false (show ¬ l1 = l2 from fun e => by subst e; exact hne rfl)] at hE
    (refine go ?_)
    (first | refine K_return hE Try.func16 rfl _ rfl ⟨rfl, rfl⟩ entA | refine K_fallEnd hE Try.func16 rfl _ rfl ⟨rfl, rfl⟩ entA)
  intro heqn
  have hlen : l1.length = l2.length := by omega
  (refine go ?_)
  refine K_loop (fun i : Nat => i ≤ l1.length ∧ ∀ j, j < i → l1[j]? = l2[j]?) (fun i => l1.length - i)
    (fun i => [(0, .slice a1 l1.length c1), (1, .slice a2 l2.length c2), (5, .int .i64 (i : Int))])
    (fun _ => A :: B :: F) 0 ⟨Nat.zero_le _, fun j hj => by omega⟩ rfl (by repeat (first | exact keep_nil | refine keep_cons rfl ?_)) entA ?_
  rintro i ⟨hi, heq⟩ ih
  (refine go ?_)
  refine K_condP rfl rfl ?_ ?_
  case' refine_2.refine_2 =>
    intro hge
    have hie : i = l1.length := by omega
    rw [decide_eq_true (show l1 = l2 from List.ext_getElem? fun j => by
      rcases Nat.lt_or_ge j l1.length with h | h
      · exact heq j (by omega)
      · rw [List.getElem?_eq_none (by omega), List.getElem?_eq_none (by omega)])] at hE
    (refine go ?_)
    (first | refine K_return hE Try.func16 rfl _ rfl ⟨rfl, rfl⟩ entA | refine K_fallEnd hE Try.func16 rfl _ rfl ⟨rfl, rfl⟩ entA)
  intro hlt
  have hi1 : i < l1.length := by omega
  have hi2 : i < l2.length := by omega
  obtain ⟨x, hx⟩ : ∃ x, l1[i]? = some x := ⟨l1[i], by simp⟩
  obtain ⟨y, hy⟩ : ∃ y, l2[i]? = some y := ⟨l2[i], by simp⟩
  obtain ⟨cx, hcx, hbx⟩ := he1 i x hx
  obtain ⟨cy, hcy, hby⟩ := he2 i y hy
  obtain ⟨b1, o1, k1, hs1⟩ := hv1.some (by intro e; rw [e] at hcx; simp at hcx)
  obtain ⟨b2, o2, k2, hs2⟩ := hv2.some (by intro e; rw [e] at hcy; simp at hcy)
  simp only [Value.slice.injEq, true_and] at hs1 hs2
  obtain ⟨rfl, rfl⟩ := hs1
  obtain ⟨rfl, rfl⟩ := hs2
  obtain ⟨ax, kx, rfl, hkx⟩ := hbx.2
  obtain ⟨ay, ky, rfl, hky⟩ := hby.2
  (refine go ?_)
  refine K_drawA (fun w => Sat G w ([A, B])) (.st 0 (.st 1 (.st 2 (.st 3 (.st 4 (.st 5 (.st 6 (.st 7 (.st 8 (.st 9 (.st 10 .nil))))))))))) rfl (by kernel_rfl) (by kernel_rfl) (by kernel_rfl) (fun w hw => hw.ent entA) ?_
  (refine go ?_)
  refine J_at1 (U := tab) i rfl rfl rfl rfl rfl rfl rfl rfl hi1 ?_
  refine J_isLoad ?_
  refine J_loadAtS (U := tab) 0 i rfl rfl rfl hv1 rfl hcx rfl rfl ?_
  refine J_toStrS (U := tab) 0 rfl rfl rfl rfl rfl rfl rfl rfl rfl hbx.1 ?_
  (refine go ?_)
  refine J_at1 (U := tab) i rfl rfl rfl rfl rfl rfl rfl rfl hi2 ?_
  refine J_isLoad ?_
  refine J_loadAtS (U := tab) 1 i rfl rfl rfl hv2 rfl hcy rfl rfl ?_
  refine J_toStrS (U := tab) 1 rfl rfl rfl rfl rfl rfl rfl rfl rfl hby.1 ?_
  (refine go ?_)
  (first | refine J_slot 27 ((.bool (decide (¬ x = y)))) rfl ((by rw [eqS_strOf, decide_not])) ?_ | refine K_slot 27 ((.bool (decide (¬ x = y)))) rfl ((by rw [eqS_strOf, decide_not])) ?_)
  refine K_condP rfl rfl ?_ ?_
  · intro hxy
    rw [decide_eq_false (show ¬ l1 = l2 from fun e => by subst e; rw [hx] at hy; cases hy; exact hxy rfl)] at hE
    (refine go ?_)
    (first | refine K_return hE Try.func16 rfl _ rfl ⟨rfl, rfl⟩ entA | refine K_fallEnd hE Try.func16 rfl _ rfl ⟨rfl, rfl⟩ entA)
  intro hxy
  have hxy' : x = y := Decidable.not_not.1 hxy
  (refine go ?_)
  refine K_again ih (i + 1) rfl (⟨by omega, fun j hj => by
    rcases Nat.lt_or_ge j i with h | h
    · exact heq j h
    · rw [show j = i from by omega, hx, hy, hxy']⟩) (by omega) (by repeat (first | exact keep_nil | refine keep_cons rfl ?_)) entA
theorem LAt.rows {X : HP} {v : Value} {ls : List (List UInt8)} {cs : List Value} (hl : cs.length = ls.length) (hcs : ∀ (j : Nat) (z : List UInt8), ls[j]? = some z → ∃ cv, cs[j]? = some cv ∧ BAt X cv z) (h0 : ∃ h, slc 22 1 v ls.length cs h) : LAt (Sep [slc 22 1 v ls.length cs, X]) v ls := by
  have hv := Vw.of_slc 22 1 v ls.length cs h0
  refine ⟨cs, hv.mono (Sep_get (i := 0) rfl), hl, slc_cap h0, fun i x hx => ?_⟩
  obtain ⟨cv, h1, h2⟩ := hcs i x hx
  exact ⟨cv, h1, h2.mono (Sep_get (i := 1) rfl)⟩
end Go.Proofs.Ytpdmbmnhgcnelaa
namespace Go.Proofs.Ytpdmbmnhgcnelaa
open Go Go.SL
theorem Same_L (v1 v2 : Value) (l1 l2 : List (List UInt8)) (cs2 : List Value) (X : HP) (hl2 : cs2.length = l2.length) (hcs : ∀ (j : Nat) (z : List UInt8), l2[j]? = some z → ∃ cv, cs2[j]? = some cv ∧ BAt X cv z) (hl : l1.length ≤ 1000000000) :
    Ctr Try.prog 16 [v1, v2] [listH v1 l1, slc 22 1 v2 l2.length cs2, X] (fun r H => r = .bool (decide (l1 = l2)) ∧ H = [listH v1 l1, slc 22 1 v2 l2.length cs2, X]) :=
  ⟨by kernel_rfl, fun G w F hw => by
    obtain ⟨t, o, u, hp, hpw, h1, h2, ⟨x, hR, hA⟩, hH, hd, he⟩ := hw
    obtain ⟨cs, M⟩ := x
    simp only at hR hA
    have hw1 : Sat G w (Sep [slc 22 1 v1 l1.length cs, arrS 5 M] :: slc 22 1 v2 l2.length cs2 :: X :: F) := ⟨t, o, u, hp, hpw, h1, h2, hA, hH, hd, he⟩
    obtain ⟨h', _, hs'⟩ := Sep_get (i := 0) rfl h1 hA
    have lat1 := hR.lat ⟨h', hs'⟩
    obtain ⟨h3, _, hA3⟩ := hw1.getA (i := 1) rfl
    have lat2 := LAt.rows hl2 hcs ⟨h3, hA3⟩
    refine ((Same_any _ _ v1 v2 l1 l2 lat1 lat2 hl).2 G w F (hw1.ent (Ent.cons _ (Ent.resep [slc 22 1 v2 l2.length cs2, X] F)))).mono ?_
    rintro e w' ⟨v, H, rfl, ⟨hv, rfl⟩, hs⟩
    refine ⟨v, _, rfl, ⟨hv, rfl⟩, hs.ent ?_⟩
    refine (Ent.fold (A := listH v1 l1) (B := [Sep [slc 22 1 v1 l1.length cs, arrS 5 M]]) (fun h hs => ⟨h, sub.refl h, (cs, M), hR, Sep_one hs⟩)).trans ?_
    exact Ent.cons _ (Ent.unsep [slc 22 1 v2 l2.length cs2, X] F)⟩
attribute [local irreducible] J K Ctr Ends pts slc mapR mapI sbRow stock arrS loopP CtrY diskA LI listH
/-- The name of the journal in the statements. -/
def nmJ : ByteArray := ⟨#[106]⟩
theorem nmJ_name : isName nmJ = true := by decide
theorem nmJ_fresh : isName (freshOf nmJ) = true := by decide
theorem nmJ_ne : freshOf nmJ ≠ nmJ := by decide
theorem awake_any : Ctr Try.prog 6 [] [] (fun r H => r = .bool true ∧ H = []) := by
  refine Ctr.enter Try.func6 (by kernel_rfl) rfl Try.ntmps6 rfl rfl ?_
  intro G F R hE
  (refine go ?_)
  (first | refine J_callE rfl rfl rfl rfl (New_dA 10000 (by omega) (by omega)) entA ?_ (fun _ _ _ _ _ => trivial) | refine J_call0E rfl rfl rfl (New_dA 10000 (by omega) (by omega)) entA ?_ (fun _ _ _ _ _ => trivial) | (refine go ?_; first | refine J_callE rfl rfl rfl rfl (New_dA 10000 (by omega) (by omega)) entA ?_ (fun _ _ _ _ _ => trivial) | refine J_call0E rfl rfl rfl (New_dA 10000 (by omega) (by omega)) entA ?_ (fun _ _ _ _ _ => trivial)))
  rintro _ _ ⟨bd, rfl, rfl⟩
  (refine go ?_)
  (first | refine J_callE rfl rfl rfl rfl (Open_any bd nmJ (Ab.new 10000) (by decide) (by simp [Ab.new]) (by simp [Ab.new])) entA ?_ (fun _ _ _ _ _ => trivial) | refine J_call0E rfl rfl rfl (Open_any bd nmJ (Ab.new 10000) (by decide) (by simp [Ab.new]) (by simp [Ab.new])) entA ?_ (fun _ _ _ _ _ => trivial) | (refine go ?_; first | refine J_callE rfl rfl rfl rfl (Open_any bd nmJ (Ab.new 10000) (by decide) (by simp [Ab.new]) (by simp [Ab.new])) entA ?_ (fun _ _ _ _ _ => trivial) | refine J_call0E rfl rfl rfl (Open_any bd nmJ (Ab.new 10000) (by decide) (by simp [Ab.new]) (by simp [Ab.new])) entA ?_ (fun _ _ _ _ _ => trivial)))
  rintro _ _ ⟨e, A1, x, ho, hpost⟩
  obtain ⟨rfl, hx, ⟨g, hI⟩, hw⟩ := open_law (new_putOk 10000 nmJ) nmJ_name nmJ_fresh nmJ_ne (new_file _ _) (by decide) (by rw [new_used]; decide) ho
  rcases hpost with ⟨h, -⟩ | ⟨-, jb, lv, rfl, rfl⟩
  · exact absurd rfl h
  subst hx
  (refine go ?_)
  refine J_buildSlice1 (U := tab) (cs := bV [7]) rfl rfl rfl rfl rfl rfl rfl rfl rfl (fun _ _ _ => trivial) ?_
  intro row
  have hb7 : BAt (pts row (cl (bV [7]) 5)) (.slice (some ⟨row, 0, none⟩) 1 1) [7] := ⟨Vw.pts rfl, _, _, rfl, Nat.le_refl 1⟩
  have h7 : (encL [7]).length = 2 := by unfold encL; rw [show ([7] : List UInt8).length = 1 from rfl, uv_small (by decide)]; rfl
  have hap := append_law (b := [7]) hI nmJ_name (by decide) (by rw [h7]; decide) (by rw [h7]; decide)
  have hac := Append_any jb bd nmJ A1 ⟨1, ((([] : List (List UInt8)).flatMap encL).length : Int), ((([] : List (List UInt8)).flatMap encL).length : Int), false⟩ _ _ [7] hb7 (by decide) (by decide) (by have := hw; simp [Ab.new] at this; omega)
  obtain ⟨q, hq⟩ : ∃ q, q = appendA nmJ A1 ⟨1, ((([] : List (List UInt8)).flatMap encL).length : Int), ((([] : List (List UInt8)).flatMap encL).length : Int), false⟩ [7] := ⟨_, rfl⟩
  rw [← hq] at hap hac
  obtain ⟨e1, A2, x2⟩ := q
  obtain ⟨rfl, rfl, hI2, hw2⟩ := hap
  (first | refine J_callE rfl rfl rfl rfl (hac) entA ?_ (fun _ _ _ _ _ => trivial) | refine J_call0E rfl rfl rfl (hac) entA ?_ (fun _ _ _ _ _ => trivial) | (refine go ?_; first | refine J_callE rfl rfl rfl rfl (hac) entA ?_ (fun _ _ _ _ _ => trivial) | refine J_call0E rfl rfl rfl (hac) entA ?_ (fun _ _ _ _ _ => trivial)))
  rintro _ _ ⟨rfl, rfl⟩
  have hs2 : (((([] : List (List UInt8)).flatMap encL ++ encL [7]).length : Nat) : Int) = 2 := by rw [List.flatMap_nil, List.nil_append, h7]; rfl
  simp only [hs2]
  (refine go ?_)
  (first | refine J_callE rfl rfl rfl rfl (JSize_any jb bd nmJ 1 2 ((([] : List (List UInt8)).flatMap encL).length : Int) false) entA ?_ (fun _ _ _ _ _ => trivial) | refine J_call0E rfl rfl rfl (JSize_any jb bd nmJ 1 2 ((([] : List (List UInt8)).flatMap encL).length : Int) false) entA ?_ (fun _ _ _ _ _ => trivial) | (refine go ?_; first | refine J_callE rfl rfl rfl rfl (JSize_any jb bd nmJ 1 2 ((([] : List (List UInt8)).flatMap encL).length : Int) false) entA ?_ (fun _ _ _ _ _ => trivial) | refine J_call0E rfl rfl rfl (JSize_any jb bd nmJ 1 2 ((([] : List (List UInt8)).flatMap encL).length : Int) false) entA ?_ (fun _ _ _ _ _ => trivial)))
  rintro _ _ ⟨rfl, rfl⟩
  (refine go ?_)
  (first | refine K_return hE Try.func6 rfl _ rfl ⟨rfl, rfl⟩ entA | refine K_fallEnd hE Try.func6 rfl _ rfl ⟨rfl, rfl⟩ entA)
end Go.Proofs.Ytpdmbmnhgcnelaa
