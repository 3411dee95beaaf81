/- Texts of one claim, joined: Hi, Bc, Ba, Bd, Be, Bf, Bg, Bh. -/
import Derived.Test.YtpecmnaikjbanaaGreatDoorQBA4
import Derived.Test.YtpecmnaikjbanaaGreatDoorQBA6
import Derived.Test.YtpecmnaikjbanaaGreatDoorQBA9
import Derived.Test.YtpecmnaikjbanaaGreatDoorQBA10
/- The reference's manifest, part 1: which blobs are right, where pieces begin, leaves, blobs. -/
set_option linter.unusedVariables false
set_option linter.unusedSimpArgs false
namespace Go.Proofs.YtpecmnaikjbanaaGreatDoor
open Go Go.SL
attribute [local irreducible] J K Ctr Ends pts slc mapR mapI sbRow stock arrS loopP CtrY Sha.chunks Sha.chunk Sha.rounds Sha.sched sumL taggedL GI leafL
theorem quo_in {s p : Int} (hs : 1 ≤ s ∧ s ≤ 1048576) (hp : 1 ≤ p ∧ p ≤ 16384) : inK .i64 ((s + p - 1) / p) := by
  have h1 : 0 ≤ (s + p - 1) / p := Int.ediv_nonneg (by omega) (by omega)
  have h2 : (s + p - 1) / p ≤ s + p - 1 := Int.ediv_le_self _ (by omega)
  simp only [inK]; omega
theorem Right_ref (x : Bl) : Ctr Tryz.prog 58 [blV x] [] (fun r H => r = .bool (rightB x) ∧ H = []) := by
  have hF : ¬ (1 ≤ x.size ∧ x.size ≤ 1048576 ∧ 16 ≤ x.piece ∧ x.piece ≤ 16384) → Value.bool false = .bool (rightB x) := fun h => congrArg Value.bool (by unfold rightB; rw [decide_eq_false (by rintro ⟨a, b, c, e, _⟩; exact h ⟨a, b, c, e⟩)])
  have hT : (1 ≤ x.size ∧ x.size ≤ 1048576 ∧ 16 ≤ x.piece ∧ x.piece ≤ 16384) → Value.bool (decide ((x.size + x.piece - 1) / x.piece ≤ 1024)) = .bool (rightB x) := fun h => congrArg Value.bool (by unfold rightB; rw [decide_eq_decide]; exact ⟨fun g => ⟨h.1, h.2.1, h.2.2.1, h.2.2.2, g⟩, fun g => g.2.2.2.2⟩)
  unfold blV
  refine Ctr.enter Tryz.func58 (by kernel_rfl) rfl Tryz.ntmps58 rfl rfl ?_
  intro G F R hE
  refine K_regionA rfl ?_
  refine J_box rfl rfl (fun _ _ _ => trivial) ?_
  intro b1
  repeat' (first | (with_reducible intro _hh) | refine go1 ?_ | refine J_fork ?_ ?_ | refine J_gsP rfl rfl rfl rfl ?_ ?_ | refine K_condP rfl rfl ?_ ?_ | (refine J_isBin ?_; refine J_quo rfl rfl rfl (by omega) (by omega) (quo_in (by omega) (by omega)) ?_))
  all_goals (first | (first | refine K_return hE Tryz.func58 rfl _ rfl ⟨hF (by omega), rfl⟩ entA | refine K_fallEnd hE Tryz.func58 rfl _ rfl ⟨hF (by omega), rfl⟩ entA) | (first | refine K_return hE Tryz.func58 rfl _ rfl ⟨hT (by omega), rfl⟩ entA | refine K_fallEnd hE Tryz.func58 rfl _ rfl ⟨hT (by omega), rfl⟩ entA))

theorem Count_ref (x : Bl) : Ctr Tryz.prog 16 [blV x] [] (fun r H => r = .int .i64 (countB x) ∧ H = []) := by
  unfold blV
  refine Ctr.enter Tryz.func16 (by kernel_rfl) rfl Tryz.ntmps16 rfl rfl ?_
  intro G F R hE
  refine K_regionA rfl ?_
  refine J_box rfl rfl (fun _ _ _ => trivial) ?_
  intro b1
  (refine go ?_)
  refine J_loadArr (U := tab) 0 rfl rfl rfl rfl rfl rfl ?_
  (first | refine J_callE rfl rfl rfl rfl (Right_ref x) entA ?_ (fun _ _ _ _ _ => trivial) | refine J_call0E rfl rfl rfl (Right_ref x) entA ?_ (fun _ _ _ _ _ => trivial) | (refine go ?_; first | refine J_callE rfl rfl rfl rfl (Right_ref x) entA ?_ (fun _ _ _ _ _ => trivial) | refine J_call0E rfl rfl rfl (Right_ref x) entA ?_ (fun _ _ _ _ _ => trivial)))
  rintro _ _ ⟨rfl, rfl⟩
  cases hr : rightB x with
  | false =>
    have hc : countB x = 0 := by unfold countB; rw [if_neg (by rw [hr]; simp)]
    rw [hc] at hE
    (refine go ?_)
    (first | refine K_return hE Tryz.func16 rfl _ rfl ⟨rfl, rfl⟩ entA | refine K_fallEnd hE Tryz.func16 rfl _ rfl ⟨rfl, rfl⟩ entA)
  | true =>
    have hc : countB x = (x.size + x.piece - 1) / x.piece := by unfold countB; rw [if_pos hr]
    rw [hc] at hE
    simp only [rightB, decide_eq_true_eq] at hr
    (refine go ?_)
    refine J_quo rfl rfl rfl (by omega) (by omega) (quo_in (by omega) (by omega)) ?_
    (refine go ?_)
    (first | refine K_return hE Tryz.func16 rfl _ rfl ⟨rfl, rfl⟩ entA | refine K_fallEnd hE Tryz.func16 rfl _ rfl ⟨rfl, rfl⟩ entA)
theorem guDg : Tryz.prog.eqGuardType Tryz.prog.depth 30 = false := by kernel_rfl
theorem eqDg (a b : Dg) (w : World) : (Op.equal 30 (.agg (dC a).toArray) (.agg (dC b).toArray)).run Tryz.prog w = .ok (decide (a = b)) w :=
  run_equalD Tryz.underlying30 Tryz.underlying5 blU8 a b 9998 w
theorem Same4_ref (A X : HP) (v w : Value) (l m : List Dg) (hv : Vw A v l.length (l.flatMap dC)) (hw : Vw X w m.length (m.flatMap dC)) (hl : l.length ≤ 1000000) (hm : m.length ≤ 1000000) :
    Ctr Tryz.prog 31 [v, w] [A, X] (fun r H => r = .bool (decide (l = m)) ∧ H = [A, X]) := by
  obtain ⟨a, c, rfl⟩ := hv.shape
  obtain ⟨a', c', rfl⟩ := hw.shape
  refine Ctr.enter Tryz.func31 (by kernel_rfl) rfl Tryz.ntmps31 rfl rfl ?_
  intro G F R hE
  (refine go ?_)
  refine K_condP rfl rfl ?_ ?_
  · intro hne
    rw [decide_eq_false (by rintro rfl; exact hne rfl)] at hE
    (refine go ?_)
    (first | refine K_return hE Tryz.func31 rfl _ rfl ⟨rfl, rfl⟩ entA | refine K_fallEnd hE Tryz.func31 rfl _ rfl ⟨rfl, rfl⟩ entA)
  intro heq
  have hlm : l.length = m.length := by omega
  (refine go ?_)
  refine K_loop (fun i : Nat => i ≤ l.length ∧ ∀ j, j < i → l[j]? = m[j]?) (fun i => l.length - i)
    (fun i => [(0, .slice a l.length c), (1, .slice a' m.length c'), (5, .int .i64 (i : Int))])
    (fun _ => A :: X :: F) 0 ⟨Nat.zero_le _, fun j hj => by omega⟩ rfl (by repeat (first | exact keep_nil | refine keep_cons rfl ?_)) entA ?_
  rintro i ⟨hi, hsame⟩ ih
  (refine go ?_)
  refine K_condP rfl rfl ?_ ?_
  · intro hlt
    have hi' : i < l.length := by omega
    have him : i < m.length := by omega
    obtain ⟨x, hx⟩ : ∃ x, l[i]? = some x := ⟨l[i], by simp⟩
    obtain ⟨y, hy⟩ : ∃ x, m[i]? = some x := ⟨m[i], by simp⟩
    obtain ⟨b, o, cap', hsl⟩ := hv.some (dgNe hi')
    simp only [Value.slice.injEq] at hsl
    obtain ⟨rfl, _, rfl⟩ := hsl
    obtain ⟨b2, o2, cap2, hsl2⟩ := hw.some (dgNe him)
    simp only [Value.slice.injEq] at hsl2
    obtain ⟨rfl, _, rfl⟩ := hsl2
    (refine go ?_)
    refine K_drawA (fun w => Sat G w ([A, X])) (.st 0 (.st 1 (.st 2 (.st 3 (.st 4 (.st 5 (.st 6 (.st 7 (.st 8 .nil))))))))) rfl (by kernel_rfl) (by kernel_rfl) (by kernel_rfl) (fun w hw => hw.ent entA) ?_
    (refine go ?_)
    refine J_at (U := tab) i 32 rfl rfl rfl rfl rfl rfl rfl rfl hi' ?_
    refine J_isLoad ?_
    refine J_loadElemS (U := tab) (es := dC x) 0 (i * 32) rfl rfl rfl hv rfl (dgE hx) rfl rfl rfl ?_
    (refine go ?_)
    refine J_at (U := tab) i 32 rfl rfl rfl rfl rfl rfl rfl rfl him ?_
    refine J_isLoad ?_
    refine J_loadElemS (U := tab) (es := dC y) 1 (i * 32) rfl rfl rfl hw rfl (dgE hy) rfl rfl rfl ?_
    refine J_neAgg (b := decide (x = y)) rfl rfl rfl guDg (fun w => eqDg x y w) ?_
    by_cases hxy : x = y
    · rw [decide_eq_true hxy]
      (refine go ?_)
      refine K_again ih (i + 1) rfl ⟨by omega, fun j hj => by
        rcases Nat.lt_or_ge j i with h | h
        · exact hsame j h
        · rw [show j = i from by omega, hx, hy, hxy]⟩ (by omega) (by repeat (first | exact keep_nil | refine keep_cons rfl ?_)) entA
    · rw [decide_eq_false (by rintro rfl; rw [hx] at hy; exact hxy (Option.some.inj hy))] at hE
      rw [decide_eq_false hxy]
      (refine go ?_)
      (first | refine K_return hE Tryz.func31 rfl _ rfl ⟨rfl, rfl⟩ entA | refine K_fallEnd hE Tryz.func31 rfl _ rfl ⟨rfl, rfl⟩ entA)
  intro hge
  have hlme : l = m := by
    apply List.ext_getElem?
    intro j
    rcases Nat.lt_or_ge j i with h | h
    · exact hsame j h
    · rw [List.getElem?_eq_none (by omega), List.getElem?_eq_none (by omega)]
  rw [decide_eq_true hlme] at hE
  (refine go ?_)
  (first | refine K_return hE Tryz.func31 rfl _ rfl ⟨rfl, rfl⟩ entA | refine K_fallEnd hE Tryz.func31 rfl _ rfl ⟨rfl, rfl⟩ entA)
set_option maxRecDepth 20000 in
theorem Leaves_ref (A : HP) (v : Value) (b : List UInt8) (hv : BAt A v b) (hl : b.length ≤ 900000000) (k : Int) :
    Ctr Tryz.prog 40 [v, .int .i64 k] [A] (fun r H => (leavesB b k = none ∧ r = .tuple #[.slice none 0 0, .int .i64 1] ∧ H = [A]) ∨ ∃ ls rv, leavesB b k = some ls ∧ r = .tuple #[rv, .int .i64 0] ∧ H = [slc 30 32 rv ls.length (ls.flatMap dC), A]) := by
  obtain ⟨a, c, rfl, hc⟩ := hv.2
  refine Ctr.enter Tryz.func40 (by kernel_rfl) rfl Tryz.ntmps40 rfl rfl ?_
  intro G F R hE
  (refine go ?_)
  (first | refine J_callE rfl rfl rfl rfl (Count_ref ⟨Dg.zero, b.length, k, Dg.zero⟩) entA ?_ (fun _ _ _ _ _ => trivial) | refine J_call0E rfl rfl rfl (Count_ref ⟨Dg.zero, b.length, k, Dg.zero⟩) entA ?_ (fun _ _ _ _ _ => trivial) | (refine go ?_; first | refine J_callE rfl rfl rfl rfl (Count_ref ⟨Dg.zero, b.length, k, Dg.zero⟩) entA ?_ (fun _ _ _ _ _ => trivial) | refine J_call0E rfl rfl rfl (Count_ref ⟨Dg.zero, b.length, k, Dg.zero⟩) entA ?_ (fun _ _ _ _ _ => trivial)))
  rintro _ _ ⟨rfl, rfl⟩
  cases hr : rightB ⟨Dg.zero, b.length, k, Dg.zero⟩ with
  | false =>
    have hn : leavesB b k = none := by unfold leavesB; rw [if_neg (by rw [hr]; simp)]
    have hc0 : countB ⟨Dg.zero, b.length, k, Dg.zero⟩ = 0 := by unfold countB; rw [if_neg (by rw [hr]; simp)]
    rw [hc0]
    (refine go ?_)
    (first | refine K_return hE Tryz.func40 rfl _ rfl (.inl ⟨hn, rfl, rfl⟩) entA | refine K_fallEnd hE Tryz.func40 rfl _ rfl (.inl ⟨hn, rfl, rfl⟩) entA)
  | true =>
    have hs : leavesB b k = some ((piecesL k.toNat b.length b).map leafL) := by unfold leavesB; rw [if_pos hr]
    have hcr : countB ⟨Dg.zero, b.length, k, Dg.zero⟩ = ((b.length : Int) + k - 1) / k := by unfold countB; rw [if_pos hr]
    have hln := leavesB_len hs
    simp only [rightB, decide_eq_true_eq] at hr
    obtain ⟨k, rfl⟩ : ∃ m : Nat, k = m := ⟨k.toNat, by omega⟩
    rw [Int.toNat_natCast] at hs hln
    have hpl := piecesL_len k (show 0 < k by omega) b
    have hpg := piecesL_get k (show 0 < k by omega) b.length b
    rw [hcr, show ((b.length : Int) + (k : Int) - 1) / (k : Int) = (((piecesL k b.length b).length : Nat) : Int) from by rw [hpl, Int.natCast_ediv]; congr 1; omega]
    rw [List.length_map] at hln
    obtain ⟨ps, hps⟩ : ∃ ps, ps = piecesL k b.length b := ⟨_, rfl⟩
    rw [← hps] at hs hln hpl hpg ⊢
    (refine go ?_)
    refine K_condP rfl rfl ?_ ?_
    · intro h; exfalso; omega
    intro _
    (refine go ?_)
    refine K_ent (slc_lift 30 32 none _) ?_
    refine K_loop (fun y : Nat × Option Addr × Nat => y.1 ≤ ps.length) (fun y => ps.length - y.1)
      (fun y => [(0, .slice a b.length c), (1, .int .i64 (k : Int)), (6, .int .i64 (ps.length : Int)), (7, .slice y.2.1 ((ps.take y.1).map leafL).length y.2.2), (8, .int .i64 (y.1 : Int))])
      (fun y => slc 30 32 (.slice y.2.1 ((ps.take y.1).map leafL).length y.2.2) ((ps.take y.1).map leafL).length (((ps.take y.1).map leafL).flatMap dC) :: A :: F) (0, none, 0) (Nat.zero_le _) rfl (by repeat (first | exact keep_nil | refine keep_cons rfl ?_)) entA ?_
    rintro ⟨i, oa, oc⟩ hi ih
    simp only at hi
    dsimp only
    have htl : ((ps.take i).map leafL).length = i := by rw [List.length_map, List.length_take]; omega
    (refine go ?_)
    refine K_condP rfl rfl ?_ ?_
    · intro hlt
      have hi' : i < ps.length := by omega
      obtain ⟨p, hp⟩ : ∃ p, ps[i]? = some p := ⟨ps[i], by simp⟩
      have hpi := hpg i (Nat.le_refl _)
      rw [hp] at hpi
      have hik : i * k < b.length := by
        rcases Nat.lt_or_ge (i * k) b.length with h | h
        · exact h
        · rw [if_neg (by omega)] at hpi; cases hpi
      rw [if_pos hik] at hpi
      have hpe : p = (b.drop (i * k)).take k := Option.some.inj hpi
      have hplen : p.length = min k (b.length - i * k) := by rw [hpe, List.length_take, List.length_drop]
      have hik1 : (i + 1) * k = i * k + k := by rw [Nat.add_mul, Nat.one_mul]
      have hcast : (i : Int) * (k : Int) = ((i * k : Nat) : Int) := (Int.natCast_mul i k).symm
      have hcast1 : ((i : Int) + 1) * (k : Int) = ((i * k : Nat) : Int) + k := by rw [Int.add_mul, Int.one_mul, hcast]
      obtain ⟨ik, hike⟩ : ∃ ik, ik = i * k := ⟨_, rfl⟩
      rw [← hike] at hik hpe hplen hcast hcast1
      have hbp := hv.piece ik (ik + p.length) (by omega) (by omega)
      rw [show ik + p.length - ik = p.length from by omega] at hbp
      have hpe2 : (b.drop ik).take p.length = p := by
        rw [hplen, hpe, List.take_eq_take_iff, List.length_drop]; omega
      rw [hpe2] at hbp
      have htk : (ps.take (i + 1)).map leafL = (ps.take i).map leafL ++ [leafL p] := by rw [List.take_add_one, hp]; simp
      (refine go ?_)
      refine J_mul rfl rfl rfl (by rw [hcast]; simp only [inK]; omega) ?_
      rw [hcast]
      (refine go ?_)
      refine J_mul rfl rfl rfl (by rw [hcast1]; simp only [inK]; omega) ?_
      rw [hcast1]
      (refine go ?_)
      have hmin : min (b.length : Int) (((ik : Nat) : Int) + (k : Int)) = ((ik + p.length : Nat) : Int) := by rw [hplen]; omega
      refine J_sliceAny (U := tab) (p := ((ik : Nat) : Int)) (q := min (b.length : Int) (((ik : Nat) : Int) + (k : Int))) rfl rfl rfl rfl rfl rfl rfl (by omega) (by omega) (.inr (by omega)) ?_
      (first | refine J_slot 33 ((.slice (sliceAt a c ik 1) p.length (c - ik))) rfl ((by rw [hmin, Int.toNat_natCast, Int.toNat_natCast, show ik + p.length - ik = p.length from by omega]; rfl)) ?_ | refine K_slot 33 ((.slice (sliceAt a c ik 1) p.length (c - ik))) rfl ((by rw [hmin, Int.toNat_natCast, Int.toNat_natCast, show ik + p.length - ik = p.length from by omega]; rfl)) ?_)
      (first | refine J_callE rfl rfl rfl rfl (Leaf_ref A _ p hbp (by omega)) entA ?_ (fun _ _ _ _ _ => trivial) | refine J_call0E rfl rfl rfl (Leaf_ref A _ p hbp (by omega)) entA ?_ (fun _ _ _ _ _ => trivial) | (refine go ?_; first | refine J_callE rfl rfl rfl rfl (Leaf_ref A _ p hbp (by omega)) entA ?_ (fun _ _ _ _ _ => trivial) | refine J_call0E rfl rfl rfl (Leaf_ref A _ p hbp (by omega)) entA ?_ (fun _ _ _ _ _ => trivial)))
      rintro _ _ ⟨rfl, rfl⟩
      refine J_buildSlice1 (U := tab) (cs := dC (leafL p)) rfl rfl rfl rfl rfl rfl rfl rfl rfl (fun _ _ _ => trivial) ?_
      intro row
      refine J_append (U := tab) (mm := 1) (news := dC (leafL p)) 2 0 rfl rfl rfl rfl rfl rfl rfl rfl rfl rfl rfl rfl (Vw.pts rfl) rfl (by rw [dC_bV]; exact bV_one _) (by rw [htl]; omega) (by show (_ + _) * 32 ≤ _; rw [htl]; omega) (fun _ => rfl) (fun _ _ _ => trivial) ?_
      intro v1
      rw [show ((ps.take i).map leafL).flatMap dC ++ dC (leafL p) = ((ps.take (i + 1)).map leafL).flatMap dC from by rw [htk]; simp, show ((ps.take i).map leafL).length + 1 = ((ps.take (i + 1)).map leafL).length from by rw [htk]; simp]
      (first | refine J_shape 2 rfl ?_ | refine K_shape 2 rfl ?_)
      rintro ja jc rfl
      (refine go ?_)
      refine K_again ih (i + 1, ja, jc) rfl (by simp only; omega) (by simp only; omega) (by repeat (first | exact keep_nil | refine keep_cons rfl ?_)) entA
    · intro hge
      have hie : i = ps.length := by omega
      subst hie
      rw [List.take_length]
      (refine go ?_)
      (first | refine K_return hE Tryz.func40 rfl _ rfl (.inr ⟨_, _, hs, rfl, rfl⟩) entA | refine K_fallEnd hE Tryz.func40 rfl _ rfl (.inr ⟨_, _, hs, rfl, rfl⟩) entA)
set_option maxRecDepth 20000 in
theorem Blob_ref (A : HP) (v : Value) (b : List UInt8) (hv : BAt A v b) (hl : b.length ≤ 900000000) (k : Int) :
    Ctr Tryz.prog 12 [v, .int .i64 k] [A] (fun r H => r = (match blobB b k with
      | none => .tuple #[blV Bl.zero, .int .i64 1]
      | some x => .tuple #[blV x, .int .i64 0]) ∧ H = [A]) := by
  have hvv := hv
  obtain ⟨a, c, rfl, hc⟩ := hv.2
  refine Ctr.enter Tryz.func12 (by kernel_rfl) rfl Tryz.ntmps12 rfl rfl ?_
  intro G F R hE
  refine K_regionA rfl ?_
  refine J_alloc (U := tab) rfl rfl rfl (fun _ _ _ => trivial) ?_
  intro b4
  (refine go ?_)
  (first | refine J_callE rfl rfl rfl rfl (Leaves_ref A _ b hv hl k) entA ?_ (fun _ _ _ _ _ => trivial) | refine J_call0E rfl rfl rfl (Leaves_ref A _ b hv hl k) entA ?_ (fun _ _ _ _ _ => trivial) | (refine go ?_; first | refine J_callE rfl rfl rfl rfl (Leaves_ref A _ b hv hl k) entA ?_ (fun _ _ _ _ _ => trivial) | refine J_call0E rfl rfl rfl (Leaves_ref A _ b hv hl k) entA ?_ (fun _ _ _ _ _ => trivial)))
  rintro _ _ (⟨hn, rfl, rfl⟩ | ⟨ls, rv, hs, rfl, rfl⟩)
  · have hb : blobB b k = none := by unfold blobB; rw [hn]; rfl
    rw [hb] at hE
    (refine go ?_)
    (refine K_noMarks hE ?_; apply K_returnV (U := tab) hE Tryz.func12 rfl (Ent.refl _); (repeat (first | exact ResOk.nil | apply ResOk.tmp rfl | apply ResOk.agg 0 rfl rfl rfl rfl rfl | apply ResOk.agg 1 rfl rfl rfl rfl rfl | apply ResOk.agg 2 rfl rfl rfl rfl rfl | apply ResOk.agg 3 rfl rfl rfl rfl rfl | apply ResOk.agg 4 rfl rfl rfl rfl rfl | apply ResOk.agg 5 rfl rfl rfl rfl rfl | apply ResOk.agg 6 rfl rfl rfl rfl rfl | apply ResOk.agg 7 rfl rfl rfl rfl rfl | apply ResOk.agg 8 rfl rfl rfl rfl rfl | apply ResOk.one 0 rfl rfl rfl rfl | apply ResOk.one 1 rfl rfl rfl rfl | apply ResOk.one 2 rfl rfl rfl rfl | apply ResOk.one 3 rfl rfl rfl rfl | apply ResOk.one 4 rfl rfl rfl rfl | apply ResOk.one 5 rfl rfl rfl rfl | apply ResOk.one 6 rfl rfl rfl rfl)); exact ⟨rfl, rfl⟩; exact entA)
  · have hb : blobB b k = some ⟨sumL b, b.length, k, rootL ls⟩ := by unfold blobB; rw [hs]; rfl
    rw [hb] at hE
    have hln := leavesB_len hs
    (first | refine J_shape 0 rfl ?_ | refine K_shape 0 rfl ?_)
    rintro ra rc rfl
    (refine go ?_)
    (first | refine J_callE rfl rfl rfl rfl (Sum_ref A _ b hv (by omega)) entA ?_ (fun _ _ _ _ _ => trivial) | refine J_call0E rfl rfl rfl (Sum_ref A _ b hv (by omega)) entA ?_ (fun _ _ _ _ _ => trivial) | (refine go ?_; first | refine J_callE rfl rfl rfl rfl (Sum_ref A _ b hv (by omega)) entA ?_ (fun _ _ _ _ _ => trivial) | refine J_call0E rfl rfl rfl (Sum_ref A _ b hv (by omega)) entA ?_ (fun _ _ _ _ _ => trivial)))
    rintro _ _ ⟨rfl, rfl⟩
    (refine go ?_)
    refine J_ent (Ent.pick [1, 0] rfl) ?_
    refine J_slcSep fun hvw => ?_
    (first | refine J_callE rfl rfl rfl rfl (Root_ref _ _ ls (hvw.mono (Sep_get (i := 0) rfl)) (by omega) (by intro e; rw [e] at hln; simp at hln)) entA ?_ (fun _ _ _ _ _ => trivial) | refine J_call0E rfl rfl rfl (Root_ref _ _ ls (hvw.mono (Sep_get (i := 0) rfl)) (by omega) (by intro e; rw [e] at hln; simp at hln)) entA ?_ (fun _ _ _ _ _ => trivial) | (refine go ?_; first | refine J_callE rfl rfl rfl rfl (Root_ref _ _ ls (hvw.mono (Sep_get (i := 0) rfl)) (by omega) (by intro e; rw [e] at hln; simp at hln)) entA ?_ (fun _ _ _ _ _ => trivial) | refine J_call0E rfl rfl rfl (Root_ref _ _ ls (hvw.mono (Sep_get (i := 0) rfl)) (by omega) (by intro e; rw [e] at hln; simp at hln)) entA ?_ (fun _ _ _ _ _ => trivial)))
    rintro _ _ ⟨rfl, rfl⟩
    refine J_ent (Ent.unsep _ _) ?_
    (refine go ?_)
    (refine K_noMarks hE ?_; apply K_returnV (U := tab) hE Tryz.func12 rfl (Ent.refl _); (repeat (first | exact ResOk.nil | apply ResOk.tmp rfl | apply ResOk.agg 0 rfl rfl rfl rfl rfl | apply ResOk.agg 1 rfl rfl rfl rfl rfl | apply ResOk.agg 2 rfl rfl rfl rfl rfl | apply ResOk.agg 3 rfl rfl rfl rfl rfl | apply ResOk.agg 4 rfl rfl rfl rfl rfl | apply ResOk.agg 5 rfl rfl rfl rfl rfl | apply ResOk.agg 6 rfl rfl rfl rfl rfl | apply ResOk.agg 7 rfl rfl rfl rfl rfl | apply ResOk.agg 8 rfl rfl rfl rfl rfl | apply ResOk.one 0 rfl rfl rfl rfl | apply ResOk.one 1 rfl rfl rfl rfl | apply ResOk.one 2 rfl rfl rfl rfl | apply ResOk.one 3 rfl rfl rfl rfl | apply ResOk.one 4 rfl rfl rfl rfl | apply ResOk.one 5 rfl rfl rfl rfl | apply ResOk.one 6 rfl rfl rfl rfl)); exact ⟨rfl, rfl⟩; exact entA)

end Go.Proofs.YtpecmnaikjbanaaGreatDoor

/- blobs, part c: what is whole, images, what is complete. -/
set_option linter.unusedVariables false
set_option linter.unusedSimpArgs false
namespace Go.Proofs.YtpecmnaikjbanaaGreatDoor
open Go Go.SL
attribute [local irreducible] J K Ctr Ends pts slc mapR mapI sbRow stock arrS loopP CtrY Sha.chunks Sha.chunk Sha.rounds Sha.sched sumL taggedL GI leafL diskA
theorem bytesF_len {A : Ab} (h : DOk A) (nm : ByteArray) : ((bytesF A nm).getD []).length ≤ 1048576 := by
  unfold bytesF
  cases A.look nm with
  | none => simp
  | some f =>
    cases A.off with
    | true => simp
    | false => simpa using h.now f
set_option maxRecDepth 20000 in
theorem whole_any (X : HP) (hK : KAt X) (bs bd : Nat) (q : Int) (mb : Nat) (brk : Bool) (A : Ab) (d : Dg) : Ctr Tryz.prog 47 [ptr bs, dV d] [pts bs (cl (stC bd q mb brk) 92), diskA bd A, X]
    (fun r H => r = .bool (wholeF A d) ∧ H = [pts bs (cl (stC bd q mb brk) 92), diskA bd A, X]) := by
  have hf := file_any kB d (by decide)
  have hbl := @bytesF_len A
  unfold dV at hf ⊢
  refine Ctr.enter Tryz.func47 (by kernel_rfl) rfl Tryz.ntmps47 rfl rfl ?_
  intro G F R hE
  refine K_regionA rfl ?_
  refine J_box rfl rfl (fun _ _ _ => trivial) ?_
  intro b3
  refine J_diskA (bd := bd) (A := A) 2 rfl ?_
  intro hdk
  (refine go ?_)
  refine J_loadArr (U := tab) (l := dC d) 0 rfl rfl rfl rfl rfl rfl ?_
  (first | refine J_callE rfl rfl rfl rfl (hf) entA ?_ (fun _ _ _ _ _ => trivial) | refine J_call0E rfl rfl rfl (hf) entA ?_ (fun _ _ _ _ _ => trivial) | (refine go ?_; first | refine J_callE rfl rfl rfl rfl (hf) entA ?_ (fun _ _ _ _ _ => trivial) | refine J_call0E rfl rfl rfl (hf) entA ?_ (fun _ _ _ _ _ => trivial)))
  rintro _ _ ⟨rfl, rfl⟩
  (first | refine J_callE rfl rfl rfl rfl (bytes_any bs bd q mb brk A (fileN kB d)) entA ?_ (fun _ _ _ _ _ => trivial) | refine J_call0E rfl rfl rfl (bytes_any bs bd q mb brk A (fileN kB d)) entA ?_ (fun _ _ _ _ _ => trivial) | (refine go ?_; first | refine J_callE rfl rfl rfl rfl (bytes_any bs bd q mb brk A (fileN kB d)) entA ?_ (fun _ _ _ _ _ => trivial) | refine J_call0E rfl rfl rfl (bytes_any bs bd q mb brk A (fileN kB d)) entA ?_ (fun _ _ _ _ _ => trivial)))
  rintro _ _ ⟨rv, rfl, rfl⟩
  have hw : wholeF A d = match bytesF A (fileN kB d) with | none => false | some b => decide (sumL b = d) := rfl
  have hbl := bytesF_len hdk (fileN kB d)
  cases hb : bytesF A (fileN kB d) with
  | none =>
    rw [hb] at hw
    rw [hw] at hE
    (refine go ?_)
    refine K_drawA (fun w => Sat G w ([])) (.st 0 (.st 1 (.st 2 (.st 4 (.act 3 (.st 5 (.st 6 (.st 7 .nil)))))))) rfl (by kernel_rfl) (by kernel_rfl) (by kernel_rfl) (fun w hw => hw.ent entA) ?_
    (refine go ?_)
    (first | refine K_return hE Tryz.func47 rfl _ rfl ⟨rfl, rfl⟩ entA | refine K_fallEnd hE Tryz.func47 rfl _ rfl ⟨rfl, rfl⟩ entA)
  | some b =>
    rw [hb] at hw hbl
    rw [hw] at hE
    simp only [Option.getD_some, Option.isSome_some] at hbl ⊢
    refine J_slcB (bs := b) 0 rfl ?_
    intro hbb
    refine J_ent (Ent.trans (Ent.pick [0, 4] rfl) (Ent.resep [slc 5 1 rv b.length (bV b), X] _)) ?_
    have hsum := Sum_any _ (hK.mono (Sep_get (H := [slc 5 1 rv b.length (bV b), X]) (i := 1) rfl)) rv b (hbb.mono (Sep_get (i := 0) rfl)) (by omega)
    unfold dV at hsum
    (refine go ?_)
    refine K_drawA (fun w => Sat G w ([pts b3 (cl (dC d) 30)])) (.st 0 (.st 1 (.st 2 (.st 4 (.act 3 (.st 5 (.st 6 (.st 7 .nil)))))))) rfl (by kernel_rfl) (by kernel_rfl) (by kernel_rfl) (fun w hw => hw.ent entA) ?_
    (refine go ?_)
    refine J_loadArrS (U := tab) (l := dC d) 0 rfl rfl rfl rfl rfl rfl ?_
    (refine go ?_)
    (first | refine J_callE rfl rfl rfl rfl (hsum) entA ?_ (fun _ _ w hp hw => by obtain ⟨rfl, rfl⟩ := hp; exact hw.ent entA) | refine J_call0E rfl rfl rfl (hsum) entA ?_ (fun _ _ w hp hw => by obtain ⟨rfl, rfl⟩ := hp; exact hw.ent entA))
    rintro _ _ ⟨rfl, rfl⟩
    (refine go ?_)
    refine J_eqAgg (b := decide (sumL b = d)) rfl rfl rfl guDg (fun w => eqDg (sumL b) d w) ?_
    (refine go ?_)
    refine K_ent (Ent.unsep _ _) ?_
    (first | refine K_return hE Tryz.func47 rfl _ rfl ⟨rfl, rfl⟩ entA | refine K_fallEnd hE Tryz.func47 rfl _ rfl ⟨rfl, rfl⟩ entA)
set_option maxRecDepth 20000 in
theorem ImageS_any (bs bd : Nat) (q : Int) (mb : Nat) (brk : Bool) (A : Ab) (d : Dg) : Ctr Tryz.prog 34 [ptr bs, dV d] [pts bs (cl (stC bd q mb brk) 92), diskA bd A]
    (fun r H => ∃ rv, r = .tuple #[imV rv, .bool (imageF A d).isSome] ∧ H = [slc 32 66 rv ((imageF A d).getD []).length (((imageF A d).getD []).flatMap blC), pts bs (cl (stC bd q mb brk) 92), diskA bd A]) := by
  have hf := file_any kI d (by decide)
  unfold dV at hf ⊢
  refine Ctr.enter Tryz.func34 (by kernel_rfl) rfl Tryz.ntmps34 rfl rfl ?_
  intro G F R hE
  refine K_regionA rfl ?_
  refine J_box rfl rfl (fun _ _ _ => trivial) ?_
  intro b3
  refine J_alloc (U := tab) rfl rfl rfl (fun _ _ _ => trivial) ?_
  intro b4
  refine J_diskA (bd := bd) (A := A) 3 rfl ?_
  intro hdk
  (refine go ?_)
  refine J_loadArr (U := tab) (l := dC d) 1 rfl rfl rfl rfl rfl rfl ?_
  (first | refine J_callE rfl rfl rfl rfl (hf) entA ?_ (fun _ _ _ _ _ => trivial) | refine J_call0E rfl rfl rfl (hf) entA ?_ (fun _ _ _ _ _ => trivial) | (refine go ?_; first | refine J_callE rfl rfl rfl rfl (hf) entA ?_ (fun _ _ _ _ _ => trivial) | refine J_call0E rfl rfl rfl (hf) entA ?_ (fun _ _ _ _ _ => trivial)))
  rintro _ _ ⟨rfl, rfl⟩
  (first | refine J_callE rfl rfl rfl rfl (bytes_any bs bd q mb brk A (fileN kI d)) entA ?_ (fun _ _ _ _ _ => trivial) | refine J_call0E rfl rfl rfl (bytes_any bs bd q mb brk A (fileN kI d)) entA ?_ (fun _ _ _ _ _ => trivial) | (refine go ?_; first | refine J_callE rfl rfl rfl rfl (bytes_any bs bd q mb brk A (fileN kI d)) entA ?_ (fun _ _ _ _ _ => trivial) | refine J_call0E rfl rfl rfl (bytes_any bs bd q mb brk A (fileN kI d)) entA ?_ (fun _ _ _ _ _ => trivial)))
  rintro _ _ ⟨rv, rfl, rfl⟩
  have hw : imageF A d = (bytesF A (fileN kI d)).bind decB := rfl
  have hbl := bytesF_len hdk (fileN kI d)
  cases hb : bytesF A (fileN kI d) with
  | none =>
    rw [hb] at hw
    rw [hw] at hE
    (refine go ?_)
    refine K_ent (slc_lift 32 66 none _) ?_
    (refine K_noMarks hE ?_; apply K_returnV (U := tab) hE Tryz.func34 rfl (Ent.refl _); (repeat (first | exact ResOk.nil | apply ResOk.tmp rfl | apply ResOk.agg 0 rfl rfl rfl rfl rfl | apply ResOk.agg 1 rfl rfl rfl rfl rfl | apply ResOk.agg 2 rfl rfl rfl rfl rfl | apply ResOk.agg 3 rfl rfl rfl rfl rfl | apply ResOk.agg 4 rfl rfl rfl rfl rfl | apply ResOk.agg 5 rfl rfl rfl rfl rfl | apply ResOk.agg 6 rfl rfl rfl rfl rfl | apply ResOk.agg 7 rfl rfl rfl rfl rfl | apply ResOk.agg 8 rfl rfl rfl rfl rfl | apply ResOk.one 0 rfl rfl rfl rfl | apply ResOk.one 1 rfl rfl rfl rfl | apply ResOk.one 2 rfl rfl rfl rfl | apply ResOk.one 3 rfl rfl rfl rfl | apply ResOk.one 4 rfl rfl rfl rfl | apply ResOk.one 5 rfl rfl rfl rfl | apply ResOk.one 6 rfl rfl rfl rfl)); exact ⟨_, rfl, rfl⟩; exact entA)
  | some b =>
    rw [hb] at hw hbl
    simp only [Option.getD_some, Option.isSome_some, Option.bind_some] at hbl hw ⊢
    rw [hw] at hE
    refine J_slcB (bs := b) 0 rfl ?_
    intro hbb
    (refine go ?_)
    (first | refine J_callE rfl rfl rfl rfl (mDecode_any _ rv b hbb (by omega)) entA ?_ (fun _ _ _ _ _ => trivial) | refine J_call0E rfl rfl rfl (mDecode_any _ rv b hbb (by omega)) entA ?_ (fun _ _ _ _ _ => trivial) | (refine go ?_; first | refine J_callE rfl rfl rfl rfl (mDecode_any _ rv b hbb (by omega)) entA ?_ (fun _ _ _ _ _ => trivial) | refine J_call0E rfl rfl rfl (mDecode_any _ rv b hbb (by omega)) entA ?_ (fun _ _ _ _ _ => trivial)))
    rintro _ _ (⟨hn, ⟨e, he, rfl⟩, rfl⟩ | ⟨l, lv, hs, rfl, rfl⟩)
    · rw [hn] at hE
      unfold imV
      (refine go ?_)
      refine J_alloc (U := tab) rfl rfl rfl (fun _ _ _ => trivial) ?_
      intro b8
      (refine go ?_)
      refine J_loadArr (U := tab) (l := [.slice none 0 0]) 0 rfl rfl rfl rfl rfl rfl ?_
      (refine go ?_)
      (first | refine J_slot 27 ((.bool false)) rfl ((congrArg Value.bool (decide_eq_false he))) ?_ | refine K_slot 27 ((.bool false)) rfl ((congrArg Value.bool (decide_eq_false he))) ?_)
      (refine go ?_)
      (refine J_isStore ?_; first | refine J_store (U := tab) 0 (fun _ _ => trivial) rfl rfl rfl rfl rfl rfl rfl rfl rfl ?_ | refine J_store (U := tab) 1 (fun _ _ => trivial) rfl rfl rfl rfl rfl rfl rfl rfl rfl ?_ | refine J_store (U := tab) 2 (fun _ _ => trivial) rfl rfl rfl rfl rfl rfl rfl rfl rfl ?_ | refine J_store (U := tab) 3 (fun _ _ => trivial) rfl rfl rfl rfl rfl rfl rfl rfl rfl ?_ | refine J_store (U := tab) 4 (fun _ _ => trivial) rfl rfl rfl rfl rfl rfl rfl rfl rfl ?_ | refine J_store (U := tab) 5 (fun _ _ => trivial) rfl rfl rfl rfl rfl rfl rfl rfl rfl ?_ | refine J_store (U := tab) 6 (fun _ _ => trivial) rfl rfl rfl rfl rfl rfl rfl rfl rfl ?_ | refine J_store (U := tab) 7 (fun _ _ => trivial) rfl rfl rfl rfl rfl rfl rfl rfl rfl ?_ | refine J_store (U := tab) 8 (fun _ _ => trivial) rfl rfl rfl rfl rfl rfl rfl rfl rfl ?_)
      (refine go ?_)
      refine K_ent (slc_lift 32 66 none _) ?_
      (refine K_noMarks hE ?_; apply K_returnV (U := tab) hE Tryz.func34 rfl (Ent.refl _); (repeat (first | exact ResOk.nil | apply ResOk.tmp rfl | apply ResOk.agg 0 rfl rfl rfl rfl rfl | apply ResOk.agg 1 rfl rfl rfl rfl rfl | apply ResOk.agg 2 rfl rfl rfl rfl rfl | apply ResOk.agg 3 rfl rfl rfl rfl rfl | apply ResOk.agg 4 rfl rfl rfl rfl rfl | apply ResOk.agg 5 rfl rfl rfl rfl rfl | apply ResOk.agg 6 rfl rfl rfl rfl rfl | apply ResOk.agg 7 rfl rfl rfl rfl rfl | apply ResOk.agg 8 rfl rfl rfl rfl rfl | apply ResOk.one 0 rfl rfl rfl rfl | apply ResOk.one 1 rfl rfl rfl rfl | apply ResOk.one 2 rfl rfl rfl rfl | apply ResOk.one 3 rfl rfl rfl rfl | apply ResOk.one 4 rfl rfl rfl rfl | apply ResOk.one 5 rfl rfl rfl rfl | apply ResOk.one 6 rfl rfl rfl rfl)); exact ⟨_, rfl, rfl⟩; exact entA)
    · rw [hs] at hE
      unfold imV
      (first | refine J_shape 0 rfl ?_ | refine K_shape 0 rfl ?_)
      rintro la lc rfl
      (refine go ?_)
      refine J_alloc (U := tab) rfl rfl rfl (fun _ _ _ => trivial) ?_
      intro b8
      (refine go ?_)
      refine J_loadArr (U := tab) (l := [.slice la l.length lc]) 0 rfl rfl rfl rfl rfl rfl ?_
      (refine go ?_)
      (refine J_isStore ?_; first | refine J_store (U := tab) 0 (fun _ _ => trivial) rfl rfl rfl rfl rfl rfl rfl rfl rfl ?_ | refine J_store (U := tab) 1 (fun _ _ => trivial) rfl rfl rfl rfl rfl rfl rfl rfl rfl ?_ | refine J_store (U := tab) 2 (fun _ _ => trivial) rfl rfl rfl rfl rfl rfl rfl rfl rfl ?_ | refine J_store (U := tab) 3 (fun _ _ => trivial) rfl rfl rfl rfl rfl rfl rfl rfl rfl ?_ | refine J_store (U := tab) 4 (fun _ _ => trivial) rfl rfl rfl rfl rfl rfl rfl rfl rfl ?_ | refine J_store (U := tab) 5 (fun _ _ => trivial) rfl rfl rfl rfl rfl rfl rfl rfl rfl ?_ | refine J_store (U := tab) 6 (fun _ _ => trivial) rfl rfl rfl rfl rfl rfl rfl rfl rfl ?_ | refine J_store (U := tab) 7 (fun _ _ => trivial) rfl rfl rfl rfl rfl rfl rfl rfl rfl ?_ | refine J_store (U := tab) 8 (fun _ _ => trivial) rfl rfl rfl rfl rfl rfl rfl rfl rfl ?_)
      (refine go ?_)
      (refine K_noMarks hE ?_; apply K_returnV (U := tab) hE Tryz.func34 rfl (Ent.refl _); (repeat (first | exact ResOk.nil | apply ResOk.tmp rfl | apply ResOk.agg 0 rfl rfl rfl rfl rfl | apply ResOk.agg 1 rfl rfl rfl rfl rfl | apply ResOk.agg 2 rfl rfl rfl rfl rfl | apply ResOk.agg 3 rfl rfl rfl rfl rfl | apply ResOk.agg 4 rfl rfl rfl rfl rfl | apply ResOk.agg 5 rfl rfl rfl rfl rfl | apply ResOk.agg 6 rfl rfl rfl rfl rfl | apply ResOk.agg 7 rfl rfl rfl rfl rfl | apply ResOk.agg 8 rfl rfl rfl rfl rfl | apply ResOk.one 0 rfl rfl rfl rfl | apply ResOk.one 1 rfl rfl rfl rfl | apply ResOk.one 2 rfl rfl rfl rfl | apply ResOk.one 3 rfl rfl rfl rfl | apply ResOk.one 4 rfl rfl rfl rfl | apply ResOk.one 5 rfl rfl rfl rfl | apply ResOk.one 6 rfl rfl rfl rfl)); exact ⟨_, rfl, rfl⟩; exact entA)

set_option maxRecDepth 20000 in
theorem compl1_any (X : HP) (hK : KAt X) (b2 bs bd : Nat) (q : Int) (mb : Nat) (brk : Bool) (A : Ab) (y : Bl) :
    Ctr Tryz.prog 95 [blV y, ptr b2] [Sep [pts b2 (cl [ptr bs] 35), pts bs (cl (stC bd q mb brk) 92), diskA bd A, X] ]
    (fun r H => r = .bool (!wholeF A y.d) ∧ H = [Sep [pts b2 (cl [ptr bs] 35), pts bs (cl (stC bd q mb brk) 92), diskA bd A, X] ]) := by
  have hw := whole_any X hK bs bd q mb brk A y.d
  unfold dV at hw
  unfold blV
  refine Ctr.enter Tryz.func95 (by kernel_rfl) rfl Tryz.ntmps95 rfl rfl ?_
  intro G F R hE
  refine K_regionA rfl ?_
  refine J_box rfl rfl (fun _ _ _ => trivial) ?_
  intro b0
  refine J_ent (Ent.trans (Ent.pick [1] rfl) (Ent.unsep [_, _, _, _] _)) ?_
  (refine go ?_)
  refine J_loadAgg (U := tab) 4 rfl rfl rfl rfl rfl rfl ?_
  (first | refine J_callE rfl rfl rfl rfl (hw) entA ?_ (fun _ _ _ _ _ => trivial) | refine J_call0E rfl rfl rfl (hw) entA ?_ (fun _ _ _ _ _ => trivial) | (refine go ?_; first | refine J_callE rfl rfl rfl rfl (hw) entA ?_ (fun _ _ _ _ _ => trivial) | refine J_call0E rfl rfl rfl (hw) entA ?_ (fun _ _ _ _ _ => trivial)))
  rintro _ _ ⟨rfl, rfl⟩
  (refine go ?_)
  refine K_ent (Ent.trans (Ent.pick [3, 0, 1, 2] rfl) (Ent.resep [_, _, _, _] _)) ?_
  (first | refine K_return hE Tryz.func95 rfl _ rfl ⟨rfl, rfl⟩ entA | refine K_fallEnd hE Tryz.func95 rfl _ rfl ⟨rfl, rfl⟩ entA)
theorem completeF_none {A : Ab} {d : Dg} (h : imageF A d = none) : completeF A d = false := by unfold completeF; rw [h]
theorem completeF_some {A : Ab} {d : Dg} {l : List Bl} (h : imageF A d = some l) : completeF A d = (decide (nameB l = d) && !l.any fun y => !wholeF A y.d) := by
  unfold completeF; rw [h]
  simp only
  congr 1
  rw [List.not_any_eq_all_not]
  simp
theorem imageF_ok {A : Ab} {d : Dg} {l : List Bl} (h : imageF A d = some l) : imageB l = 0 := by
  unfold imageF at h
  obtain ⟨b, _, hb⟩ := Option.bind_eq_some_iff.1 h
  exact decB_image hb
set_option maxRecDepth 20000 in
set_option maxHeartbeats 1000000 in
theorem complete_any (X : HP) (hK : KAt X) (bs bd : Nat) (q : Int) (mb : Nat) (brk : Bool) (A : Ab) (d : Dg) : Ctr Tryz.prog 50 [ptr bs, dV d] [pts bs (cl (stC bd q mb brk) 92), diskA bd A, X]
    (fun r H => r = .bool (completeF A d) ∧ H = [pts bs (cl (stC bd q mb brk) 92), diskA bd A, X]) := by
  have hi := ImageS_any bs bd q mb brk A d
  unfold dV at hi ⊢
  refine Ctr.enter Tryz.func50 (by kernel_rfl) rfl Tryz.ntmps50 rfl rfl ?_
  intro G F R hE
  refine K_regionA rfl ?_
  refine J_box rfl rfl (fun _ _ _ => trivial) ?_
  intro b2
  refine J_box rfl rfl (fun _ _ _ => trivial) ?_
  intro b3
  (refine go ?_)
  refine J_loadArr (U := tab) (l := dC d) 0 rfl rfl rfl rfl rfl rfl ?_
  (first | refine J_callE rfl rfl rfl rfl (hi) entA ?_ (fun _ _ _ _ _ => trivial) | refine J_call0E rfl rfl rfl (hi) entA ?_ (fun _ _ _ _ _ => trivial) | (refine go ?_; first | refine J_callE rfl rfl rfl rfl (hi) entA ?_ (fun _ _ _ _ _ => trivial) | refine J_call0E rfl rfl rfl (hi) entA ?_ (fun _ _ _ _ _ => trivial)))
  rintro _ _ ⟨rv, rfl, rfl⟩
  unfold imV
  (first | refine J_shape 0 rfl ?_ | refine K_shape 0 rfl ?_)
  rintro ra rc rfl
  (refine go ?_)
  refine J_alloc (U := tab) rfl rfl rfl (fun _ _ _ => trivial) ?_
  intro b5
  (refine go ?_)
  cases him : imageF A d with
  | none =>
    rw [completeF_none him] at hE
    simp only [Option.getD_none, Option.isSome_none]
    have hnm := Name_any X hK (.slice ra 0 rc) [] (Vw.nil X ra rc) (by simp)
    unfold imV at hnm
    rw [if_neg (by decide)] at hnm
    refine J_loadArr (U := tab) (l := [.slice ra 0 rc]) 0 rfl rfl rfl rfl rfl rfl ?_
    (first | refine J_callE rfl rfl rfl rfl (hnm) entA ?_ (fun _ _ _ _ _ => trivial) | refine J_call0E rfl rfl rfl (hnm) entA ?_ (fun _ _ _ _ _ => trivial) | (refine go ?_; first | refine J_callE rfl rfl rfl rfl (hnm) entA ?_ (fun _ _ _ _ _ => trivial) | refine J_call0E rfl rfl rfl (hnm) entA ?_ (fun _ _ _ _ _ => trivial)))
    rintro _ _ ⟨rfl, rfl⟩
    unfold dV
    (refine go ?_)
    refine J_alloc (U := tab) rfl rfl rfl (fun _ _ _ => trivial) ?_
    intro b7
    (refine go ?_)
    (first | refine K_return hE Tryz.func50 rfl _ rfl ⟨rfl, rfl⟩ entA | refine K_fallEnd hE Tryz.func50 rfl _ rfl ⟨rfl, rfl⟩ entA)
  | some l =>
    have hok := imageF_ok him
    have hlr := imageB_right hok
    rw [completeF_some him] at hE
    simp only [Option.getD_some, Option.isSome_some]
    refine J_slcVC 1 rfl ?_
    intro hvw hcap
    refine J_ent (H' := Sep [slc 32 66 (.slice ra l.length rc) l.length (l.flatMap blC), X] :: pts b5 (cl [.slice ra l.length rc] 55) :: pts bs (cl (stC bd q mb brk) 92) :: diskA bd A :: pts b3 (cl (dC d) 30) :: pts b2 (cl [ptr bs] 35) :: F) (Ent.trans (H2 := slc 32 66 (.slice ra l.length rc) l.length (l.flatMap blC) :: X :: pts b5 (cl [.slice ra l.length rc] 55) :: pts bs (cl (stC bd q mb brk) 92) :: diskA bd A :: pts b3 (cl (dC d) 30) :: pts b2 (cl [ptr bs] 35) :: F) entA (Ent.resep [_, _] _)) ?_
    have hnm := Name_any _ (hK.mono (Sep_get (H := [slc 32 66 (.slice ra l.length rc) l.length (l.flatMap blC), X]) (i := 1) rfl)) _ l (hvw.mono (Sep_get (i := 0) rfl)) (by omega)
    unfold imV at hnm
    rw [if_pos hok] at hnm
    refine J_loadArr (U := tab) (l := [.slice ra l.length rc]) 1 rfl rfl rfl rfl rfl rfl ?_
    (first | refine J_callE rfl rfl rfl rfl (hnm) entA ?_ (fun _ _ _ _ _ => trivial) | refine J_call0E rfl rfl rfl (hnm) entA ?_ (fun _ _ _ _ _ => trivial) | (refine go ?_; first | refine J_callE rfl rfl rfl rfl (hnm) entA ?_ (fun _ _ _ _ _ => trivial) | refine J_call0E rfl rfl rfl (hnm) entA ?_ (fun _ _ _ _ _ => trivial)))
    rintro _ _ ⟨rfl, rfl⟩
    unfold dV
    (refine go ?_)
    refine J_alloc (U := tab) rfl rfl rfl (fun _ _ _ => trivial) ?_
    intro b7
    (refine go ?_)
    refine J_loadArr (U := tab) (l := dC (nameB l)) 0 rfl rfl rfl rfl rfl rfl ?_
    (refine go ?_)
    refine J_loadArr (U := tab) (l := dC d) 5 rfl rfl rfl rfl rfl rfl ?_
    (refine go ?_)
    refine J_eqAgg (b := decide (nameB l = d)) rfl rfl rfl guDg (fun w => eqDg (nameB l) d w) ?_
    by_cases hnd : nameB l = d
    · rw [decide_eq_true hnd] at hE ⊢
      rw [Bool.true_and] at hE
      (refine go ?_)
      refine J_ent (H' := slc 32 66 (.slice ra l.length rc) l.length (l.flatMap blC) :: Sep [pts b2 (cl [ptr bs] 35), pts bs (cl (stC bd q mb brk) 92), diskA bd A, X] :: F) (Ent.trans (Ent.trans (Ent.pick [1] rfl) (Ent.unsep [_, _] _)) (Ent.trans (H2 := pts b2 (cl [ptr bs] 35) :: pts bs (cl (stC bd q mb brk) 92) :: diskA bd A :: X :: slc 32 66 (.slice ra l.length rc) l.length (l.flatMap blC) :: F) entA (Ent.trans (Ent.resep [_, _, _, _] _) entA))) ?_
      (first | refine J_callE rfl rfl rfl rfl (ContainsFunc_bl _ (Sep [pts b2 (cl [ptr bs] 35), pts bs (cl (stC bd q mb brk) 92), diskA bd A, X]) _ l hvw (by omega) 95 [ptr b2] (fun y => !wholeF A y.d) (fun y _ => compl1_any X hK b2 bs bd q mb brk A y)) entA ?_ (fun _ _ _ _ _ => trivial) | refine J_call0E rfl rfl rfl (ContainsFunc_bl _ (Sep [pts b2 (cl [ptr bs] 35), pts bs (cl (stC bd q mb brk) 92), diskA bd A, X]) _ l hvw (by omega) 95 [ptr b2] (fun y => !wholeF A y.d) (fun y _ => compl1_any X hK b2 bs bd q mb brk A y)) entA ?_ (fun _ _ _ _ _ => trivial) | (refine go ?_; first | refine J_callE rfl rfl rfl rfl (ContainsFunc_bl _ (Sep [pts b2 (cl [ptr bs] 35), pts bs (cl (stC bd q mb brk) 92), diskA bd A, X]) _ l hvw (by omega) 95 [ptr b2] (fun y => !wholeF A y.d) (fun y _ => compl1_any X hK b2 bs bd q mb brk A y)) entA ?_ (fun _ _ _ _ _ => trivial) | refine J_call0E rfl rfl rfl (ContainsFunc_bl _ (Sep [pts b2 (cl [ptr bs] 35), pts bs (cl (stC bd q mb brk) 92), diskA bd A, X]) _ l hvw (by omega) 95 [ptr b2] (fun y => !wholeF A y.d) (fun y _ => compl1_any X hK b2 bs bd q mb brk A y)) entA ?_ (fun _ _ _ _ _ => trivial)))
      rintro _ _ ⟨rfl, rfl⟩
      (refine go ?_)
      refine K_ent (Ent.trans (Ent.pick [1] rfl) (Ent.unsep [_, _, _, _] _)) ?_
      (first | refine K_return hE Tryz.func50 rfl _ rfl ⟨rfl, rfl⟩ entA | refine K_fallEnd hE Tryz.func50 rfl _ rfl ⟨rfl, rfl⟩ entA)
    · rw [decide_eq_false hnd] at hE ⊢
      rw [Bool.false_and] at hE
      (refine go ?_)
      refine K_ent (Ent.trans (Ent.pick [1] rfl) (Ent.unsep [_, _] _)) ?_
      (first | refine K_return hE Tryz.func50 rfl _ rfl ⟨rfl, rfl⟩ entA | refine K_fallEnd hE Tryz.func50 rfl _ rfl ⟨rfl, rfl⟩ entA)
/-- What tells whether a file is right, as a function value: what it says of the disk. -/
def RightC (g : FuncId) (fi : List Value) (Y : Ab → HP) (right : Ab → Dg → Bool) : Prop := ∀ (A : Ab) (d : Dg), Ctr Tryz.prog g (fi ++ [dV d]) [Y A] (fun r H => r = .bool (right A d) ∧ H = [Y A])
end Go.Proofs.YtpecmnaikjbanaaGreatDoor

/- blobs: all. -/
set_option linter.unusedVariables false
set_option linter.unusedSimpArgs false
namespace Go.Proofs.YtpecmnaikjbanaaGreatDoor
open Go Go.SL
attribute [local irreducible] J K Ctr Ends pts slc mapR mapI sbRow stock arrS loopP CtrY

theorem all_any {σ : Type} (I : σ → HP) (V : HP) (v : Value) (fvs : List Value) (hv : Vw V v fvs.length fvs) (hn : fvs.length ≤ 1000000000) (ss : List (σ → Nat → σ → Prop)) (hlen : ss.length = fvs.length) (Q : Nat → σ → Prop)
    (hst : ∀ (i : Nat) (fv : Value) (s : σ → Nat → σ → Prop), fvs[i]? = some fv → ss[i]? = some s → ∃ g fi cap, fv = .func (.func g) fi cap ∧ ∀ x, Q i x → Ctr Tryz.prog g (fi.toList ++ cap.toList) [I x] (fun r H => ∃ (e : Nat) (x' : σ), r = .int .i64 (e : Int) ∧ H = [I x'] ∧ s x e x' ∧ (e = 0 → Q (i + 1) x')))
    (x0 : σ) (hQ : Q 0 x0) :
    Ctr Tryz.prog 44 [v] [V, I x0] (fun r H => ∃ (e : Nat) (x' : σ), r = .int .i64 (e : Int) ∧ H = [V, I x'] ∧ Runs ss x0 e x' ∧ (e = 0 → Q fvs.length x')) := by
  obtain ⟨a, c, rfl⟩ := hv.shape
  refine Ctr.enter Tryz.func44 (by kernel_rfl) rfl Tryz.ntmps44 rfl rfl ?_
  intro G F R hE
  (refine go ?_)
  refine K_loop (fun y : Nat × σ => y.1 ≤ fvs.length ∧ Q y.1 y.2 ∧ ∀ e x', Runs (ss.drop y.1) y.2 e x' → Runs ss x0 e x') (fun y => fvs.length - y.1)
    (fun y => [(0, .slice a fvs.length c), (6, .slice a fvs.length c), (7, .int .i64 (fvs.length : Int)), (8, .int .i64 (y.1 : Int))])
    (fun y => V :: I y.2 :: F) (0, x0) ⟨Nat.zero_le _, hQ, fun _ _ h => h⟩ rfl (by repeat (first | exact keep_nil | refine keep_cons rfl ?_)) entA ?_
  rintro ⟨i, x⟩ ⟨hi, hq, hr⟩ ih
  simp only at hi hq hr
  (refine go ?_)
  refine K_condP rfl rfl ?_ ?_
  · intro hlt
    simp only at hlt
    have hil : i < fvs.length := by omega
    obtain ⟨fv, hfv⟩ : ∃ fv, fvs[i]? = some fv := ⟨fvs[i], List.getElem?_eq_getElem hil⟩
    obtain ⟨s, hs⟩ : ∃ s, ss[i]? = some s := ⟨ss[i], List.getElem?_eq_getElem (by omega)⟩
    obtain ⟨g, fi, cap, rfl, hc⟩ := hst i fv s hfv hs
    have hdrop : ss.drop i = s :: ss.drop (i + 1) := by
      rw [List.drop_eq_getElem_cons (by omega)]
      congr 1
      have := List.getElem?_eq_some_iff.1 hs
      exact this.2
    obtain ⟨b0, o0, c0, he0⟩ := hv.some (by intro h; rw [h] at hil; simp at hil)
    simp only [Value.slice.injEq] at he0
    obtain ⟨rfl, -, rfl⟩ := he0
    (refine go ?_)
    refine J_at1 (U := tab) i rfl rfl rfl rfl rfl rfl rfl rfl hil ?_
    refine J_loadAt (U := tab) 0 i rfl rfl rfl hv rfl hfv rfl rfl ?_
    (refine go ?_)
    refine J_callF rfl rfl rfl (by simp) (hc x hq) entA ?_ (fun _ _ _ _ _ => trivial)
    rintro _ _ ⟨e, x', rfl, rfl, hsx, hq'⟩
    (refine go ?_)
    refine K_condP rfl rfl ?_ ?_
    · intro hne
      have he : e ≠ 0 := by omega
      (refine go ?_)
      (first | refine K_return hE Tryz.func44 rfl _ rfl ⟨e, x', rfl, rfl, hr e x' (by rw [hdrop]; exact ⟨e, x', hsx, .inl ⟨he, rfl, rfl⟩⟩), fun h => absurd h he⟩ entA | refine K_fallEnd hE Tryz.func44 rfl _ rfl ⟨e, x', rfl, rfl, hr e x' (by rw [hdrop]; exact ⟨e, x', hsx, .inl ⟨he, rfl, rfl⟩⟩), fun h => absurd h he⟩ entA)
    · intro heq
      have he : e = 0 := by omega
      (refine go ?_)
      refine K_again ih (i + 1, x') rfl (⟨by simp only; omega, hq' he, fun e2 x2 h2 => hr e2 x2 (by rw [hdrop]; exact ⟨e, x', hsx, .inr ⟨he, h2⟩⟩)⟩) (by simp only; omega) (by repeat (first | exact keep_nil | refine keep_cons rfl ?_)) entA
  · intro hge
    simp only at hge
    have hi' : i = fvs.length := by omega
    subst hi'
    (refine go ?_)
    (first | refine K_return hE Tryz.func44 rfl _ rfl ⟨0, x, rfl, rfl, hr 0 x (by rw [List.drop_eq_nil_of_le (by omega)]; exact ⟨rfl, rfl⟩), fun _ => hq⟩ entA | refine K_fallEnd hE Tryz.func44 rfl _ rfl ⟨0, x, rfl, rfl, hr 0 x (by rw [List.drop_eq_nil_of_le (by omega)]; exact ⟨rfl, rfl⟩), fun _ => hq⟩ entA)
end Go.Proofs.YtpecmnaikjbanaaGreatDoor

/- blobs, part d: files of a kind that are not right are taken away; Open. -/
set_option linter.unusedVariables false
set_option linter.unusedSimpArgs false
namespace Go.Proofs.YtpecmnaikjbanaaGreatDoor
open Go Go.SL
attribute [local irreducible] J K Ctr Ends pts slc mapR mapI sbRow stock arrS loopP CtrY Sha.chunks Sha.chunk Sha.rounds Sha.sched sumL taggedL GI leafL
theorem Names_dB (bd : Nat) (A : Ab) : Ctr Tryz.prog 30 [ptr bd] [diskA bd A] (fun r H => H = [slc 9 1 r (namesF A).length ((namesF A).map Value.string), diskA bd A]) := by
  have hl : (namesF A).length = (keysA A).length := by unfold namesF; rw [List.length_map, sortB_len]
  have hm : (namesF A).map Value.string = nS (sortB (keysA A)) := by unfold namesF nS; rw [List.map_map]; rfl
  rw [hl, hm]
  exact ctr_disk (Post := fun v H => ∃ D, Rel D A ∧ H = [slc 9 1 v (keysA A).length (nS (sortB (keysA A))), disk bd D]) (by kernel_rfl) (fun D hR => (Names_any bd D A hR).post (fun v H h => ⟨D, hR, h⟩)) (by rintro v H ⟨D', hR, rfl⟩; exact ⟨_, rfl, Ent.cons _ (diskA_in hR [])⟩)
attribute [local irreducible] diskA
theorem namesF_len {A : Ab} (h : DOk A) : (namesF A).length ≤ 200 := by
  unfold namesF keysA
  rw [List.length_map, sortB_len, List.length_map]
  exact h.smallN _ (List.mem_cons_self ..)
/-- The store in memory, what else stands beside it. -/
def stX (bs bd : Nat) (q : Int) (mb : Nat) (brk : Bool) (X : HP) (A : Ab) : HP := Sep [pts bs (cl (stC bd q mb brk) 92), diskA bd A, X]
theorem grow_stRemove {A B : Ab} {nm : ByteArray} {e : Nat} (h : stRemove nm A e B) : Grow1 A B := by
  have := grow_remove A (isName nm) nm
  rw [← h] at this
  exact this
set_option maxRecDepth 20000 in
set_option maxHeartbeats 1000000 in
theorem scrub_any (bs bd : Nat) (q : Int) (mb : Nat) (brk : Bool) (X : HP) (kind : List UInt8) (hk : kind.length ≤ 1000) (g : FuncId) (fi : List Value) (right : Ab → Dg → Bool) (hr : RightC g fi (stX bs bd q mb brk X) right) (A : Ab) (hst : A.states.length ≤ 900000000) :
    Ctr Tryz.prog 46 [ptr bs, .string (strOf kind), .func (.func g) fi.toArray #[] ] [stX bs bd q mb brk X A]
    (fun r H => ∃ (e : Nat) (B : Ab), r = .int .i64 (e : Int) ∧ H = [stX bs bd q mb brk X B] ∧ stScrub kind right A e B ∧ B.states.length ≤ A.states.length + 200) := by
  refine Ctr.enter Tryz.func46 (by kernel_rfl) rfl Tryz.ntmps46 rfl rfl ?_
  intro G F R hE
  refine K_ent (Ent.unsep [_, _, _] _) ?_
  refine K_diskA (bd := bd) (A := A) 1 rfl ?_
  intro hdk
  have hn200 := namesF_len hdk
  obtain ⟨l, hl⟩ : ∃ l, l = namesF A := ⟨_, rfl⟩
  have hsd : ∀ e B, Scrub kind right l A e B → stScrub kind right A e B := fun e B h => by unfold stScrub; rw [← hl]; exact h
  (refine go ?_)
  have hnm := Names_dB bd A
  rw [← hl] at hnm hn200
  (first | refine J_callE rfl rfl rfl rfl (hnm) entA ?_ (fun _ _ _ _ _ => trivial) | refine J_call0E rfl rfl rfl (hnm) entA ?_ (fun _ _ _ _ _ => trivial) | (refine go ?_; first | refine J_callE rfl rfl rfl rfl (hnm) entA ?_ (fun _ _ _ _ _ => trivial) | refine J_call0E rfl rfl rfl (hnm) entA ?_ (fun _ _ _ _ _ => trivial)))
  rintro r _ rfl
  (first | refine J_shape 0 rfl ?_ | refine K_shape 0 rfl ?_)
  rintro ra rc rfl
  refine J_slcVw 0 rfl ?_
  intro hvw
  (refine go ?_)
  refine K_loop (fun y : Nat × Ab => y.1 ≤ l.length ∧ y.2.states.length ≤ A.states.length + y.1 ∧ ∀ e B, Scrub kind right (l.drop y.1) y.2 e B → stScrub kind right A e B) (fun y => l.length - y.1)
    (fun y => [(0, ptr bs), (1, .string (strOf kind)), (2, .func (.func g) fi.toArray #[]), (16, .slice ra l.length rc), (17, .int .i64 (l.length : Int)), (18, .int .i64 (y.1 : Int))])
    (fun y => slc 9 1 (.slice ra l.length rc) l.length (l.map Value.string) :: pts bs (cl (stC bd q mb brk) 92) :: diskA bd y.2 :: X :: F) (0, A) ⟨Nat.zero_le _, by simp, hsd⟩ rfl (by repeat (first | exact keep_nil | refine keep_cons rfl ?_)) entA ?_
  rintro ⟨i, B⟩ ⟨hi, hbs, hsc⟩ ih
  simp only at hi hbs hsc
  dsimp only
  (refine go ?_)
  refine K_condP rfl rfl ?_ ?_
  · intro hlt
    have hi' : i < l.length := by omega
    obtain ⟨nm, hx⟩ : ∃ x, l[i]? = some x := ⟨l[i], by simp⟩
    have hdrop : l.drop i = nm :: l.drop (i + 1) := by
      rw [List.drop_eq_getElem_cons hi']
      congr 1
      exact (List.getElem?_eq_some_iff.1 hx).2
    rw [hdrop] at hsc
    have hcell : (l.map Value.string)[i]? = some (.string nm) := by rw [List.getElem?_map, hx]; rfl
    obtain ⟨b, o, cap', hsl⟩ := hvw.some (by intro h; rw [h] at hcell; simp at hcell)
    simp only [Value.slice.injEq] at hsl
    obtain ⟨rfl, _, rfl⟩ := hsl
    (refine go ?_)
    refine J_at (U := tab) i 1 rfl rfl rfl rfl rfl rfl rfl rfl hi' ?_
    refine J_isLoad ?_
    refine J_loadAt (U := tab) 0 (i * 1) rfl rfl rfl hvw rfl (by rw [Nat.mul_one]; exact hcell) rfl rfl ?_
    (refine go ?_)
    (first | refine J_callE rfl rfl rfl rfl (hash_any kind nm hk) entA ?_ (fun _ _ _ _ _ => trivial) | refine J_call0E rfl rfl rfl (hash_any kind nm hk) entA ?_ (fun _ _ _ _ _ => trivial) | (refine go ?_; first | refine J_callE rfl rfl rfl rfl (hash_any kind nm hk) entA ?_ (fun _ _ _ _ _ => trivial) | refine J_call0E rfl rfl rfl (hash_any kind nm hk) entA ?_ (fun _ _ _ _ _ => trivial)))
    rintro _ _ ⟨rfl, rfl⟩
    cases hh : hashN kind nm with
    | none =>
      have hsc2 : ∀ e B', Scrub kind right (l.drop (i + 1)) B e B' → stScrub kind right A e B' := fun e B' h => hsc e B' (by unfold Scrub; rw [hh]; exact h)
      simp only [hashV]
      unfold dV
      (refine go ?_)
      refine J_alloc (U := tab) rfl rfl rfl (fun _ _ _ => trivial) ?_
      intro b9
      (refine go ?_)
      refine K_again ih (i + 1, B) rfl ⟨by simp only; omega, by simp only; omega, hsc2⟩ (by simp only; omega) (by repeat (first | exact keep_nil | refine keep_cons rfl ?_)) entA
    | some d =>
      have hrc := hr B d
      simp only [hashV]
      unfold dV
      (refine go ?_)
      refine J_alloc (U := tab) rfl rfl rfl (fun _ _ _ => trivial) ?_
      intro b9
      (refine go ?_)
      refine J_loadArr (U := tab) (l := dC d) 0 rfl rfl rfl rfl rfl rfl ?_
      (refine go ?_)
      refine J_ent (Ent.trans (Ent.pick [2, 3, 4] rfl) (Ent.resep [pts bs (cl (stC bd q mb brk) 92), diskA bd B, X] _)) ?_
      refine J_callF rfl rfl rfl (by simp; rfl) hrc entA ?_ (fun _ _ _ _ _ => trivial)
      rintro _ _ ⟨rfl, rfl⟩
      refine J_ent (Ent.unsep [pts bs (cl (stC bd q mb brk) 92), diskA bd B, X] _) ?_
      cases hri : right B d with
      | true =>
        have hsc2 : ∀ e B', Scrub kind right (l.drop (i + 1)) B e B' → stScrub kind right A e B' := fun e B' h => hsc e B' (by unfold Scrub; rw [hh]; simp only; rw [if_pos hri]; exact h)
        (refine go ?_)
        refine K_again ih (i + 1, B) rfl ⟨by simp only; omega, by simp only; omega, hsc2⟩ (by simp only; omega) (by repeat (first | exact keep_nil | refine keep_cons rfl ?_)) entA
      | false =>
        have hrem := Remove_dA bd B nm (by omega)
        obtain ⟨e1, B1, hrb⟩ : ∃ e1 B1, B.remove (isName nm) nm = (e1, B1) := ⟨_, _, rfl⟩
        rw [hrb] at hrem
        have hgr := grow_stRemove (A := B) (B := B1) (nm := nm) (e := e1) hrb.symm
        have hsc2 : ∀ e B', ((e1 ≠ 0 ∧ e = e1 ∧ B' = B1) ∨ (e1 = 0 ∧ Scrub kind right (l.drop (i + 1)) B1 e B')) → stScrub kind right A e B' := fun e B' h => hsc e B' (by unfold Scrub; rw [hh]; simp only; rw [if_neg (by rw [hri]; simp)]; exact ⟨e1, B1, hrb.symm, h⟩)
        have hg1 := hgr.1
        (refine go ?_)
        (first | refine J_callE rfl rfl rfl rfl (hrem) entA ?_ (fun _ _ _ _ _ => trivial) | refine J_call0E rfl rfl rfl (hrem) entA ?_ (fun _ _ _ _ _ => trivial) | (refine go ?_; first | refine J_callE rfl rfl rfl rfl (hrem) entA ?_ (fun _ _ _ _ _ => trivial) | refine J_call0E rfl rfl rfl (hrem) entA ?_ (fun _ _ _ _ _ => trivial)))
        rintro _ _ ⟨rfl, rfl⟩
        (refine go ?_)
        refine K_condP rfl rfl ?_ ?_
        · intro hne
          have hne' : e1 ≠ 0 := by simp only at hne; omega
          (refine go ?_)
          refine K_ent (H' := stX bs bd q mb brk X B1 :: F) (Ent.trans (H2 := pts bs (cl (stC bd q mb brk) 92) :: diskA bd B1 :: X :: F) entA (Ent.resep [pts bs (cl (stC bd q mb brk) 92), diskA bd B1, X] _)) ?_
          (first | refine K_return hE Tryz.func46 rfl _ rfl ⟨e1, B1, rfl, rfl, hsc2 e1 B1 (.inl ⟨hne', rfl, rfl⟩), by omega⟩ entA | refine K_fallEnd hE Tryz.func46 rfl _ rfl ⟨e1, B1, rfl, rfl, hsc2 e1 B1 (.inl ⟨hne', rfl, rfl⟩), by omega⟩ entA)
        · intro heq
          have heq' : e1 = 0 := by simp only at heq; omega
          (refine go ?_)
          refine K_again ih (i + 1, B1) rfl ⟨by simp only; omega, by simp only; omega, fun e B' h => hsc2 e B' (.inr ⟨heq', h⟩)⟩ (by simp only; omega) (by repeat (first | exact keep_nil | refine keep_cons rfl ?_)) entA
  · intro hge
    have hie : i = l.length := by omega
    rw [hie, List.drop_length] at hsc
    (refine go ?_)
    refine K_ent (H' := stX bs bd q mb brk X B :: F) (Ent.trans (H2 := pts bs (cl (stC bd q mb brk) 92) :: diskA bd B :: X :: F) entA (Ent.resep [pts bs (cl (stC bd q mb brk) 92), diskA bd B, X] _)) ?_
    (first | refine K_return hE Tryz.func46 rfl _ rfl ⟨0, B, rfl, rfl, hsc 0 B (by unfold Scrub; exact ⟨rfl, rfl⟩), by omega⟩ entA | refine K_fallEnd hE Tryz.func46 rfl _ rfl ⟨0, B, rfl, rfl, hsc 0 B (by unfold Scrub; exact ⟨rfl, rfl⟩), by omega⟩ entA)
end Go.Proofs.YtpecmnaikjbanaaGreatDoor

/- blobs, part e: Open. -/
set_option linter.unusedVariables false
set_option linter.unusedSimpArgs false
namespace Go.Proofs.YtpecmnaikjbanaaGreatDoor
open Go Go.SL
attribute [local irreducible] J K Ctr Ends pts slc mapR mapI sbRow stock arrS loopP CtrY Sha.chunks Sha.chunk Sha.rounds Sha.sched sumL taggedL GI leafL diskA
theorem ctr_sep {P : Program} {f : FuncId} {args : List Value} {l : List HP} {p : Value → Prop} (h : Ctr P f args l (fun r H => p r ∧ H = l)) : Ctr P f args [Sep l] (fun r H => p r ∧ H = [Sep l]) :=
  h.conv (by have := Ent.unsep l []; rwa [List.append_nil] at this) (by intro v H hh; obtain ⟨hp, hH⟩ := hh; exact ⟨[Sep l], ⟨hp, rfl⟩, by rw [hH]; have := Ent.resep l []; rwa [List.append_nil] at this⟩)
theorem rightWhole (X : HP) (hK : KAt X) (bs bd : Nat) (q : Int) (mb : Nat) (brk : Bool) : RightC 47 [ptr bs] (stX bs bd q mb brk X) wholeF := fun A d => ctr_sep (p := fun r => r = .bool (wholeF A d)) (whole_any X hK bs bd q mb brk A d)
theorem rightComplete (X : HP) (hK : KAt X) (bs bd : Nat) (q : Int) (mb : Nat) (brk : Bool) : RightC 50 [ptr bs] (stX bs bd q mb brk X) completeF := fun A d => ctr_sep (p := fun r => r = .bool (completeF A d)) (complete_any X hK bs bd q mb brk A d)
theorem rightNever (Y : Ab → HP) : RightC 43 [] Y (fun _ _ => false) := fun A d => by
  show Ctr Tryz.prog 43 [dV d] [Y A] _
  unfold dV
  refine Ctr.enter Tryz.func43 (by kernel_rfl) rfl Tryz.ntmps43 rfl rfl ?_
  intro G F R hE
  refine K_regionA rfl ?_
  refine J_box rfl rfl (fun _ _ _ => trivial) ?_
  intro b1
  (refine go ?_)
  (first | refine K_return hE Tryz.func43 rfl _ rfl ⟨rfl, rfl⟩ entA | refine K_fallEnd hE Tryz.func43 rfl _ rfl ⟨rfl, rfl⟩ entA)
/-- What stands while a store is opened. -/
def opX (bs bd b6 b8 : Nat) (q : Int) (mb : Nat) (X : HP) (A : Ab) : HP := Sep [stX bs bd q mb false X A, pts b6 (cl [ptr bs] 35), pts b8 (cl [.func (.func 43) #[] #[] ] 45)]
theorem open2_any (X : HP) (hK : KAt X) (bs bd b6 b8 : Nat) (q : Int) (mb : Nat) (A : Ab) (hst : A.states.length ≤ 900000000) : Ctr Tryz.prog 45 [ptr b6] [opX bs bd b6 b8 q mb X A]
    (fun r H => ∃ (e : Nat) (B : Ab), r = .int .i64 (e : Int) ∧ H = [opX bs bd b6 b8 q mb X B] ∧ stScrub kB wholeF A e B ∧ B.states.length ≤ A.states.length + 200) := by
  refine Ctr.enter Tryz.func45 (by kernel_rfl) rfl Tryz.ntmps45 rfl rfl ?_
  intro G F R hE
  refine K_ent (Ent.unsep [_, _, _] _) ?_
  (refine go ?_)
  (first | refine J_callE rfl rfl rfl rfl (scrub_any bs bd q mb false X kB (by decide) _ [ptr bs] wholeF (rightWhole X hK bs bd q mb false) A hst) entA ?_ (fun _ _ _ _ _ => trivial) | refine J_call0E rfl rfl rfl (scrub_any bs bd q mb false X kB (by decide) _ [ptr bs] wholeF (rightWhole X hK bs bd q mb false) A hst) entA ?_ (fun _ _ _ _ _ => trivial) | (refine go ?_; first | refine J_callE rfl rfl rfl rfl (scrub_any bs bd q mb false X kB (by decide) _ [ptr bs] wholeF (rightWhole X hK bs bd q mb false) A hst) entA ?_ (fun _ _ _ _ _ => trivial) | refine J_call0E rfl rfl rfl (scrub_any bs bd q mb false X kB (by decide) _ [ptr bs] wholeF (rightWhole X hK bs bd q mb false) A hst) entA ?_ (fun _ _ _ _ _ => trivial)))
  rintro _ _ ⟨e, B, rfl, rfl, h1, h2⟩
  (refine go ?_)
  refine K_ent (Ent.resep [stX bs bd q mb false X B, _, _] _) ?_
  (first | refine K_return hE Tryz.func45 rfl _ rfl ⟨e, B, rfl, rfl, h1, h2⟩ entA | refine K_fallEnd hE Tryz.func45 rfl _ rfl ⟨e, B, rfl, rfl, h1, h2⟩ entA)
theorem open3_any (X : HP) (bs bd b6 b8 : Nat) (q : Int) (mb : Nat) (A : Ab) (hst : A.states.length ≤ 900000000) : Ctr Tryz.prog 48 [ptr b6, ptr b8] [opX bs bd b6 b8 q mb X A]
    (fun r H => ∃ (e : Nat) (B : Ab), r = .int .i64 (e : Int) ∧ H = [opX bs bd b6 b8 q mb X B] ∧ stScrub kN (fun _ _ => false) A e B ∧ B.states.length ≤ A.states.length + 200) := by
  refine Ctr.enter Tryz.func48 (by kernel_rfl) rfl Tryz.ntmps48 rfl rfl ?_
  intro G F R hE
  refine K_ent (Ent.unsep [_, _, _] _) ?_
  (refine go ?_)
  (first | refine J_callE rfl rfl rfl rfl (scrub_any bs bd q mb false X kN (by decide) _ [] (fun _ _ => false) (rightNever _) A hst) entA ?_ (fun _ _ _ _ _ => trivial) | refine J_call0E rfl rfl rfl (scrub_any bs bd q mb false X kN (by decide) _ [] (fun _ _ => false) (rightNever _) A hst) entA ?_ (fun _ _ _ _ _ => trivial) | (refine go ?_; first | refine J_callE rfl rfl rfl rfl (scrub_any bs bd q mb false X kN (by decide) _ [] (fun _ _ => false) (rightNever _) A hst) entA ?_ (fun _ _ _ _ _ => trivial) | refine J_call0E rfl rfl rfl (scrub_any bs bd q mb false X kN (by decide) _ [] (fun _ _ => false) (rightNever _) A hst) entA ?_ (fun _ _ _ _ _ => trivial)))
  rintro _ _ ⟨e, B, rfl, rfl, h1, h2⟩
  (refine go ?_)
  refine K_ent (Ent.resep [stX bs bd q mb false X B, _, _] _) ?_
  (first | refine K_return hE Tryz.func48 rfl _ rfl ⟨e, B, rfl, rfl, h1, h2⟩ entA | refine K_fallEnd hE Tryz.func48 rfl _ rfl ⟨e, B, rfl, rfl, h1, h2⟩ entA)
theorem open4_any (X : HP) (hK : KAt X) (bs bd b6 b8 : Nat) (q : Int) (mb : Nat) (A : Ab) (hst : A.states.length ≤ 900000000) : Ctr Tryz.prog 49 [ptr b6] [opX bs bd b6 b8 q mb X A]
    (fun r H => ∃ (e : Nat) (B : Ab), r = .int .i64 (e : Int) ∧ H = [opX bs bd b6 b8 q mb X B] ∧ stScrub kI completeF A e B ∧ B.states.length ≤ A.states.length + 200) := by
  refine Ctr.enter Tryz.func49 (by kernel_rfl) rfl Tryz.ntmps49 rfl rfl ?_
  intro G F R hE
  refine K_ent (Ent.unsep [_, _, _] _) ?_
  (refine go ?_)
  (first | refine J_callE rfl rfl rfl rfl (scrub_any bs bd q mb false X kI (by decide) _ [ptr bs] completeF (rightComplete X hK bs bd q mb false) A hst) entA ?_ (fun _ _ _ _ _ => trivial) | refine J_call0E rfl rfl rfl (scrub_any bs bd q mb false X kI (by decide) _ [ptr bs] completeF (rightComplete X hK bs bd q mb false) A hst) entA ?_ (fun _ _ _ _ _ => trivial) | (refine go ?_; first | refine J_callE rfl rfl rfl rfl (scrub_any bs bd q mb false X kI (by decide) _ [ptr bs] completeF (rightComplete X hK bs bd q mb false) A hst) entA ?_ (fun _ _ _ _ _ => trivial) | refine J_call0E rfl rfl rfl (scrub_any bs bd q mb false X kI (by decide) _ [ptr bs] completeF (rightComplete X hK bs bd q mb false) A hst) entA ?_ (fun _ _ _ _ _ => trivial)))
  rintro _ _ ⟨e, B, rfl, rfl, h1, h2⟩
  (refine go ?_)
  refine K_ent (Ent.resep [stX bs bd q mb false X B, _, _] _) ?_
  (first | refine K_return hE Tryz.func49 rfl _ rfl ⟨e, B, rfl, rfl, h1, h2⟩ entA | refine K_fallEnd hE Tryz.func49 rfl _ rfl ⟨e, B, rfl, rfl, h1, h2⟩ entA)
/-- The entries of what is begun. -/
def begE (l : List (Dg × Bl)) : List (Dg × Value) := l.map fun x => (x.1, blV x.2)
theorem namesF_names (A : Ab) : (namesF A).length = A.names.length := by unfold namesF keysA; rw [List.length_map, sortB_len, List.length_map]
set_option maxRecDepth 20000 in
set_option maxHeartbeats 1000000 in
theorem Open_any' (X : HP) (hK : KAt X) (bd : Nat) (q : Int) (A : Ab) (hst : A.states.length ≤ 800000000) : Ctr Tryz.prog 13 [ptr bd, .int .i64 q] [diskA bd A, X]
    (fun r H => ((q < 1 ∨ 1073741824 < q) ∧ r = .tuple #[.pointer none, .int .i64 1] ∧ H = [diskA bd A, X]) ∨ (¬ (q < 1 ∨ 1073741824 < q) ∧ A.off = true ∧ r = .tuple #[.pointer none, .int .i64 7] ∧ H = [diskA bd A, X]) ∨
      (¬ (q < 1 ∨ 1073741824 < q) ∧ A.off = false ∧ ∃ (e : Nat) (B : Ab), OpenS A e B ∧ ((e ≠ 0 ∧ r = .tuple #[.pointer none, .int .i64 (e : Int)] ∧ H = [diskA bd B, X]) ∨
        (e = 0 ∧ B.states.length ≤ A.states.length + 601 ∧ ∃ bs mb, r = .tuple #[ptr bs, .int .i64 0] ∧ H = [pts bs (cl (stC bd q mb false) 92), mapR dV mb (begE []), diskA bd B, X])))) := by
  refine Ctr.enter Tryz.func13 (by kernel_rfl) rfl Tryz.ntmps13 rfl rfl ?_
  intro G F R hE
  refine K_diskA (bd := bd) (A := A) 0 rfl ?_
  intro hdk
  repeat' (first | (with_reducible intro _hh) | refine go1 ?_ | refine J_fork ?_ ?_ | refine J_gsP rfl rfl rfl rfl ?_ ?_ | refine K_condP rfl rfl ?_ ?_ | (refine J_callE rfl rfl rfl rfl (Off_dA bd A) entA ?_ (fun _ _ _ _ _ => trivial); rintro _ _ ⟨rfl, rfl⟩))
  · (first | refine K_return hE Tryz.func13 rfl _ rfl (.inl ⟨.inl (by omega), rfl, rfl⟩) entA | refine K_fallEnd hE Tryz.func13 rfl _ rfl (.inl ⟨.inl (by omega), rfl, rfl⟩) entA)
  · (first | refine K_return hE Tryz.func13 rfl _ rfl (.inl ⟨.inr (by omega), rfl, rfl⟩) entA | refine K_fallEnd hE Tryz.func13 rfl _ rfl (.inl ⟨.inr (by omega), rfl, rfl⟩) entA)
  have hq : ¬ (q < 1 ∨ 1073741824 < q) := by omega
  cases hoff : A.off with
  | true =>
    (refine go ?_)
    (first | refine K_return hE Tryz.func13 rfl _ rfl (.inr (.inl ⟨hq, hoff, rfl, rfl⟩)) entA | refine K_fallEnd hE Tryz.func13 rfl _ rfl (.inr (.inl ⟨hq, hoff, rfl, rfl⟩)) entA)
  | false =>
    rw [hoff] at hE
    (refine go ?_)
    refine J_makeMap rfl (fun _ _ _ => trivial) ?_
    intro mb
    refine J_ent (Ent.fold (B := [_]) (A := mapR dV mb (begE [])) (fun h hs => ⟨h, sub.refl h, mapR_new dV mb h (Sep_one hs)⟩)) ?_
    (refine go ?_)
    refine J_box rfl rfl (fun _ _ _ => trivial) ?_
    intro bs
    refine J_alloc (U := tab) rfl rfl rfl (fun _ _ _ => trivial) ?_
    intro b6
    (refine go ?_)
    (first | refine J_callE rfl rfl rfl rfl (Names_dB bd A) entA ?_ (fun _ _ _ _ _ => trivial) | refine J_call0E rfl rfl rfl (Names_dB bd A) entA ?_ (fun _ _ _ _ _ => trivial) | (refine go ?_; first | refine J_callE rfl rfl rfl rfl (Names_dB bd A) entA ?_ (fun _ _ _ _ _ => trivial) | refine J_call0E rfl rfl rfl (Names_dB bd A) entA ?_ (fun _ _ _ _ _ => trivial)))
    rintro r _ rfl
    (first | refine J_shape 0 rfl ?_ | refine K_shape 0 rfl ?_)
    rintro ra rc rfl
    (refine go ?_)
    refine J_alloc (U := tab) rfl rfl rfl (fun _ _ _ => trivial) ?_
    intro b8
    (refine go ?_)
    refine J_buildSlice1 (U := tab) (cs := [.func (.func 45) #[] #[ptr b6], .func (.func 48) #[] #[ptr b6, ptr b8], .func (.func 49) #[] #[ptr b6] ]) rfl rfl rfl rfl rfl rfl rfl rfl rfl (fun _ _ _ => trivial) ?_
    intro row
    refine J_ent (H' := pts row (cl [.func (.func 45) #[] #[ptr b6], .func (.func 48) #[] #[ptr b6, ptr b8], .func (.func 49) #[] #[ptr b6] ] 95) :: opX bs bd b6 b8 q mb X A :: mapR dV mb (begE []) :: F) (Ent.trans (H2 := pts bs (cl (stC bd q mb false) 92) :: diskA bd A :: X :: pts b6 (cl [ptr bs] 35) :: pts b8 (cl [.func (.func 43) #[] #[] ] 45) :: pts row (cl [.func (.func 45) #[] #[ptr b6], .func (.func 48) #[] #[ptr b6, ptr b8], .func (.func 49) #[] #[ptr b6] ] 95) :: mapR dV mb (begE []) :: F) entA (Ent.trans (Ent.resep [pts bs (cl (stC bd q mb false) 92), diskA bd A, X] _) (Ent.trans (Ent.resep [stX bs bd q mb false X A, pts b6 (cl [ptr bs] 35), pts b8 (cl [.func (.func 43) #[] #[] ] 45)] _) entA))) ?_
    have hst1 : ∀ (i : Nat) (fv : Value) (sp : Ab → Nat → Ab → Prop), [.func (.func 45) #[] #[ptr b6], .func (.func 48) #[] #[ptr b6, ptr b8], .func (.func 49) #[] #[ptr b6] ][i]? = some fv → [stScrub kB wholeF, stScrub kN (fun _ _ => false), stScrub kI completeF][i]? = some sp → ∃ g fi cap, fv = .func (.func g) fi cap ∧ ∀ x : Ab, x.states.length ≤ A.states.length + 200 * i → Ctr Tryz.prog g (fi.toList ++ cap.toList) [opX bs bd b6 b8 q mb X x] (fun r H => ∃ (e : Nat) (x' : Ab), r = .int .i64 (e : Int) ∧ H = [opX bs bd b6 b8 q mb X x'] ∧ sp x e x' ∧ (e = 0 → x'.states.length ≤ A.states.length + 200 * (i + 1))) := by
      intro i fv sp hi hs
      match i, hi, hs with
      | 0, hi, hs =>
        cases hi; cases hs
        refine ⟨_, _, _, rfl, fun x hx => (open2_any X hK bs bd b6 b8 q mb x (by omega)).post ?_⟩
        rintro r H ⟨e, B, rfl, rfl, h1, h2⟩
        exact ⟨e, B, rfl, rfl, h1, fun _ => by omega⟩
      | 1, hi, hs =>
        cases hi; cases hs
        refine ⟨_, _, _, rfl, fun x hx => (open3_any X bs bd b6 b8 q mb x (by omega)).post ?_⟩
        rintro r H ⟨e, B, rfl, rfl, h1, h2⟩
        exact ⟨e, B, rfl, rfl, h1, fun _ => by omega⟩
      | 2, hi, hs =>
        cases hi; cases hs
        refine ⟨_, _, _, rfl, fun x hx => (open4_any X hK bs bd b6 b8 q mb x (by omega)).post ?_⟩
        rintro r H ⟨e, B, rfl, rfl, h1, h2⟩
        exact ⟨e, B, rfl, rfl, h1, fun _ => by omega⟩
      | k + 3, hi, hs => simp at hi
    have hall := all_any (opX bs bd b6 b8 q mb X) (pts row (cl [.func (.func 45) #[] #[ptr b6], .func (.func 48) #[] #[ptr b6, ptr b8], .func (.func 49) #[] #[ptr b6] ] 95)) (.slice (some ⟨row, 0, none⟩) 3 3) [.func (.func 45) #[] #[ptr b6], .func (.func 48) #[] #[ptr b6, ptr b8], .func (.func 49) #[] #[ptr b6] ] (Vw.pts rfl) (by show 3 ≤ _; omega) [stScrub kB wholeF, stScrub kN (fun _ _ => false), stScrub kI completeF] rfl (fun i x => x.states.length ≤ A.states.length + 200 * i) hst1 A (by simp)
    (first | refine J_callE rfl rfl rfl rfl (hall) entA ?_ (fun _ _ _ _ _ => trivial) | refine J_call0E rfl rfl rfl (hall) entA ?_ (fun _ _ _ _ _ => trivial) | (refine go ?_; first | refine J_callE rfl rfl rfl rfl (hall) entA ?_ (fun _ _ _ _ _ => trivial) | refine J_call0E rfl rfl rfl (hall) entA ?_ (fun _ _ _ _ _ => trivial)))
    rintro _ _ ⟨e, B, rfl, rfl, hruns, hb⟩
    refine J_ent (H' := pts bs (cl (stC bd q mb false) 92) :: diskA bd B :: X :: pts b6 (cl [ptr bs] 35) :: mapR dV mb (begE []) :: F) (Ent.trans (H2 := opX bs bd b6 b8 q mb X B :: mapR dV mb (begE []) :: F) entA (Ent.trans (Ent.unsep [stX bs bd q mb false X B, pts b6 (cl [ptr bs] 35), pts b8 (cl [.func (.func 43) #[] #[] ] 45)] _) (Ent.trans (Ent.unsep [pts bs (cl (stC bd q mb false) 92), diskA bd B, X] _) entA))) ?_
    by_cases he : e = 0
    · subst he
      have hb' := hb rfl
      simp only [List.length_cons, List.length_nil] at hb'
      (refine go ?_)
      (first | refine J_callE rfl rfl rfl rfl (Names_dB bd B) entA ?_ (fun _ _ _ _ _ => trivial) | refine J_call0E rfl rfl rfl (Names_dB bd B) entA ?_ (fun _ _ _ _ _ => trivial) | (refine go ?_; first | refine J_callE rfl rfl rfl rfl (Names_dB bd B) entA ?_ (fun _ _ _ _ _ => trivial) | refine J_call0E rfl rfl rfl (Names_dB bd B) entA ?_ (fun _ _ _ _ _ => trivial)))
      rintro r2 _ rfl
      (first | refine J_shape 0 rfl ?_ | refine K_shape 0 rfl ?_)
      rintro ra2 rc2 rfl
      (refine go ?_)
      refine K_condP rfl rfl ?_ ?_
      · intro hlt
        have hlt' : B.names.length < A.names.length := by
          have := namesF_names A
          have := namesF_names B
          omega
        have hsn := SyncNames_dA bd B
        obtain ⟨e2, B2, hse⟩ : ∃ e2 B2, B.syncNames = (e2, B2) := ⟨_, _, rfl⟩
        rw [hse] at hsn
        have hopen : OpenS A e2 B2 := ⟨0, B, hruns, by rw [if_pos ⟨rfl, hlt'⟩]; exact hse.symm⟩
        (refine go ?_)
        (first | refine J_callE rfl rfl rfl rfl (hsn) entA ?_ (fun _ _ _ _ _ => trivial) | refine J_call0E rfl rfl rfl (hsn) entA ?_ (fun _ _ _ _ _ => trivial) | (refine go ?_; first | refine J_callE rfl rfl rfl rfl (hsn) entA ?_ (fun _ _ _ _ _ => trivial) | refine J_call0E rfl rfl rfl (hsn) entA ?_ (fun _ _ _ _ _ => trivial)))
        rintro _ _ ⟨rfl, rfl⟩
        (refine go ?_)
        refine K_condP rfl rfl ?_ ?_
        · intro hne
          have hne' : e2 ≠ 0 := by simp only at hne; omega
          (refine go ?_)
          (first | refine K_return hE Tryz.func13 rfl _ rfl (.inr (.inr ⟨hq, rfl, e2, B2, hopen, .inl ⟨hne', rfl, rfl⟩⟩)) entA | refine K_fallEnd hE Tryz.func13 rfl _ rfl (.inr (.inr ⟨hq, rfl, e2, B2, hopen, .inl ⟨hne', rfl, rfl⟩⟩)) entA)
        · intro heq
          have heq' : e2 = 0 := by simp only at heq; omega
          subst heq'
          have hg : B2.states.length ≤ B.states.length + 1 := by
            have h1 : B2 = B.syncNames.2 := by rw [hse]
            rw [h1]
            exact (grow_syncNames B).1
          (refine go ?_)
          refine K_ent (H' := pts bs (cl (stC bd q mb false) 92) :: mapR dV mb (begE []) :: diskA bd B2 :: X :: F) entA ?_
          (first | refine K_return hE Tryz.func13 rfl _ rfl (.inr (.inr ⟨hq, rfl, 0, B2, hopen, .inr ⟨rfl, by omega, bs, mb, rfl, rfl⟩⟩)) entA | refine K_fallEnd hE Tryz.func13 rfl _ rfl (.inr (.inr ⟨hq, rfl, 0, B2, hopen, .inr ⟨rfl, by omega, bs, mb, rfl, rfl⟩⟩)) entA)
      · intro hge
        have hlt' : ¬ B.names.length < A.names.length := by
          have := namesF_names A
          have := namesF_names B
          omega
        have hopen : OpenS A 0 B := ⟨0, B, hruns, by rw [if_neg (by omega)]; exact ⟨rfl, rfl⟩⟩
        (refine go ?_)
        refine K_ent (H' := pts bs (cl (stC bd q mb false) 92) :: mapR dV mb (begE []) :: diskA bd B :: X :: F) entA ?_
        (first | refine K_return hE Tryz.func13 rfl _ rfl (.inr (.inr ⟨hq, rfl, 0, B, hopen, .inr ⟨rfl, by omega, bs, mb, rfl, rfl⟩⟩)) entA | refine K_fallEnd hE Tryz.func13 rfl _ rfl (.inr (.inr ⟨hq, rfl, 0, B, hopen, .inr ⟨rfl, by omega, bs, mb, rfl, rfl⟩⟩)) entA)
    · have hopen : OpenS A e B := ⟨e, B, hruns, by rw [if_neg (by omega)]; exact ⟨rfl, rfl⟩⟩
      (refine go ?_)
      have hd : decide ((e : Int) = 0) = false := by simp; exact he
      rw [hd]
      (refine go ?_)
      refine K_condP rfl rfl ?_ ?_
      · intro _
        (refine go ?_)
        refine K_ent (H' := diskA bd B :: X :: F) entA ?_
        (first | refine K_return hE Tryz.func13 rfl _ rfl (.inr (.inr ⟨hq, rfl, e, B, hopen, .inl ⟨he, rfl, rfl⟩⟩)) entA | refine K_fallEnd hE Tryz.func13 rfl _ rfl (.inr (.inr ⟨hq, rfl, e, B, hopen, .inl ⟨he, rfl, rfl⟩⟩)) entA)
      · intro h0
        exact absurd (by omega : e = 0) he
end Go.Proofs.YtpecmnaikjbanaaGreatDoor

/- blobs, part f: has, open, may, change. -/
set_option linter.unusedVariables false
set_option linter.unusedSimpArgs false
namespace Go.Proofs.YtpecmnaikjbanaaGreatDoor
open Go Go.SL
attribute [local irreducible] J K Ctr Ends pts slc mapR mapI sbRow stock arrS loopP CtrY Sha.chunks Sha.chunk Sha.rounds Sha.sched sumL taggedL GI leafL diskA
section
variable {P : Program} {U : Tr} [hU : TabOk P U] {f : FuncId} {n : Nat} {R : Ending → World → Prop} {G : Glob} {k : List Item} {L : Lst} {H H' : List HP} {all : Array Oper} {rest : Pl}
  {ty : TypeId} {pos : String} {af : Array Edge} {gd : Option (Nat × Bool)} {d : Tmp}
theorem J_loadAggS {Hs : List HP} {t : TypeId} {x : Operand} {b off : Nat} {ty' : Ty} {l : List Value} {e : TypeId} {cs : List Value} (i : Nat) (hd : Nat.blt d n = true)
    (hx : ev L x = some (.pointer (some ⟨b, off, none⟩))) (hi : getL Hs i = some (pts b (cl l e))) (ht : U.get t = some ty') (hg : ty'.isAgg = true) (hv : takeE l off ty'.info.size [] = .mk cs)
    (h : J P f n R G (fun w => Sat G w Hs) all rest k ((d, .agg cs.toArray) :: L) H) : J P f n R G (fun w => Sat G w Hs) all (.cons true true ⟨some d, .load t x, ty, pos, af, gd⟩ rest) k L H :=
  J_readS hd (fun a w ha hw => by
    obtain ⟨h1, h2⟩ := takeE_eq _ _ _ _ _ hv
    simp only [List.reverse_nil, List.nil_append] at h1
    have hc : ∀ j v, cs[j]? = some v → w.cell? ⟨b, off + j, none⟩ = some v := fun j v hj => by
      rw [cell_of_block (Sat.getP hw hi)]
      rw [h1, List.getElem?_take] at hj
      split at hj
      · simpa using hj
      · cases hj
    have := run_loadAgg (P := P) ht hg (by rw [h1]; simp; omega) hc
    simp [execOp, ha.ev hx, this]) h
end
theorem Has_any (bs bd : Nat) (q : Int) (mb : Nat) (brk : Bool) (A : Ab) (d : Dg) : Ctr Tryz.prog 20 [ptr bs, dV d] [pts bs (cl (stC bd q mb brk) 92), diskA bd A]
    (fun r H => r = .bool (hasF A (fileN kB d)) ∧ H = [pts bs (cl (stC bd q mb brk) 92), diskA bd A]) := by
  have hf := file_any kB d (by decide)
  unfold dV at hf ⊢
  refine Ctr.enter Tryz.func20 (by kernel_rfl) rfl Tryz.ntmps20 rfl rfl ?_
  intro G F R hE
  refine K_regionA rfl ?_
  refine J_box rfl rfl (fun _ _ _ => trivial) ?_
  intro b3
  (refine go ?_)
  refine J_loadArr (U := tab) (l := dC d) 0 rfl rfl rfl rfl rfl rfl ?_
  (first | refine J_callE rfl rfl rfl rfl (hf) entA ?_ (fun _ _ _ _ _ => trivial) | refine J_call0E rfl rfl rfl (hf) entA ?_ (fun _ _ _ _ _ => trivial) | (refine go ?_; first | refine J_callE rfl rfl rfl rfl (hf) entA ?_ (fun _ _ _ _ _ => trivial) | refine J_call0E rfl rfl rfl (hf) entA ?_ (fun _ _ _ _ _ => trivial)))
  rintro _ _ ⟨rfl, rfl⟩
  (first | refine J_callE rfl rfl rfl rfl (is_any bs bd q mb brk A (fileN kB d)) entA ?_ (fun _ _ _ _ _ => trivial) | refine J_call0E rfl rfl rfl (is_any bs bd q mb brk A (fileN kB d)) entA ?_ (fun _ _ _ _ _ => trivial) | (refine go ?_; first | refine J_callE rfl rfl rfl rfl (is_any bs bd q mb brk A (fileN kB d)) entA ?_ (fun _ _ _ _ _ => trivial) | refine J_call0E rfl rfl rfl (is_any bs bd q mb brk A (fileN kB d)) entA ?_ (fun _ _ _ _ _ => trivial)))
  rintro _ _ ⟨rfl, rfl⟩
  (refine go ?_)
  (first | refine K_return hE Tryz.func20 rfl _ rfl ⟨rfl, rfl⟩ entA | refine K_fallEnd hE Tryz.func20 rfl _ rfl ⟨rfl, rfl⟩ entA)
def openL (l : List (Dg × Bl)) (x : Bl) : Bool := decide (begL l x.d = some x)
theorem begE_look (l : List (Dg × Bl)) (d : Dg) : alook (begE l) d = (begL l d).map blV := by
  unfold begE begL alook
  induction l with
  | nil => rfl
  | cons y l ih =>
    simp only [List.map_cons, List.find?_cons]
    by_cases h : y.1 = d
    · simp [h]
    · simp only [h, decide_false]
      exact ih
set_option maxRecDepth 20000 in
theorem open_any (bs bd : Nat) (q : Int) (mb : Nat) (brk : Bool) (l : List (Dg × Bl)) (x : Bl) : Ctr Tryz.prog 102 [ptr bs, blV x] [pts bs (cl (stC bd q mb brk) 92), mapR dV mb (begE l)]
    (fun r H => r = .bool (openL l x) ∧ H = [pts bs (cl (stC bd q mb brk) 92), mapR dV mb (begE l)]) := by
  unfold blV
  refine Ctr.enter Tryz.func102 (by kernel_rfl) rfl Tryz.ntmps102 rfl rfl ?_
  intro G F R hE
  refine K_regionA rfl ?_
  refine J_box rfl rfl (fun _ _ _ => trivial) ?_
  intro b3
  (refine go ?_)
  refine K_drawA (fun w => Sat G w ([pts b3 (cl (blC x) 32), pts bs (cl (stC bd q mb brk) 92), mapR dV mb (begE l)])) (.st 0 (.st 1 (.st 2 (.st 3 (.st 4 (.st 5 (.st 6 (.st 7 (.st 8 (.st 9 (.act 10 (.act 11 (.st 12 .nil))))))))))))) rfl (by kernel_rfl) (by kernel_rfl) (by kernel_rfl) (fun w hw => hw.ent entA) ?_
  (refine go ?_)
  refine J_loadAggS (U := tab) 0 rfl rfl rfl rfl rfl rfl ?_
  (refine go ?_)
  refine J_lookupOkS (U := tab) (es := begE l) (key := x.d) rfl kDg rfl rfl rfl rfl rfl rfl rfl (fun w hw => hw.getMap (i := 2) rfl) ?_
  rw [begE_look]
  cases hb : begL l x.d with
  | none =>
    simp only [Option.map_none, Option.getD_none, Option.isSome_none]
    (refine go ?_)
    refine J_alloc (U := tab) rfl rfl rfl (fun _ w hw => hw.ent entA) ?_
    intro b5
    (refine go ?_)
    (refine J_isStore ?_; first | refine J_store (U := tab) 0 (fun w hw => hw.ent entA) rfl rfl rfl rfl rfl rfl rfl rfl rfl ?_ | refine J_store (U := tab) 1 (fun w hw => hw.ent entA) rfl rfl rfl rfl rfl rfl rfl rfl rfl ?_ | refine J_store (U := tab) 2 (fun w hw => hw.ent entA) rfl rfl rfl rfl rfl rfl rfl rfl rfl ?_ | refine J_store (U := tab) 3 (fun w hw => hw.ent entA) rfl rfl rfl rfl rfl rfl rfl rfl rfl ?_ | refine J_store (U := tab) 4 (fun w hw => hw.ent entA) rfl rfl rfl rfl rfl rfl rfl rfl rfl ?_ | refine J_store (U := tab) 5 (fun w hw => hw.ent entA) rfl rfl rfl rfl rfl rfl rfl rfl rfl ?_ | refine J_store (U := tab) 6 (fun w hw => hw.ent entA) rfl rfl rfl rfl rfl rfl rfl rfl rfl ?_ | refine J_store (U := tab) 7 (fun w hw => hw.ent entA) rfl rfl rfl rfl rfl rfl rfl rfl rfl ?_ | refine J_store (U := tab) 8 (fun w hw => hw.ent entA) rfl rfl rfl rfl rfl rfl rfl rfl rfl ?_)
    (refine go ?_)
    have hw : openL l x = false := by unfold openL; rw [hb]; rfl
    rw [hw] at hE
    (first | refine K_return hE Tryz.func102 rfl _ rfl ⟨rfl, rfl⟩ entA | refine K_fallEnd hE Tryz.func102 rfl _ rfl ⟨rfl, rfl⟩ entA)
  | some y =>
    simp only [Option.map_some, Option.getD_some, Option.isSome_some]
    unfold blV
    (refine go ?_)
    refine J_alloc (U := tab) rfl rfl rfl (fun _ w hw => hw.ent entA) ?_
    intro b5
    (refine go ?_)
    (refine J_isStore ?_; first | refine J_store (U := tab) 0 (fun w hw => hw.ent entA) rfl rfl rfl rfl rfl rfl rfl rfl rfl ?_ | refine J_store (U := tab) 1 (fun w hw => hw.ent entA) rfl rfl rfl rfl rfl rfl rfl rfl rfl ?_ | refine J_store (U := tab) 2 (fun w hw => hw.ent entA) rfl rfl rfl rfl rfl rfl rfl rfl rfl ?_ | refine J_store (U := tab) 3 (fun w hw => hw.ent entA) rfl rfl rfl rfl rfl rfl rfl rfl rfl ?_ | refine J_store (U := tab) 4 (fun w hw => hw.ent entA) rfl rfl rfl rfl rfl rfl rfl rfl rfl ?_ | refine J_store (U := tab) 5 (fun w hw => hw.ent entA) rfl rfl rfl rfl rfl rfl rfl rfl rfl ?_ | refine J_store (U := tab) 6 (fun w hw => hw.ent entA) rfl rfl rfl rfl rfl rfl rfl rfl rfl ?_ | refine J_store (U := tab) 7 (fun w hw => hw.ent entA) rfl rfl rfl rfl rfl rfl rfl rfl rfl ?_ | refine J_store (U := tab) 8 (fun w hw => hw.ent entA) rfl rfl rfl rfl rfl rfl rfl rfl rfl ?_)
    (refine go ?_)
    have hw : openL l x = decide (x = y) := by unfold openL; rw [hb]; simp only [Option.some.injEq]; rw [decide_eq_decide]; exact eq_comm
    rw [hw] at hE
    (repeat (first | refine go1 ?_ | refine J_fork ?_ ?_ | refine J_loadArr (U := tab) (l := blC x) 1 rfl rfl rfl rfl rfl rfl ?_ | refine J_loadArr (U := tab) (l := blC y) 0 rfl rfl rfl rfl rfl rfl ?_ | refine J_eqAgg (b := decide (x = y)) rfl rfl rfl guBl (fun w => eqBl x y w) ?_))
    (first | refine K_return hE Tryz.func102 rfl _ rfl ⟨rfl, rfl⟩ entA | refine K_fallEnd hE Tryz.func102 rfl _ rfl ⟨rfl, rfl⟩ entA)
def mayL (brk : Bool) (l : List (Dg × Bl)) (x : Bl) : Nat := if brk then 10 else if openL l x then 0 else 4
set_option maxRecDepth 20000 in
theorem may_any (bs bd : Nat) (q : Int) (mb : Nat) (brk : Bool) (l : List (Dg × Bl)) (x : Bl) : Ctr Tryz.prog 59 [ptr bs, blV x] [pts bs (cl (stC bd q mb brk) 92), mapR dV mb (begE l)]
    (fun r H => r = .int .i64 (mayL brk l x : Int) ∧ H = [pts bs (cl (stC bd q mb brk) 92), mapR dV mb (begE l)]) := by
  have ho := open_any bs bd q mb brk l x
  unfold blV at ho ⊢
  refine Ctr.enter Tryz.func59 (by kernel_rfl) rfl Tryz.ntmps59 rfl rfl ?_
  intro G F R hE
  refine K_regionA rfl ?_
  refine J_box rfl rfl (fun _ _ _ => trivial) ?_
  intro b3
  cases brk with
  | true =>
    (refine go ?_)
    (first | refine K_return hE Tryz.func59 rfl _ rfl ⟨rfl, rfl⟩ entA | refine K_fallEnd hE Tryz.func59 rfl _ rfl ⟨rfl, rfl⟩ entA)
  | false =>
    (refine go ?_)
    refine J_loadArr (U := tab) (l := blC x) 0 rfl rfl rfl rfl rfl rfl ?_
    (first | refine J_callE rfl rfl rfl rfl (ho) entA ?_ (fun _ _ _ _ _ => trivial) | refine J_call0E rfl rfl rfl (ho) entA ?_ (fun _ _ _ _ _ => trivial) | (refine go ?_; first | refine J_callE rfl rfl rfl rfl (ho) entA ?_ (fun _ _ _ _ _ => trivial) | refine J_call0E rfl rfl rfl (ho) entA ?_ (fun _ _ _ _ _ => trivial)))
    rintro _ _ ⟨rfl, rfl⟩
    cases hob : openL l x with
    | true =>
      have hm : mayL false l x = 0 := by unfold mayL; rw [hob]; rfl
      rw [hm] at hE
      (refine go ?_)
      (first | refine K_return hE Tryz.func59 rfl _ rfl ⟨rfl, rfl⟩ entA | refine K_fallEnd hE Tryz.func59 rfl _ rfl ⟨rfl, rfl⟩ entA)
    | false =>
      have hm : mayL false l x = 4 := by unfold mayL; rw [hob]; rfl
      rw [hm] at hE
      (refine go ?_)
      (first | refine K_return hE Tryz.func59 rfl _ rfl ⟨rfl, rfl⟩ entA | refine K_fallEnd hE Tryz.func59 rfl _ rfl ⟨rfl, rfl⟩ entA)
/-- Steps that change files, done by a store: its flag says whether one failed. -/
theorem changeS_any (bs bd : Nat) (q : Int) (mb : Nat) (brk : Bool) (Y : HP) (V : HP) (v : Value) (fvs : List Value) (hv : Vw V v fvs.length fvs) (hn : fvs.length ≤ 1000000000) (ss : List Stp) (hlen : ss.length = fvs.length) (Q : Nat → Ab → Prop)
    (hst : ∀ (i : Nat) (fv : Value) (s : Stp), fvs[i]? = some fv → ss[i]? = some s → ∃ g fi cap, fv = .func (.func g) fi cap ∧ ∀ x, Q i x → Ctr Tryz.prog g (fi.toList ++ cap.toList) [stX bs bd q mb brk Y x] (fun r H => ∃ (e : Nat) (x' : Ab), r = .int .i64 (e : Int) ∧ H = [stX bs bd q mb brk Y x'] ∧ s x e x' ∧ (e = 0 → Q (i + 1) x')))
    (A : Ab) (hQ : Q 0 A) :
    Ctr Tryz.prog 55 [ptr bs, v] [V, stX bs bd q mb brk Y A]
      (fun r H => ∃ (e : Nat) (B : Ab), r = .int .i64 (e : Int) ∧ H = [V, stX bs bd q mb (brk || decide (e ≠ 0)) Y B] ∧ Runs ss A e B ∧ (e = 0 → Q fvs.length B)) := by
  have hall := all_any (stX bs bd q mb brk Y) V v fvs hv hn ss hlen Q hst A hQ
  obtain ⟨a, c, rfl⟩ := hv.shape
  refine Ctr.enter Tryz.func55 (by kernel_rfl) rfl Tryz.ntmps55 rfl rfl ?_
  intro G F R hE
  (refine go ?_)
  (first | refine J_callE rfl rfl rfl rfl (hall) entA ?_ (fun _ _ _ _ _ => trivial) | refine J_call0E rfl rfl rfl (hall) entA ?_ (fun _ _ _ _ _ => trivial) | (refine go ?_; first | refine J_callE rfl rfl rfl rfl (hall) entA ?_ (fun _ _ _ _ _ => trivial) | refine J_call0E rfl rfl rfl (hall) entA ?_ (fun _ _ _ _ _ => trivial)))
  rintro _ _ ⟨e, B, rfl, rfl, hruns, hb⟩
  refine J_ent (Ent.trans (Ent.pick [1] rfl) (Ent.unsep [pts bs (cl (stC bd q mb brk) 92), diskA bd B, Y] _)) ?_
  have hcl : Ent (pts bs (cl (stC bd q mb (brk || decide (e ≠ 0))) 92) :: diskA bd B :: Y :: V :: F) (V :: stX bs bd q mb (brk || decide (e ≠ 0)) Y B :: F) :=
    Ent.trans (Ent.resep [pts bs (cl (stC bd q mb (brk || decide (e ≠ 0))) 92), diskA bd B, Y] _) entA
  cases brk with
  | true =>
    (refine go ?_)
    refine K_ent (Ent.trans entA hcl) ?_
    (first | refine K_return hE Tryz.func55 rfl _ rfl ⟨e, B, rfl, rfl, hruns, hb⟩ entA | refine K_fallEnd hE Tryz.func55 rfl _ rfl ⟨e, B, rfl, rfl, hruns, hb⟩ entA)
  | false =>
    (refine go ?_)
    have hbe : decide ((e : Int) ≠ 0) = (false || decide (e ≠ 0)) := by by_cases h : e = 0 <;> simp [h]
    rw [hbe]
    refine K_ent (Ent.trans entA hcl) ?_
    (first | refine K_return hE Tryz.func55 rfl _ rfl ⟨e, B, rfl, rfl, hruns, hb⟩ entA | refine K_fallEnd hE Tryz.func55 rfl _ rfl ⟨e, B, rfl, rfl, hruns, hb⟩ entA)
end Go.Proofs.YtpecmnaikjbanaaGreatDoor

/- blobs, part g: the steps that a store's changes take. -/
set_option linter.unusedVariables false
set_option linter.unusedSimpArgs false
namespace Go.Proofs.YtpecmnaikjbanaaGreatDoor
open Go Go.SL
theorem ctr_frame {P : Program} {f : FuncId} {args : List Value} {Pre : List HP} {Post : Value → List HP → Prop} (X : List HP) (c : Ctr P f args Pre Post) : Ctr P f args (Pre ++ X) (fun v H => ∃ H', Post v H' ∧ H = H' ++ X) :=
  ⟨c.1, fun G w F hw => (c.2 G w (X ++ F) (by rw [List.append_assoc] at hw; exact hw)).mono fun e w' h' => let ⟨v, H, he, hpo, hs⟩ := h'; ⟨v, H ++ X, he, ⟨H, hpo, rfl⟩, by rw [List.append_assoc]; exact hs⟩⟩
attribute [local irreducible] J K Ctr Ends pts slc mapR mapI sbRow stock arrS loopP CtrY Sha.chunks Sha.chunk Sha.rounds Sha.sched sumL taggedL GI leafL diskA
theorem stX_out (bs bd : Nat) (q : Int) (mb : Nat) (brk : Bool) (Xs : List HP) (A : Ab) (F : List HP) : Ent (stX bs bd q mb brk (Sep Xs) A :: F) (pts bs (cl (stC bd q mb brk) 92) :: diskA bd A :: (Xs ++ F)) :=
  Ent.trans (Ent.unsep [pts bs (cl (stC bd q mb brk) 92), diskA bd A, Sep Xs] F) (Ent.cons _ (Ent.cons _ (Ent.unsep Xs F)))
theorem stX_in (bs bd : Nat) (q : Int) (mb : Nat) (brk : Bool) (Xs : List HP) (A : Ab) (F : List HP) : Ent (pts bs (cl (stC bd q mb brk) 92) :: diskA bd A :: (Xs ++ F)) (stX bs bd q mb brk (Sep Xs) A :: F) :=
  Ent.trans (Ent.cons _ (Ent.cons _ (Ent.resep Xs F))) (Ent.resep [pts bs (cl (stC bd q mb brk) 92), diskA bd A, Sep Xs] F)
theorem ctr_stX {f : FuncId} {args : List Value} {bs bd : Nat} {q : Int} {mb : Nat} {brk : Bool} {Xs : List HP} {A : Ab} {p : Nat → Ab → Prop}
    (h : Ctr Tryz.prog f args (pts bs (cl (stC bd q mb brk) 92) :: diskA bd A :: Xs) (fun r H => ∃ (e : Nat) (B : Ab), r = .int .i64 (e : Int) ∧ H = pts bs (cl (stC bd q mb brk) 92) :: diskA bd B :: Xs ∧ p e B)) :
    Ctr Tryz.prog f args [stX bs bd q mb brk (Sep Xs) A] (fun r H => ∃ (e : Nat) (B : Ab), r = .int .i64 (e : Int) ∧ H = [stX bs bd q mb brk (Sep Xs) B] ∧ p e B) :=
  h.conv (by have := stX_out bs bd q mb brk Xs A []; rwa [List.append_nil] at this) (by
    rintro v H ⟨e, B, rfl, rfl, hp⟩
    exact ⟨_, ⟨e, B, rfl, rfl, hp⟩, by have := stX_in bs bd q mb brk Xs B []; rwa [List.append_nil] at this⟩)
theorem fS_any (x : Bl) : Ctr Tryz.prog 53 [.string (strOf kS), .agg (dC x.d).toArray] [] (fun r H => r = .string (fS x) ∧ H = []) := by
  have := file_any kS x.d (by decide)
  unfold dV at this
  exact this
theorem abort1_any (bs bd b2 b3 : Nat) (q : Int) (mb : Nat) (brk : Bool) (x : Bl) (A : Ab) (hst : A.states.length ≤ 1000000000) :
    Ctr Tryz.prog 68 [ptr b2, ptr b3] (pts bs (cl (stC bd q mb brk) 92) :: diskA bd A :: [pts b2 (cl [ptr bs] 35), pts b3 (cl (blC x) 32)])
      (fun r H => ∃ (e : Nat) (B : Ab), r = .int .i64 (e : Int) ∧ H = pts bs (cl (stC bd q mb brk) 92) :: diskA bd B :: [pts b2 (cl [ptr bs] 35), pts b3 (cl (blC x) 32)] ∧ stRemove (fS x) A e B) := by
  refine Ctr.enter Tryz.func68 (by kernel_rfl) rfl Tryz.ntmps68 rfl rfl ?_
  intro G F R hE
  (refine go ?_)
  refine K_drawA (fun w => Sat G w ([pts bs (cl (stC bd q mb brk) 92), pts b2 (cl [ptr bs] 35), pts b3 (cl (blC x) 32)])) (.st 0 (.st 1 (.st 2 (.st 3 (.st 4 (.st 5 (.act 6 (.act 7 (.st 8 .nil))))))))) rfl (by kernel_rfl) (by kernel_rfl) (by kernel_rfl) (fun w hw => hw.ent entA) ?_
  (refine go ?_)
  refine J_loadAggS (U := tab) 2 rfl rfl rfl rfl rfl rfl ?_
  (refine go ?_)
  (first | refine J_callE rfl rfl rfl rfl (fS_any x) entA ?_ (fun _ _ w hp hw => by obtain ⟨rfl, rfl⟩ := hp; exact hw.ent entA) | refine J_call0E rfl rfl rfl (fS_any x) entA ?_ (fun _ _ w hp hw => by obtain ⟨rfl, rfl⟩ := hp; exact hw.ent entA))
  rintro _ _ ⟨rfl, rfl⟩
  (refine go ?_)
  (first | refine J_callE rfl rfl rfl rfl (Remove_dA bd A (fS x) hst) entA ?_ (fun _ _ w hp hw => by obtain ⟨rfl, rfl⟩ := hp; exact hw.ent entA) | refine J_call0E rfl rfl rfl (Remove_dA bd A (fS x) hst) entA ?_ (fun _ _ w hp hw => by obtain ⟨rfl, rfl⟩ := hp; exact hw.ent entA))
  rintro _ _ ⟨rfl, rfl⟩
  (refine go ?_)
  (first | refine K_return hE Tryz.func68 rfl _ rfl ⟨_, _, rfl, rfl, rfl⟩ entA | refine K_fallEnd hE Tryz.func68 rfl _ rfl ⟨_, _, rfl, rfl, rfl⟩ entA)
theorem move1_any (bs bd b2 b4 : Nat) (q : Int) (mb : Nat) (brk : Bool) (o : ByteArray) (A : Ab) (hwl : A.writes.length ≤ 1000000000) :
    Ctr Tryz.prog 107 [ptr b2, ptr b4] (pts bs (cl (stC bd q mb brk) 92) :: diskA bd A :: [pts b2 (cl [ptr bs] 35), pts b4 (cl [.string o] 9)])
      (fun r H => ∃ (e : Nat) (B : Ab), r = .int .i64 (e : Int) ∧ H = pts bs (cl (stC bd q mb brk) 92) :: diskA bd B :: [pts b2 (cl [ptr bs] 35), pts b4 (cl [.string o] 9)] ∧ stSync o A e B) := by
  refine Ctr.enter Tryz.func107 (by kernel_rfl) rfl Tryz.ntmps107 rfl rfl ?_
  intro G F R hE
  (refine go ?_)
  refine K_drawA (fun w => Sat G w ([pts bs (cl (stC bd q mb brk) 92), pts b2 (cl [ptr bs] 35), pts b4 (cl [.string o] 9)])) (.st 0 (.st 1 (.st 2 (.st 3 (.st 4 (.act 5 (.st 6 .nil))))))) rfl (by kernel_rfl) (by kernel_rfl) (by kernel_rfl) (fun w hw => hw.ent entA) ?_
  (refine go ?_)
  (first | refine J_callE rfl rfl rfl rfl (Sync_dA bd A o hwl) entA ?_ (fun _ _ w hp hw => by obtain ⟨rfl, rfl⟩ := hp; exact hw.ent entA) | refine J_call0E rfl rfl rfl (Sync_dA bd A o hwl) entA ?_ (fun _ _ w hp hw => by obtain ⟨rfl, rfl⟩ := hp; exact hw.ent entA))
  rintro _ _ ⟨rfl, rfl⟩
  (refine go ?_)
  (first | refine K_return hE Tryz.func107 rfl _ rfl ⟨_, _, rfl, rfl, rfl⟩ entA | refine K_fallEnd hE Tryz.func107 rfl _ rfl ⟨_, _, rfl, rfl, rfl⟩ entA)
theorem move2_any (bs bd b2 b4 b5 : Nat) (q : Int) (mb : Nat) (brk : Bool) (o n : ByteArray) (A : Ab) (hst : A.states.length ≤ 1000000000) :
    Ctr Tryz.prog 109 [ptr b2, ptr b4, ptr b5] (pts bs (cl (stC bd q mb brk) 92) :: diskA bd A :: [pts b2 (cl [ptr bs] 35), pts b4 (cl [.string o] 9), pts b5 (cl [.string n] 9)])
      (fun r H => ∃ (e : Nat) (B : Ab), r = .int .i64 (e : Int) ∧ H = pts bs (cl (stC bd q mb brk) 92) :: diskA bd B :: [pts b2 (cl [ptr bs] 35), pts b4 (cl [.string o] 9), pts b5 (cl [.string n] 9)] ∧ stRename o n A e B) := by
  refine Ctr.enter Tryz.func109 (by kernel_rfl) rfl Tryz.ntmps109 rfl rfl ?_
  intro G F R hE
  (refine go ?_)
  refine K_drawA (fun w => Sat G w ([pts bs (cl (stC bd q mb brk) 92), pts b2 (cl [ptr bs] 35), pts b4 (cl [.string o] 9), pts b5 (cl [.string n] 9)])) (.st 0 (.st 1 (.st 2 (.st 3 (.st 4 (.st 5 (.act 6 (.st 7 .nil)))))))) rfl (by kernel_rfl) (by kernel_rfl) (by kernel_rfl) (fun w hw => hw.ent entA) ?_
  (refine go ?_)
  refine J_loadH (U := tab) 3 rfl rfl rfl rfl rfl rfl ?_
  (refine go ?_)
  (first | refine J_callE rfl rfl rfl rfl (Rename_dA bd A o n hst) entA ?_ (fun _ _ w hp hw => by obtain ⟨rfl, rfl⟩ := hp; exact hw.ent entA) | refine J_call0E rfl rfl rfl (Rename_dA bd A o n hst) entA ?_ (fun _ _ w hp hw => by obtain ⟨rfl, rfl⟩ := hp; exact hw.ent entA))
  rintro _ _ ⟨rfl, rfl⟩
  (refine go ?_)
  (first | refine K_return hE Tryz.func109 rfl _ rfl ⟨_, _, rfl, rfl, rfl⟩ entA | refine K_fallEnd hE Tryz.func109 rfl _ rfl ⟨_, _, rfl, rfl, rfl⟩ entA)
theorem begin1_any (bs bd b2 b7 : Nat) (q : Int) (mb : Nat) (brk : Bool) (n : ByteArray) (A : Ab) (hst : A.states.length ≤ 1000000000) :
    Ctr Tryz.prog 56 [ptr b2, ptr b7] (pts bs (cl (stC bd q mb brk) 92) :: diskA bd A :: [pts b2 (cl [ptr bs] 35), pts b7 (cl [.string n] 9)])
      (fun r H => ∃ (e : Nat) (B : Ab), r = .int .i64 (e : Int) ∧ H = pts bs (cl (stC bd q mb brk) 92) :: diskA bd B :: [pts b2 (cl [ptr bs] 35), pts b7 (cl [.string n] 9)] ∧ stCreate n A e B) := by
  refine Ctr.enter Tryz.func56 (by kernel_rfl) rfl Tryz.ntmps56 rfl rfl ?_
  intro G F R hE
  (refine go ?_)
  refine K_drawA (fun w => Sat G w ([pts bs (cl (stC bd q mb brk) 92), pts b2 (cl [ptr bs] 35), pts b7 (cl [.string n] 9)])) (.st 0 (.st 1 (.st 2 (.st 3 (.st 4 (.act 5 (.st 6 .nil))))))) rfl (by kernel_rfl) (by kernel_rfl) (by kernel_rfl) (fun w hw => hw.ent entA) ?_
  (refine go ?_)
  (first | refine J_callE rfl rfl rfl rfl (Create_dA bd A n hst) entA ?_ (fun _ _ w hp hw => by obtain ⟨f, hf, rfl, rfl⟩ := hp; exact hw.ent entA) | refine J_call0E rfl rfl rfl (Create_dA bd A n hst) entA ?_ (fun _ _ w hp hw => by obtain ⟨f, hf, rfl, rfl⟩ := hp; exact hw.ent entA))
  rintro _ _ ⟨f, hf, rfl, rfl⟩
  (refine go ?_)
  (first | refine K_return hE Tryz.func56 rfl _ rfl ⟨_, _, rfl, rfl, ⟨f, hf, rfl⟩⟩ entA | refine K_fallEnd hE Tryz.func56 rfl _ rfl ⟨_, _, rfl, rfl, ⟨f, hf, rfl⟩⟩ entA)
theorem put1_any (bs bd b4 b5 b10 b7 : Nat) (q : Int) (mb : Nat) (brk : Bool) (x : Bl) (at_ : Int) (X : HP) (bv : Value) (b : List UInt8) (hv : Vw X bv b.length (bV b)) (A : Ab) (hwl : A.writes.length ≤ 1000000000) (hbl : b.length ≤ 1000000000) (hat : 0 ≤ at_ ∧ at_ ≤ 9223372036854775807) :
    Ctr Tryz.prog 61 [ptr b4, ptr b5, ptr b10, ptr b7] (pts bs (cl (stC bd q mb brk) 92) :: diskA bd A :: [pts b4 (cl [ptr bs] 35), pts b5 (cl (blC x) 32), pts b10 (cl [.int .i64 at_] 3), pts b7 (cl [bv] 22), X])
      (fun r H => ∃ (e : Nat) (B : Ab), r = .int .i64 (e : Int) ∧ H = pts bs (cl (stC bd q mb brk) 92) :: diskA bd B :: [pts b4 (cl [ptr bs] 35), pts b5 (cl (blC x) 32), pts b10 (cl [.int .i64 at_] 3), pts b7 (cl [bv] 22), X] ∧ stWrite (fS x) at_.toNat b A e B) := by
  obtain ⟨a, c, rfl⟩ := hv.shape
  have hmw : mayW (fS x) at_ b = mayW (fS x) at_.toNat b := by rw [Int.toNat_of_nonneg hat.1]
  have hw := Write_dA bd A (fS x) at_ X _ b hv hwl hbl ⟨by omega, hat.2⟩
  rw [hmw] at hw
  refine Ctr.enter Tryz.func61 (by kernel_rfl) rfl Tryz.ntmps61 rfl rfl ?_
  intro G F R hE
  (refine go ?_)
  refine K_drawA (fun w => Sat G w ([pts bs (cl (stC bd q mb brk) 92), pts b4 (cl [ptr bs] 35), pts b5 (cl (blC x) 32), pts b10 (cl [.int .i64 at_] 3), pts b7 (cl [.slice a b.length c] 22)])) (.st 0 (.st 1 (.st 2 (.st 3 (.st 4 (.st 5 (.st 7 (.st 8 (.act 6 (.act 9 (.st 10 .nil))))))))))) rfl (by kernel_rfl) (by kernel_rfl) (by kernel_rfl) (fun w hw => hw.ent entA) ?_
  (refine go ?_)
  refine J_loadAggS (U := tab) 2 rfl rfl rfl rfl rfl rfl ?_
  (refine go ?_)
  refine J_loadH (U := tab) 3 rfl rfl rfl rfl rfl rfl ?_
  (refine go ?_)
  refine J_loadH (U := tab) 4 rfl rfl rfl rfl rfl rfl ?_
  (refine go ?_)
  (first | refine J_callE rfl rfl rfl rfl (fS_any x) entA ?_ (fun _ _ w hp hw => by obtain ⟨rfl, rfl⟩ := hp; exact hw.ent entA) | refine J_call0E rfl rfl rfl (fS_any x) entA ?_ (fun _ _ w hp hw => by obtain ⟨rfl, rfl⟩ := hp; exact hw.ent entA))
  rintro _ _ ⟨rfl, rfl⟩
  (refine go ?_)
  (first | refine J_callE rfl rfl rfl rfl (hw) entA ?_ (fun _ _ w hp hw => by obtain ⟨rfl, rfl⟩ := hp; exact hw.ent entA) | refine J_call0E rfl rfl rfl (hw) entA ?_ (fun _ _ w hp hw => by obtain ⟨rfl, rfl⟩ := hp; exact hw.ent entA))
  rintro _ _ ⟨rfl, rfl⟩
  (refine go ?_)
  (first | refine K_return hE Tryz.func61 rfl _ rfl ⟨_, _, rfl, rfl, rfl⟩ entA | refine K_fallEnd hE Tryz.func61 rfl _ rfl ⟨_, _, rfl, rfl, rfl⟩ entA)
theorem names_X (bs bd : Nat) (q : Int) (mb : Nat) (brk : Bool) (Xs : List HP) (A : Ab) : Ctr Tryz.prog 51 [ptr bd] [stX bs bd q mb brk (Sep Xs) A]
    (fun r H => ∃ (e : Nat) (B : Ab), r = .int .i64 (e : Int) ∧ H = [stX bs bd q mb brk (Sep Xs) B] ∧ stSyncNames A e B) :=
  ctr_stX ((ctr_frame (pts bs (cl (stC bd q mb brk) 92) :: Xs) (SyncNames_dA bd A)).conv (Ent.perm (List.Perm.swap ..)) (by
    rintro v H ⟨H1, ⟨rfl, rfl⟩, rfl⟩
    exact ⟨_, ⟨_, _, rfl, rfl, rfl⟩, Ent.perm (List.Perm.swap ..)⟩))
end Go.Proofs.YtpecmnaikjbanaaGreatDoor

/- blobs, part h: Sync, Abort. -/
set_option linter.unusedVariables false
set_option linter.unusedSimpArgs false
namespace Go.Proofs.YtpecmnaikjbanaaGreatDoor
open Go Go.SL
attribute [local irreducible] J K Ctr Ends pts slc mapR mapI sbRow stock arrS loopP CtrY Sha.chunks Sha.chunk Sha.rounds Sha.sched sumL taggedL GI leafL diskA
/-- A store in memory. -/
def stoL (bs bd : Nat) (q : Int) (mb : Nat) (s : Sto) : List HP := [pts bs (cl (stC bd q mb s.brk) 92), mapR dV mb (begE s.beg), diskA bd s.A]
/-- How steps go on: no more states and writes than steps. -/
def GQ (A : Ab) (i : Nat) (x : Ab) : Prop := x.states.length ≤ A.states.length + i ∧ x.writes.length ≤ A.writes.length + i
theorem GQ.zero (A : Ab) : GQ A 0 A := ⟨Nat.le_refl _, Nat.le_refl _⟩
theorem GQ.next {A x y : Ab} {i : Nat} (h : GQ A i x) (g : Grow1 x y) : GQ A (i + 1) y := ⟨by have := h.1; have := g.1; omega, by have := h.2; have := g.2; omega⟩
theorem grow_stSync {A B : Ab} {nm : ByteArray} {e : Nat} (h : stSync nm A e B) : Grow1 A B := by
  have := grow_sync A (isName nm) nm
  rw [← h] at this
  exact this
theorem grow_stRename {A B : Ab} {o n : ByteArray} {e : Nat} (h : stRename o n A e B) : Grow1 A B := by
  have := grow_rename A ([o, n].all isName) o n
  rw [← h] at this
  exact this
theorem grow_stSyncNames {A B : Ab} {e : Nat} (h : stSyncNames A e B) : Grow1 A B := by
  have := grow_syncNames A
  rw [← h] at this
  exact this
theorem grow_stWrite {A B : Ab} {nm : ByteArray} {at_ : Nat} {b : List UInt8} {e : Nat} (h : stWrite nm at_ b A e B) : Grow1 A B := by
  have := grow_write A (mayW nm at_ b) nm at_ b
  rw [← h] at this
  exact this
theorem grow_stCreate {A B : Ab} {nm : ByteArray} {e : Nat} (h : stCreate nm A e B) : Grow1 A B := by
  obtain ⟨f, _, h⟩ := h
  have := grow_create A (isName nm) nm f
  rw [← h] at this
  exact this
theorem begE_del (l : List (Dg × Bl)) (d : Dg) : adel (begE l) d = begE (delB l d) := by
  unfold adel begE delB
  rw [List.filter_map]
  rfl
set_option maxRecDepth 20000 in
theorem Abort_bl (bs bd : Nat) (q : Int) (mb : Nat) (s : Sto) (x : Bl) (hst : s.A.states.length ≤ 900000000) (hwl : s.A.writes.length ≤ 900000000) : Ctr Tryz.prog 23 [ptr bs, blV x] (stoL bs bd q mb s)
    (fun r H => ∃ (e : Nat) (t : Sto), r = .int .i64 (e : Int) ∧ H = stoL bs bd q mb t ∧ AbortS x s e t) := by
  obtain ⟨A, beg, brk⟩ := s
  simp only at hst hwl
  have hmay := may_any bs bd q mb brk beg x
  unfold blV at hmay ⊢
  refine Ctr.enter Tryz.func23 (by kernel_rfl) rfl Tryz.ntmps23 rfl rfl ?_
  intro G F R hE
  refine K_ent (H' := pts bs (cl (stC bd q mb brk) 92) :: mapR dV mb (begE beg) :: diskA bd A :: F) (Ent.refl _) ?_
  refine K_regionA rfl ?_
  refine J_box rfl rfl (fun _ _ _ => trivial) ?_
  intro b2
  refine J_box rfl rfl (fun _ _ _ => trivial) ?_
  intro b3
  (refine go ?_)
  refine J_loadArr (U := tab) (l := blC x) 0 rfl rfl rfl rfl rfl rfl ?_
  (first | refine J_callE rfl rfl rfl rfl (hmay) entA ?_ (fun _ _ _ _ _ => trivial) | refine J_call0E rfl rfl rfl (hmay) entA ?_ (fun _ _ _ _ _ => trivial) | (refine go ?_; first | refine J_callE rfl rfl rfl rfl (hmay) entA ?_ (fun _ _ _ _ _ => trivial) | refine J_call0E rfl rfl rfl (hmay) entA ?_ (fun _ _ _ _ _ => trivial)))
  rintro _ _ ⟨rfl, rfl⟩
  (refine go ?_)
  refine K_condP rfl rfl ?_ ?_
  · intro hne
    have hne' : mayL brk beg x ≠ 0 := by omega
    (refine go ?_)
    refine K_ent (H' := stoL bs bd q mb ⟨A, beg, brk⟩ ++ F) entA ?_
    (first | refine K_return hE Tryz.func23 rfl _ rfl ⟨mayL brk beg x, ⟨A, beg, brk⟩, rfl, rfl, by unfold AbortS; rw [if_pos (show mayS ⟨A, beg, brk⟩ x ≠ 0 from hne')]; exact ⟨rfl, rfl⟩⟩ entA | refine K_fallEnd hE Tryz.func23 rfl _ rfl ⟨mayL brk beg x, ⟨A, beg, brk⟩, rfl, rfl, by unfold AbortS; rw [if_pos (show mayS ⟨A, beg, brk⟩ x ≠ 0 from hne')]; exact ⟨rfl, rfl⟩⟩ entA)
  · intro heq
    have heq' : mayL brk beg x = 0 := by omega
    (refine go ?_)
    refine J_buildSlice1 (U := tab) (cs := [.func (.func 68) #[] #[ptr b2, ptr b3] ]) rfl rfl rfl rfl rfl rfl rfl rfl rfl (fun _ _ _ => trivial) ?_
    intro row
    have hst1 : ∀ (i : Nat) (fv : Value) (sp : Stp), [.func (.func 68) #[] #[ptr b2, ptr b3] ][i]? = some fv → [stRemove (fS x)][i]? = some sp → ∃ g fi cap, fv = .func (.func g) fi cap ∧ ∀ y, GQ A i y → Ctr Tryz.prog g (fi.toList ++ cap.toList) [stX bs bd q mb brk (Sep [pts b2 (cl [ptr bs] 35), pts b3 (cl (blC x) 32)]) y] (fun r H => ∃ (e : Nat) (x' : Ab), r = .int .i64 (e : Int) ∧ H = [stX bs bd q mb brk (Sep [pts b2 (cl [ptr bs] 35), pts b3 (cl (blC x) 32)]) x'] ∧ sp y e x' ∧ (e = 0 → GQ A (i + 1) x')) := by
      intro i fv sp hi hs
      match i, hi, hs with
      | 0, hi, hs =>
        cases hi; cases hs
        refine ⟨_, _, _, rfl, fun y hy => (ctr_stX (abort1_any bs bd b2 b3 q mb brk x y (by have := hy.1; omega))).post ?_⟩
        rintro r H ⟨e, B, rfl, rfl, h1⟩
        exact ⟨e, B, rfl, rfl, h1, fun _ => hy.next (grow_stRemove h1)⟩
      | k + 1, hi, hs => simp at hi
    have hch := changeS_any bs bd q mb brk (Sep [pts b2 (cl [ptr bs] 35), pts b3 (cl (blC x) 32)]) (pts row (cl [.func (.func 68) #[] #[ptr b2, ptr b3] ] 95)) (.slice (some ⟨row, 0, none⟩) 1 1) [.func (.func 68) #[] #[ptr b2, ptr b3] ] (Vw.pts rfl) (by show 1 ≤ _; omega) [stRemove (fS x)] rfl (GQ A) hst1 A (GQ.zero A)
    refine J_ent (H' := pts row (cl [.func (.func 68) #[] #[ptr b2, ptr b3] ] 95) :: stX bs bd q mb brk (Sep [pts b2 (cl [ptr bs] 35), pts b3 (cl (blC x) 32)]) A :: mapR dV mb (begE beg) :: F) (Ent.trans (H2 := pts bs (cl (stC bd q mb brk) 92) :: diskA bd A :: ([pts b2 (cl [ptr bs] 35), pts b3 (cl (blC x) 32)] ++ (pts row (cl [.func (.func 68) #[] #[ptr b2, ptr b3] ] 95) :: mapR dV mb (begE beg) :: F))) entA (Ent.trans (stX_in bs bd q mb brk _ A _) entA)) ?_
    (first | refine J_callE rfl rfl rfl rfl (hch) entA ?_ (fun _ _ _ _ _ => trivial) | refine J_call0E rfl rfl rfl (hch) entA ?_ (fun _ _ _ _ _ => trivial) | (refine go ?_; first | refine J_callE rfl rfl rfl rfl (hch) entA ?_ (fun _ _ _ _ _ => trivial) | refine J_call0E rfl rfl rfl (hch) entA ?_ (fun _ _ _ _ _ => trivial)))
    rintro _ _ ⟨e, B, rfl, rfl, hruns, -⟩
    refine J_ent (Ent.trans (Ent.pick [1] rfl) (stX_out bs bd q mb (brk || decide (e ≠ 0)) _ B _)) ?_
    have hs0 : ¬ mayS ⟨A, beg, brk⟩ x ≠ 0 := by show ¬ mayL brk beg x ≠ 0; omega
    (refine go ?_)
    refine K_condP rfl rfl ?_ ?_
    · intro hne1
      have he : e ≠ 0 := by omega
      (refine go ?_)
      refine K_ent (H' := stoL bs bd q mb ⟨B, beg, brk || decide (e ≠ 0)⟩ ++ F) entA ?_
      (first | refine K_return hE Tryz.func23 rfl _ rfl ⟨e, ⟨B, beg, or brk (decide (e ≠ 0))⟩, rfl, rfl, by unfold AbortS; rw [if_neg hs0]; exact ⟨_, ⟨B, hruns, rfl⟩, by rw [if_pos he]⟩⟩ entA | refine K_fallEnd hE Tryz.func23 rfl _ rfl ⟨e, ⟨B, beg, or brk (decide (e ≠ 0))⟩, rfl, rfl, by unfold AbortS; rw [if_neg hs0]; exact ⟨_, ⟨B, hruns, rfl⟩, by rw [if_pos he]⟩⟩ entA)
    · intro heq1
      have he : e = 0 := by omega
      subst he
      (refine go ?_)
      refine K_drawA (fun w => Sat G w ([pts b2 (cl [ptr bs] 35), pts bs (cl (stC bd q mb (or brk (decide (0 ≠ 0)))) 92), pts b3 (cl (blC x) 32)])) (.st 0 (.st 1 (.st 2 (.st 3 (.st 4 (.st 5 (.act 6 .nil))))))) rfl (by kernel_rfl) (by kernel_rfl) (by kernel_rfl) (fun w hw => hw.ent entA) ?_
      (refine go ?_)
      refine J_loadAggS (U := tab) 2 rfl rfl rfl rfl rfl rfl ?_
      (refine go ?_)
      refine J_delete (U := tab) (es := begE beg) (key := x.d) 5 kDg (fun w hw => by exact trivial) rfl rfl rfl rfl rfl rfl rfl ?_
      rw [begE_del]
      (refine go ?_)
      refine K_ent (H' := stoL bs bd q mb ⟨B, delB beg x.d, brk || decide (0 ≠ 0)⟩ ++ F) entA ?_
      (first | refine K_return hE Tryz.func23 rfl _ rfl ⟨0, ⟨B, delB beg x.d, or brk (decide (0 ≠ 0))⟩, rfl, rfl, by unfold AbortS; rw [if_neg hs0]; exact ⟨_, ⟨B, hruns, rfl⟩, by rw [if_neg (by omega)]⟩⟩ entA | refine K_fallEnd hE Tryz.func23 rfl _ rfl ⟨0, ⟨B, delB beg x.d, or brk (decide (0 ≠ 0))⟩, rfl, rfl, by unfold AbortS; rw [if_neg hs0]; exact ⟨_, ⟨B, hruns, rfl⟩, by rw [if_neg (by omega)]⟩⟩ entA)
end Go.Proofs.YtpecmnaikjbanaaGreatDoor

