/- journal, part s: JournalEnds, the walk. -/
import Derived.Test.YtpdmbmnhgcnelaaJn0
import Derived.Test.YtpdmbmnhgcnelaaJq
import Derived.Test.YtpdmbmnhgcnelaaJr2
set_option linter.unusedVariables false
set_option linter.unusedSimpArgs false
namespace Go.Proofs.Ytpdmbmnhgcnelaa
open Go Go.SL
section
variable {P : Program} {f : FuncId} {n : Nat} {R : Ending → World → Prop} {G : Glob} {k : List Item} {L : Lst} {H : List HP}
/-- A list of texts that is held: seen in one piece. -/
theorem K_list {v : Value} {ls : List (List UInt8)} (h : ∀ Y, LAt Y v ls → K P f n R G k L (Y :: H)) : K P f n R G k L (listH v ls :: H) := by
  refine K_open (listH_open v ls) ?_
  rintro ⟨cs, M⟩ hR
  refine K_sat ?_
  rintro ⟨w, hw⟩
  obtain ⟨h3, _, hA3⟩ := hw.getA (i := 0) rfl
  refine K_ent (Ent.resep [slc 22 1 v ls.length cs, arrS 5 M] H) ?_
  exact h _ (hR.lat ⟨h3, hA3⟩)
variable {S : World → Prop} {all : Array Oper} {rest : Pl}
theorem J_list {v : Value} {ls : List (List UInt8)} (h : ∀ Y, LAt Y v ls → J P f n R G S all rest k L (Y :: H)) : J P f n R G S all rest k L (listH v ls :: H) := fun a w ha hw => by
  obtain ⟨t, o, u, hp, hpw, h1, h2, ⟨x, hR, hA⟩, hH, hd, he⟩ := hw
  have hw1 : Sat G w (Sep [slc 22 1 v ls.length x.1, arrS 5 x.2] :: H) := ⟨t, o, u, hp, hpw, h1, h2, hA, hH, hd, he⟩
  obtain ⟨h', _, hs'⟩ := Sep_get (i := 0) rfl h1 hA
  exact h _ (hR.lat ⟨h', hs'⟩) a w ha hw1
end
attribute [local irreducible] J K Ctr Ends pts slc mapR mapI sbRow stock arrS loopP CtrY diskA LI listH endA1 endA2 endA3

set_option maxRecDepth 20000 in
theorem JournalEnds_any (X : HP) (n : Int) (va vb : Value) (a b : List UInt8) (ha : BAt X va a) (hb : BAt X vb b) (hla : a.length ≤ 9223372036854775807) (hlb : b.length ≤ 9223372036854775807) (hn : -9223372036854775808 ≤ n ∧ n ≤ 9223372036854775807) :
    Ctr Try.prog 4 [.int .i64 n, va, vb] [X] (fun r H => r = .bool true ∧ H = [X]) := by
  obtain ⟨a1, c1, rfl, hc1⟩ := ha.2
  obtain ⟨a2, c2, rfl, hc2⟩ := hb.2
  refine Ctr.enter Try.func4 (by kernel_rfl) rfl Try.ntmps4 rfl rfl ?_
  intro G F R hE
  (refine go ?_)
  (first | refine J_callE rfl rfl rfl rfl (awake_any) entA ?_ (fun _ _ _ _ _ => trivial) | refine J_call0E rfl rfl rfl (awake_any) entA ?_ (fun _ _ _ _ _ => trivial) | (refine go ?_; first | refine J_callE rfl rfl rfl rfl (awake_any) entA ?_ (fun _ _ _ _ _ => trivial) | refine J_call0E rfl rfl rfl (awake_any) entA ?_ (fun _ _ _ _ _ => trivial)))
  rintro _ _ ⟨rfl, rfl⟩
  (refine go ?_)
  (first | refine J_callE rfl rfl rfl rfl (New_dA 1048576 (by omega) (by omega)) entA ?_ (fun _ _ _ _ _ => trivial) | refine J_call0E rfl rfl rfl (New_dA 1048576 (by omega) (by omega)) entA ?_ (fun _ _ _ _ _ => trivial) | (refine go ?_; first | refine J_callE rfl rfl rfl rfl (New_dA 1048576 (by omega) (by omega)) entA ?_ (fun _ _ _ _ _ => trivial) | refine J_call0E rfl rfl rfl (New_dA 1048576 (by omega) (by omega)) entA ?_ (fun _ _ _ _ _ => trivial)))
  rintro _ _ ⟨bd, rfl, rfl⟩
  repeat' (first | (with_reducible intro _hh) | refine go1 ?_ | refine J_fork ?_ ?_ | refine J_gsP rfl rfl rfl rfl ?_ ?_ | refine K_condP rfl rfl ?_ ?_)
  · (first | refine K_return hE Try.func4 rfl _ rfl ⟨rfl, rfl⟩ entA | refine K_fallEnd hE Try.func4 rfl _ rfl ⟨rfl, rfl⟩ entA)
  · (first | refine K_return hE Try.func4 rfl _ rfl ⟨rfl, rfl⟩ entA | refine K_fallEnd hE Try.func4 rfl _ rfl ⟨rfl, rfl⟩ entA)
  · (first | refine K_return hE Try.func4 rfl _ rfl ⟨rfl, rfl⟩ entA | refine K_fallEnd hE Try.func4 rfl _ rfl ⟨rfl, rfl⟩ entA)
  · (first | refine K_return hE Try.func4 rfl _ rfl ⟨rfl, rfl⟩ entA | refine K_fallEnd hE Try.func4 rfl _ rfl ⟨rfl, rfl⟩ entA)
  rename_i h1 h2 h3
  have hla2 : a.length ≤ 1000 := by omega
  have hlb2 : b.length ≤ 1000 := by omega
  obtain ⟨m, rfl⟩ : ∃ m : Nat, n = m := ⟨n.toNat, by omega⟩
  have hm1 : 1 ≤ m := by omega
  have hm2 : m ≤ 2147483648 := by omega
  clear h1 h2 h3 _hh
  have hel := encL_len a (by omega)
  have hel2 := encL_len b (by omega)
  (first | refine J_callE rfl rfl rfl rfl (refRecord_any X (.slice a1 a.length c1) a ha (by omega)) entA ?_ (fun _ _ _ _ _ => trivial) | refine J_call0E rfl rfl rfl (refRecord_any X (.slice a1 a.length c1) a ha (by omega)) entA ?_ (fun _ _ _ _ _ => trivial) | (refine go ?_; first | refine J_callE rfl rfl rfl rfl (refRecord_any X (.slice a1 a.length c1) a ha (by omega)) entA ?_ (fun _ _ _ _ _ => trivial) | refine J_call0E rfl rfl rfl (refRecord_any X (.slice a1 a.length c1) a ha (by omega)) entA ?_ (fun _ _ _ _ _ => trivial)))
  rintro x1 _ rfl
  (first | refine J_shape 0 rfl ?_ | refine K_shape 0 rfl ?_)
  rintro xa xc rfl
  (refine go ?_)
  (first | refine J_callE rfl rfl rfl rfl (Create_dA bd (Ab.new 1048576) nmJ (by simp [Ab.new])) entA ?_ (fun _ _ _ _ _ => trivial) | refine J_call0E rfl rfl rfl (Create_dA bd (Ab.new 1048576) nmJ (by simp [Ab.new])) entA ?_ (fun _ _ _ _ _ => trivial) | (refine go ?_; first | refine J_callE rfl rfl rfl rfl (Create_dA bd (Ab.new 1048576) nmJ (by simp [Ab.new])) entA ?_ (fun _ _ _ _ _ => trivial) | refine J_call0E rfl rfl rfl (Create_dA bd (Ab.new 1048576) nmJ (by simp [Ab.new])) entA ?_ (fun _ _ _ _ _ => trivial)))
  rintro _ _ ⟨f, hf, rfl, rfl⟩
  rw [nmJ_name, show ((Ab.new 1048576).create true nmJ f).2 = endA1 f from by unfold endA1; rfl]
  (refine go ?_)
  (first | refine J_slot 63 ((.int .i64 ((m % 2 : Nat) : Int))) rfl ((congrArg (Value.int .i64) (and_mask_i64 m 1 (by omega) (by omega)))) ?_ | refine K_slot 63 ((.int .i64 ((m % 2 : Nat) : Int))) rfl ((congrArg (Value.int .i64) (and_mask_i64 m 1 (by omega) (by omega)))) ?_)
  refine J_isBin ?_
  refine J_mul rfl rfl rfl (by simp only [inK]; omega) ?_
  (first | refine J_slot 64 ((.int .i64 ((m % 2 * 16 : Nat) : Int))) rfl ((congrArg (Value.int .i64) (by omega))) ?_ | refine K_slot 64 ((.int .i64 ((m % 2 * 16 : Nat) : Int))) rfl ((congrArg (Value.int .i64) (by omega))) ?_)
  (refine go ?_)
  (first | refine J_callE rfl rfl rfl rfl (refHead_any m (encL a).length (by omega) (by omega)) entA ?_ (fun _ _ _ _ _ => trivial) | refine J_call0E rfl rfl rfl (refHead_any m (encL a).length (by omega) (by omega)) entA ?_ (fun _ _ _ _ _ => trivial) | (refine go ?_; first | refine J_callE rfl rfl rfl rfl (refHead_any m (encL a).length (by omega) (by omega)) entA ?_ (fun _ _ _ _ _ => trivial) | refine J_call0E rfl rfl rfl (refHead_any m (encL a).length (by omega) (by omega)) entA ?_ (fun _ _ _ _ _ => trivial)))
  rintro hv _ rfl
  (first | refine J_shape 0 rfl ?_ | refine K_shape 0 rfl ?_)
  rintro va2 vc2 rfl
  refine J_slcVw 0 rfl ?_
  intro hvw
  have hhl := headL_len m (encL a).length
  have hmw := mayW_j (m % 2 * 16) (headL m (encL a).length) (by omega)
  have hwd := Write_dA bd (endA1 f) nmJ ((m % 2 * 16 : Nat) : Int) _ _ (headL m (encL a).length) hvw (by rw [endA1_writes]; omega) (by omega) (by omega)
  rw [hmw, Int.toNat_natCast, show ((endA1 f).write true nmJ (m % 2 * 16) (headL m (encL a).length)).2 = endA2 f m (encL a) from by unfold endA2; rfl] at hwd
  (refine go ?_)
  (first | refine J_callE rfl rfl rfl rfl (hwd) entA ?_ (fun _ _ _ _ _ => trivial) | refine J_call0E rfl rfl rfl (hwd) entA ?_ (fun _ _ _ _ _ => trivial) | (refine go ?_; first | refine J_callE rfl rfl rfl rfl (hwd) entA ?_ (fun _ _ _ _ _ => trivial) | refine J_call0E rfl rfl rfl (hwd) entA ?_ (fun _ _ _ _ _ => trivial)))
  rintro _ _ ⟨rfl, rfl⟩
  obtain ⟨-, -, q2, q3⟩ := endA2_law f m (encL a) (by omega)
  have hmw2 := mayW_j 32 (encL a) (by omega)
  (refine go ?_)
  refine J_slcVw 2 rfl ?_
  intro hvx
  have hwd2 := Write_dA bd (endA2 f m (encL a)) nmJ ((32 : Nat) : Int) _ _ (encL a) hvx (by omega) (by omega) (by omega)
  rw [hmw2, Int.toNat_natCast, show ((endA2 f m (encL a)).write true nmJ 32 (encL a)).2 = endA3 f m (encL a) from by unfold endA3; rfl] at hwd2
  (refine go ?_)
  (first | refine J_callE rfl rfl rfl rfl (hwd2) entA ?_ (fun _ _ _ _ _ => trivial) | refine J_call0E rfl rfl rfl (hwd2) entA ?_ (fun _ _ _ _ _ => trivial) | (refine go ?_; first | refine J_callE rfl rfl rfl rfl (hwd2) entA ?_ (fun _ _ _ _ _ => trivial) | refine J_call0E rfl rfl rfl (hwd2) entA ?_ (fun _ _ _ _ _ => trivial)))
  rintro _ _ ⟨rfl, rfl⟩
  obtain ⟨p1, p2, p3, p4⟩ := endA3_law f m (encL a) (by omega)
  (refine go ?_)
  refine J_dA 0 rfl ?_
  rintro ⟨D, hRel⟩
  have hids := hRel.knownW
  (first | refine J_callE rfl rfl rfl rfl (Open_any bd nmJ (endA3 f m (encL a)) (by decide) (by omega) (by omega)) entA ?_ (fun _ _ _ _ _ => trivial) | refine J_call0E rfl rfl rfl (Open_any bd nmJ (endA3 f m (encL a)) (by decide) (by omega) (by omega)) entA ?_ (fun _ _ _ _ _ => trivial) | (refine go ?_; first | refine J_callE rfl rfl rfl rfl (Open_any bd nmJ (endA3 f m (encL a)) (by decide) (by omega) (by omega)) entA ?_ (fun _ _ _ _ _ => trivial) | refine J_call0E rfl rfl rfl (Open_any bd nmJ (endA3 f m (encL a)) (by decide) (by omega) (by omega)) entA ?_ (fun _ _ _ _ _ => trivial)))
  rintro _ _ ⟨e, A1, x, ho, hpost⟩
  obtain ⟨rfl, hfl, hx, ⟨g, hI⟩, hw⟩ := endA3_open hm1 hm2 hla2 hids ho
  rw [hfl] at hpost
  rcases hpost with ⟨h, -⟩ | ⟨-, jb, lv1, rfl, rfl⟩
  · exact absurd rfl h
  subst hx
  (first | refine K_ent (Ent.pick [2] rfl) ?_ | refine J_ent (Ent.pick [2] rfl) ?_)
  refine J_list ?_
  intro Y1 hY1
  obtain ⟨cs1, hvw1, hcl1, ⟨l1, k1, rfl, hk1⟩, hel1⟩ := hY1
  rcases Nat.lt_or_ge 1073741824 m with hbig | hsm
  · simp only [if_neg (show ¬ m ≤ 1073741824 from by omega)] at *
    repeat' (first | (with_reducible intro _hh) | refine go1 ?_ | refine J_fork ?_ ?_ | refine J_gsP rfl rfl rfl rfl ?_ ?_ | refine K_condP rfl rfl ?_ ?_)
    · (first | refine K_return hE Try.func4 rfl _ rfl ⟨rfl, rfl⟩ entA | refine K_fallEnd hE Try.func4 rfl _ rfl ⟨rfl, rfl⟩ entA)
    · exfalso; omega
  simp only [if_pos hsm] at *
  have hb5 : ([a].flatMap encL).length = (encL a).length := by simp
  have hfm : [a].flatMap encL ++ encL b = [a, b].flatMap encL := by simp
  have hac := Append_any jb bd nmJ A1 ⟨1, (([a].flatMap encL).length : Int), (([a].flatMap encL).length : Int), false⟩ X _ b hb hlb (by simp only; omega) (by omega)
  obtain ⟨r1, r2, hI2, hw2⟩ := append_law hI nmJ_name (b := b) (by omega) (by omega) (by omega)
  obtain ⟨A2, hA2⟩ : ∃ A2, appendA nmJ A1 ⟨1, (([a].flatMap encL).length : Int), (([a].flatMap encL).length : Int), false⟩ b = (0, A2, ⟨1, (([a, b].flatMap encL).length : Int), (([a].flatMap encL).length : Int), false⟩) := ⟨_, Prod.ext r1 (Prod.ext rfl (by rw [← hfm]; exact r2))⟩
  rw [hA2] at hac hI2 hw2
  simp only at hac hI2 hw2
  rw [hfm] at hI2
  clear r1 r2 hA2
  have hb6 : ([a, b].flatMap encL).length = (encL a).length + (encL b).length := by simp
  clear hvw hvx hwd hwd2 hmw hmw2 ho hfl hids hRel
  (refine go ?_)
  refine K_condP rfl rfl ?_ ?_
  · intro h; exfalso; omega
  intro _
  (refine go ?_)
  (first | refine J_callE rfl rfl rfl rfl (hac) entA ?_ (fun _ _ _ _ _ => trivial) | refine J_call0E rfl rfl rfl (hac) entA ?_ (fun _ _ _ _ _ => trivial) | (refine go ?_; first | refine J_callE rfl rfl rfl rfl (hac) entA ?_ (fun _ _ _ _ _ => trivial) | refine J_call0E rfl rfl rfl (hac) entA ?_ (fun _ _ _ _ _ => trivial)))
  rintro _ _ ⟨rfl, rfl⟩
  (refine go ?_)
  (first | refine J_callE rfl rfl rfl rfl (Commit_any jb bd nmJ A2 ⟨1, (([a, b].flatMap encL).length : Int), (([a].flatMap encL).length : Int), false⟩ (by simp only; omega) (by simp only; omega) (by rw [hI2.states]; simp) (by omega)) entA ?_ (fun _ _ _ _ _ => trivial) | refine J_call0E rfl rfl rfl (Commit_any jb bd nmJ A2 ⟨1, (([a, b].flatMap encL).length : Int), (([a].flatMap encL).length : Int), false⟩ (by simp only; omega) (by simp only; omega) (by rw [hI2.states]; simp) (by omega)) entA ?_ (fun _ _ _ _ _ => trivial) | (refine go ?_; first | refine J_callE rfl rfl rfl rfl (Commit_any jb bd nmJ A2 ⟨1, (([a, b].flatMap encL).length : Int), (([a].flatMap encL).length : Int), false⟩ (by simp only; omega) (by simp only; omega) (by rw [hI2.states]; simp) (by omega)) entA ?_ (fun _ _ _ _ _ => trivial) | refine J_call0E rfl rfl rfl (Commit_any jb bd nmJ A2 ⟨1, (([a, b].flatMap encL).length : Int), (([a].flatMap encL).length : Int), false⟩ (by simp only; omega) (by simp only; omega) (by rw [hI2.states]; simp) (by omega)) entA ?_ (fun _ _ _ _ _ => trivial)))
  rintro _ _ ⟨ec, Ac, xc2, rfl, rfl, hcm⟩
  obtain ⟨rfl, -, hroom, C, hjf, hjs, -, -, hwc⟩ := commit_law hI2 nmJ_name (by omega) (by omega) hcm
  (refine go ?_)
  (first | refine J_callE rfl rfl rfl rfl (Crash_dA bd Ac 0 (-1) 0 X (.slice none 0 0) [] ⟨none, 0, rfl, .inl rfl⟩ (by simp) (by rw [hjs.states]; simp) (by omega) (by omega) (by omega) (by omega)) entA ?_ (fun _ _ _ _ _ => trivial) | refine J_call0E rfl rfl rfl (Crash_dA bd Ac 0 (-1) 0 X (.slice none 0 0) [] ⟨none, 0, rfl, .inl rfl⟩ (by simp) (by rw [hjs.states]; simp) (by omega) (by omega) (by omega) (by omega)) entA ?_ (fun _ _ _ _ _ => trivial) | (refine go ?_; first | refine J_callE rfl rfl rfl rfl (Crash_dA bd Ac 0 (-1) 0 X (.slice none 0 0) [] ⟨none, 0, rfl, .inl rfl⟩ (by simp) (by rw [hjs.states]; simp) (by omega) (by omega) (by omega) (by omega)) entA ?_ (fun _ _ _ _ _ => trivial) | refine J_call0E rfl rfl rfl (Crash_dA bd Ac 0 (-1) 0 X (.slice none 0 0) [] ⟨none, 0, rfl, .inl rfl⟩ (by simp) (by rw [hjs.states]; simp) (by omega) (by omega) (by omega) (by omega)) entA ?_ (fun _ _ _ _ _ => trivial)))
  rintro _ _ rfl
  obtain ⟨-, hcs2, -, hcw⟩ := crash_law hjf hjs [] (-1) 0
  obtain ⟨Ad, hAd⟩ : ∃ Ad, Ad = Ac.crash 0 [] (-1) 0 := ⟨_, rfl⟩
  rw [← hAd] at hcs2 hcw ⊢
  (refine go ?_)
  (first | refine J_callE rfl rfl rfl rfl (Open_any bd nmJ Ad (by decide) (by rw [hcs2.states]; simp) (by rw [hcw]; simp)) entA ?_ (fun _ _ _ _ _ => trivial) | refine J_call0E rfl rfl rfl (Open_any bd nmJ Ad (by decide) (by rw [hcs2.states]; simp) (by rw [hcw]; simp)) entA ?_ (fun _ _ _ _ _ => trivial) | (refine go ?_; first | refine J_callE rfl rfl rfl rfl (Open_any bd nmJ Ad (by decide) (by rw [hcs2.states]; simp) (by rw [hcw]; simp)) entA ?_ (fun _ _ _ _ _ => trivial) | refine J_call0E rfl rfl rfl (Open_any bd nmJ Ad (by decide) (by rw [hcs2.states]; simp) (by rw [hcw]; simp)) entA ?_ (fun _ _ _ _ _ => trivial)))
  rintro _ _ ⟨e2, A4, x4, ho2, hpost2⟩
  obtain ⟨-, -, rfl, hfl, rfl, ⟨g2, hI4⟩, -, hw4⟩ := hI2.back nmJ_name nmJ_fresh nmJ_ne (by simp; omega) (by omega) (by omega) hcm (hAd ▸ ho2)
  rw [← hAd] at hfl
  rw [hfl] at hpost2
  rcases hpost2 with ⟨h, -⟩ | ⟨-, jb2, lv2, rfl, rfl⟩
  · exact absurd rfl h
  (first | refine K_ent (Ent.pick [2] rfl) ?_ | refine J_ent (Ent.pick [2] rfl) ?_)
  refine J_list ?_
  intro Y2 hY2
  obtain ⟨cs2, hvw2, hcl2, ⟨l2, k2, rfl, hk2⟩, hel2'⟩ := hY2
  obtain ⟨ca, hca, hba⟩ := hel1 0 a rfl
  obtain ⟨cb, hcb, hbb⟩ := hel2' 1 b rfl
  obtain ⟨b1, o1, j1, hs1⟩ := hvw1.some (by intro e; rw [e] at hca; simp at hca)
  obtain ⟨b2, o2, j2, hs2⟩ := hvw2.some (by intro e; rw [e] at hcb; simp at hcb)
  simp only [Value.slice.injEq, true_and] at hs1 hs2
  obtain ⟨rfl, rfl⟩ := hs1
  obtain ⟨rfl, rfl⟩ := hs2
  obtain ⟨ax, kx, rfl, hkx⟩ := hba.2
  obtain ⟨ay, ky, rfl, hky⟩ := hbb.2
  (refine go ?_)
  refine K_drawA (fun w => Sat G w ([Y2, Y1, X])) (.st 0 (.st 1 (.st 2 (.st 3 (.st 4 (.st 5 (.st 6 (.st 7 (.st 8 (.st 9 (.st 10 (.st 11 (.st 12 (.st 13 (.st 14 (.st 15 (.st 16 (.st 17 (.st 18 (.st 19 (.st 20 (.st 21 (.st 22 (.st 23 (.st 24 (.st 25 (.st 26 (.st 27 (.st 28 (.st 29 (.st 30 (.st 31 (.st 32 (.st 33 (.st 34 (.st 35 (.st 36 (.st 37 (.st 38 .nil))))))))))))))))))))))))))))))))))))))) rfl (by kernel_rfl) (by kernel_rfl) (by kernel_rfl) (fun w hw => hw.ent entA) ?_
  (refine go ?_)
  refine J_at1 (U := tab) 0 rfl rfl rfl rfl rfl rfl rfl rfl (by simp) ?_
  (refine go ?_)
  refine J_isLoad ?_
  refine J_loadAtS (U := tab) 1 0 rfl rfl rfl hvw1 rfl hca rfl rfl ?_
  (refine go ?_)
  refine J_toStrS (U := tab) 1 rfl rfl rfl rfl rfl rfl rfl rfl rfl hba.1 ?_
  (refine go ?_)
  refine J_toStrS (U := tab) 2 rfl rfl rfl rfl rfl rfl rfl rfl rfl ha.1 ?_
  (refine go ?_)
  (first | refine J_slot 115 ((.bool true)) rfl ((by rw [eqS_strOf]; simp)) ?_ | refine K_slot 115 ((.bool true)) rfl ((by rw [eqS_strOf]; simp)) ?_)
  (refine go ?_)
  refine J_at1 (U := tab) 1 rfl rfl rfl rfl rfl rfl rfl rfl (by simp) ?_
  (refine go ?_)
  refine J_isLoad ?_
  refine J_loadAtS (U := tab) 0 1 rfl rfl rfl hvw2 rfl hcb rfl rfl ?_
  (refine go ?_)
  refine J_toStrS (U := tab) 0 rfl rfl rfl rfl rfl rfl rfl rfl rfl hbb.1 ?_
  (refine go ?_)
  refine J_toStrS (U := tab) 2 rfl rfl rfl rfl rfl rfl rfl rfl rfl hb.1 ?_
  (refine go ?_)
  (first | refine J_slot 6 ((.bool true)) rfl ((by rw [eqS_strOf]; simp)) ?_ | refine K_slot 6 ((.bool true)) rfl ((by rw [eqS_strOf]; simp)) ?_)
  (refine go ?_)
  (first | refine K_return hE Try.func4 rfl _ rfl ⟨rfl, rfl⟩ entA | refine K_fallEnd hE Try.func4 rfl _ rfl ⟨rfl, rfl⟩ entA)
end Go.Proofs.Ytpdmbmnhgcnelaa

/- journal, part s2: a text that came in, with its capacity. -/
set_option linter.unusedVariables false
set_option linter.unusedSimpArgs false
namespace Go.Proofs.Ytpdmbmnhgcnelaa
open Go Go.SL Go.RowKit Go.ChangeShapes Go.WideShapes
section
variable {H : Type} {enc : TypeId × Value → H} {W : World} {base : Nat} {spare : Nat → Bool} {held : Bool}
def BytesIn (X : HP) (v : Value) (bs : List UInt8) : Prop := BAt X v bs ∧ bs.length ≤ 9223372036854775807
theorem open_bin {fuel : Nat} {v : Value} {x : DataW H × List MemPlace} (h : DataW.trod enc Try.prog W base spare held fuel 22 [v] = some x) : ∃ bs : List UInt8, BytesIn (old W) v bs := by
  obtain ⟨y, hcs, h1, h2⟩ := open_eb _ _ _ h
  simp only [ebV, List.cons.injEq, and_true] at hcs
  subst hcs
  exact ⟨y.bs, h2, h1⟩
end
end Go.Proofs.Ytpdmbmnhgcnelaa
