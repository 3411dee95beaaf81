/- net, part t0: NetScripts' walk. -/
import Derived.Test.YtngmcoopgbflaaaNs
import Derived.Test.YtngmcoopgbflaaaEngU
set_option linter.unusedVariables false
set_option linter.unusedSimpArgs false
namespace Go.Proofs.Ytngmcoopgbflaaa
open Go Go.SL
attribute [local irreducible] J K Ctr Ends pts slc mapR mapI sbRow stock arrS

theorem map_len {W V : List Fl} (h : W.map Fl.a = V.map Fl.a) : W.length = V.length := by have := congrArg List.length h; simpa using this
set_option maxRecDepth 20000 in
theorem NetScripts_any (A : HP) (nodes most : Int) (v : Value) (l : List StepD) (hA : StepsIn A v l) :
    Ctr Try.prog 5 [.int .i64 nodes, .int .i64 most, v] [A] (fun v H => v = .bool true ∧ H = [A]) := by
  obtain ⟨a0, c0, rfl⟩ := hA.view.shape
  have hll := hA.len
  refine Ctr.enter Try.func5 (by kernel_rfl) rfl Try.ntmps5 rfl rfl ?_
  intro G F Re hE
  (refine go ?_)
  (first | refine J_callE rfl rfl rfl rfl (awake_any) entA ?_ (fun _ _ _ _ _ => trivial) | refine J_call0E rfl rfl rfl (awake_any) entA ?_ (fun _ _ _ _ _ => trivial))
  rintro _ _ ⟨rfl, rfl⟩
  (refine go ?_)
  (first | refine J_callE rfl rfl rfl rfl (much_any A _ l hA) entA ?_ (fun _ _ _ _ _ => trivial) | refine J_call0E rfl rfl rfl (much_any A _ l hA) entA ?_ (fun _ _ _ _ _ => trivial))
  rintro _ _ ⟨many, rfl, rfl⟩
  (refine go ?_)
  by_cases hg : 1 ≤ nodes ∧ nodes ≤ 65537 ∧ 1 ≤ most ∧ most ≤ 5000
  case' neg =>
    (first | refine J_callE rfl rfl rfl rfl (New_bad nodes most hg) entA ?_ (fun _ _ _ _ _ => trivial) | refine J_call0E rfl rfl rfl (New_bad nodes most hg) entA ?_ (fun _ _ _ _ _ => trivial))
    rintro _ _ ⟨rfl, rfl⟩
    (refine go ?_)
    (first | refine J_callE rfl rfl rfl rfl (RNew_bad nodes most hg) entA ?_ (fun _ _ _ _ _ => trivial) | refine J_call0E rfl rfl rfl (RNew_bad nodes most hg) entA ?_ (fun _ _ _ _ _ => trivial))
    rintro _ _ ⟨rfl, rfl⟩
    (refine go ?_)
    refine K_loop (fun _ : Unit => True) (fun _ => 0)
      (fun _ => [(2, .slice a0 l.length c0), (8, .bool many), (9, .pointer none), (13, .int .i64 0)])
      (fun _ => A :: F) () trivial rfl (by repeat (first | exact keep_nil | refine keep_cons rfl ?_)) (Ent.refl _) ?_
    rintro _ _ _
    repeat' (first | (with_reducible intro _hh) | refine go1 ?_ | refine J_fork ?_ ?_ | refine J_gsP rfl rfl rfl rfl ?_ ?_ | refine K_condP rfl rfl ?_ ?_)
    all_goals (
      (first | refine K_return hE Try.func5 rfl _ rfl ⟨rfl, rfl⟩ entA | refine K_fallEnd hE Try.func5 rfl _ rfl ⟨rfl, rfl⟩ entA))
  obtain ⟨g1, g2, g3, g4⟩ := hg
  (first | refine J_callE rfl rfl rfl rfl (New_good nodes most g1 g2 g3 g4) entA ?_ (fun _ _ _ _ _ => trivial) | refine J_call0E rfl rfl rfl (New_good nodes most g1 g2 g3 g4) entA ?_ (fun _ _ _ _ _ => trivial))
  rintro _ _ ⟨bn, D0, hD0, ha0, rfl, rfl⟩
  (refine go ?_)
  (first | refine J_callE rfl rfl rfl rfl (RNew_good nodes most g1 g2 g3 g4) entA ?_ (fun _ _ _ _ _ => trivial) | refine J_call0E rfl rfl rfl (RNew_good nodes most g1 g2 g3 g4) entA ?_ (fun _ _ _ _ _ => trivial))
  rintro _ _ ⟨br, R0, hR0, hb0, rfl, rfl⟩
  (refine go ?_)
  refine K_loop (fun s : Nat × NetD × RefD => s.1 ≤ l.length ∧ s.1 ≤ 150 ∧ NOk s.2.1 s.1 ∧ ROk s.2.2 s.1 ∧ s.2.1.a = s.2.2.a) (fun s => l.length - s.1)
    (fun s => [(2, .slice a0 l.length c0), (8, .bool many), (9, ptr bn), (11, ptr br), (13, .int .i64 s.1)])
    (fun s => nt bn s.2.1 :: rt br s.2.2 :: A :: F) (0, D0, R0) ⟨Nat.zero_le _, Nat.zero_le _, hD0, hR0, by rw [ha0, hb0]⟩ rfl (by repeat (first | exact keep_nil | refine keep_cons rfl ?_)) entA ?_
  clear hD0 hR0 ha0 hb0 D0 R0
  rintro ⟨i, D, R⟩ ⟨hi, hi2, hD, hR, hab⟩ ih
  simp only at hi hi2 hD hR hab
  by_cases hlt : i < l.length ∧ i < 150
  case' neg =>
    repeat' (first | (with_reducible intro _hh) | refine go1 ?_ | refine J_fork ?_ ?_ | refine J_gsP rfl rfl rfl rfl ?_ ?_ | refine K_condP rfl rfl ?_ ?_)
    any_goals (exfalso; simp only at *; omega)
    all_goals (
      (first | refine K_return hE Try.func5 rfl _ rfl ⟨rfl, rfl⟩ entA | refine K_fallEnd hE Try.func5 rfl _ rfl ⟨rfl, rfl⟩ entA))
  obtain ⟨x, hx⟩ : ∃ x, l[i]? = some x := ⟨l[i], by simp [hlt.1]⟩
  have hok := hA.each x (List.mem_of_getElem? hx)
  obtain ⟨bb, ob, cb, hsb⟩ := hA.some (by omega)
  simp only [Value.slice.injEq, true_and] at hsb
  obtain ⟨rfl, rfl⟩ := hsb
  have hvA := hA.view
  cases many with
  | true =>
    repeat' (first | (with_reducible intro _hh) | refine go1 ?_ | refine J_fork ?_ ?_ | refine J_gsP rfl rfl rfl rfl ?_ ?_ | refine K_condP rfl rfl ?_ ?_)
    any_goals (exfalso; simp only at *; omega)
    all_goals (
      (first | refine K_return hE Try.func5 rfl _ rfl ⟨rfl, rfl⟩ entA | refine K_fallEnd hE Try.func5 rfl _ rfl ⟨rfl, rfl⟩ entA))
  | false =>
    repeat' (first | (with_reducible intro _hh) | refine go1 ?_ | refine J_fork ?_ ?_ | refine J_gsP rfl rfl rfl rfl ?_ ?_ | refine K_condP rfl rfl ?_ ?_)
    any_goals (exfalso; simp only at *; omega)
    refine J_at (U := tab) i 6 rfl rfl rfl rfl rfl rfl rfl rfl hlt.1 ?_
    refine J_loadElem (U := tab) (es := scell x) 2 (i * 6) rfl rfl rfl hvA rfl (scell_get hx) rfl rfl rfl ?_
    (first | refine J_callE rfl rfl rfl rfl (step_any bn br i D R hD hR (by omega) A x hok) entA ?_ (fun _ _ _ _ _ => trivial) | refine J_call0E rfl rfl rfl (step_any bn br i D R hD hR (by omega) A x hok) entA ?_ (fun _ _ _ _ _ => trivial))
    rintro _ _ ⟨D', R', hD', hR', ha', hb', rfl, rfl⟩
    rw [hab] at ha'
    have hab' : D'.a = R'.a := by rw [ha', hb']
    rw [hab, decide_eq_true (rfl : (R.a.step x).1 = _)]
    clear ha' hb'
    obtain ⟨rn, rm, rs, rl, rL, rwl, rM⟩ := R'
    (refine go ?_)
    refine K_ent (Ent.pick [1] rfl) ?_
    refine K_ent (rt_o _ _ _ _ _ _ _ _ _) ?_
    (first | refine J_shape 1 rfl ?_ | refine K_shape 1 rfl ?_)
    rintro la lc rfl
    refine K_drawA (fun w => Sat G w ([rp br rn rm rs rl (.slice la rwl.length lc)])) (.st 0 (.st 2 (.st 3 (.st 4 (.st 5 (.act 1 (.act 6 (.st 7 .nil)))))))) rfl (by kernel_rfl) (by kernel_rfl) (by kernel_rfl) (fun w hw => hw.ent entA) ?_
    (refine go ?_)
    (first | refine J_callE rfl rfl rfl rfl (Way_any bn _ D' hD') entA ?_ (fun _ _ w hp hw => by obtain ⟨_, _, rfl⟩ := hp; exact hw.ent entA) | refine J_call0E rfl rfl rfl (Way_any bn _ D' hD') entA ?_ (fun _ _ w hp hw => by obtain ⟨_, _, rfl⟩ := hp; exact hw.ent entA))
    rintro wv _ ⟨W, ⟨hWa, hWv⟩, rfl⟩
    (first | refine J_shape 0 rfl ?_ | refine K_shape 0 rfl ?_)
    rintro wa wc rfl
    refine J_sat fun w hw => ?_
    have hv1 := slc_view (i := 0) hw rfl
    have hv2 := slc_view (i := 4) hw rfl
    have hvb : ∀ x ∈ W, Vw (stock flB W) x.v x.bs.length (bV x.bs) := fun x hx => flB_view (j := 1) hw rfl hx
    clear hw w
    have hvb2 : ∀ x ∈ rwl, Vw (arrS 5 rM) x.v x.bs.length (bV x.bs) := fun x hx => (hR'.vs x hx).view 5
    have hWl : W.length ≤ 5000 := by
      have h1 := congrArg List.length hWa
      simp [NetD.a] at h1
      have := hD'.len
      have := hD'.most
      omega
    (refine go ?_)
    (first | refine J_callE rfl rfl rfl rfl (Same_any (ws (.slice wa W.length wc) W) (stock flB W) (ws (.slice la rwl.length lc) rwl) (arrS 5 rM) _ _ W rwl hv1 hv2 hvb hvb2 (by omega)) entA ?_ (fun _ _ w hp hw => by obtain ⟨_, rfl⟩ := hp; exact hw.ent entA) | refine J_call0E rfl rfl rfl (Same_any (ws (.slice wa W.length wc) W) (stock flB W) (ws (.slice la rwl.length lc) rwl) (arrS 5 rM) _ _ W rwl hv1 hv2 hvb hvb2 (by omega)) entA ?_ (fun _ _ w hp hw => by obtain ⟨_, rfl⟩ := hp; exact hw.ent entA))
    rintro _ _ ⟨rfl, rfl⟩
    have hsame : W.map Fl.a = rwl.map Fl.a := by rw [hWa, hab']; rfl
    rw [decide_eq_true hsame]
    (refine go ?_)
    refine K_drawA (fun w => Sat G w ([rp br rn rm rs rl (.slice la rwl.length lc)])) (.st 0 (.st 1 (.st 2 (.st 3 (.st 4 (.st 5 (.st 6 (.st 7 (.st 9 (.st 10 (.st 11 (.st 12 (.act 8 (.st 13 (.st 14 .nil))))))))))))))) rfl (by kernel_rfl) (by kernel_rfl) (by kernel_rfl) (fun w hw => hw.ent entA) ?_
    (refine go ?_)
    (first | refine J_callE rfl rfl rfl rfl (Lost_any bn _ D' hD') entA ?_ (fun _ _ w hp hw => by obtain ⟨_, rfl⟩ := hp; exact hw.ent entA) | refine J_call0E rfl rfl rfl (Lost_any bn _ D' hD') entA ?_ (fun _ _ w hp hw => by obtain ⟨_, rfl⟩ := hp; exact hw.ent entA))
    rintro _ _ ⟨rfl, rfl⟩
    have hlost : D'.lost = rl := congrArg NA.lost hab'
    rw [hlost]
    (refine go ?_)
    refine K_condP rfl rfl ?_ ?_
    · intro h
      exact absurd rfl h
    intro _
    (refine go ?_)
    refine K_ent (H' := rp br rn rm rs rl (.slice la rwl.length lc) :: ws (.slice la rwl.length lc) rwl :: arrS 5 rM :: nt bn D' :: A :: F) entA ?_
    refine K_ent (rt_c br rn rm rs rl (.slice la rwl.length lc) rwl rM _) ?_
    refine K_again ih (i + 1, D', _) rfl ⟨by simp only; omega, by simp only; omega, hD', hR', hab'⟩ (by simp only; omega) (by repeat (first | exact keep_nil | refine keep_cons rfl ?_)) entA
end Go.Proofs.Ytngmcoopgbflaaa
