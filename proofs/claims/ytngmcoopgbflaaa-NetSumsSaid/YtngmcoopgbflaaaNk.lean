/- net, part k: Due, Lost. -/
import Derived.Test.YtngmcoopgbflaaaNj
set_option linter.unusedVariables false
set_option linter.unusedSimpArgs false
namespace Go.Proofs.Ytngmcoopgbflaaa
open Go Go.SL
attribute [local irreducible] J K Ctr Ends pts slc mapR mapI sbRow stock arrS

def NA.due (A : NA) (now : Int) : List Fa × NA := (A.way.takeWhile fun x => decide (x.due ≤ now), { A with way := A.way.dropWhile fun x => decide (x.due ≤ now) })
theorem Lost_any (bn k : Nat) (D : NetD) (hD : NOk D k) : Ctr Try.prog 19 [ptr bn] [nt bn D] (fun v H => v = .int .i64 (D.lost : Int) ∧ H = [nt bn D]) := by
  obtain ⟨nodes, most, sent, lost, way, wl⟩ := D
  refine Ctr.enter Try.func19 (by kernel_rfl) rfl Try.ntmps19 rfl rfl ?_
  intro G F R hE
  refine K_ent (nt_o _ _ _ _ _ _ _ _) ?_
  (refine go ?_)
  refine K_ent (nt_c bn nodes most sent lost way wl _) ?_
  refine K_return hE Try.func19 rfl _ rfl ⟨rfl, rfl⟩ (Ent.fin [0] 0 rfl rfl)
theorem Due_bad (bn k : Nat) (D : NetD) (hD : NOk D k) (now : Int) (h : ¬ okMoment now) : Ctr Try.prog 13 [ptr bn, .int .i64 now] [nt bn D] (fun v H => v = .tuple #[.slice none 0 0, .int .i64 1] ∧ H = [nt bn D]) := by
  refine Ctr.enter Try.func13 (by kernel_rfl) rfl Try.ntmps13 rfl rfl ?_
  intro G F R hE
  (refine go ?_)
  refine J_box rfl rfl (fun _ _ _ => trivial) ?_
  intro bw
  (refine go ?_)
  refine J_call [] rfl rfl rfl rfl (moment_any now) rfl (fun _ _ _ _ _ => trivial) ?_
  rintro _ _ ⟨rfl, rfl⟩
  refine J_slot 9 (.bool false) rfl (congrArg Value.bool (decide_eq_false h)) ?_
  (refine go ?_)
  refine K_return hE Try.func13 rfl _ rfl ⟨rfl, rfl⟩ (Ent.fin [1] 1 rfl rfl)
set_option maxRecDepth 20000 in
theorem Due_any (bn k : Nat) (D : NetD) (hD : NOk D k) (now : Int) (h : okMoment now) :
    Ctr Try.prog 13 [ptr bn, .int .i64 now] [nt bn D]
      (fun v H => ∃ D' out W, NOk D' k ∧ D'.a = (D.a.due now).2 ∧ (W.Sublist D.wl ∧ W.map Fl.a = (D.a.due now).1) ∧ v = .tuple #[out, .int .i64 0] ∧ H = [nt bn D', ws out W, stock flB W]) := by
  obtain ⟨nodes, most, sent, lost, way, wl⟩ := D
  have hlen := hD.len
  have hmo := hD.most
  simp only at hlen hmo
  refine Ctr.enter Try.func13 (by kernel_rfl) rfl Try.ntmps13 rfl rfl ?_
  intro G F R hE
  refine K_ent (nt_o _ _ _ _ _ _ _ _) ?_
  refine K_shape 1 rfl ?_
  rintro wa wc rfl
  refine K_slcLe 1 rfl ?_
  intro hwc hcl hvw
  (refine go ?_)
  refine J_box rfl rfl (fun _ _ _ => trivial) ?_
  intro bw
  (refine go ?_)
  refine J_call [] rfl rfl rfl rfl (moment_any now) rfl (fun _ _ _ _ _ => trivial) ?_
  rintro _ _ ⟨rfl, rfl⟩
  refine J_slot 9 (.bool true) rfl (congrArg Value.bool (decide_eq_true h)) ?_
  (refine go ?_)
  refine J_call [2, 0] rfl rfl rfl rfl (IndexF_any (ws (.slice wa wl.length wc) wl) (pts bw (cl [.int .i64 now] 3)) _ wl hvw (by omega) 29 [ptr bw] (fun x => decide (now < x.due)) (fun x _ => Due1_any bw now x)) rfl (fun _ _ _ _ _ => trivial) ?_
  rintro r _ ⟨hr, rfl⟩
  have key : ∃ q : Nat, q ≤ wl.length ∧ (∀ y ∈ wl.take q, decide (now < y.due) = false) ∧ (wl.length ≤ q ∨ ∃ x, wl[q]? = some x ∧ decide (now < x.due) = true) ∧ (r = .int .i64 (q : Int) ∨ (r = .int .i64 (-1) ∧ q = wl.length)) := by
    rcases hr with ⟨i, hi, rfl, h1, x, hx, hp⟩ | ⟨rfl, h1⟩
    · exact ⟨i, by omega, h1, .inr ⟨x, hx, hp⟩, .inl rfl⟩
    · exact ⟨wl.length, Nat.le_refl _, fun y hy => h1 y (by simpa using hy), .inl (Nat.le_refl _), .inr ⟨rfl, rfl⟩⟩
  obtain ⟨q, hq, hq1, hq2, hqr⟩ := key
  clear hr
  have htw := take_first (P := fun x => decide (x.due ≤ now)) (wl.map Fl.a) q (fun y hy => by
    rw [← List.map_take] at hy
    obtain ⟨z, hz, rfl⟩ := List.mem_map.1 hy
    have := hq1 z hz
    simp only [decide_eq_false_iff_not] at this
    exact decide_eq_true (by show z.due ≤ now; omega)) (by
    rcases hq2 with h | ⟨x, hx, hp⟩
    · exact .inl (by simpa using h)
    · refine .inr ⟨x.a, by rw [List.getElem?_map, hx]; rfl, ?_⟩
      have := of_decide_eq_true hp
      exact decide_eq_false (by show ¬ x.due ≤ now; omega))
  rcases hqr with rfl | ⟨rfl, hqe⟩
  case' inl =>
    (refine go ?_)
  case' inr =>
    (refine go ?_)
    refine J_slot 28 (.int .i64 (q : Int)) rfl (by rw [hqe]) ?_
    refine J_slot 6 (.int .i64 (q : Int)) rfl (by rw [hqe]) ?_
  all_goals (
    refine J_sliceAny (U := tab) (p := 0) (q := (q : Int)) rfl rfl rfl rfl rfl rfl rfl (by omega) (by omega) (.inr (by omega)) ?_
    refine J_slot 29 (.slice (sliceAt wa wc 0 5) q wc) rfl (by rw [show (0 : Int).toNat = 0 from rfl, show (q : Int).toNat = q from by omega]; rfl) ?_
    refine J_call [0] rfl rfl rfl rfl (CloneF_any (ws (.slice wa wl.length wc) wl) _ (wl.take q) (by
      rw [(flat_split wl q hq).1, List.length_take, Nat.min_eq_left hq]; exact hvw.cut0 (s := 5) q) (fun x hx => hD.one x (List.mem_of_mem_take hx)) (by rw [List.length_take]; omega)) rfl (fun _ _ _ _ _ => trivial) ?_
    rintro out _ rfl
    refine J_shape 0 rfl ?_
    rintro oa oc rfl
    (refine go ?_)
    refine J_sliceAny (U := tab) (p := (q : Int)) (q := (wl.length : Int)) rfl rfl rfl rfl rfl rfl rfl (by omega) (by omega) (.inl rfl) ?_
    refine J_slot 37 (.slice (sliceAt wa wc q 5) (wl.length - q) (wc - q)) rfl (by rw [show (q : Int).toNat = q from by omega, show (wl.length : Int).toNat = wl.length from by omega]; rfl) ?_
    refine J_call [1] rfl rfl rfl rfl (CloneF_any (ws (.slice wa wl.length wc) wl) _ (wl.drop q) (by
      rw [(flat_split wl q hq).2, List.length_drop]; exact hvw.cutk (s := 5) hcl hwc q hq) (fun x hx => hD.one x (List.mem_of_mem_drop hx)) (by rw [List.length_drop]; omega)) rfl (fun _ _ _ _ _ => trivial) ?_
    rintro way' _ rfl
    refine J_shape 0 rfl ?_
    rintro na nc rfl
    (refine go ?_)
    refine J_isStore ?_; refine J_store (U := tab) 4 (fun _ _ => trivial) rfl rfl rfl rfl rfl rfl rfl rfl rfl ?_
    (refine go ?_)
    refine K_ent (Ent.pick [5] rfl) ?_
    refine K_ent (stock_split flB wl q _) ?_
    refine K_ent (Ent.pick [6, 2, 1] rfl) ?_
    refine K_ent (nt_c bn nodes most sent lost (.slice na (wl.drop q).length nc) (wl.drop q) _) ?_
    refine K_return hE Try.func13 rfl _ rfl ⟨_, _, wl.take q, hD.sub (List.drop_sublist _ _) _, by simp only [NetD.a, NA.due, ← htw.2, List.map_drop], ⟨List.take_sublist _ _, by simp only [NetD.a, NA.due, ← htw.1, List.map_take]⟩, rfl, rfl⟩ (Ent.fin [0, 3, 1] 2 rfl rfl))
end Go.Proofs.Ytngmcoopgbflaaa
