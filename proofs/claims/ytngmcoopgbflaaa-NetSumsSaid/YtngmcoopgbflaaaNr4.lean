/- net, part r4: Same. -/
import Derived.Test.YtngmcoopgbflaaaNr3
import Derived.Test.YtngmcoopgbflaaaEngR
set_option linter.unusedVariables false
set_option linter.unusedSimpArgs false
namespace Go.Proofs.Ytngmcoopgbflaaa
open Go Go.SL
attribute [local irreducible] J K Ctr Ends pts slc mapR mapI sbRow stock arrS

instance : DecidableEq Fa := fun a b => decidable_of_iff (a.num = b.num ∧ a.src = b.src ∧ a.dst = b.dst ∧ a.due = b.due ∧ a.bs = b.bs) (by cases a; cases b; simp)
theorem a_inj {x y : Fl} : x.a = y.a ↔ (x.num = y.num ∧ x.src = y.src ∧ x.dst = y.dst ∧ x.due = y.due ∧ x.bs = y.bs) := by
  unfold Fl.a; simp
theorem map_a_ne {W V : List Fl} {i : Nat} {x y : Fl} (hx : W[i]? = some x) (hy : V[i]? = some y) (h : ¬ x.a = y.a) : ¬ W.map Fl.a = V.map Fl.a := fun e => h (by
  have := congrArg (fun l => l[i]?) e
  simpa [hx, hy] using this)
set_option maxRecDepth 20000 in
theorem Same_any (A1 A2 B1 B2 : HP) (av bv : Value) (W V : List Fl) (hva : Vw A1 av W.length (W.flatMap fcell)) (hvb : Vw B1 bv V.length (V.flatMap fcell)) (ha : ∀ x ∈ W, Vw A2 x.v x.bs.length (bV x.bs)) (hb : ∀ x ∈ V, Vw B2 x.v x.bs.length (bV x.bs)) (hl : W.length ≤ 1000000000) :
    Ctr Try.prog 18 [av, bv] [A1, A2, B1, B2] (fun v H => v = .bool (decide (W.map Fl.a = V.map Fl.a)) ∧ H = [A1, A2, B1, B2]) := by
  obtain ⟨aa, ac, rfl⟩ := hva.shape
  obtain ⟨ba, bc, rfl⟩ := hvb.shape
  refine Ctr.enter Try.func18 (by kernel_rfl) rfl Try.ntmps18 rfl rfl ?_
  intro G F Re hE
  repeat' (first | (with_reducible intro _hh) | refine go1 ?_ | refine J_fork ?_ ?_ | refine J_gsP rfl rfl rfl rfl ?_ ?_ | refine K_condP rfl rfl ?_ ?_)
  case' refine_1 =>
    have hne := _hh
    rw [decide_eq_false (show ¬ W.map Fl.a = V.map Fl.a from fun e => hne (by have := congrArg List.length e; simp at this; omega))] at hE
    refine K_return hE Try.func18 rfl _ rfl ⟨rfl, rfl⟩ (Ent.fin [0, 1, 2, 3] 0 rfl rfl)
  have hlen := _hh
  have hlen' : W.length = V.length := by omega
  refine K_loop (fun i : Nat => i ≤ W.length ∧ ∀ j, j < i → (W.map Fl.a)[j]? = (V.map Fl.a)[j]?) (fun i => W.length - i)
    (fun i => [(0, .slice aa W.length ac), (1, .slice ba V.length bc), (5, .int .i64 i)])
    (fun _ => A1 :: A2 :: B1 :: B2 :: F) 0 ⟨Nat.zero_le _, fun j hj => by omega⟩ rfl (by repeat (first | exact keep_nil | refine keep_cons rfl ?_)) (Ent.refl _) ?_
  rintro i ⟨hi, heq⟩ ih
  (refine go ?_)
  refine K_condP rfl rfl ?_ ?_
  case' refine_2.refine_2 =>
    intro hge
    have hie : i = W.length := by omega
    rw [decide_eq_true (show W.map Fl.a = V.map Fl.a from List.ext_getElem? fun j => by
      rcases Nat.lt_or_ge j W.length with h | h
      · exact heq j (by omega)
      · rw [List.getElem?_eq_none (by simpa using h), List.getElem?_eq_none (by simp; omega)])] at hE
    (refine go ?_)
    refine K_return hE Try.func18 rfl _ rfl ⟨rfl, rfl⟩ (Ent.fin [0, 1, 2, 3] 0 rfl rfl)
  intro hlt
  have hi1 : i < W.length := by omega
  have hi2 : i < V.length := by omega
  obtain ⟨x, hx⟩ : ∃ x, W[i]? = some x := ⟨W[i], by simp⟩
  obtain ⟨y, hy⟩ : ∃ y, V[i]? = some y := ⟨V[i], by simp⟩
  obtain ⟨ba1, oa1, ca1, hs1⟩ := hva.some (by intro e; have := congrArg List.length e; rw [chunk_len fcell_len, List.length_nil] at this; omega)
  obtain ⟨bb1, ob1, cb1, hs2⟩ := hvb.some (by intro e; have := congrArg List.length e; rw [chunk_len fcell_len, List.length_nil] at this; omega)
  simp only [Value.slice.injEq, true_and] at hs1 hs2
  obtain ⟨rfl, rfl⟩ := hs1
  obtain ⟨rfl, rfl⟩ := hs2
  have hax := ha x (List.mem_of_getElem? hx)
  have hby := hb y (List.mem_of_getElem? hy)
  refine K_drawA (fun w => Sat G w ([A1, A2, B1, B2])) (.st 0 (.st 1 (.st 2 (.st 3 (.st 4 (.st 5 (.st 6 (.st 7 (.st 8 (.st 9 (.st 10 (.st 11 (.st 12 (.st 13 (.st 14 (.st 15 (.st 16 (.st 17 (.st 18 (.st 19 (.st 20 (.st 21 (.st 22 (.st 23 (.st 24 (.st 25 (.st 26 (.st 27 (.st 28 (.st 29 (.st 30 (.st 31 (.st 32 (.st 33 (.st 34 (.st 35 (.st 36 (.st 37 (.st 38 (.st 39 (.st 40 (.st 41 (.st 42 (.st 43 (.st 44 (.st 45 (.st 46 (.st 47 (.st 48 (.st 49 (.st 50 (.st 51 (.st 52 (.st 53 (.st 54 (.st 55 (.st 56 (.st 57 (.st 58 (.st 59 (.st 60 (.st 61 (.st 62 (.st 63 (.st 64 .nil))))))))))))))))))))))))))))))))))))))))))))))))))))))))))))))))) rfl (by kernel_rfl) (by kernel_rfl) (by kernel_rfl) (fun w hw => hw.ent (Ent.pickOnly ([0, 1, 2, 3]) rfl)) ?_
  repeat' (first | (with_reducible intro _hh) | refine go1 ?_ | refine J_fork ?_ ?_ | refine J_gsP rfl rfl rfl rfl ?_ ?_ | refine K_condP rfl rfl ?_ ?_ | refine J_at (U := tab) i 5 rfl rfl rfl rfl rfl rfl rfl rfl hi1 ?_ | refine J_at (U := tab) i 5 rfl rfl rfl rfl rfl rfl rfl rfl hi2 ?_ | (refine J_isLoad ?_; first | refine J_loadAtS (U := tab) 0 (i * 5 + 0) rfl rfl rfl hva (Nat.add_assoc _ _ _) (fcell_get hx 0 (.int .i64 x.num) rfl) rfl rfl ?_ | refine J_loadAtS (U := tab) 2 (i * 5 + 0) rfl rfl rfl hvb (Nat.add_assoc _ _ _) (fcell_get hy 0 (.int .i64 y.num) rfl) rfl rfl ?_ | refine J_loadAtS (U := tab) 0 (i * 5 + 1) rfl rfl rfl hva (Nat.add_assoc _ _ _) (fcell_get hx 1 (.int .i64 x.src) rfl) rfl rfl ?_ | refine J_loadAtS (U := tab) 2 (i * 5 + 1) rfl rfl rfl hvb (Nat.add_assoc _ _ _) (fcell_get hy 1 (.int .i64 y.src) rfl) rfl rfl ?_ | refine J_loadAtS (U := tab) 0 (i * 5 + 2) rfl rfl rfl hva (Nat.add_assoc _ _ _) (fcell_get hx 2 (.int .i64 x.dst) rfl) rfl rfl ?_ | refine J_loadAtS (U := tab) 2 (i * 5 + 2) rfl rfl rfl hvb (Nat.add_assoc _ _ _) (fcell_get hy 2 (.int .i64 y.dst) rfl) rfl rfl ?_ | refine J_loadAtS (U := tab) 0 (i * 5 + 3) rfl rfl rfl hva (Nat.add_assoc _ _ _) (fcell_get hx 3 (.int .i64 x.due) rfl) rfl rfl ?_ | refine J_loadAtS (U := tab) 2 (i * 5 + 3) rfl rfl rfl hvb (Nat.add_assoc _ _ _) (fcell_get hy 3 (.int .i64 y.due) rfl) rfl rfl ?_ | refine J_loadAtS (U := tab) 0 (i * 5 + 4) rfl rfl rfl hva (Nat.add_assoc _ _ _) (fcell_get hx 4 x.v rfl) rfl rfl ?_ | refine J_loadAtS (U := tab) 2 (i * 5 + 4) rfl rfl rfl hvb (Nat.add_assoc _ _ _) (fcell_get hy 4 y.v rfl) rfl rfl ?_) | refine J_toStrS (U := tab) 1 rfl rfl rfl rfl rfl rfl rfl rfl rfl hax ?_ | (refine J_toStrS (U := tab) 3 rfl rfl rfl rfl rfl rfl rfl rfl rfl hby ?_; refine go ?_; refine K_slot 81 (.bool (decide (¬ x.bs = y.bs))) rfl (by rw [eqS_strOf, decide_not]) ?_))
  any_goals (
    rw [decide_eq_false (map_a_ne hx hy (fun e => by rw [a_inj] at e; obtain ⟨e1, e2, e3, e4, e5⟩ := e; first | exact absurd e5 (by assumption) | omega))] at hE
    refine K_return hE Try.func18 rfl _ rfl ⟨rfl, rfl⟩ (Ent.fin [0, 1, 2, 3] 0 rfl rfl))
  refine K_again ih (i + 1) rfl ⟨hi1, fun j hj => by
    rcases Nat.lt_or_ge j i with h | h
    · exact heq j h
    · rw [show j = i from by omega, List.getElem?_map, List.getElem?_map, hx, hy, Option.map_some, Option.map_some, show x.a = y.a from a_inj.2 ⟨by omega, by omega, by omega, by omega, by first | exact Decidable.not_not.1 (by assumption)⟩]⟩ (by omega) (by repeat (first | exact keep_nil | refine keep_cons rfl ?_)) (Ent.refl _)
end Go.Proofs.Ytngmcoopgbflaaa
