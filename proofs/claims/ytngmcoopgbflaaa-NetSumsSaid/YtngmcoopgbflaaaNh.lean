/- net, part h: New, Send, Double, Lose, Hold. -/
import Derived.Test.YtngmcoopgbflaaaNg
set_option linter.unusedVariables false
set_option linter.unusedSimpArgs false
namespace Go.Proofs.Ytngmcoopgbflaaa
open Go Go.SL
attribute [local irreducible] J K Ctr Ends pts slc mapR mapI sbRow stock arrS

def NA.new (nodes most : Nat) : NA := ⟨nodes, most, 0, 0, []⟩
theorem New_good (nodes most : Int) (h1 : 1 ≤ nodes) (h2 : nodes ≤ 65537) (h3 : 1 ≤ most) (h4 : most ≤ 5000) :
    Ctr Try.prog 8 [.int .i64 nodes, .int .i64 most] [] (fun v H => ∃ bn D, NOk D 0 ∧ D.a = NA.new nodes.toNat most.toNat ∧ v = .tuple #[ptr bn, .int .i64 0] ∧ H = [nt bn D]) := by
  obtain ⟨nodes, rfl⟩ := Int.eq_ofNat_of_zero_le (a := nodes) (by omega)
  obtain ⟨most, rfl⟩ := Int.eq_ofNat_of_zero_le (a := most) (by omega)
  refine Ctr.enter Try.func8 (by kernel_rfl) rfl Try.ntmps8 rfl rfl ?_
  intro G F R hE
  repeat' (first | (with_reducible intro _hh) | refine go1 ?_ | refine J_fork ?_ ?_ | refine J_gsP rfl rfl rfl rfl ?_ ?_ | refine K_condP rfl rfl ?_ ?_)
  · omega
  · omega
  · omega
  · omega
  refine J_box rfl rfl (fun _ _ _ => trivial) ?_
  intro bn
  (refine go ?_)
  refine K_ent (slc_lift 34 5 none _) ?_
  refine K_ent (stock_nil flB _) ?_
  refine K_ent (Ent.pick [2, 1, 0] rfl) ?_
  refine K_ent (nt_c bn nodes most 0 0 (.slice none 0 0) [] _) ?_
  have hD : NOk ⟨nodes, most, 0, 0, .slice none 0 0, []⟩ 0 :=
    { nodes := by simp only; omega, most := by simp only; omega, len := by simp, srt := by simp, sent := Nat.le_refl _, lost := Nat.le_refl _, nums := by simp, nodup := by simp, bytes := by simp, vs := by simp, kk := by omega }
  refine K_return hE Try.func8 rfl _ rfl ⟨bn, _, hD, by simp [NetD.a, NA.new], rfl, rfl⟩ (Ent.fin [0] 0 rfl rfl)
theorem New_bad (nodes most : Int) (h : ¬ (1 ≤ nodes ∧ nodes ≤ 65537 ∧ 1 ≤ most ∧ most ≤ 5000)) :
    Ctr Try.prog 8 [.int .i64 nodes, .int .i64 most] [] (fun v H => v = .tuple #[.pointer none, .int .i64 1] ∧ H = []) := by
  refine Ctr.enter Try.func8 (by kernel_rfl) rfl Try.ntmps8 rfl rfl ?_
  intro G F R hE
  repeat' (first | (with_reducible intro _hh) | refine go1 ?_ | refine J_fork ?_ ?_ | refine J_gsP rfl rfl rfl rfl ?_ ?_ | refine K_condP rfl rfl ?_ ?_)
  any_goals refine K_return hE Try.func8 rfl _ rfl ⟨rfl, rfl⟩ (Ent.fin [] 0 rfl rfl)
  all_goals (exfalso; omega)
def okMoment (due : Int) : Prop := 0 ≤ due ∧ due ≤ 1099511627776
instance (due : Int) : Decidable (okMoment due) := by unfold okMoment; infer_instance
def NA.send (A : NA) (src dst due : Int) (b : List UInt8) : Int × NA :=
  if (0 ≤ src ∧ src < A.nodes) ∧ (0 ≤ dst ∧ dst < A.nodes) ∧ okMoment due ∧ b.length ≤ 20000 then (0, A.fresh ⟨0, src, dst, due, b⟩) else (1, A)
theorem NOk.up {D : NetD} {k k' : Nat} (h : NOk D k) (hk : k ≤ k') (hk' : k' ≤ 1000000) : NOk D k' :=
  ⟨h.nodes, h.most, h.len, h.srt, Nat.le_trans h.sent hk, Nat.le_trans h.lost hk, h.nums, h.nodup, h.bytes, h.vs, hk'⟩
set_option maxRecDepth 20000 in
theorem Send_any (bn k : Nat) (D : NetD) (hD : NOk D k) (hk : k + 1 ≤ 1000000) (A : HP) (src dst due : Int) (bv : Value) (b : List UInt8) (hv : Vw A bv b.length (bV b)) (hb : b.length ≤ 9223372036854775807) :
    Ctr Try.prog 9 [ptr bn, .int .i64 src, .int .i64 dst, .int .i64 due, bv] [nt bn D, A]
      (fun v H => ∃ D', NOk D' (k + 1) ∧ D'.a = (D.a.send src dst due b).2 ∧ v = .int .i64 (D.a.send src dst due b).1 ∧ H = [nt bn D', A]) := by
  obtain ⟨nodes, most, sent, lost, way, wl⟩ := D
  obtain ⟨a0, c0, rfl⟩ := hv.shape
  refine Ctr.enter Try.func9 (by kernel_rfl) rfl Try.ntmps9 rfl rfl ?_
  intro G F R hE
  refine K_ent (nt_o _ _ _ _ _ _ _ _) ?_
  have hbad : ¬ ((0 ≤ src ∧ src < (nodes : Int)) ∧ (0 ≤ dst ∧ dst < (nodes : Int)) ∧ okMoment due ∧ b.length ≤ 20000) → (NetD.a ⟨nodes, most, sent, lost, way, wl⟩).send src dst due b = (1, NetD.a ⟨nodes, most, sent, lost, way, wl⟩) := fun h => if_neg h
  (refine go ?_)
  refine J_call [0] rfl rfl rfl rfl (has_any bn nodes most sent lost way src) rfl (fun _ _ _ _ _ => trivial) ?_
  rintro _ _ ⟨rfl, rfl⟩
  by_cases h1 : 0 ≤ src ∧ src < (nodes : Int)
  case' neg =>
    rw [hbad (fun h => h1 h.1)] at hE
    refine J_slot 13 (.bool false) rfl (congrArg Value.bool (decide_eq_false h1)) ?_
    (refine go ?_)
    refine K_ent (nt_c bn nodes most sent lost way wl _) ?_
    refine K_return hE Try.func9 rfl _ rfl ⟨_, hD.up (Nat.le_succ _) hk, rfl, rfl, rfl⟩ (Ent.fin [0, 1] 0 rfl rfl)
  refine J_slot 13 (.bool true) rfl (congrArg Value.bool (decide_eq_true h1)) ?_
  (refine go ?_)
  refine J_call [0] rfl rfl rfl rfl (has_any bn nodes most sent lost way dst) rfl (fun _ _ _ _ _ => trivial) ?_
  rintro _ _ ⟨rfl, rfl⟩
  by_cases h2 : 0 ≤ dst ∧ dst < (nodes : Int)
  case' neg =>
    rw [hbad (fun h => h2 h.2.1)] at hE
    refine J_slot 18 (.bool false) rfl (congrArg Value.bool (decide_eq_false h2)) ?_
    (refine go ?_)
    refine K_ent (nt_c bn nodes most sent lost way wl _) ?_
    refine K_return hE Try.func9 rfl _ rfl ⟨_, hD.up (Nat.le_succ _) hk, rfl, rfl, rfl⟩ (Ent.fin [0, 1] 0 rfl rfl)
  refine J_slot 18 (.bool true) rfl (congrArg Value.bool (decide_eq_true h2)) ?_
  (refine go ?_)
  refine J_call [] rfl rfl rfl rfl (moment_any due) rfl (fun _ _ _ _ _ => trivial) ?_
  rintro _ _ ⟨rfl, rfl⟩
  by_cases h3 : okMoment due
  case' neg =>
    rw [hbad (fun h => h3 h.2.2.1)] at hE
    refine J_slot 23 (.bool false) rfl (congrArg Value.bool (decide_eq_false h3)) ?_
    (refine go ?_)
    refine K_ent (nt_c bn nodes most sent lost way wl _) ?_
    refine K_return hE Try.func9 rfl _ rfl ⟨_, hD.up (Nat.le_succ _) hk, rfl, rfl, rfl⟩ (Ent.fin [0, 1] 0 rfl rfl)
  refine J_slot 23 (.bool true) rfl (congrArg Value.bool (decide_eq_true h3)) ?_
  (refine go ?_)
  refine K_condP rfl rfl ?_ ?_
  · intro h4
    rw [hbad (fun h => by have := h.2.2.2; omega)] at hE
    (refine go ?_)
    refine K_ent (nt_c bn nodes most sent lost way wl _) ?_
    refine K_return hE Try.func9 rfl _ rfl ⟨_, hD.up (Nat.le_succ _) hk, rfl, rfl, rfl⟩ (Ent.fin [0, 1] 0 rfl rfl)
  · intro h4
    have hgood : (NetD.a ⟨nodes, most, sent, lost, way, wl⟩).send src dst due b = (0, (NetD.a ⟨nodes, most, sent, lost, way, wl⟩).fresh ⟨0, src, dst, due, b⟩) := by
      have hh : (0 ≤ src ∧ src < (nodes : Int)) ∧ (0 ≤ dst ∧ dst < (nodes : Int)) ∧ okMoment due ∧ b.length ≤ 20000 := ⟨h1, h2, h3, by omega⟩
      exact if_pos hh
    rw [hgood] at hE
    refine K_ent (nt_c bn nodes most sent lost way wl _) ?_
    (refine go ?_)
    first
    | refine J_call [0, 1] rfl rfl rfl rfl (fresh_any bn k _ hD hk A ⟨0, src, dst, due, .slice a0 b.length c0, b⟩ hv.right (by simp only; omega)) rfl (fun _ _ _ _ _ => trivial) ?_
    | refine J_call0 [0, 1] rfl rfl rfl (fresh_any bn k _ hD hk A ⟨0, src, dst, due, .slice a0 b.length c0, b⟩ hv.right (by simp only; omega)) rfl (fun _ _ _ _ _ => trivial) ?_
    rintro _ _ ⟨D', hD', ha, rfl⟩
    (refine go ?_)
    refine K_return hE Try.func9 rfl _ rfl ⟨_, hD', ha, rfl, rfl⟩ (Ent.fin [0, 1] 0 rfl rfl)
end Go.Proofs.Ytngmcoopgbflaaa
