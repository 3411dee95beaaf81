/- net, part s: steps that came in; much; a step at both. -/
import Derived.Test.YtngmcoopgbflaaaNr4
import Derived.Test.YtngmcoopgbflaaaNn
import Derived.Test.YtngmcoopgbflaaaEngW
set_option linter.unusedVariables false
set_option linter.unusedSimpArgs false
namespace Go.Proofs.Ytngmcoopgbflaaa
open Go Go.SL
attribute [local irreducible] J K Ctr Ends pts slc mapR mapI sbRow stock arrS

structure StepD where
  do_ : Int
  a : Int
  c : Int
  due : Int
  b : List UInt8
  ba : Option Addr
  bc : Nat
  turn : UInt8
instance : Inhabited StepD := ⟨⟨0, 0, 0, 0, [], none, 0, 0⟩⟩
def scell (x : StepD) : List Value := [.int .i64 x.do_, .int .i64 x.a, .int .i64 x.c, .int .i64 x.due, .slice x.ba x.b.length x.bc, u8 x.turn]
theorem scell_len (x : StepD) : (scell x).length = 6 := rfl
theorem cellsS (x : StepD) : cellsL (.agg (scell x).toArray) = scell x := by simp [cellsL]
structure SOk (A : HP) (x : StepD) : Prop where
  view : Vw A (.slice x.ba x.b.length x.bc) x.b.length (bV x.b)
  len : x.b.length ≤ 9223372036854775807
structure StepsIn (A : HP) (v : Value) (l : List StepD) : Prop where
  view : Vw A v l.length (l.flatMap scell)
  each : ∀ x ∈ l, SOk A x
  len : l.length ≤ 9223372036854775807
theorem scell_get {W : List StepD} {i : Nat} {x : StepD} (hx : W[i]? = some x) (q : Nat) (v : Value) (hq : (scell x)[q]? = some v) : (W.flatMap scell)[i * 6 + q]? = some v := by
  have hl : q < 6 := by
    rcases Nat.lt_or_ge q 6 with h | h
    · exact h
    · rw [List.getElem?_eq_none (by rw [scell_len]; exact h)] at hq; cases hq
  rw [chunk_get scell_len hx q hl, hq]
theorem StepsIn.some {A : HP} {v : Value} {l : List StepD} (h : StepsIn A v l) (h0 : 0 < l.length) : ∃ b o c, v = .slice (Option.some ⟨b, o, none⟩) l.length c := h.view.some (by
  cases l with
  | nil => simp at h0
  | cons y l => simp [scell])
set_option maxRecDepth 20000 in
theorem much_any (A : HP) (v : Value) (l : List StepD) (hA : StepsIn A v l) :
    Ctr Try.prog 15 [v] [A] (fun v H => ∃ r, v = .bool r ∧ H = [A]) := by
  obtain ⟨a0, c0, rfl⟩ := hA.view.shape
  have hll := hA.len
  refine Ctr.enter Try.func15 (by kernel_rfl) rfl Try.ntmps15 rfl rfl ?_
  intro G F R hE
  (refine go ?_)
  refine K_loop (fun s : Nat × Nat => s.1 ≤ l.length ∧ s.1 ≤ 200 ∧ s.2 ≤ 60000) (fun s => l.length - s.1)
    (fun s => [(0, .slice a0 l.length c0), (2, .bool false), (3, .int .i64 s.2), (4, .int .i64 s.1)])
    (fun _ => A :: F) (0, 0) ⟨by simp, by simp, by simp⟩ rfl (by repeat (first | exact keep_nil | refine keep_cons rfl ?_)) (Ent.refl _) ?_
  rintro ⟨i, n⟩ ⟨hi, hi2, hn⟩ ih
  simp only at hi hi2 hn
  by_cases hlt : i < l.length
  · obtain ⟨x, hx⟩ : ∃ x, l[i]? = some x := ⟨l[i], by simp [hlt]⟩
    have hok := hA.each x (List.mem_of_getElem? hx)
    obtain ⟨bb, ob, cb, hsb⟩ := hA.some (by omega)
    simp only [Value.slice.injEq, true_and] at hsb
    obtain ⟨rfl, rfl⟩ := hsb
    have hvA := hA.view
    have h1 := hok.len
    repeat' (first | (with_reducible intro _hh) | refine go1 ?_ | refine J_fork ?_ ?_ | refine J_gsP rfl rfl rfl rfl ?_ ?_ | refine K_condP rfl rfl ?_ ?_ | refine J_at (U := tab) i 6 rfl rfl rfl rfl rfl rfl rfl rfl hlt ?_ | refine J_loadAt (U := tab) 0 (i * 6 + 4) rfl rfl rfl hvA (Nat.add_assoc _ _ _) (scell_get hx 4 _ rfl) rfl rfl ?_)
    any_goals (exfalso; omega)
    any_goals refine K_return hE Try.func15 rfl _ rfl ⟨_, rfl, rfl⟩ (Ent.fin [0] 0 rfl rfl)
    (first | refine J_slot 3 (.int .i64 ((n + min x.b.length 100000 : Nat) : Int)) rfl (congrArg (Value.int .i64) (by simp only; omega)) ?_ | refine K_slot 3 (.int .i64 ((n + min x.b.length 100000 : Nat) : Int)) rfl (congrArg (Value.int .i64) (by simp only; omega)) ?_)
    refine K_again ih (i + 1, n + min x.b.length 100000) rfl ⟨by simp only; omega, by simp only; omega, by simp only; omega⟩ (by simp only; omega) (by repeat (first | exact keep_nil | refine keep_cons rfl ?_)) (Ent.refl _)
  · repeat' (first | (with_reducible intro _hh) | refine go1 ?_ | refine J_fork ?_ ?_ | refine J_gsP rfl rfl rfl rfl ?_ ?_ | refine K_condP rfl rfl ?_ ?_)
    any_goals (exfalso; omega)
    any_goals refine K_return hE Try.func15 rfl _ rfl ⟨_, rfl, rfl⟩ (Ent.fin [0] 0 rfl rfl)
def NA.step (A : NA) (s : StepD) : (Int × List Fa) × NA :=
  if s.do_ = 0 then (((A.send s.a s.c s.due s.b).1, []), (A.send s.a s.c s.due s.b).2)
  else if s.do_ = 1 then (if okMoment s.due then ((0, (A.due s.due).1), (A.due s.due).2) else ((1, []), A))
  else if s.do_ = 2 then (((A.lose s.a).1, []), (A.lose s.a).2)
  else if s.do_ = 3 then (((A.double s.a s.due).1, []), (A.double s.a s.due).2)
  else if s.do_ = 4 then (((A.hold s.a s.due).1, []), (A.hold s.a s.due).2)
  else (((A.spoil s.a s.c s.turn).1, []), (A.spoil s.a s.c s.turn).2)
theorem step_val {p q : Int × List Fa} {x y : Int} (hp : p = (x, [])) (hq : q = (y, [])) : Value.bool (decide (x = y)) = Value.bool (decide (p = q)) := by
  subst hp hq; exact congrArg Value.bool (decide_eq_decide.2 ⟨fun h => by rw [h], fun h => congrArg Prod.fst h⟩)
theorem slc_view {G : Glob} {w : World} {H : List HP} {e : TypeId} {sz nn i : Nat} {v : Value} {cs : List Value} (hw : Sat G w H) (hi : getL H i = some (slc e sz v nn cs)) : Vw (slc e sz v nn cs) v nn cs := by
  obtain ⟨h1, _, hA⟩ := hw.getA hi
  exact Vw.of_slc _ _ _ _ _ ⟨h1, hA⟩
set_option maxRecDepth 20000 in
theorem step_any (bn br k : Nat) (D : NetD) (R : RefD) (hD : NOk D k) (hR : ROk R k) (hk : k + 1 ≤ 1000000) (A : HP) (s : StepD) (hs : SOk A s) :
    Ctr Try.prog 17 [ptr bn, ptr br, .agg (scell s).toArray] [nt bn D, rt br R, A]
      (fun v H => ∃ D' R', NOk D' (k + 1) ∧ ROk R' (k + 1) ∧ D'.a = (D.a.step s).2 ∧ R'.a = (R.a.step s).2 ∧ v = .bool (decide ((D.a.step s).1 = (R.a.step s).1)) ∧ H = [nt bn D', rt br R', A]) := by
  obtain ⟨do_, a, c, due, b, ba, bc, turn⟩ := s
  have hv := hs.view
  have hb := hs.len
  simp only at hv hb
  refine Ctr.enter Try.func17 (by kernel_rfl) rfl Try.ntmps17 rfl rfl ?_
  intro G F Re hE
  (refine go ?_)
  refine J_box rfl rfl (fun _ _ _ => trivial) ?_
  intro bx
  rw [cellsS]
  (refine go ?_)
  refine K_condP rfl rfl ?_ ?_
  · intro h0
    have hst : ∀ A : NA, A.step ⟨do_, a, c, due, b, ba, bc, turn⟩ = (((A.send a c due b).1, []), (A.send a c due b).2) := fun A => by unfold NA.step; rw [if_pos h0]
    (refine go ?_)
    refine J_call [1, 3] rfl rfl rfl rfl (Send_any bn k D hD hk A a c due _ b hv hb) rfl (fun _ _ _ _ _ => trivial) ?_
    rintro _ _ ⟨D', hD', ha, rfl, rfl⟩
    (refine go ?_)
    refine J_call [3, 1] rfl rfl rfl rfl (RSend_any br k R hR hk A a c due _ b hv hb) rfl (fun _ _ _ _ _ => trivial) ?_
    rintro _ _ ⟨R', hR', har, rfl, rfl⟩
    (refine go ?_)
    refine K_return hE Try.func17 rfl _ rfl ⟨D', R', hD', hR', by rw [ha, hst], by rw [har, hst], step_val (by rw [hst]) (by rw [hst]), rfl⟩ (Ent.fin [2, 0, 1] 1 rfl rfl)
  intro h0
  (refine go ?_)
  refine K_condP rfl rfl ?_ ?_
  · intro h1
    (refine go ?_)
    by_cases hm : okMoment due
    · have hst : ∀ A : NA, A.step ⟨do_, a, c, due, b, ba, bc, turn⟩ = ((0, (A.due due).1), (A.due due).2) := fun A => by unfold NA.step; rw [if_neg h0, if_pos h1, if_pos hm]
      refine J_call [1] rfl rfl rfl rfl (Due_any bn k D hD due hm) rfl (fun _ _ _ _ _ => trivial) ?_
      rintro _ _ ⟨D', out, W, hD', ha, ⟨hsub, hW⟩, rfl, rfl⟩
      refine J_shape 1 rfl ?_
      rintro oa oc rfl
      (refine go ?_)
      refine J_call [4] rfl rfl rfl rfl (RDue_any br k R hR due hm) rfl (fun _ _ _ _ _ => trivial) ?_
      rintro _ _ ⟨⟨rn, rm, rs, rl, rL, rwl, rM⟩, out2, W2, hR', har, ⟨hM, hsub2, hW2⟩, rfl, rfl⟩
      refine J_shape 1 rfl ?_
      rintro oa2 oc2 rfl
      (refine go ?_)
      (first | refine K_ent (rt_o _ _ _ _ _ _ _ _ _) ?_ | refine J_ent (rt_o _ _ _ _ _ _ _ _ _) ?_)
      refine J_sat fun w hw => ?_
      have hv1 := slc_view (i := 3) hw rfl
      have hv2 := slc_view (i := 5) hw rfl
      have hvb : ∀ x ∈ W, Vw (stock flB W) x.v x.bs.length (bV x.bs) := fun x hx => flB_view (j := 6) hw rfl hx
      clear hw w
      have hvb2 : ∀ x ∈ W2, Vw (arrS 5 rM) x.v x.bs.length (bV x.bs) := fun x hx => by
        have := (hR.vs x (hsub2.subset hx)).view 5
        simp only at hM
        rw [hM]; exact this
      (refine go ?_)
      refine J_call [5, 6, 3, 2] rfl rfl rfl rfl (Same_any (ws (.slice oa W.length oc) W) (stock flB W) (ws (.slice oa2 W2.length oc2) W2) (arrS 5 rM) _ _ W W2 hv2 hv1 hvb hvb2 (by have := hsub.length_le; have := hD.len; have := hD.most; omega)) rfl (fun _ _ _ _ _ => trivial) ?_
      rintro _ _ ⟨rfl, rfl⟩
      have hval : ((D.a.step ⟨do_, a, c, due, b, ba, bc, turn⟩).1 = (R.a.step ⟨do_, a, c, due, b, ba, bc, turn⟩).1) ↔ List.map Fl.a W = List.map Fl.a W2 := by
        rw [hst, hst, hW, hW2]; exact ⟨fun h => congrArg Prod.snd h, fun h => by rw [h]⟩
      by_cases heq : List.map Fl.a W = List.map Fl.a W2
      case' pos => (first | refine J_slot 61 (.bool true) rfl (congrArg Value.bool (decide_eq_true heq)) ?_ | refine K_slot 61 (.bool true) rfl (congrArg Value.bool (decide_eq_true heq)) ?_)
      case' neg => (first | refine J_slot 61 (.bool false) rfl (congrArg Value.bool (decide_eq_false heq)) ?_ | refine K_slot 61 (.bool false) rfl (congrArg Value.bool (decide_eq_false heq)) ?_)
      all_goals (
        (refine go ?_)
        (first | refine K_ent (Ent.pick [4, 5, 3] rfl) ?_ | refine J_ent (Ent.pick [4, 5, 3] rfl) ?_)
        (first | refine K_ent (rt_c br rn rm rs rl rL rwl rM _) ?_ | refine J_ent (rt_c br rn rm rs rl rL rwl rM _) ?_)
        refine K_return hE Try.func17 rfl _ rfl ⟨D', _, hD'.up (Nat.le_succ _) hk, hR'.up (Nat.le_succ _) hk, by rw [ha, hst], by rw [har, hst], by simp [oneOrTuple, hval, heq], rfl⟩ (Ent.fin [4, 0, 6] 4 rfl rfl))
    · have hst : ∀ A : NA, A.step ⟨do_, a, c, due, b, ba, bc, turn⟩ = ((1, []), A) := fun A => by unfold NA.step; rw [if_neg h0, if_pos h1, if_neg hm]
      refine J_call [1] rfl rfl rfl rfl (Due_bad bn k D hD due hm) rfl (fun _ _ _ _ _ => trivial) ?_
      rintro _ _ ⟨rfl, rfl⟩
      (refine go ?_)
      refine J_call [2] rfl rfl rfl rfl (RDue_bad br k R hR due hm) rfl (fun _ _ _ _ _ => trivial) ?_
      rintro _ _ ⟨rfl, rfl⟩
      (refine go ?_)
      (first | refine K_ent (Ent.addEmp _) ?_ | refine J_ent (Ent.addEmp _) ?_)
      (first | refine K_ent (Ent.addEmp _) ?_ | refine J_ent (Ent.addEmp _) ?_)
      (first | refine K_ent (Ent.addEmp _) ?_ | refine J_ent (Ent.addEmp _) ?_)
      (first | refine K_ent (Ent.addEmp _) ?_ | refine J_ent (Ent.addEmp _) ?_)
      refine J_call [0, 1, 2, 3] rfl rfl rfl rfl (Same_any emp emp emp emp _ _ [] [] ⟨none, 0, rfl, .inl rfl⟩ ⟨none, 0, rfl, .inl rfl⟩ (by simp) (by simp) (by simp)) rfl (fun _ _ _ _ _ => trivial) ?_
      rintro _ _ ⟨rfl, rfl⟩
      (refine go ?_)
      refine K_return hE Try.func17 rfl _ rfl ⟨D, R, hD.up (Nat.le_succ _) hk, hR.up (Nat.le_succ _) hk, by rw [hst], by rw [hst], by rw [hst, hst]; simp [oneOrTuple], rfl⟩ (Ent.fin [5, 4, 7] 5 rfl rfl)
  intro h1
  (refine go ?_)
  refine K_condP rfl rfl ?_ ?_
  · intro h2
    have hst : ∀ A : NA, A.step ⟨do_, a, c, due, b, ba, bc, turn⟩ = (((A.lose a).1, []), (A.lose a).2) := fun A => by unfold NA.step; rw [if_neg h0, if_neg h1, if_pos h2]
    (refine go ?_)
    refine J_call [1] rfl rfl rfl rfl (Lose_any bn k D hD a) rfl (fun _ _ _ _ _ => trivial) ?_
    rintro _ _ ⟨D', hD', ha, rfl, rfl⟩
    (refine go ?_)
    refine J_call [2] rfl rfl rfl rfl (RLose_any br k R hR a) rfl (fun _ _ _ _ _ => trivial) ?_
    rintro _ _ ⟨R', hR', har, rfl, rfl⟩
    (refine go ?_)
    refine K_return hE Try.func17 rfl _ rfl ⟨D', R', hD'.up (Nat.le_succ _) hk, hR'.up (Nat.le_succ _) hk, by rw [ha, hst], by rw [har, hst], step_val (by rw [hst]) (by rw [hst]), rfl⟩ (Ent.fin [1, 0, 3] 1 rfl rfl)
  intro h2
  (refine go ?_)
  refine K_condP rfl rfl ?_ ?_
  · intro h3
    have hst : ∀ A : NA, A.step ⟨do_, a, c, due, b, ba, bc, turn⟩ = (((A.double a due).1, []), (A.double a due).2) := fun A => by unfold NA.step; rw [if_neg h0, if_neg h1, if_neg h2, if_pos h3]
    (refine go ?_)
    refine J_call [1] rfl rfl rfl rfl (Double_any bn k D hD hk a due) rfl (fun _ _ _ _ _ => trivial) ?_
    rintro _ _ ⟨D', hD', ha, rfl, rfl⟩
    (refine go ?_)
    refine J_call [2] rfl rfl rfl rfl (RDouble_any br k R hR hk a due) rfl (fun _ _ _ _ _ => trivial) ?_
    rintro _ _ ⟨R', hR', har, rfl, rfl⟩
    (refine go ?_)
    refine K_return hE Try.func17 rfl _ rfl ⟨D', R', hD', hR', by rw [ha, hst], by rw [har, hst], step_val (by rw [hst]) (by rw [hst]), rfl⟩ (Ent.fin [1, 0, 3] 1 rfl rfl)
  intro h3
  (refine go ?_)
  refine K_condP rfl rfl ?_ ?_
  · intro h4
    have hst : ∀ A : NA, A.step ⟨do_, a, c, due, b, ba, bc, turn⟩ = (((A.hold a due).1, []), (A.hold a due).2) := fun A => by unfold NA.step; rw [if_neg h0, if_neg h1, if_neg h2, if_neg h3, if_pos h4]
    (refine go ?_)
    refine J_call [1] rfl rfl rfl rfl (Hold_any bn k D hD a due) rfl (fun _ _ _ _ _ => trivial) ?_
    rintro _ _ ⟨D', hD', ha, rfl, rfl⟩
    (refine go ?_)
    refine J_call [2] rfl rfl rfl rfl (RHold_any br k R hR a due) rfl (fun _ _ _ _ _ => trivial) ?_
    rintro _ _ ⟨R', hR', har, rfl, rfl⟩
    (refine go ?_)
    refine K_return hE Try.func17 rfl _ rfl ⟨D', R', hD'.up (Nat.le_succ _) hk, hR'.up (Nat.le_succ _) hk, by rw [ha, hst], by rw [har, hst], step_val (by rw [hst]) (by rw [hst]), rfl⟩ (Ent.fin [1, 0, 3] 1 rfl rfl)
  intro h4
  have hst : ∀ A : NA, A.step ⟨do_, a, c, due, b, ba, bc, turn⟩ = (((A.spoil a c turn).1, []), (A.spoil a c turn).2) := fun A => by unfold NA.step; rw [if_neg h0, if_neg h1, if_neg h2, if_neg h3, if_neg h4]
  (refine go ?_)
  refine J_call [1] rfl rfl rfl rfl (Spoil_any bn k D hD a c turn) rfl (fun _ _ _ _ _ => trivial) ?_
  rintro _ _ ⟨D', hD', ha, rfl, rfl⟩
  (refine go ?_)
  refine J_call [2] rfl rfl rfl rfl (RSpoil_any br k R hR a c turn) rfl (fun _ _ _ _ _ => trivial) ?_
  rintro _ _ ⟨R', hR', har, rfl, rfl⟩
  (refine go ?_)
  refine K_return hE Try.func17 rfl _ rfl ⟨D', R', hD'.up (Nat.le_succ _) hk, hR'.up (Nat.le_succ _) hk, by rw [ha, hst], by rw [har, hst], step_val (by rw [hst]) (by rw [hst]), rfl⟩ (Ent.fin [1, 0, 3] 1 rfl rfl)
end Go.Proofs.Ytngmcoopgbflaaa
