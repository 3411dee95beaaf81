/- net, part u0: NetSums' walk. -/
import Derived.Test.YtngmcoopgbflaaaNt0
set_option linter.unusedVariables false
set_option linter.unusedSimpArgs false
namespace Go.Proofs.Ytngmcoopgbflaaa
open Go Go.SL
attribute [local irreducible] J K Ctr Ends pts slc mapR mapI sbRow stock arrS

theorem net_parts {D : NetD} {X : NA} (h : D.a = X) : D.wl.length = X.way.length ∧ D.lost = X.lost ∧ D.most = X.most := by
  subst h; exact ⟨by simp [NetD.a], rfl, rfl⟩
theorem fresh_sum (A : NA) (f : Fa) (hl : A.way.length ≤ A.most) : (A.fresh f).most = A.most ∧ (A.fresh f).way.length + (A.fresh f).lost = A.way.length + A.lost + 1 := by
  unfold NA.fresh
  split
  · rename_i h; rw [insA_len] at h; refine ⟨rfl, ?_⟩; simp only [List.length_take, insA_len]; omega
  · exact ⟨rfl, by simp only [insA_len]; omega⟩
theorem send_sum (A : NA) (hl : A.way.length ≤ A.most) (src dst due : Int) (b : List UInt8) : (A.send src dst due b).2.most = A.most ∧ ((A.send src dst due b).1 = 0 → (A.send src dst due b).2.way.length + (A.send src dst due b).2.lost = A.way.length + A.lost + 1) ∧ (¬ (A.send src dst due b).1 = 0 → (A.send src dst due b).2 = A) := by
  unfold NA.send
  split
  · exact ⟨(fresh_sum A _ hl).1, fun _ => (fresh_sum A _ hl).2, fun h => absurd rfl h⟩
  · exact ⟨rfl, fun h => by simp at h, fun _ => rfl⟩
theorem double_sum (A : NA) (hl : A.way.length ≤ A.most) (i due : Int) : (A.double i due).2.most = A.most ∧ ((A.double i due).1 = 0 → (A.double i due).2.way.length + (A.double i due).2.lost = A.way.length + A.lost + 1) ∧ (¬ (A.double i due).1 = 0 → (A.double i due).2 = A) := by
  unfold NA.double
  split
  · exact ⟨(fresh_sum A _ hl).1, fun _ => (fresh_sum A _ hl).2, fun h => absurd rfl h⟩
  · rename_i h; exact ⟨rfl, fun h2 => absurd h2 h, fun _ => rfl⟩
theorem lose_sum (A : NA) (i : Int) : (A.lose i).2.most = A.most ∧ (A.lose i).2.lost = A.lost ∧ ((A.lose i).1 = 0 → (A.lose i).2.way.length + 1 = A.way.length) ∧ (¬ (A.lose i).1 = 0 → (A.lose i).2 = A) := by
  unfold NA.lose
  split
  · rename_i h; exact ⟨rfl, rfl, fun _ => by simp only [List.length_eraseIdx]; rw [if_pos (by omega)]; omega, fun h => absurd rfl h⟩
  · exact ⟨rfl, rfl, fun h => by simp at h, fun _ => rfl⟩
theorem due_sum (A : NA) (now : Int) : (A.due now).2.most = A.most ∧ (A.due now).2.lost = A.lost ∧ (A.due now).1.length + (A.due now).2.way.length = A.way.length ∧ ∀ x ∈ (A.due now).1, x.due ≤ now := by
  unfold NA.due
  refine ⟨rfl, rfl, ?_, fun x hx => ?_⟩
  · simp only; rw [← List.length_append, List.takeWhile_append_dropWhile]
  · have := takeWhile_all (P := fun x : Fa => decide (x.due ≤ now)) A.way x hx; simpa using this
theorem step_sum (A : NA) (s : StepD) (h0 : ¬ s.do_ = 0) (h1 : ¬ s.do_ = 1) (h2 : ¬ s.do_ = 2) (h3 : ¬ s.do_ = 3) : (A.step s).2.most = A.most ∧ (A.step s).2.lost = A.lost ∧ (A.step s).2.way.length = A.way.length := by
  unfold NA.step
  rw [if_neg h0, if_neg h1, if_neg h2, if_neg h3]
  split
  · unfold NA.hold
    split
    · rename_i h; have := (laterE_0 h).1; refine ⟨rfl, rfl, ?_⟩; simp only [insA_len, List.length_eraseIdx]; rw [if_pos (by omega)]; omega
    · exact ⟨rfl, rfl, rfl⟩
  · unfold NA.spoil
    split
    · exact ⟨rfl, rfl, rfl⟩
    · split
      · exact ⟨rfl, rfl, rfl⟩
      · exact ⟨rfl, rfl, by simp only [List.length_set]⟩
set_option maxRecDepth 20000 in
theorem NetSums_any (A : HP) (most : Int) (v : Value) (l : List StepD) (hA : StepsIn A v l) :
    Ctr Try.prog 6 [.int .i64 most, v] [A] (fun v H => v = .bool true ∧ H = [A]) := by
  obtain ⟨a0, c0, rfl⟩ := hA.view.shape
  have hll := hA.len
  refine Ctr.enter Try.func6 (by kernel_rfl) rfl Try.ntmps6 rfl rfl ?_
  intro G F Re hE
  (refine go ?_)
  (first | refine J_callE rfl rfl rfl rfl (awake_any) entA ?_ (fun _ _ _ _ _ => trivial) | refine J_call0E rfl rfl rfl (awake_any) entA ?_ (fun _ _ _ _ _ => trivial))
  rintro _ _ ⟨rfl, rfl⟩
  (refine go ?_)
  (first | refine J_callE rfl rfl rfl rfl (much_any A _ l hA) entA ?_ (fun _ _ _ _ _ => trivial) | refine J_call0E rfl rfl rfl (much_any A _ l hA) entA ?_ (fun _ _ _ _ _ => trivial))
  rintro _ _ ⟨many, rfl, rfl⟩
  (refine go ?_)
  by_cases hg : 1 ≤ most ∧ most ≤ 5000
  case' neg =>
    (first | refine J_callE rfl rfl rfl rfl (New_bad 5 most (fun h => hg ⟨h.2.2.1, h.2.2.2⟩)) entA ?_ (fun _ _ _ _ _ => trivial) | refine J_call0E rfl rfl rfl (New_bad 5 most (fun h => hg ⟨h.2.2.1, h.2.2.2⟩)) entA ?_ (fun _ _ _ _ _ => trivial))
    rintro _ _ ⟨rfl, rfl⟩
    cases many
    all_goals (
      (refine go ?_)
      (first | refine K_return hE Try.func6 rfl _ rfl ⟨rfl, rfl⟩ entA | refine K_fallEnd hE Try.func6 rfl _ rfl ⟨rfl, rfl⟩ entA))
  obtain ⟨g1, g2⟩ := hg
  (first | refine J_callE rfl rfl rfl rfl (New_good 5 most (by omega) (by omega) g1 g2) entA ?_ (fun _ _ _ _ _ => trivial) | refine J_call0E rfl rfl rfl (New_good 5 most (by omega) (by omega) g1 g2) entA ?_ (fun _ _ _ _ _ => trivial))
  rintro _ _ ⟨bn, D0, hD0, ha0, rfl, rfl⟩
  cases many with
  | true =>
    (refine go ?_)
    (first | refine K_return hE Try.func6 rfl _ rfl ⟨rfl, rfl⟩ entA | refine K_fallEnd hE Try.func6 rfl _ rfl ⟨rfl, rfl⟩ entA)
  | false =>
  (refine go ?_)
  (first | refine J_callE rfl rfl rfl rfl (RNew_good 1 1 (by omega) (by omega) (by omega) (by omega)) entA ?_ (fun _ _ _ _ _ => trivial) | refine J_call0E rfl rfl rfl (RNew_good 1 1 (by omega) (by omega) (by omega) (by omega)) entA ?_ (fun _ _ _ _ _ => trivial))
  rintro _ _ ⟨br, R0, hR0, hb0, rfl, rfl⟩
  (refine go ?_)
  refine K_loop (fun s : (Nat × Nat × Nat) × NetD × RefD => (s.1.1 ≤ l.length ∧ s.1.1 ≤ 150) ∧ NOk s.2.1 s.1.1 ∧ ROk s.2.2 s.1.1 ∧ (s.1.2.1 = s.1.2.2 + s.2.1.wl.length + s.2.1.lost ∧ s.1.2.1 ≤ s.1.1 ∧ (s.2.1.most : Int) = most)) (fun s => l.length - s.1.1)
    (fun s => [(0, .int .i64 most), (1, .slice a0 l.length c0), (7, ptr bn), (9, ptr br), (11, .int .i64 s.1.2.1), (12, .int .i64 s.1.2.2), (13, .int .i64 s.1.1)])
    (fun s => nt bn s.2.1 :: rt br s.2.2 :: A :: F) ((0, 0, 0), D0, R0) ⟨⟨Nat.zero_le _, Nat.zero_le _⟩, hD0, hR0, by
      obtain ⟨h1, h2, h3⟩ := net_parts ha0
      have h4 : D0.most = most.toNat := h3
      have h5 : D0.lost = 0 := h2
      have h6 : D0.wl.length = 0 := h1
      simp only; omega⟩ rfl (by repeat (first | exact keep_nil | refine keep_cons rfl ?_)) entA ?_
  clear hD0 hR0 ha0 hb0 D0 R0
  rintro ⟨⟨i, sent, gone⟩, D, R⟩ ⟨⟨hi, hi2⟩, hD, hR, hsum, hsi, hmost⟩ ih
  simp only at hi hi2 hD hR hsum hsi hmost
  by_cases hlt : i < l.length ∧ i < 150
  case' neg =>
    repeat' (first | (with_reducible intro _hh) | refine go1 ?_ | refine J_fork ?_ ?_ | refine J_gsP rfl rfl rfl rfl ?_ ?_ | refine K_condP rfl rfl ?_ ?_)
    any_goals (exfalso; simp only at *; omega)
    all_goals (
      (first | refine K_return hE Try.func6 rfl _ rfl ⟨rfl, rfl⟩ entA | refine K_fallEnd hE Try.func6 rfl _ rfl ⟨rfl, rfl⟩ entA))
  obtain ⟨x, hx⟩ : ∃ x, l[i]? = some x := ⟨l[i], by simp [hlt.1]⟩
  have hok := hA.each x (List.mem_of_getElem? hx)
  obtain ⟨bb, ob, cb, hsb⟩ := hA.some (by omega)
  simp only [Value.slice.injEq, true_and] at hsb
  obtain ⟨rfl, rfl⟩ := hsb
  have hvA := hA.view
  repeat' (first | (with_reducible intro _hh) | refine go1 ?_ | refine J_fork ?_ ?_ | refine J_gsP rfl rfl rfl rfl ?_ ?_ | refine K_condP rfl rfl ?_ ?_)
  any_goals (exfalso; simp only at *; omega)
  refine J_at (U := tab) i 6 rfl rfl rfl rfl rfl rfl rfl rfl hlt.1 ?_
  refine J_loadElem (U := tab) (es := scell x) 2 (i * 6) rfl rfl rfl hvA rfl (scell_get hx) rfl rfl rfl ?_
  refine J_alloc (U := tab) rfl rfl rfl (fun _ _ _ => trivial) ?_
  intro bx
  obtain ⟨do_, a, c, due, b, ba, bc, turn⟩ := x
  obtain ⟨x, hxd⟩ : ∃ x : StepD, x = ⟨do_, a, c, due, b, ba, bc, turn⟩ := ⟨_, rfl⟩
  have hxc : scell ⟨do_, a, c, due, b, ba, bc, turn⟩ = [.int .i64 do_, .int .i64 a, .int .i64 c, .int .i64 due, .slice ba b.length bc, u8 turn] := rfl
  rw [hxc]
  (refine go ?_)
  have hDl : D.a.way.length ≤ D.a.most := by have := hD.len; simpa [NetD.a] using this
  have hDw : D.a.way.length = D.wl.length := by simp [NetD.a]
  have hDo : D.a.lost = D.lost := rfl
  have hDm : D.a.most = D.most := rfl
  refine K_mid 1 (fun s : (Nat × Nat) × NetD × RefD => NOk s.2.1 (i + 1) ∧ ROk s.2.2 (i + 1) ∧ (s.1.1 = s.1.2 + s.2.1.wl.length + s.2.1.lost ∧ s.1.1 ≤ i + 1 ∧ (s.2.1.most : Int) = most)) (fun s => [(0, .int .i64 most), (1, .slice (some ⟨bb, ob, none⟩) l.length c0), (7, ptr bn), (9, ptr br), (11, .int .i64 s.1.1), (12, .int .i64 s.1.2), (13, .int .i64 i)]) (fun s => nt bn s.2.1 :: rt br s.2.2 :: A :: F) rfl ?_ ?_
  · clear hDl hDw hDo hDm
    rintro ⟨⟨sent2, gone2⟩, D2, R2⟩ ⟨hD2, hR2, hsum2, hsi2, hmost2⟩
    simp only at hD2 hR2 hsum2 hsi2 hmost2
    (refine go ?_)
    (first | refine J_callE rfl rfl rfl rfl (Way_any bn _ D2 hD2) entA ?_ (fun _ _ _ _ _ => trivial) | refine J_call0E rfl rfl rfl (Way_any bn _ D2 hD2) entA ?_ (fun _ _ _ _ _ => trivial))
    rintro wv _ ⟨W, ⟨hWa, hWv⟩, rfl⟩
    (first | refine J_shape 0 rfl ?_ | refine K_shape 0 rfl ?_)
    rintro wa wc rfl
    have hWl : W.length = D2.wl.length := by simpa [NetD.a] using congrArg List.length hWa
    have hDl2 := hD2.len
    have hDm2 := hD2.most
    have hDo2 := hD2.lost
    have hsrt : Sorted (W.map Fl.a) := by rw [hWa]; exact hD2.srt
    (refine go ?_)
    refine K_loop (fun k : Nat => 1 ≤ k ∧ (k ≤ W.length ∨ k = 1)) (fun k => W.length - k)
      (fun k => [(0, .int .i64 most), (1, .slice (some ⟨bb, ob, none⟩) l.length c0), (7, ptr bn), (9, ptr br), (11, .int .i64 sent2), (12, .int .i64 gone2), (13, .int .i64 i), (21, .slice wa W.length wc), (22, .int .i64 (k : Int))])
      (fun _ => ws (.slice wa W.length wc) W :: stock flB W :: nt bn D2 :: rt br R2 :: A :: F) 1 ⟨Nat.le_refl _, .inr rfl⟩ rfl (by repeat (first | exact keep_nil | refine keep_cons rfl ?_)) entA ?_
    rintro k ⟨hk1, hk2⟩ ih2
    (refine go ?_)
    refine K_condP rfl rfl ?_ ?_
    · intro hlt2
      have hk : k < W.length := by omega
      have hk' : k - 1 < W.length := by omega
      obtain ⟨x1, hx1⟩ : ∃ x1, W[k]? = some x1 := ⟨W[k], by simp⟩
      obtain ⟨y1, hy1⟩ : ∃ y1, W[k - 1]? = some y1 := ⟨W[k - 1], by simp⟩
      have hord : ltA y1.a x1.a := by
        have h := List.pairwise_iff_getElem.1 hsrt (k - 1) k (by simpa using hk') (by simpa using hk) (by omega)
        rw [List.getElem_map, List.getElem_map] at h
        rw [List.getElem?_eq_getElem hk] at hx1
        rw [List.getElem?_eq_getElem hk'] at hy1
        cases hx1; cases hy1; exact h
      unfold ltA Fl.a at hord
      simp only at hord
      refine K_slcF 0 rfl (by omega) ?_
      rintro ba1 oa1 ca1 hsl1 _ _ hvw1
      simp only [Value.slice.injEq, true_and] at hsl1
      obtain ⟨rfl, rfl⟩ := hsl1
      refine K_drawA (fun w => Sat G w ([ws (.slice (some ⟨ba1, oa1, none⟩) W.length wc) W])) (.st 0 (.st 1 (.st 2 (.st 3 (.st 4 (.st 5 (.st 6 (.st 7 (.st 8 (.st 9 (.st 10 (.st 11 (.st 12 (.st 13 (.st 14 (.st 15 (.st 16 (.st 17 (.st 18 (.st 19 (.st 20 (.st 21 (.st 22 (.st 23 (.st 24 (.st 25 (.st 26 (.st 27 (.st 28 (.st 29 (.st 30 (.st 31 (.st 32 (.st 33 (.st 34 (.st 35 (.st 36 (.st 37 (.st 38 (.st 39 .nil)))))))))))))))))))))))))))))))))))))))) rfl (by kernel_rfl) (by kernel_rfl) (by kernel_rfl) (fun w hw => hw.ent entA) ?_
      repeat' (first | (with_reducible intro _hh) | refine go1 ?_ | refine J_fork ?_ ?_ | refine J_gsP rfl rfl rfl rfl ?_ ?_ | refine K_condP rfl rfl ?_ ?_ | refine J_at (U := tab) k 5 rfl rfl rfl rfl rfl rfl rfl rfl hk ?_ | refine J_at (U := tab) (k - 1) 5 rfl rfl rfl rfl rfl rfl rfl (by omega) hk' ?_ | (refine J_isLoad ?_; first | refine J_loadAtS (U := tab) 0 (k * 5 + 3) rfl rfl rfl hvw1 (Nat.add_assoc _ _ _) (fcell_get hx1 3 _ rfl) rfl rfl ?_ | refine J_loadAtS (U := tab) 0 ((k - 1) * 5 + 3) rfl rfl rfl hvw1 (Nat.add_assoc _ _ _) (fcell_get hy1 3 _ rfl) rfl rfl ?_ | refine J_loadAtS (U := tab) 0 (k * 5 + 0) rfl rfl rfl hvw1 (Nat.add_assoc _ _ _) (fcell_get hx1 0 _ rfl) rfl rfl ?_ | refine J_loadAtS (U := tab) 0 ((k - 1) * 5 + 0) rfl rfl rfl hvw1 (Nat.add_assoc _ _ _) (fcell_get hy1 0 _ rfl) rfl rfl ?_))
      any_goals (exfalso; omega)
      all_goals (
        have ih := ih2
        refine K_again ih (k + 1) rfl ⟨by omega, .inl (by omega)⟩ (by omega) (by repeat (first | exact keep_nil | refine keep_cons rfl ?_)) entA)
    · intro hge2
      (refine go ?_)
      (first | refine J_callE rfl rfl rfl rfl (Lost_any bn _ D2 hD2) entA ?_ (fun _ _ _ _ _ => trivial) | refine J_call0E rfl rfl rfl (Lost_any bn _ D2 hD2) entA ?_ (fun _ _ _ _ _ => trivial))
      rintro _ _ ⟨rfl, rfl⟩
      repeat' (first | (with_reducible intro _hh) | refine go1 ?_ | refine J_fork ?_ ?_ | refine J_gsP rfl rfl rfl rfl ?_ ?_ | refine K_condP rfl rfl ?_ ?_)
      any_goals (exfalso; omega)
      refine K_again ih ((i + 1, sent2, gone2), D2, R2) rfl ⟨⟨by simp only; omega, by simp only; omega⟩, hD2, hR2, hsum2, hsi2, hmost2⟩ (by simp only; omega) (by repeat (first | exact keep_nil | refine keep_cons rfl ?_)) entA
  · intro tail
    refine K_condP rfl rfl ?_ ?_
    · intro h0
      (refine go ?_)
      (first | refine J_callE rfl rfl rfl rfl (Send_any bn i D hD (by omega) A a c due _ b hok.view hok.len) entA ?_ (fun _ _ _ _ _ => trivial) | refine J_call0E rfl rfl rfl (Send_any bn i D hD (by omega) A a c due _ b hok.view hok.len) entA ?_ (fun _ _ _ _ _ => trivial))
      rintro _ _ ⟨D', hD', ha, rfl, rfl⟩
      obtain ⟨p1, p2, p3⟩ := net_parts ha
      obtain ⟨q1, q2, q3⟩ := send_sum D.a hDl a c due b
      generalize (D.a.send a c due b) = rr at *
      (refine goR ?_)
      (refine K_regionA rfl ?_; refine goR ?_)
      refine K_condP rfl rfl ?_ ?_
      · intro _hh
        (refine K_regionA rfl ?_; refine goR ?_)
        refine K_to tail ((sent + 1, gone), D', R) rfl ⟨hD', hR.up (Nat.le_succ _) (by omega), by have := q2 _hh; simp only; omega⟩ (by repeat (first | exact keep_nil | refine keep_cons rfl ?_)) entA
      · intro _hh
        have hA' := q3 _hh
        rw [hA'] at p1 p2 p3
        refine K_to tail ((sent, gone), D', R) rfl ⟨hD', hR.up (Nat.le_succ _) (by omega), by simp only; omega⟩ (by repeat (first | exact keep_nil | refine keep_cons rfl ?_)) entA
    intro h0
    (refine go ?_)
    refine K_condP rfl rfl ?_ ?_
    · intro h1
      (refine go ?_)
      by_cases hm : okMoment due
      case' pos =>
        (first | refine J_callE rfl rfl rfl rfl (Due_any bn i D hD due hm) entA ?_ (fun _ _ _ _ _ => trivial) | refine J_call0E rfl rfl rfl (Due_any bn i D hD due hm) entA ?_ (fun _ _ _ _ _ => trivial))
        rintro _ _ ⟨D', out, W, hD', ha, ⟨hsub, hW⟩, rfl, rfl⟩
        obtain ⟨p1, p2, p3⟩ := net_parts ha
        obtain ⟨q1, q2, q3, q4⟩ := due_sum D.a due
        have hsw : W.length + D'.wl.length = D.wl.length := by rw [← hW, List.length_map] at q3; omega
        have hWd : ∀ x ∈ W, x.due ≤ due := fun x hx => q4 x.a (by rw [← hW]; exact List.mem_map.2 ⟨x, hx, rfl⟩)
        have hlo : D'.lost = D.lost := by omega
        have hmo : D'.most = D.most := by omega
        (first | refine J_shape 1 rfl ?_ | refine K_shape 1 rfl ?_)
        rintro oa oc rfl
        clear ha hsub hW p1 p2 p3 q1 q2 q3 q4
      case' neg =>
        (first | refine J_callE rfl rfl rfl rfl (Due_bad bn i D hD due hm) entA ?_ (fun _ _ _ _ _ => trivial) | refine J_call0E rfl rfl rfl (Due_bad bn i D hD due hm) entA ?_ (fun _ _ _ _ _ => trivial))
        rintro _ _ ⟨rfl, rfl⟩
        (first | refine K_ent (slc_lift 34 5 none _) ?_ | refine J_ent (slc_lift 34 5 none _) ?_)
        obtain ⟨W, hWe⟩ : ∃ W : List Fl, W = [] := ⟨_, rfl⟩
        obtain ⟨D', hDe⟩ : ∃ D', D' = D := ⟨_, rfl⟩
        obtain ⟨oa, hoa⟩ : ∃ oa : Option Addr, oa = none := ⟨_, rfl⟩
        obtain ⟨oc, hoc⟩ : ∃ oc : Nat, oc = 0 := ⟨_, rfl⟩
        have hsw : W.length + D'.wl.length = D.wl.length := by rw [hWe, hDe]; simp
        have hWd : ∀ x ∈ W, x.due ≤ due := by rw [hWe]; simp
        have hlo : D'.lost = D.lost := by rw [hDe]
        have hmo : D'.most = D.most := by rw [hDe]
        have hD' : NOk D' i := by rw [hDe]; exact hD
        (first | refine K_ent (show Ent _ (nt bn D' :: ws (.slice oa W.length oc) W :: emp :: pts bx (cl [.int .i64 do_, .int .i64 a, .int .i64 c, .int .i64 due, .slice ba b.length bc, u8 turn] 48) :: rt br R :: A :: F) from by rw [hDe, hWe, hoa, hoc]; exact (Ent.addEmp _).trans entA) ?_ | refine J_ent (show Ent _ (nt bn D' :: ws (.slice oa W.length oc) W :: emp :: pts bx (cl [.int .i64 do_, .int .i64 a, .int .i64 c, .int .i64 due, .slice ba b.length bc, u8 turn] 48) :: rt br R :: A :: F) from by rw [hDe, hWe, hoa, hoc]; exact (Ent.addEmp _).trans entA) ?_)
        (first | refine J_slot 99 (.tuple #[.slice oa W.length oc, .int .i64 1]) rfl (by rw [hWe, hoa, hoc, List.length_nil]) ?_ | refine K_slot 99 (.tuple #[.slice oa W.length oc, .int .i64 1]) rfl (by rw [hWe, hoa, hoc, List.length_nil]) ?_)
        clear hWe hDe hoa hoc
      all_goals (
        have hDl3 := hD.len
        have hDm3 := hD.most
        (refine go ?_)
        refine K_loop (fun k : Nat => k ≤ W.length) (fun k => W.length - k)
          (fun k => [(0, .int .i64 most), (1, .slice (some ⟨bb, ob, none⟩) l.length c0), (7, ptr bn), (9, ptr br), (11, .int .i64 sent), (12, .int .i64 ((gone + W.length : Nat) : Int)), (13, .int .i64 i), (14, ptr bx), (16, .slice oa W.length oc), (18, .int .i64 (k : Int))])
          (fun _ => ws (.slice oa W.length oc) W :: pts bx (cl [.int .i64 do_, .int .i64 a, .int .i64 c, .int .i64 due, .slice ba b.length bc, u8 turn] 48) :: nt bn D' :: rt br R :: A :: F) 0 (Nat.zero_le _) rfl (by repeat (first | exact keep_nil | refine keep_cons rfl ?_)) entA ?_
        rintro k hk1 ih2
        (refine go ?_)
        refine K_condP rfl rfl ?_ ?_
        · intro hlt2
          have hk : k < W.length := by omega
          obtain ⟨x1, hx1⟩ : ∃ x1, W[k]? = some x1 := ⟨W[k], by simp⟩
          have hle := hWd x1 (List.mem_of_getElem? hx1)
          refine K_slcF 0 rfl (by omega) ?_
          rintro ba1 oa1 ca1 hsl1 _ _ hvw1
          simp only [Value.slice.injEq, true_and] at hsl1
          obtain ⟨rfl, rfl⟩ := hsl1
          refine K_drawA (fun w => Sat G w ([pts bx (cl [.int .i64 do_, .int .i64 a, .int .i64 c, .int .i64 due, .slice ba b.length bc, u8 turn] 48), ws (.slice (some ⟨ba1, oa1, none⟩) W.length oc) W])) (.st 0 (.st 1 (.st 2 (.st 3 (.st 4 (.st 5 (.st 6 (.st 7 .nil)))))))) rfl (by kernel_rfl) (by kernel_rfl) (by kernel_rfl) (fun w hw => hw.ent entA) ?_
          (refine go ?_)
          refine J_at (U := tab) k 5 rfl rfl rfl rfl rfl rfl rfl rfl hk ?_
          (refine go ?_)
          refine J_loadAtS (U := tab) 1 (k * 5 + 3) rfl rfl rfl hvw1 (Nat.add_assoc _ _ _) (fcell_get hx1 3 (.int .i64 x1.due) rfl) rfl rfl ?_
          (refine go ?_)
          refine K_condP rfl rfl ?_ ?_
          · intro h
            exfalso; omega
          intro _
          (refine go ?_)
          have ih := ih2
          refine K_again ih (k + 1) rfl (by omega) (by omega) (by repeat (first | exact keep_nil | refine keep_cons rfl ?_)) entA
        · intro hge2
          refine K_to tail ((sent, gone + W.length), D', R) rfl ⟨hD'.up (Nat.le_succ _) (by omega), hR.up (Nat.le_succ _) (by omega), by simp only; omega⟩ (by repeat (first | exact keep_nil | refine keep_cons rfl ?_)) entA)
    intro h1
    (refine go ?_)
    refine K_condP rfl rfl ?_ ?_
    · intro h2
      (refine go ?_)
      (first | refine J_callE rfl rfl rfl rfl (Lose_any bn i D hD a) entA ?_ (fun _ _ _ _ _ => trivial) | refine J_call0E rfl rfl rfl (Lose_any bn i D hD a) entA ?_ (fun _ _ _ _ _ => trivial))
      rintro _ _ ⟨D', hD', ha, rfl, rfl⟩
      obtain ⟨p1, p2, p3⟩ := net_parts ha
      obtain ⟨q1, q4, q2, q3⟩ := lose_sum D.a a
      generalize (D.a.lose a) = rr at *
      (refine goR ?_)
      (refine K_regionA rfl ?_; refine goR ?_)
      refine K_condP rfl rfl ?_ ?_
      · intro _hh
        (refine K_regionA rfl ?_; refine goR ?_)
        refine K_to tail ((sent, gone + 1), D', R) rfl ⟨hD'.up (Nat.le_succ _) (by omega), hR.up (Nat.le_succ _) (by omega), by have := q2 _hh; simp only; omega⟩ (by repeat (first | exact keep_nil | refine keep_cons rfl ?_)) entA
      · intro _hh
        have hA' := q3 _hh
        rw [hA'] at p1 p2 p3
        refine K_to tail ((sent, gone), D', R) rfl ⟨hD'.up (Nat.le_succ _) (by omega), hR.up (Nat.le_succ _) (by omega), by simp only; omega⟩ (by repeat (first | exact keep_nil | refine keep_cons rfl ?_)) entA
    intro h2
    (refine go ?_)
    refine K_condP rfl rfl ?_ ?_
    · intro h3
      (refine go ?_)
      (first | refine J_callE rfl rfl rfl rfl (Double_any bn i D hD (by omega) a due) entA ?_ (fun _ _ _ _ _ => trivial) | refine J_call0E rfl rfl rfl (Double_any bn i D hD (by omega) a due) entA ?_ (fun _ _ _ _ _ => trivial))
      rintro _ _ ⟨D', hD', ha, rfl, rfl⟩
      obtain ⟨p1, p2, p3⟩ := net_parts ha
      obtain ⟨q1, q2, q3⟩ := double_sum D.a hDl a due
      generalize (D.a.double a due) = rr at *
      (refine goR ?_)
      (refine K_regionA rfl ?_; refine goR ?_)
      refine K_condP rfl rfl ?_ ?_
      · intro _hh
        (refine K_regionA rfl ?_; refine goR ?_)
        refine K_to tail ((sent + 1, gone), D', R) rfl ⟨hD', hR.up (Nat.le_succ _) (by omega), by have := q2 _hh; simp only; omega⟩ (by repeat (first | exact keep_nil | refine keep_cons rfl ?_)) entA
      · intro _hh
        have hA' := q3 _hh
        rw [hA'] at p1 p2 p3
        refine K_to tail ((sent, gone), D', R) rfl ⟨hD', hR.up (Nat.le_succ _) (by omega), by simp only; omega⟩ (by repeat (first | exact keep_nil | refine keep_cons rfl ?_)) entA
    intro h3
    (refine go ?_)
    rw [← hxc]
    refine J_loadElem (U := tab) (es := scell ⟨do_, a, c, due, b, ba, bc, turn⟩) (o := 0) (nn := 1) (cap := 1) (cs := scell ⟨do_, a, c, due, b, ba, bc, turn⟩) 0 0 rfl rfl rfl (Vw.pts rfl) rfl (fun q v hq => by rw [Nat.zero_add]; exact hq) rfl rfl rfl ?_
    (first | refine J_callE rfl rfl rfl rfl (step_any bn br i D R hD hR (by omega) A _ hok) entA ?_ (fun _ _ _ _ _ => trivial) | refine J_call0E rfl rfl rfl (step_any bn br i D R hD hR (by omega) A _ hok) entA ?_ (fun _ _ _ _ _ => trivial))
    rintro _ _ ⟨D', R', hD', hR', ha, hb, rfl, rfl⟩
    obtain ⟨p1, p2, p3⟩ := net_parts ha
    obtain ⟨q1, q2, q3⟩ := step_sum D.a ⟨do_, a, c, due, b, ba, bc, turn⟩ h0 h1 h2 h3
    (refine goR ?_)
    refine K_to tail ((sent, gone), D', R') rfl ⟨hD', hR', by simp only; omega⟩ (by repeat (first | exact keep_nil | refine keep_cons rfl ?_)) entA
end Go.Proofs.Ytngmcoopgbflaaa
