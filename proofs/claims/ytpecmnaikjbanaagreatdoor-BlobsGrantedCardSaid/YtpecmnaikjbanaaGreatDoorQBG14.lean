/- Texts of one claim, joined: Vi, Bz0, Vi1. -/
import Derived.Test.YtpecmnaikjbanaaGreatDoorQBG7
import Derived.Test.YtpecmnaikjbanaaGreatDoorQBG9
import Derived.Test.YtpecmnaikjbanaaGreatDoorQBG13
import Derived.Test.YtpecmnaikjbanaaGreatDoorRows
import Derived.OpenShut
import Derived.ChangeArms
import Derived.ProofKit
import Derived.Handed
import Derived.JoinedOf
import Derived.RowKit
import Derived.WalkKit
import Derived.ShutString
import Derived.ChangeOld
import Derived.Below
import Derived.SizedLaws
import Derived.ChangeSame
import Derived.ChangeVars
/- blobs: the law Granted, its walk. -/
set_option linter.unusedVariables false
set_option linter.unusedSimpArgs false
namespace Go.Proofs.YtpecmnaikjbanaaGreatDoor
open Go Go.SL
theorem st8E {l : List ST8} {i : Nat} {s : ST8} (h : l[i]? = some s) (q : Nat) (v : Value) (hq : (st8C s)[q]? = some v) : (l.flatMap st8C)[i * 72 + q]? = some v := by
  rw [st8_get h q (by rcases Nat.lt_or_ge q 72 with h | h; exact h; rw [List.getElem?_eq_none (by rw [st8C_len]; exact h)] at hq; cases hq)]
  exact hq
theorem StoI.used0 {q : Int} {s : Sto} (h : StoI q s) : 0 ≤ usedS s := by
  have := beg_nonneg fun x hx => (h.size0 x hx).1
  unfold usedS
  omega
/-- What stands between rounds: how far a store has grown. -/
structure Rnd (q : Int) (n : Nat) (s : Sto) : Prop where
  si : StoI q s
  names : s.A.names.length ≤ n
  beg : s.beg.length ≤ n
  sts : s.A.states.length ≤ 1 + 100 * n
  wrs : s.A.writes.length ≤ 100 * n
theorem Rnd.mono {q : Int} {n m : Nat} {s : Sto} (h : Rnd q n s) (hm : n ≤ m) : Rnd q m s := ⟨h.si, by have := h.names; omega, by have := h.beg; omega, by have := h.sts; omega, by have := h.wrs; omega⟩
theorem CommitS_grow {l : List Bl} {s t : Sto} {e : Nat} (h : CommitS l s e t) : SGrow 10 s t := by
  unfold CommitS at h
  split at h
  · exact h.2 ▸ SGrow.refl _ _
  split at h
  · exact h.2 ▸ SGrow.refl _ _
  split at h
  · exact h.2 ▸ SGrow.refl _ _
  split at h
  · exact h.2 ▸ SGrow.refl _ _
  · refine (grow_chgS (fun sp hsp A e B hh => ?_) h).mono ?_
    · rcases List.mem_append.1 hsp with hsp | hsp
      · rcases List.mem_append.1 hsp with hsp | hsp
        · split at hsp
          · rw [List.mem_singleton.1 hsp] at hh; exact grow_stRemove hh
          · cases hsp
        · simp only [List.mem_cons, List.not_mem_nil, or_false] at hsp
          rcases hsp with rfl | rfl
          · exact grow_stCreate hh
          · exact grow_stWrite hh
      · simp only [moveS, List.mem_cons, List.not_mem_nil, or_false] at hsp
        rcases hsp with rfl | rfl | rfl
        · exact grow_stSync hh
        · exact grow_stRename hh
        · exact grow_stSyncNames hh
    · split <;> simp [moveS]
theorem Rnd.begin {q : Int} {n : Nat} {s t : Sto} {x : Bl} {e : Nat} (h : Rnd q n s) (hn : n < 100) (hR : BeginR q x s e t) : Rnd q (n + 1) t ∧ ((e = 0 ∧ usedS t = usedS s + x.size) ∨ (e ≠ 0 ∧ t = s)) := by
  obtain ⟨h1, h2, h3, h4⟩ := h.si.begin (by have := h.names; omega) hR
  have hg := BeginR_grow hR
  refine ⟨⟨h1, by have := h.names; omega, by have := h.beg; omega, by have := h.sts; have := hg.1; omega, by have := h.wrs; have := hg.2; omega⟩, ?_⟩
  rcases h4 with ⟨h5, h6, _⟩ | ⟨h5, h6⟩
  · exact .inl ⟨h5, h6⟩
  · exact .inr ⟨h5, h6⟩
theorem Rnd.put {q : Int} {n : Nat} {s t : Sto} {x : Bl} {i : Int} {b : List UInt8} {e : Nat} (h : Rnd q n s) (hq : q ≤ 2097152) (hn : n < 100) (hR : PutS x i b s e t) : Rnd q (n + 1) t ∧ usedS t = usedS s := by
  obtain ⟨h1, h2, h3, h4, _⟩ := h.si.put hq (by have := h.names; omega) hR
  have hg := PutS_grow hR
  exact ⟨⟨h1, by have := h.names; omega, by have := h.beg; rw [h3]; omega, by have := h.sts; have := hg.1; omega, by have := h.wrs; have := hg.2; omega⟩, h4⟩
theorem Rnd.install {q : Int} {n : Nat} {s t : Sto} {x : Bl} {e : Nat} (h : Rnd q n s) (hR : InstallS x s e t) : Rnd q (n + 1) t := by
  obtain ⟨h1, h2, h3, h4⟩ := h.si.install hR
  have hg := InstallS_grow hR
  exact ⟨h1, by have := h.names; omega, by have := h.beg; omega, by have := h.sts; have := hg.1; omega, by have := h.wrs; have := hg.2; omega⟩
theorem Rnd.abort {q : Int} {n : Nat} {s t : Sto} {x : Bl} {e : Nat} (h : Rnd q n s) (hR : AbortS x s e t) : Rnd q (n + 1) t := by
  obtain ⟨h1, h2, h3, h4⟩ := h.si.abort hR
  have hg := AbortS_grow hR
  exact ⟨h1, by have := h.names; omega, by have := h.beg; omega, by have := h.sts; have := hg.1; omega, by have := h.wrs; have := hg.2; omega⟩
theorem Rnd.commit {q : Int} {n : Nat} {s t : Sto} {l : List Bl} {e : Nat} (h : Rnd q n s) (hq : q ≤ 2097152) (hn : n < 100) (hR : CommitS l s e t) : Rnd q (n + 1) t ∧ usedS t = usedS s := by
  obtain ⟨h1, h2, h3, h4, _⟩ := h.si.commit hq (by have := h.names; omega) hR
  have hg := CommitS_grow hR
  exact ⟨⟨h1, by have := h.names; omega, by have := h.beg; rw [h3]; omega, by have := h.sts; have := hg.1; omega, by have := h.wrs; have := hg.2; omega⟩, h4⟩
theorem Rnd.bnd {q : Int} {n : Nat} {s : Sto} (h : Rnd q n s) (hn : n ≤ 100) : BegOk s.beg ∧ s.A.states.length ≤ 800000000 ∧ s.A.writes.length ≤ 800000000 := ⟨h.si.begOk (by have := h.beg; omega), by have := h.sts; omega, by have := h.wrs; omega⟩
attribute [local irreducible] J K Ctr Ends pts slc mapR mapI sbRow stock arrS loopP CtrY Sha.chunks Sha.chunk Sha.rounds Sha.sched sumL taggedL GI leafL diskA
set_option maxRecDepth 20000 in
set_option maxHeartbeats 1000000 in
theorem Granted_any (X : HP) (hK : KAt X) (quota : Int) (v : Value) (l : List ST8) (hv : Steps8 X v l) :
    Ctr Tryz.prog 4 [.int .i64 quota, v] [X] (fun r H => r = .bool true ∧ H = [X]) := by
  obtain ⟨hvw, hll, hok⟩ := hv
  have hmu := much8_any X v l hvw hll hok
  obtain ⟨a0, c0, rfl⟩ := hvw.shape
  refine Ctr.enter Tryz.func4 (by kernel_rfl) rfl Tryz.ntmps4 rfl rfl ?_
  intro G F R hE
  (refine go ?_)
  (first | refine J_callE rfl rfl rfl rfl (awake_any X hK) entA ?_ (fun _ _ _ _ _ => trivial) | refine J_call0E rfl rfl rfl (awake_any X hK) entA ?_ (fun _ _ _ _ _ => trivial) | (refine go ?_; first | refine J_callE rfl rfl rfl rfl (awake_any X hK) entA ?_ (fun _ _ _ _ _ => trivial) | refine J_call0E rfl rfl rfl (awake_any X hK) entA ?_ (fun _ _ _ _ _ => trivial)))
  rintro _ _ ⟨rfl, rfl⟩
  (refine go ?_)
  (first | refine J_callE rfl rfl rfl rfl (hmu) entA ?_ (fun _ _ _ _ _ => trivial) | refine J_call0E rfl rfl rfl (hmu) entA ?_ (fun _ _ _ _ _ => trivial) | (refine go ?_; first | refine J_callE rfl rfl rfl rfl (hmu) entA ?_ (fun _ _ _ _ _ => trivial) | refine J_call0E rfl rfl rfl (hmu) entA ?_ (fun _ _ _ _ _ => trivial)))
  rintro _ _ ⟨b, rfl, rfl, hsm⟩
  (refine go ?_)
  (first | refine J_callE rfl rfl rfl rfl (New_dA 16777216 (by omega) (by omega)) entA ?_ (fun _ _ _ _ _ => trivial) | refine J_call0E rfl rfl rfl (New_dA 16777216 (by omega) (by omega)) entA ?_ (fun _ _ _ _ _ => trivial) | (refine go ?_; first | refine J_callE rfl rfl rfl rfl (New_dA 16777216 (by omega) (by omega)) entA ?_ (fun _ _ _ _ _ => trivial) | refine J_call0E rfl rfl rfl (New_dA 16777216 (by omega) (by omega)) entA ?_ (fun _ _ _ _ _ => trivial)))
  rintro _ _ ⟨bd, rfl, rfl⟩
  cases b with
  | true =>
    (refine go ?_)
    (first | refine K_return hE Tryz.func4 rfl _ rfl ⟨rfl, rfl⟩ entA | refine K_fallEnd hE Tryz.func4 rfl _ rfl ⟨rfl, rfl⟩ entA)
  | false =>
    have hsm := hsm rfl
    repeat' (first | (with_reducible intro _hh) | refine go1 ?_ | refine J_fork ?_ ?_ | refine J_gsP rfl rfl rfl rfl ?_ ?_ | refine K_condP rfl rfl ?_ ?_)
    all_goals (first | ((first | refine K_return hE Tryz.func4 rfl _ rfl ⟨rfl, rfl⟩ entA | refine K_fallEnd hE Tryz.func4 rfl _ rfl ⟨rfl, rfl⟩ entA)) | skip)
    have hq1 : 1 ≤ quota := by omega
    have hq2 : quota ≤ 5000 := by omega
    (first | refine J_callE rfl rfl rfl rfl (Open_first X hK bd 16777216 quota (by omega)) entA ?_ (fun _ _ _ _ _ => trivial) | refine J_call0E rfl rfl rfl (Open_first X hK bd 16777216 quota (by omega)) entA ?_ (fun _ _ _ _ _ => trivial) | (refine go ?_; first | refine J_callE rfl rfl rfl rfl (Open_first X hK bd 16777216 quota (by omega)) entA ?_ (fun _ _ _ _ _ => trivial) | refine J_call0E rfl rfl rfl (Open_first X hK bd 16777216 quota (by omega)) entA ?_ (fun _ _ _ _ _ => trivial)))
    rintro _ _ ⟨bs, mb, rfl, rfl⟩
    (refine go ?_)
    refine K_loop (fun g : Nat × Sto => g.1 ≤ l.length ∧ g.1 ≤ 60 ∧ Rnd quota g.1 g.2) (fun g => l.length - g.1)
      (fun g => [(0, .int .i64 quota), (1, .slice a0 l.length c0), (9, ptr bs), (10, .int .i64 (g.1 : Int))])
      (fun g => X :: (stoL bs bd quota mb g.2 ++ F)) (0, ⟨Ab.new 16777216, [], false⟩) ⟨Nat.zero_le _, by omega, ⟨StoI.new (by omega), by simp [Ab.new], by simp, by simp [Ab.new], by simp [Ab.new]⟩⟩ rfl (by repeat (first | exact keep_nil | refine keep_cons rfl ?_)) entA ?_
    rintro ⟨i, s⟩ ⟨hi, hi60, hr⟩ ih
    simp only at hi hi60 hr
    dsimp only
    (refine go ?_)
    by_cases hend : i < l.length ∧ i < 60
    case neg =>
      by_cases h1 : i < l.length
      · (first | refine J_slot 63 ((.bool true)) rfl ((congrArg Value.bool (decide_eq_true (by omega)))) ?_ | refine K_slot 63 ((.bool true)) rfl ((congrArg Value.bool (decide_eq_true (by omega)))) ?_)
        (refine go ?_)
        (first | refine J_slot 66 ((.bool false)) rfl ((congrArg Value.bool (decide_eq_false (by omega)))) ?_ | refine K_slot 66 ((.bool false)) rfl ((congrArg Value.bool (decide_eq_false (by omega)))) ?_)
        (refine go ?_)
        refine K_ent (H' := X :: F) entA ?_
        (first | refine K_return hE Tryz.func4 rfl _ rfl ⟨rfl, rfl⟩ entA | refine K_fallEnd hE Tryz.func4 rfl _ rfl ⟨rfl, rfl⟩ entA)
      · (first | refine J_slot 63 ((.bool false)) rfl ((congrArg Value.bool (decide_eq_false (by omega)))) ?_ | refine K_slot 63 ((.bool false)) rfl ((congrArg Value.bool (decide_eq_false (by omega)))) ?_)
        (refine go ?_)
        refine K_ent (H' := X :: F) entA ?_
        (first | refine K_return hE Tryz.func4 rfl _ rfl ⟨rfl, rfl⟩ entA | refine K_fallEnd hE Tryz.func4 rfl _ rfl ⟨rfl, rfl⟩ entA)
    obtain ⟨hi1, hi2⟩ := hend
    obtain ⟨st, hx⟩ : ∃ s, l[i]? = some s := ⟨l[i], by simp⟩
    have hso := hok _ (List.mem_of_getElem? hx)
    obtain ⟨hsb, hsl⟩ := hsm i st (by omega) hx
    have hobk := hr.bnd (by omega)
    obtain ⟨hb1, hb2, hb3⟩ := hobk
    obtain ⟨bb, oo, cc, hsle⟩ := hvw.some (by rw [← List.length_pos_iff, chunk_len st8C_len]; omega)
    simp only [Value.slice.injEq, true_and] at hsle
    obtain ⟨rfl, rfl⟩ := hsle
    (first | refine J_slot 63 ((.bool true)) rfl ((congrArg Value.bool (decide_eq_true (by omega)))) ?_ | refine K_slot 63 ((.bool true)) rfl ((congrArg Value.bool (decide_eq_true (by omega)))) ?_)
    (refine go ?_)
    (first | refine J_slot 66 ((.bool true)) rfl ((congrArg Value.bool (decide_eq_true (by omega)))) ?_ | refine K_slot 66 ((.bool true)) rfl ((congrArg Value.bool (decide_eq_true (by omega)))) ?_)
    (refine go ?_)
    refine J_at (U := tab) i 72 rfl rfl rfl rfl rfl rfl rfl rfl hi1 ?_
    refine J_loadElem (U := tab) (es := st8C st) 0 (i * 72) rfl rfl rfl hvw rfl (st8E hx) rfl rfl rfl ?_
    refine J_alloc (U := tab) rfl rfl rfl (fun _ _ _ => trivial) ?_
    intro b11
    (refine go ?_)
    (first | refine J_callE rfl rfl rfl rfl (Used_bl bs bd quota mb s hb1) entA ?_ (fun _ _ _ _ _ => trivial) | refine J_call0E rfl rfl rfl (Used_bl bs bd quota mb s hb1) entA ?_ (fun _ _ _ _ _ => trivial) | (refine go ?_; first | refine J_callE rfl rfl rfl rfl (Used_bl bs bd quota mb s hb1) entA ?_ (fun _ _ _ _ _ => trivial) | refine J_call0E rfl rfl rfl (Used_bl bs bd quota mb s hb1) entA ?_ (fun _ _ _ _ _ => trivial)))
    rintro _ _ ⟨rfl, rfl⟩
    (refine go ?_)
    (first | refine K_ent (H' := pts b11 (cl (st8C st) 52) :: X :: (stoL bs bd quota mb s ++ F)) entA ?_ | refine J_ent (H' := pts b11 (cl (st8C st) 52) :: X :: (stoL bs bd quota mb s ++ F)) entA ?_)
    refine K_mid 2 (fun g : Nat × Sto => Rnd quota (i + 1) g.2 ∧ (g.1 ≠ 0 → usedS g.2 = usedS s)) (fun g => [(0, .int .i64 quota), (1, .slice (some ⟨bb, oo, none⟩) l.length c0), (9, ptr bs), (10, .int .i64 (i : Int)), (12, .int .i64 (usedS s)), (13, .int .i64 (g.1 : Int))])
      (fun g => X :: (stoL bs bd quota mb g.2 ++ F)) rfl ?_ ?_
    · rintro ⟨e, t⟩ ⟨hrt, hut⟩
      simp only at hrt hut
      dsimp only
      have hus := Used_bl bs bd quota mb t (hrt.bnd (by omega)).1
      have hqt := hrt.si.quota
      (refine go ?_)
      (first | refine J_callE rfl rfl rfl rfl (hus) entA ?_ (fun _ _ _ _ _ => trivial) | refine J_call0E rfl rfl rfl (hus) entA ?_ (fun _ _ _ _ _ => trivial) | (refine go ?_; first | refine J_callE rfl rfl rfl rfl (hus) entA ?_ (fun _ _ _ _ _ => trivial) | refine J_call0E rfl rfl rfl (hus) entA ?_ (fun _ _ _ _ _ => trivial)))
      rintro _ _ ⟨rfl, rfl⟩
      (refine go ?_)
      (first | refine J_slot 128 ((.bool false)) rfl ((congrArg Value.bool (decide_eq_false (by omega)))) ?_ | refine K_slot 128 ((.bool false)) rfl ((congrArg Value.bool (decide_eq_false (by omega)))) ?_)
      (refine go ?_)
      by_cases he : e = 0
      · subst he
        (first | refine J_slot 131 ((.bool false)) rfl ((congrArg Value.bool (decide_eq_false (by simp)))) ?_ | refine K_slot 131 ((.bool false)) rfl ((congrArg Value.bool (decide_eq_false (by simp)))) ?_)
        (refine go ?_)
        (first | refine K_ent (H' := X :: (stoL bs bd quota mb t ++ F)) entA ?_ | refine J_ent (H' := X :: (stoL bs bd quota mb t ++ F)) entA ?_)
        (refine go ?_)
        refine K_again ih (i + 1, t) rfl ⟨by simp only; omega, by simp only; omega, hrt⟩ (by simp only; omega) (by repeat (first | exact keep_nil | refine keep_cons rfl ?_)) entA
      · (first | refine J_slot 131 ((.bool true)) rfl ((congrArg Value.bool (decide_eq_true (by omega)))) ?_ | refine K_slot 131 ((.bool true)) rfl ((congrArg Value.bool (decide_eq_true (by omega)))) ?_)
        (refine go ?_)
        (first | refine J_callE rfl rfl rfl rfl (hus) entA ?_ (fun _ _ _ _ _ => trivial) | refine J_call0E rfl rfl rfl (hus) entA ?_ (fun _ _ _ _ _ => trivial) | (refine go ?_; first | refine J_callE rfl rfl rfl rfl (hus) entA ?_ (fun _ _ _ _ _ => trivial) | refine J_call0E rfl rfl rfl (hus) entA ?_ (fun _ _ _ _ _ => trivial)))
        rintro _ _ ⟨rfl, rfl⟩
        (refine go ?_)
        (first | refine J_slot 137 ((.bool false)) rfl ((congrArg Value.bool (decide_eq_false (by have := hut he; omega)))) ?_ | refine K_slot 137 ((.bool false)) rfl ((congrArg Value.bool (decide_eq_false (by have := hut he; omega)))) ?_)
        (refine go ?_)
        (first | refine K_ent (H' := X :: (stoL bs bd quota mb t ++ F)) entA ?_ | refine J_ent (H' := X :: (stoL bs bd quota mb t ++ F)) entA ?_)
        (refine go ?_)
        refine K_again ih (i + 1, t) rfl ⟨by simp only; omega, by simp only; omega, hrt⟩ (by simp only; omega) (by repeat (first | exact keep_nil | refine keep_cons rfl ?_)) entA
    · intro tail
      have hbg := Begin_bl bs bd quota (by omega) mb s st.x hb1 (by omega) (by omega)
      have hpt := Put_bl X bs bd quota mb s st.x st.i _ st.b hso.b.1 (by omega) hso.i (by omega) (by omega)
      have hin := Install_bl X hK bs bd quota mb s st.x (by omega) (by omega)
      have hab := Abort_bl bs bd quota mb s st.x (by omega) (by omega)
      have hcm := Commit_bl X hK _ st.l hso.l (by omega) bs bd quota mb s (by omega) (by omega)
      unfold blV at hbg hpt hin hab
      unfold imV at hcm
      refine K_condP rfl rfl ?_ ?_
      · intro h0
        (refine go ?_)
        refine J_loadAgg (U := tab) (cs := blC st.x) 0 rfl rfl rfl rfl rfl rfl ?_
        (first | refine J_callE rfl rfl rfl rfl (hbg) entA ?_ (fun _ _ _ _ _ => trivial) | refine J_call0E rfl rfl rfl (hbg) entA ?_ (fun _ _ _ _ _ => trivial) | (refine go ?_; first | refine J_callE rfl rfl rfl rfl (hbg) entA ?_ (fun _ _ _ _ _ => trivial) | refine J_call0E rfl rfl rfl (hbg) entA ?_ (fun _ _ _ _ _ => trivial)))
        rintro _ _ ⟨e, t, rfl, rfl, hR⟩
        obtain ⟨hrt, hcase⟩ := hr.begin (by omega) hR
        have hus := Used_bl bs bd quota mb t (hrt.bnd (by omega)).1
        (refine go ?_)
        (first | refine K_ent (H' := pts b11 (cl (st8C st) 52) :: X :: (stoL bs bd quota mb t ++ F)) entA ?_ | refine J_ent (H' := pts b11 (cl (st8C st) 52) :: X :: (stoL bs bd quota mb t ++ F)) entA ?_)
        refine K_drawA (fun w => Sat G w ([pts b11 (cl (st8C st) 52)])) (.st 0 (.st 1 (.st 2 (.st 3 (.st 5 (.st 6 (.st 7 (.st 8 (.st 9 (.act 4 (.st 10 (.st 11 .nil)))))))))))) rfl (by kernel_rfl) (by kernel_rfl) (by kernel_rfl) (fun w hw => hw.ent entA) ?_
        (refine go ?_)
        rcases hcase with ⟨he, hu⟩ | ⟨he, hts⟩
        · subst he
          have hu0 := hr.si.used0
          have hu1 := hrt.si.used0
          have hu2 := hrt.si.quota
          have hu3 := hr.si.quota
          (refine go ?_)
          (first | refine J_callE rfl rfl rfl rfl (hus) entA ?_ (fun _ _ w hp hw => by obtain ⟨rfl, rfl⟩ := hp; exact hw.ent entA) | refine J_call0E rfl rfl rfl (hus) entA ?_ (fun _ _ w hp hw => by obtain ⟨rfl, rfl⟩ := hp; exact hw.ent entA))
          rintro _ _ ⟨rfl, rfl⟩
          (refine go ?_)
          (first | refine J_slot 94 ((.bool false)) rfl ((congrArg Value.bool (decide_eq_false (by show ¬ usedS t ≠ usedS s + st.x.size; omega)))) ?_ | refine K_slot 94 ((.bool false)) rfl ((congrArg Value.bool (decide_eq_false (by show ¬ usedS t ≠ usedS s + st.x.size; omega)))) ?_)
          (refine goR ?_)
          refine K_condF rfl rfl ?_
          refine K_to tail (0, t) rfl ⟨hrt, fun h => absurd rfl h⟩ (by repeat (first | exact keep_nil | refine keep_cons rfl ?_)) entA
        · subst hts
          (first | refine J_slot 85 ((.bool false)) rfl ((congrArg Value.bool (decide_eq_false (by omega)))) ?_ | refine K_slot 85 ((.bool false)) rfl ((congrArg Value.bool (decide_eq_false (by omega)))) ?_)
          (refine goR ?_)
          refine K_condF rfl rfl ?_
          refine K_to tail (e, t) rfl ⟨hrt, fun _ => rfl⟩ (by repeat (first | exact keep_nil | refine keep_cons rfl ?_)) entA
      intro h0
      (refine go ?_)
      refine K_condP rfl rfl ?_ ?_
      · intro h1
        (refine go ?_)
        refine J_loadAgg (U := tab) (cs := blC st.x) 0 rfl rfl rfl rfl rfl rfl ?_
        (refine go ?_)
        (first | refine J_callE rfl rfl rfl rfl (hpt) entA ?_ (fun _ _ _ _ _ => trivial) | refine J_call0E rfl rfl rfl (hpt) entA ?_ (fun _ _ _ _ _ => trivial) | (refine go ?_; first | refine J_callE rfl rfl rfl rfl (hpt) entA ?_ (fun _ _ _ _ _ => trivial) | refine J_call0E rfl rfl rfl (hpt) entA ?_ (fun _ _ _ _ _ => trivial)))
        rintro _ _ ⟨e, t, rfl, rfl, hR⟩
        obtain ⟨hrt, hu⟩ := hr.put (by omega) (by omega) hR
        (refine goR ?_)
        refine K_to tail (e, t) rfl ⟨hrt, fun _ => hu⟩ (by repeat (first | exact keep_nil | refine keep_cons rfl ?_)) entA
      intro h1
      (refine go ?_)
      refine K_condP rfl rfl ?_ ?_
      · intro h3
        (refine go ?_)
        refine J_loadAgg (U := tab) (cs := blC st.x) 0 rfl rfl rfl rfl rfl rfl ?_
        (first | refine J_callE rfl rfl rfl rfl (hin) entA ?_ (fun _ _ _ _ _ => trivial) | refine J_call0E rfl rfl rfl (hin) entA ?_ (fun _ _ _ _ _ => trivial) | (refine go ?_; first | refine J_callE rfl rfl rfl rfl (hin) entA ?_ (fun _ _ _ _ _ => trivial) | refine J_call0E rfl rfl rfl (hin) entA ?_ (fun _ _ _ _ _ => trivial)))
        rintro _ _ ⟨e, t, rfl, rfl, hR⟩
        (refine goR ?_)
        refine K_to tail (0, t) rfl ⟨hr.install hR, fun h => absurd rfl h⟩ (by repeat (first | exact keep_nil | refine keep_cons rfl ?_)) entA
      intro h3
      (refine go ?_)
      refine K_condP rfl rfl ?_ ?_
      · intro h4
        (refine go ?_)
        refine J_loadAgg (U := tab) (cs := blC st.x) 0 rfl rfl rfl rfl rfl rfl ?_
        (first | refine J_callE rfl rfl rfl rfl (hab) entA ?_ (fun _ _ _ _ _ => trivial) | refine J_call0E rfl rfl rfl (hab) entA ?_ (fun _ _ _ _ _ => trivial) | (refine go ?_; first | refine J_callE rfl rfl rfl rfl (hab) entA ?_ (fun _ _ _ _ _ => trivial) | refine J_call0E rfl rfl rfl (hab) entA ?_ (fun _ _ _ _ _ => trivial)))
        rintro _ _ ⟨e, t, rfl, rfl, hR⟩
        (refine goR ?_)
        refine K_to tail (0, t) rfl ⟨hr.abort hR, fun h => absurd rfl h⟩ (by repeat (first | exact keep_nil | refine keep_cons rfl ?_)) entA
      intro h4
      (refine go ?_)
      refine K_condP rfl rfl ?_ ?_
      · intro h5
        (refine go ?_)
        (first | refine J_callE rfl rfl rfl rfl (hcm) entA ?_ (fun _ _ _ _ _ => trivial) | refine J_call0E rfl rfl rfl (hcm) entA ?_ (fun _ _ _ _ _ => trivial) | (refine go ?_; first | refine J_callE rfl rfl rfl rfl (hcm) entA ?_ (fun _ _ _ _ _ => trivial) | refine J_call0E rfl rfl rfl (hcm) entA ?_ (fun _ _ _ _ _ => trivial)))
        rintro _ _ ⟨e, t, rfl, rfl, hR⟩
        obtain ⟨hrt, hu⟩ := hr.commit (by omega) (by omega) hR
        (refine goR ?_)
        refine K_to tail (e, t) rfl ⟨hrt, fun _ => hu⟩ (by repeat (first | exact keep_nil | refine keep_cons rfl ?_)) entA
      intro h5
      refine K_to tail (0, s) rfl ⟨hr.mono (by omega), fun h => absurd rfl h⟩ (by repeat (first | exact keep_nil | refine keep_cons rfl ?_)) entA
end Go.Proofs.YtpecmnaikjbanaaGreatDoor

/- blobs: the variable that the rows lay: what its cells are. -/
set_option linter.unusedVariables false
set_option linter.unusedSimpArgs false
set_option linter.unnecessarySimpa false
namespace Go.Proofs.YtpecmnaikjbanaaGreatDoor
open Go Go.SL
theorem arr_cells {P : Program} {H : Type} {enc : TypeId × Value → H} {W : World} {base : Nat} {spare : Nat → Bool} {held : Bool} {fuel n : Nat} {t e : TypeId} {k : IntKind} {l : List Value} {x : DataW H × List MemPlace} (ht : P.underlying t = some (.array n e)) (he : P.underlying e = some (.int k)) (hc : P.cellsOf e = 1) (hct : P.cellsOf t = n)
    (h : DataW.trod enc P W base spare held fuel t l = some x) (ns : List Int) (hx : x.1 = .agg (ns.map fun z => .lit (.int k z))) : l = ns.map (Value.int k) := by
  obtain ⟨xs, m, _, hxe, hlen, hxl, hf⟩ := DataW.trod_array ht h
  rw [hct] at hlen
  rw [hxe] at hx
  simp only [DataW.agg.injEq] at hx
  apply List.ext_getElem?
  intro i
  rcases Nat.lt_or_ge i n with hi | hi
  · have h1 := hf i hi
    obtain ⟨y, hy⟩ : ∃ y, xs[i]? = some y := ⟨xs[i]'(by rw [hxl]; exact hi), by simp⟩
    rw [hy, hc, Nat.mul_one] at h1
    obtain ⟨z, r, hz, w⟩ := DataW.trod_int he h1
    have h2 := congrArg (fun l : List Value => l[0]?) r
    have h3 : l[i]? = some (.int k z) := by simpa using h2
    have h4 := congrArg (fun l => l[i]?) hx
    simp only [List.getElem?_map, hy, Option.map_some, hz] at h4
    rw [h3, List.getElem?_map]
    cases hn : ns[i]? with
    | none => rw [hn] at h4; cases h4
    | some z2 =>
      rw [hn] at h4
      simp only [Option.map_some, Option.some.injEq, DataW.lit.injEq, Lit.int.injEq] at h4
      rw [h4.2]
      rfl
  · have hnl : ns.length = n := by have := congrArg List.length hx; simpa [hxl] using this.symm
    rw [List.getElem?_eq_none (by omega), List.getElem?_eq_none (by simp; omega)]
def ksI : List Int := Sha.ks.map fun w => (w.toNat : Int)
theorem wV_ks : wV Sha.ks = ksI.map (Value.int .u32) := by unfold wV ksI; rw [List.map_map]; rfl
theorem ksI_eq : Rows.laid_starling_digest_constants (H := Unit) = .agg (ksI.map fun z => .lit (.int .u32 z)) := by
  unfold Rows.laid_starling_digest_constants ksI Sha.ks
  simp only [List.map_cons, List.map_nil, BitVec.toNat_ofNat]
  rfl
theorem ks_global : Tryz.prog.globalNamed "starling/digest.constants" = some 0 := by kernel_rfl
theorem ks_type : (Tryz.prog.globals[0]?).map (·.type) = some 161 := by kernel_rfl
theorem ks_cells : Tryz.prog.cellsOf 161 = 64 := by kernel_rfl
theorem u32_cells : Tryz.prog.cellsOf 129 = 1 := by kernel_rfl
theorem cells_of_laid {W : World} (h : laidMet Tryz.prog [("starling/digest.constants", Rows.laid_starling_digest_constants)] W) : W.var? Tryz.prog "starling/digest.constants" = some (wV Sha.ks).toArray := by
  obtain ⟨ps, ⟨g, t, cs, fuel, p, q, hg, ht, hvar, hd, _, _⟩, _⟩ := h
  obtain rfl := Option.some.inj (ks_global.symm.trans hg)
  obtain rfl := Option.some.inj (ks_type.symm.trans ht)
  rw [hvar, wV_ks]
  congr 1
  have := arr_cells Tryz.underlying161 Tryz.underlying129 u32_cells ks_cells hd ksI ksI_eq
  rw [← this]
theorem KAt_of_laid {W : World} (h : laidMet Tryz.prog [("starling/digest.constants", Rows.laid_starling_digest_constants)] W) : KAt (old W) := by
  have hv := cells_of_laid h
  refine ⟨some ⟨0, 0, none⟩, 64, rfl, .inr ⟨_, 0, rfl, fun hp ho j c hj => ?_⟩⟩
  rw [Nat.zero_add]
  refine hcell_of_cell ho ?_
  rw [World.var?_cell ks_global hv j]
  simpa using hj
/-- A world in which the variable reads as the rows lay it. -/
noncomputable def laidWorld (os : Os) : World :=
  { World.holding Tryz.prog os ⟨#[], #[], []⟩ with heap := (World.holding Tryz.prog os ⟨#[], #[], []⟩).heap.modify 0 fun
      | .cells _ t frozen => .cells (ksI.map (Value.int .u32)).toArray t frozen
      | o => o }
theorem laidWorld_row (os : Os) (args : Array Value) : ((laidWorld os).forCall (fun _ _ => 0) ⟨#[], args, []⟩).memory.heap[0]? = some (.cells (ksI.map (Value.int .u32)).toArray 161 (0, 0)) := by kernel_rfl
set_option maxRecDepth 20000 in
theorem laidWorld_met (os : Os) (args : Array Value) : laidMet Tryz.prog [("starling/digest.constants", Rows.laid_starling_digest_constants)] ((laidWorld os).forCall (fun _ _ => 0) ⟨#[], args, []⟩).memory := by
  have hrow := laidWorld_row os args
  refine ⟨_, ⟨0, 161, (ksI.map (Value.int .u32)).toArray, 8, [], [], ks_global, ks_type, ?_, ?_, rfl, rfl⟩, ?_, ?_⟩
  · unfold World.var?
    rw [ks_global]
    simp only [Option.bind_some, hrow]
  · kernel_rfl
  · rw [List.append_nil, List.append_nil]
    unfold MemPlace.row
    refine List.Pairwise.map (R := fun a b => a ≠ b) _ (fun i j hij e => hij ?_) List.nodup_range
    exact Nat.add_left_cancel (MemPlace.cell.inj e).2
  · intro b off h
    have hb : b = 0 := by
      simp only [List.append_nil, MemPlace.row, List.mem_map] at h
      obtain ⟨i, _, hi⟩ := h
      simp [MemPlace.cell.injEq] at hi
      exact hi.1.symm
    subst hb
    refine ⟨⟨_, _, hrow⟩, fun u v hc => ?_⟩
    simp only [World.cell?, hrow] at hc
    exfalso
    have h2 : ∀ x ∈ ksI.map (Value.int .u32), ∀ u v, x ≠ .iface u v := by
      intro x hx u v
      obtain ⟨z, _, rfl⟩ := List.mem_map.1 hx
      simp
    have h3 : (ksI.map (Value.int .u32))[off]? = some (.iface u v) := by simpa using hc
    exact h2 _ (List.mem_of_getElem? h3) u v rfl
end Go.Proofs.YtpecmnaikjbanaaGreatDoor

/-
  BlobsGranted answers true, whatever it is given; what it is given reads behind the call as it read before. No condition.
-/
namespace Go.Proofs.YtpecmnaikjbanaaGreatDoor.blobsGranted
open Go Go.SL
open Go.ChangeShapes Go.WideShapes Go.ChangeAt Go.RowKit
open Go.ChangeMaps (open_string shut_string)
set_option linter.unusedVariables false
set_option linter.unusedSimpArgs false

theorem own : ownKnob Tryz.prog.godebug = none := by kernel_rfl
theorem laidOut : laidOutB Tryz.prog = true := by kernel_rfl

set_option maxRecDepth 100000 in
theorem lifted (os : Os) (started : os.Started) (H : Type) (enc : TypeId × Value → H) :
    ReturnsInHanded {} Tryz.checked os 4 .any (fun w args => (Rows.blobsGrantedSpec.pre enc Tryz.prog Tryz.f4 Rows.blobsGrantedRow.domain false w args ∧ laidMet Tryz.prog [("starling/digest.constants", Rows.laid_starling_digest_constants)] w) ∧ sizedMet enc Tryz.prog Tryz.f4 (OpenSpec.ofChange Rows.blobsGrantedSpec) false w args) (Rows.blobsGrantedSpec.post enc Tryz.prog Tryz.f4 false true false false) := by
  refine returnsInHanded_of_change_and (C := Tryz.checked) (X := fun w _ => laidMet Tryz.prog [("starling/digest.constants", Rows.laid_starling_digest_constants)] w) (fun _ _ _ hh h => h.of_heap hh) own started (by kernel_rfl) Tryz.func4
    (ChangeSpec.witness_at (enc := enc) (C := Tryz.checked) (os := os) (X := fun w _ => laidMet Tryz.prog [("starling/digest.constants", Rows.laid_starling_digest_constants)] w) false (laidWorld os) #[.int .i64 0, .slice none 0 0] 8 rfl (by kernel_rfl) (by kernel_rfl) (by kernel_rfl) (by kernel_rfl) (by kernel_rfl) (laidWorld_met os #[.int .i64 0, .slice none 0 0])) ?_
  intro W base args ds gs before hval0 hW hcnd _ hL _
  have hval : ∀ (j : Nat) t v, Tryz.f4.params[j]? = some t → args[j]? = some v → Value.okWide Tryz.prog W .any base t v := hval0
  have hW' := hW
  obtain ⟨p, q, hA0, hV, rfl, hfz, hnd⟩ := hW
  have hA : DataW.TrodAll enc Tryz.prog W 0 (fun _ => true) true Tryz.f4.params.toList args.toList ds p := hA0
  rw [Tryz.params4] at hA hval
  obtain ⟨v0, vs0, d0, ds0, p0, q0, hargs, rfl, rfl, h0, r0⟩ := trodAll_cons hA
  obtain ⟨v1, vs1, d1, ds1, p1, q1, rfl, rfl, rfl, h1, r1⟩ := trodAll_cons r0
  obtain ⟨rfl, rfl, rfl⟩ := trodAll_nil r1
  obtain rfl : args = #[v0, v1] := by cases args; simp_all
  obtain ⟨rfl, rfl⟩ := trodVars_none hV
  obtain ⟨a0, rfl, rfl, rfl, w0⟩ := open_int Tryz.underlying3 (hval 0 3 v0 rfl rfl) h0
  obtain ⟨a1, len1, cap1, rfl⟩ := okWide_slice Tryz.underlying48 (hval 1 48 v1 rfl rfl)
  have k1 := h1
  have lt1 : ∀ x ∈ p1, x.block < W.heap.size := by obtain ⟨m, hm⟩ := k1; exact DataW.trod_lt m _ _ _ hm
  obtain ⟨bs1, hv1⟩ : ∃ l : List ST8, Steps8 (old W) (.slice a1 len1 cap1) l := by
    obtain ⟨fuel, hf⟩ := h1
    exact open_steps8 (by simpa [Value.cells] using hf)
  clear hA0 hval0
  refine (row_walk (Granted_any (old W) (KAt_of_laid hL) a0 _ bs1 hv1)).mono fun e W' ⟨he, bel⟩ => ?_
  subst he
  exact ⟨_, rfl, _, _, _, [], _, [], hW', trodAll_mk1 (shut_bool Tryz.underlying4 _), (trodAll_cons_mk (shut_int Tryz.underlying3 w0) (trodAll_cons_mk (Below.trod laidOut (by kernel_rfl) (of_decide_eq_true (by kernel_rfl)) k1 bel lt1) trodAll_mk0)), rfl, bel.frame _, fun h => by cases h⟩

theorem proved : Rows.BlobsGrantedSaid :=
  OpenClaim.holds_of_wide 4 Tryz.f4 rfl rfl rfl rfl rfl rfl rfl ⟨rfl, rfl, rfl, rfl, rfl⟩ rfl rfl rfl rfl rfl (by kernel_rfl) Tryz.func4 (by kernel_rfl)
    (of_decide_eq_true (by kernel_rfl)) (by unfold Func.isWrapper; first | (rw [if_pos (by decide +kernel)]; kernel_rfl) | (rw [if_neg (by decide +kernel)]; exact ⟨rfl, rfl⟩))
    (fun os started H enc _ => lifted os started H enc)
#print axioms proved
end Go.Proofs.YtpecmnaikjbanaaGreatDoor.blobsGranted

