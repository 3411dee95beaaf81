/- Texts of one claim, joined: Bi, Bj, Bk, Bp, Bq, Bl, Bu, Bx. -/
import Derived.Test.YtpecmnaikjbanaaGreatDoorQBA4
import Derived.Test.YtpecmnaikjbanaaGreatDoorQBA11
/- blobs, part i: move, Install. -/
set_option linter.unusedVariables false
set_option linter.unusedSimpArgs false
namespace Go.Proofs.YtpecmnaikjbanaaGreatDoor
open Go Go.SL
attribute [local irreducible] J K Ctr Ends pts slc mapR mapI sbRow stock arrS loopP CtrY Sha.chunks Sha.chunk Sha.rounds Sha.sched sumL taggedL GI leafL diskA
/-- The functions of a move. -/
def mvF (bd b3 b4 b5 : Nat) : List Value := [.func (.func 107) #[] #[ptr b3, ptr b4], .func (.func 109) #[] #[ptr b3, ptr b4, ptr b5], .func (.func 51) #[ptr bd] #[] ]
def mvX (bs b3 b4 b5 : Nat) (o n : ByteArray) : List HP := [pts b3 (cl [ptr bs] 35), pts b4 (cl [.string o] 9), pts b5 (cl [.string n] 9)]
theorem move_any (bs bd : Nat) (q : Int) (mb : Nat) (brk : Bool) (o n : ByteArray) : Ctr Tryz.prog 65 [ptr bs, .string o, .string n] [pts bs (cl (stC bd q mb brk) 92)]
    (fun r H => ∃ row b3 b4 b5, r = .slice (some ⟨row, 0, none⟩) 3 3 ∧ H = pts row (cl (mvF bd b3 b4 b5) 95) :: pts bs (cl (stC bd q mb brk) 92) :: mvX bs b3 b4 b5 o n) := by
  refine Ctr.enter Tryz.func65 (by kernel_rfl) rfl Tryz.ntmps65 rfl rfl ?_
  intro G F R hE
  refine K_regionA rfl ?_
  refine J_box rfl rfl (fun _ _ _ => trivial) ?_
  intro b3
  refine J_box rfl rfl (fun _ _ _ => trivial) ?_
  intro b4
  refine J_box rfl rfl (fun _ _ _ => trivial) ?_
  intro b5
  (refine go ?_)
  refine J_buildSlice1 (U := tab) (cs := mvF bd b3 b4 b5) rfl rfl rfl rfl rfl rfl rfl rfl rfl (fun _ _ _ => trivial) ?_
  intro row
  (refine go ?_)
  refine K_ent (H' := pts row (cl (mvF bd b3 b4 b5) 95) :: pts bs (cl (stC bd q mb brk) 92) :: (mvX bs b3 b4 b5 o n ++ F)) entA ?_
  (first | refine K_return hE Tryz.func65 rfl _ rfl ⟨row, b3, b4, b5, rfl, rfl⟩ entA | refine K_fallEnd hE Tryz.func65 rfl _ rfl ⟨row, b3, b4, b5, rfl, rfl⟩ entA)
theorem mv_steps (bs bd : Nat) (q : Int) (mb : Nat) (brk : Bool) (b3 b4 b5 : Nat) (o n : ByteArray) (A : Ab) (hst : A.states.length ≤ 900000000) (hwl : A.writes.length ≤ 900000000) (i : Nat) (fv : Value) (sp : Stp) (hi : (mvF bd b3 b4 b5)[i]? = some fv) (hs : (moveS o n)[i]? = some sp) :
    ∃ g fi cap, fv = .func (.func g) fi cap ∧ ∀ y, GQ A i y → Ctr Tryz.prog g (fi.toList ++ cap.toList) [stX bs bd q mb brk (Sep (mvX bs b3 b4 b5 o n)) y] (fun r H => ∃ (e : Nat) (x' : Ab), r = .int .i64 (e : Int) ∧ H = [stX bs bd q mb brk (Sep (mvX bs b3 b4 b5 o n)) x'] ∧ sp y e x' ∧ (e = 0 → GQ A (i + 1) x')) := by
  match i, hi, hs with
  | 0, hi, hs =>
    cases hi; cases hs
    refine ⟨_, _, _, rfl, fun y hy => ?_⟩
    have h0 := ctr_frame [pts b5 (cl [.string n] 9)] (move1_any bs bd b3 b4 q mb brk o y (by have := hy.2; omega))
    refine (ctr_stX (p := stSync o y) (Xs := mvX bs b3 b4 b5 o n) (h0.post ?_)).post ?_
    · rintro r H ⟨_, ⟨e, B, rfl, rfl, h1⟩, rfl⟩
      exact ⟨e, B, rfl, rfl, h1⟩
    · rintro r H ⟨e, B, rfl, rfl, h1⟩
      exact ⟨e, B, rfl, rfl, h1, fun _ => hy.next (grow_stSync h1)⟩
  | 1, hi, hs =>
    cases hi; cases hs
    refine ⟨_, _, _, rfl, fun y hy => (ctr_stX (move2_any bs bd b3 b4 b5 q mb brk o n y (by have := hy.1; omega))).post ?_⟩
    rintro r H ⟨e, B, rfl, rfl, h1⟩
    exact ⟨e, B, rfl, rfl, h1, fun _ => hy.next (grow_stRename h1)⟩
  | 2, hi, hs =>
    cases hi; cases hs
    refine ⟨_, _, _, rfl, fun y hy => (names_X bs bd q mb brk (mvX bs b3 b4 b5 o n) y).post ?_⟩
    rintro r H ⟨e, B, rfl, rfl, h1⟩
    exact ⟨e, B, rfl, rfl, h1, fun _ => hy.next (grow_stSyncNames h1)⟩
  | k + 3, hi, hs => simp [mvF] at hi
set_option maxRecDepth 20000 in
set_option maxHeartbeats 1000000 in
theorem Install_bl (X : HP) (hK : KAt X) (bs bd : Nat) (q : Int) (mb : Nat) (s : Sto) (x : Bl) (hst : s.A.states.length ≤ 900000000) (hwl : s.A.writes.length ≤ 900000000) : Ctr Tryz.prog 19 [ptr bs, blV x] (stoL bs bd q mb s ++ [X])
    (fun r H => ∃ (e : Nat) (t : Sto), r = .int .i64 (e : Int) ∧ H = stoL bs bd q mb t ++ [X] ∧ InstallS x s e t) := by
  obtain ⟨A, beg, brk⟩ := s
  simp only at hst hwl
  have hmay := may_any bs bd q mb brk beg x
  have hab := Abort_bl bs bd q mb ⟨A, beg, brk⟩ x hst hwl
  have hfb := file_any kB x.d (by decide)
  unfold dV at hfb
  unfold blV at hmay hab ⊢
  refine Ctr.enter Tryz.func19 (by kernel_rfl) rfl Tryz.ntmps19 rfl rfl ?_
  intro G F R hE
  refine K_ent (H' := pts bs (cl (stC bd q mb brk) 92) :: mapR dV mb (begE beg) :: diskA bd A :: X :: F) (Ent.refl _) ?_
  refine K_diskA (bd := bd) (A := A) 2 rfl ?_
  intro hdk
  refine K_regionA rfl ?_
  refine J_box rfl rfl (fun _ _ _ => trivial) ?_
  intro b3
  (refine go ?_)
  refine J_loadArr (U := tab) (l := blC x) 0 rfl rfl rfl rfl rfl rfl ?_
  (first | refine J_callE rfl rfl rfl rfl (hmay) entA ?_ (fun _ _ _ _ _ => trivial) | refine J_call0E rfl rfl rfl (hmay) entA ?_ (fun _ _ _ _ _ => trivial) | (refine go ?_; first | refine J_callE rfl rfl rfl rfl (hmay) entA ?_ (fun _ _ _ _ _ => trivial) | refine J_call0E rfl rfl rfl (hmay) entA ?_ (fun _ _ _ _ _ => trivial)))
  rintro _ _ ⟨rfl, rfl⟩
  (refine go ?_)
  refine K_condP rfl rfl ?_ ?_
  · intro hne
    have hne' : mayS ⟨A, beg, brk⟩ x ≠ 0 := by show mayL brk beg x ≠ 0; omega
    (refine go ?_)
    refine K_ent (H' := stoL bs bd q mb ⟨A, beg, brk⟩ ++ (X :: F)) entA ?_
    (first | refine K_return hE Tryz.func19 rfl _ rfl ⟨mayL brk beg x, ⟨A, beg, brk⟩, rfl, rfl, by unfold InstallS; rw [if_pos hne']; exact ⟨rfl, rfl⟩⟩ entA | refine K_fallEnd hE Tryz.func19 rfl _ rfl ⟨mayL brk beg x, ⟨A, beg, brk⟩, rfl, rfl, by unfold InstallS; rw [if_pos hne']; exact ⟨rfl, rfl⟩⟩ entA)
  intro heq
  have heq' : ¬ mayS ⟨A, beg, brk⟩ x ≠ 0 := by show ¬ mayL brk beg x ≠ 0; omega
  have hbl := bytesF_len hdk (fS x)
  (refine go ?_)
  refine J_loadAgg (U := tab) 2 rfl rfl rfl rfl rfl rfl ?_
  (first | refine J_callE rfl rfl rfl rfl (fS_any x) entA ?_ (fun _ _ _ _ _ => trivial) | refine J_call0E rfl rfl rfl (fS_any x) entA ?_ (fun _ _ _ _ _ => trivial) | (refine go ?_; first | refine J_callE rfl rfl rfl rfl (fS_any x) entA ?_ (fun _ _ _ _ _ => trivial) | refine J_call0E rfl rfl rfl (fS_any x) entA ?_ (fun _ _ _ _ _ => trivial)))
  rintro _ _ ⟨rfl, rfl⟩
  (first | refine J_callE rfl rfl rfl rfl (bytes_any bs bd q mb brk A (fS x)) entA ?_ (fun _ _ _ _ _ => trivial) | refine J_call0E rfl rfl rfl (bytes_any bs bd q mb brk A (fS x)) entA ?_ (fun _ _ _ _ _ => trivial) | (refine go ?_; first | refine J_callE rfl rfl rfl rfl (bytes_any bs bd q mb brk A (fS x)) entA ?_ (fun _ _ _ _ _ => trivial) | refine J_call0E rfl rfl rfl (bytes_any bs bd q mb brk A (fS x)) entA ?_ (fun _ _ _ _ _ => trivial)))
  rintro _ _ ⟨rv, rfl, rfl⟩
  obtain ⟨bb, hbb⟩ : ∃ bb, bb = (bytesF A (fS x)).getD [] := ⟨_, rfl⟩
  rw [← hbb] at hbl ⊢
  refine J_slcB (bs := bb) 0 rfl ?_
  intro hbv
  refine J_ent (Ent.trans (Ent.pick [0, 5] rfl) (Ent.resep [slc 5 1 rv bb.length (bV bb), X] _)) ?_
  have hwh := Whole_any _ (hK.mono (Sep_get (H := [slc 5 1 rv bb.length (bV bb), X]) (i := 1) rfl)) x rv bb (hbv.mono (Sep_get (i := 0) rfl)) (by omega)
  unfold blV at hwh
  (refine go ?_)
  refine J_loadArr (U := tab) (l := blC x) 4 rfl rfl rfl rfl rfl rfl ?_
  (first | refine J_callE rfl rfl rfl rfl (hwh) entA ?_ (fun _ _ _ _ _ => trivial) | refine J_call0E rfl rfl rfl (hwh) entA ?_ (fun _ _ _ _ _ => trivial) | (refine go ?_; first | refine J_callE rfl rfl rfl rfl (hwh) entA ?_ (fun _ _ _ _ _ => trivial) | refine J_call0E rfl rfl rfl (hwh) entA ?_ (fun _ _ _ _ _ => trivial)))
  rintro _ _ ⟨rfl, rfl⟩
  refine J_ent (Ent.unsep [slc 5 1 rv bb.length (bV bb), X] _) ?_
  cases hw : wholeB x bb with
  | false =>
    have hI : ∀ e1 t, AbortS x ⟨A, beg, brk⟩ e1 t → ∀ e, e = (if e1 ≠ 0 then e1 else 8) → InstallS x ⟨A, beg, brk⟩ e t := fun e1 t h e he => by
      unfold InstallS
      rw [if_neg heq', if_pos (by show wholeB x ((bytesF A (fS x)).getD []) = false; rw [← hbb]; exact hw)]
      exact ⟨e1, h, he⟩
    (refine go ?_)
    refine J_loadArr (U := tab) (l := blC x) 5 rfl rfl rfl rfl rfl rfl ?_
    (first | refine J_callE rfl rfl rfl rfl (hab) entA ?_ (fun _ _ _ _ _ => trivial) | refine J_call0E rfl rfl rfl (hab) entA ?_ (fun _ _ _ _ _ => trivial) | (refine go ?_; first | refine J_callE rfl rfl rfl rfl (hab) entA ?_ (fun _ _ _ _ _ => trivial) | refine J_call0E rfl rfl rfl (hab) entA ?_ (fun _ _ _ _ _ => trivial)))
    rintro _ _ ⟨e1, t, rfl, rfl, habs⟩
    (refine go ?_)
    refine K_condP rfl rfl ?_ ?_
    · intro hne1
      have he : e1 ≠ 0 := by omega
      (refine go ?_)
      refine K_ent (H' := stoL bs bd q mb t ++ (X :: F)) entA ?_
      (first | refine K_return hE Tryz.func19 rfl _ rfl ⟨e1, t, rfl, rfl, hI e1 t habs e1 (by rw [if_pos he])⟩ entA | refine K_fallEnd hE Tryz.func19 rfl _ rfl ⟨e1, t, rfl, rfl, hI e1 t habs e1 (by rw [if_pos he])⟩ entA)
    · intro heq1
      have he : e1 = 0 := by omega
      (refine go ?_)
      refine K_ent (H' := stoL bs bd q mb t ++ (X :: F)) entA ?_
      (first | refine K_return hE Tryz.func19 rfl _ rfl ⟨8, t, rfl, rfl, hI e1 t habs 8 (by rw [if_neg (by omega)])⟩ entA | refine K_fallEnd hE Tryz.func19 rfl _ rfl ⟨8, t, rfl, rfl, hI e1 t habs 8 (by rw [if_neg (by omega)])⟩ entA)
  | true =>
    have hwn : ¬ wholeB x ((bytesF A (fS x)).getD []) = false := by rw [← hbb, hw]; simp
    (refine go ?_)
    refine K_drawA (fun w => Sat G w ([pts b3 (cl (blC x) 32)])) (.st 0 (.st 1 (.st 2 (.st 3 (.st 5 (.st 6 (.act 4 (.act 7 (.act 8 (.act 9 (.st 10 .nil))))))))))) rfl (by kernel_rfl) (by kernel_rfl) (by kernel_rfl) (fun w hw => hw.ent entA) ?_
    (refine go ?_)
    refine J_loadAggS (U := tab) 0 rfl rfl rfl rfl rfl rfl ?_
    (refine go ?_)
    refine J_loadAggS (U := tab) 0 rfl rfl rfl rfl rfl rfl ?_
    (refine go ?_)
    (first | refine J_callE rfl rfl rfl rfl (fS_any x) entA ?_ (fun _ _ w hp hw => by obtain ⟨rfl, rfl⟩ := hp; exact hw.ent entA) | refine J_call0E rfl rfl rfl (fS_any x) entA ?_ (fun _ _ w hp hw => by obtain ⟨rfl, rfl⟩ := hp; exact hw.ent entA))
    rintro _ _ ⟨rfl, rfl⟩
    (refine go ?_)
    (first | refine J_callE rfl rfl rfl rfl (hfb) entA ?_ (fun _ _ w hp hw => by obtain ⟨rfl, rfl⟩ := hp; exact hw.ent entA) | refine J_call0E rfl rfl rfl (hfb) entA ?_ (fun _ _ w hp hw => by obtain ⟨rfl, rfl⟩ := hp; exact hw.ent entA))
    rintro _ _ ⟨rfl, rfl⟩
    (refine go ?_)
    (first | refine J_callE rfl rfl rfl rfl (move_any bs bd q mb brk (fS x) (fB x)) entA ?_ (fun _ _ w hp hw => by obtain ⟨row, c3, c4, c5, rfl, rfl⟩ := hp; exact hw.ent entA) | refine J_call0E rfl rfl rfl (move_any bs bd q mb brk (fS x) (fB x)) entA ?_ (fun _ _ w hp hw => by obtain ⟨row, c3, c4, c5, rfl, rfl⟩ := hp; exact hw.ent entA))
    rintro _ _ ⟨row, c3, c4, c5, rfl, rfl⟩
    have hch := changeS_any bs bd q mb brk (Sep (mvX bs c3 c4 c5 (fS x) (fB x))) (pts row (cl (mvF bd c3 c4 c5) 95)) (.slice (some ⟨row, 0, none⟩) 3 3) (mvF bd c3 c4 c5) (Vw.pts rfl) (by show 3 ≤ _; omega) (moveS (fS x) (fB x)) rfl (GQ A) (mv_steps bs bd q mb brk c3 c4 c5 (fS x) (fB x) A hst hwl) A (GQ.zero A)
    (refine go ?_)
    refine J_ent (H' := pts row (cl (mvF bd c3 c4 c5) 95) :: stX bs bd q mb brk (Sep (mvX bs c3 c4 c5 (fS x) (fB x))) A :: mapR dV mb (begE beg) :: pts b3 (cl (blC x) 32) :: X :: F) (Ent.trans (H2 := pts bs (cl (stC bd q mb brk) 92) :: diskA bd A :: (mvX bs c3 c4 c5 (fS x) (fB x) ++ (pts row (cl (mvF bd c3 c4 c5) 95) :: mapR dV mb (begE beg) :: pts b3 (cl (blC x) 32) :: X :: F))) entA (Ent.trans (stX_in bs bd q mb brk _ A _) entA)) ?_
    (first | refine J_callE rfl rfl rfl rfl (hch) entA ?_ (fun _ _ w hp hw => by obtain ⟨e, B, rfl, rfl, hruns, _⟩ := hp; exact hw.ent entA) | refine J_call0E rfl rfl rfl (hch) entA ?_ (fun _ _ w hp hw => by obtain ⟨e, B, rfl, rfl, hruns, _⟩ := hp; exact hw.ent entA))
    rintro _ _ ⟨e, B, rfl, rfl, hruns, -⟩
    refine J_ent (Ent.trans (Ent.pick [1] rfl) (stX_out bs bd q mb (brk || decide (e ≠ 0)) _ B _)) ?_
    have hI : ∀ t, t = (if e ≠ 0 then (⟨B, beg, brk || decide (e ≠ 0)⟩ : Sto) else ⟨B, delB beg x.d, brk || decide (e ≠ 0)⟩) → InstallS x ⟨A, beg, brk⟩ e t := fun t ht => by
      unfold InstallS
      rw [if_neg heq', if_neg hwn]
      exact ⟨_, ⟨B, hruns, rfl⟩, ht⟩
    (refine go ?_)
    refine K_condP rfl rfl ?_ ?_
    · intro hne1
      have he : e ≠ 0 := by omega
      (refine go ?_)
      refine K_ent (H' := stoL bs bd q mb ⟨B, beg, brk || decide (e ≠ 0)⟩ ++ (X :: F)) entA ?_
      (first | refine K_return hE Tryz.func19 rfl _ rfl ⟨e, ⟨B, beg, or brk (decide (e ≠ 0))⟩, rfl, rfl, hI _ (by rw [if_pos he])⟩ entA | refine K_fallEnd hE Tryz.func19 rfl _ rfl ⟨e, ⟨B, beg, or brk (decide (e ≠ 0))⟩, rfl, rfl, hI _ (by rw [if_pos he])⟩ entA)
    · intro heq1
      have he : e = 0 := by omega
      subst he
      (refine go ?_)
      refine K_drawA (fun w => Sat G w ([pts bs (cl (stC bd q mb (or brk (decide (0 ≠ 0)))) 92), pts b3 (cl (blC x) 32)])) (.st 0 (.st 1 (.st 2 (.st 3 (.st 4 (.st 5 (.act 6 .nil))))))) rfl (by kernel_rfl) (by kernel_rfl) (by kernel_rfl) (fun w hw => hw.ent entA) ?_
      (refine go ?_)
      refine J_loadAggS (U := tab) 1 rfl rfl rfl rfl rfl rfl ?_
      (refine go ?_)
      refine J_delete (U := tab) (es := begE beg) (key := x.d) 6 kDg (fun w hw => by exact trivial) rfl rfl rfl rfl rfl rfl rfl ?_
      rw [begE_del]
      (refine go ?_)
      refine K_ent (H' := stoL bs bd q mb ⟨B, delB beg x.d, brk || decide (0 ≠ 0)⟩ ++ (X :: F)) entA ?_
      (first | refine K_return hE Tryz.func19 rfl _ rfl ⟨0, ⟨B, delB beg x.d, or brk (decide (0 ≠ 0))⟩, rfl, rfl, hI _ (by rw [if_neg (by omega)])⟩ entA | refine K_fallEnd hE Tryz.func19 rfl _ rfl ⟨0, ⟨B, delB beg x.d, or brk (decide (0 ≠ 0))⟩, rfl, rfl, hI _ (by rw [if_neg (by omega)])⟩ entA)
end Go.Proofs.YtpecmnaikjbanaaGreatDoor

/- blobs, part j: Put. -/
set_option linter.unusedVariables false
set_option linter.unusedSimpArgs false
namespace Go.Proofs.YtpecmnaikjbanaaGreatDoor
open Go Go.SL
attribute [local irreducible] J K Ctr Ends pts slc mapR mapI sbRow stock arrS loopP CtrY Sha.chunks Sha.chunk Sha.rounds Sha.sched sumL taggedL GI leafL diskA
set_option maxRecDepth 20000 in
set_option maxHeartbeats 1000000 in
theorem Put_bl (X : HP) (bs bd : Nat) (q : Int) (mb : Nat) (s : Sto) (x : Bl) (i : Int) (bv : Value) (b : List UInt8) (hv : Vw X bv b.length (bV b)) (hbl : b.length ≤ 1000000000) (hi : -9223372036854775808 ≤ i ∧ i ≤ 9223372036854775807) (hst : s.A.states.length ≤ 900000000) (hwl : s.A.writes.length ≤ 900000000) :
    Ctr Tryz.prog 18 [ptr bs, blV x, .int .i64 i, bv] (stoL bs bd q mb s ++ [X])
    (fun r H => ∃ (e : Nat) (t : Sto), r = .int .i64 (e : Int) ∧ H = stoL bs bd q mb t ++ [X] ∧ PutS x i b s e t) := by
  obtain ⟨A, beg, brk⟩ := s
  simp only at hst hwl
  obtain ⟨a, c, rfl⟩ := hv.shape
  have hmay := may_any bs bd q mb brk beg x
  unfold blV at hmay ⊢
  refine Ctr.enter Tryz.func18 (by kernel_rfl) rfl Tryz.ntmps18 rfl rfl ?_
  intro G F R hE
  refine K_ent (H' := pts bs (cl (stC bd q mb brk) 92) :: mapR dV mb (begE beg) :: diskA bd A :: X :: F) (Ent.refl _) ?_
  refine K_regionA rfl ?_
  refine J_box rfl rfl (fun _ _ _ => trivial) ?_
  intro b4
  refine J_box rfl rfl (fun _ _ _ => trivial) ?_
  intro b5
  refine J_box rfl rfl (fun _ _ _ => trivial) ?_
  intro b7
  (refine go ?_)
  refine J_loadArr (U := tab) (l := blC x) 1 rfl rfl rfl rfl rfl rfl ?_
  (first | refine J_callE rfl rfl rfl rfl (hmay) entA ?_ (fun _ _ _ _ _ => trivial) | refine J_call0E rfl rfl rfl (hmay) entA ?_ (fun _ _ _ _ _ => trivial) | (refine go ?_; first | refine J_callE rfl rfl rfl rfl (hmay) entA ?_ (fun _ _ _ _ _ => trivial) | refine J_call0E rfl rfl rfl (hmay) entA ?_ (fun _ _ _ _ _ => trivial)))
  rintro _ _ ⟨rfl, rfl⟩
  (refine go ?_)
  refine K_condP rfl rfl ?_ ?_
  · intro hne
    have hne' : mayS ⟨A, beg, brk⟩ x ≠ 0 := by show mayL brk beg x ≠ 0; omega
    (refine go ?_)
    refine K_ent (H' := stoL bs bd q mb ⟨A, beg, brk⟩ ++ (X :: F)) entA ?_
    (first | refine K_return hE Tryz.func18 rfl _ rfl ⟨mayL brk beg x, ⟨A, beg, brk⟩, rfl, rfl, by unfold PutS; rw [if_pos hne']; exact ⟨rfl, rfl⟩⟩ entA | refine K_fallEnd hE Tryz.func18 rfl _ rfl ⟨mayL brk beg x, ⟨A, beg, brk⟩, rfl, rfl, by unfold PutS; rw [if_pos hne']; exact ⟨rfl, rfl⟩⟩ entA)
  intro heq
  have heq' : ¬ mayS ⟨A, beg, brk⟩ x ≠ 0 := by show ¬ mayL brk beg x ≠ 0; omega
  (refine go ?_)
  refine J_loadArr (U := tab) (l := blC x) 3 rfl rfl rfl rfl rfl rfl ?_
  have hspan := Span_any x i
  unfold blV at hspan
  have hP1 : ∀ (e : Nat) (t : Sto), spanB x i = none → e = 1 → t = ⟨A, beg, brk⟩ → PutS x i b ⟨A, beg, brk⟩ e t := fun e t h he ht => by
    unfold PutS; rw [if_neg heq', h]; exact ⟨he, ht⟩
  have hP2 : ∀ (at_ n : Int), spanB x i = some (at_, n) → (b.length : Int) ≠ n → PutS x i b ⟨A, beg, brk⟩ 1 ⟨A, beg, brk⟩ := fun at_ n h hl => by
    unfold PutS; rw [if_neg heq', h]; dsimp only; rw [if_pos hl]; exact ⟨rfl, rfl⟩
  have hP3 : ∀ (at_ n : Int) (e : Nat) (t : Sto), spanB x i = some (at_, n) → ¬ (b.length : Int) ≠ n → chgS [stWrite (fS x) at_.toNat b] ⟨A, beg, brk⟩ e t → PutS x i b ⟨A, beg, brk⟩ e t := fun at_ n e t h hl hc => by
    unfold PutS; rw [if_neg heq', h]; dsimp only; rw [if_neg hl]; exact hc
  have hat : ∀ at_ n, spanB x i = some (at_, n) → 0 ≤ at_ ∧ at_ ≤ 9223372036854775807 := fun at_ n h => by
    unfold spanB at h
    split at h
    · cases h
    · rename_i hn
      injection h with h
      injection h with h1 h2
      obtain ⟨hr, hm0, hms⟩ := span_lt (x := x) (i := i) (by omega) (by omega)
      simp only [rightB, decide_eq_true_eq] at hr
      omega
  (refine go ?_)
  (first | refine J_callE rfl rfl rfl rfl (hspan) entA ?_ (fun _ _ _ _ _ => trivial) | refine J_call0E rfl rfl rfl (hspan) entA ?_ (fun _ _ _ _ _ => trivial) | (refine go ?_; first | refine J_callE rfl rfl rfl rfl (hspan) entA ?_ (fun _ _ _ _ _ => trivial) | refine J_call0E rfl rfl rfl (hspan) entA ?_ (fun _ _ _ _ _ => trivial)))
  rintro _ _ ⟨rfl, rfl⟩
  cases hsp : spanB x i with
  | none =>
    simp only
    (refine go ?_)
    refine J_alloc (U := tab) rfl rfl rfl (fun _ _ _ => trivial) ?_
    intro b10
    (refine go ?_)
    refine K_ent (H' := stoL bs bd q mb ⟨A, beg, brk⟩ ++ (X :: F)) entA ?_
    (first | refine K_return hE Tryz.func18 rfl _ rfl ⟨1, ⟨A, beg, brk⟩, rfl, rfl, hP1 _ _ hsp rfl rfl⟩ entA | refine K_fallEnd hE Tryz.func18 rfl _ rfl ⟨1, ⟨A, beg, brk⟩, rfl, rfl, hP1 _ _ hsp rfl rfl⟩ entA)
  | some w =>
    obtain ⟨at_, n⟩ := w
    simp only
    (refine go ?_)
    refine J_alloc (U := tab) rfl rfl rfl (fun _ _ _ => trivial) ?_
    intro b10
    (refine go ?_)
    refine K_condP rfl rfl ?_ ?_
    · intro hln
      have hl : (b.length : Int) ≠ n := hln
      (refine go ?_)
      refine K_ent (H' := stoL bs bd q mb ⟨A, beg, brk⟩ ++ (X :: F)) entA ?_
      (first | refine K_return hE Tryz.func18 rfl _ rfl ⟨1, ⟨A, beg, brk⟩, rfl, rfl, hP2 at_ n hsp hl⟩ entA | refine K_fallEnd hE Tryz.func18 rfl _ rfl ⟨1, ⟨A, beg, brk⟩, rfl, rfl, hP2 at_ n hsp hl⟩ entA)
    · intro hln
      have hl : ¬ (b.length : Int) ≠ n := hln
      obtain ⟨Y, hY⟩ : ∃ Y, Y = ([pts b4 (cl [ptr bs] 35), pts b5 (cl (blC x) 32), pts b10 (cl [.int .i64 at_] 3), pts b7 (cl [.slice a b.length c] 22), X] : List HP) := ⟨_, rfl⟩
      have hin : ∀ F, Ent (pts bs (cl (stC bd q mb brk) 92) :: diskA bd A :: ([pts b4 (cl [ptr bs] 35), pts b5 (cl (blC x) 32), pts b10 (cl [.int .i64 at_] 3), pts b7 (cl [.slice a b.length c] 22), X] ++ F)) (stX bs bd q mb brk (Sep Y) A :: F) := fun F => by rw [hY]; exact stX_in bs bd q mb brk _ A F
      have hout : ∀ (bk : Bool) B F, Ent (stX bs bd q mb bk (Sep Y) B :: F) (pts bs (cl (stC bd q mb bk) 92) :: diskA bd B :: ([pts b4 (cl [ptr bs] 35), pts b5 (cl (blC x) 32), pts b10 (cl [.int .i64 at_] 3), pts b7 (cl [.slice a b.length c] 22), X] ++ F)) := fun bk B F => by rw [hY]; exact stX_out bs bd q mb bk _ B F
      have hst1 : ∀ (i : Nat) (fv : Value) (sp : Stp), [.func (.func 61) #[] #[ptr b4, ptr b5, ptr b10, ptr b7] ][i]? = some fv → [stWrite (fS x) at_.toNat b][i]? = some sp → ∃ g fi cap, fv = .func (.func g) fi cap ∧ ∀ y, GQ A i y → Ctr Tryz.prog g (fi.toList ++ cap.toList) [stX bs bd q mb brk (Sep Y) y] (fun r H => ∃ (e : Nat) (x' : Ab), r = .int .i64 (e : Int) ∧ H = [stX bs bd q mb brk (Sep Y) x'] ∧ sp y e x' ∧ (e = 0 → GQ A (i + 1) x')) := by
        intro i fv sp hi hs
        match i, hi, hs with
        | 0, hi, hs =>
          cases hi; cases hs
          refine ⟨_, _, _, rfl, fun y hy => ?_⟩
          subst hY
          have h0 := put1_any bs bd b4 b5 b10 b7 q mb brk x at_ X (.slice a b.length c) b hv y (by have := hy.2; omega) hbl (hat at_ n hsp)
          refine (ctr_stX (p := stWrite (fS x) at_.toNat b y) h0).post ?_
          rintro r H ⟨e, B, rfl, rfl, h1⟩
          exact ⟨e, B, rfl, rfl, h1, fun _ => hy.next (grow_stWrite h1)⟩
        | k + 1, hi, hs => simp at hi
      (refine go ?_)
      refine J_buildSlice1 (U := tab) (cs := [.func (.func 61) #[] #[ptr b4, ptr b5, ptr b10, ptr b7] ]) rfl rfl rfl rfl rfl rfl rfl rfl rfl (fun _ _ _ => trivial) ?_
      intro row
      have hch := changeS_any bs bd q mb brk (Sep Y) (pts row (cl [.func (.func 61) #[] #[ptr b4, ptr b5, ptr b10, ptr b7] ] 95)) (.slice (some ⟨row, 0, none⟩) 1 1) [.func (.func 61) #[] #[ptr b4, ptr b5, ptr b10, ptr b7] ] (Vw.pts rfl) (by show 1 ≤ _; omega) [stWrite (fS x) at_.toNat b] rfl (GQ A) hst1 A (GQ.zero A)
      refine J_ent (H' := pts row (cl [.func (.func 61) #[] #[ptr b4, ptr b5, ptr b10, ptr b7] ] 95) :: stX bs bd q mb brk (Sep Y) A :: mapR dV mb (begE beg) :: F) (Ent.trans (H2 := pts bs (cl (stC bd q mb brk) 92) :: diskA bd A :: ([pts b4 (cl [ptr bs] 35), pts b5 (cl (blC x) 32), pts b10 (cl [.int .i64 at_] 3), pts b7 (cl [.slice a b.length c] 22), X] ++ (pts row (cl [.func (.func 61) #[] #[ptr b4, ptr b5, ptr b10, ptr b7] ] 95) :: mapR dV mb (begE beg) :: F))) entA (Ent.trans (hin _) entA)) ?_
      (first | refine J_callE rfl rfl rfl rfl (hch) entA ?_ (fun _ _ _ _ _ => trivial) | refine J_call0E rfl rfl rfl (hch) entA ?_ (fun _ _ _ _ _ => trivial) | (refine go ?_; first | refine J_callE rfl rfl rfl rfl (hch) entA ?_ (fun _ _ _ _ _ => trivial) | refine J_call0E rfl rfl rfl (hch) entA ?_ (fun _ _ _ _ _ => trivial)))
      rintro _ _ ⟨e, B, rfl, rfl, hruns, -⟩
      (refine go ?_)
      refine K_ent (H' := stoL bs bd q mb ⟨B, beg, brk || decide (e ≠ 0)⟩ ++ (X :: F)) (Ent.trans (Ent.pick [1] rfl) (Ent.trans (hout _ B _) entA)) ?_
      (first | refine K_return hE Tryz.func18 rfl _ rfl ⟨e, ⟨B, beg, or brk (decide (e ≠ 0))⟩, rfl, rfl, hP3 at_ n e _ hsp hl ⟨B, hruns, rfl⟩⟩ entA | refine K_fallEnd hE Tryz.func18 rfl _ rfl ⟨e, ⟨B, beg, or brk (decide (e ≠ 0))⟩, rfl, rfl, hP3 at_ n e _ hsp hl ⟨B, hruns, rfl⟩⟩ entA)
end Go.Proofs.YtpecmnaikjbanaaGreatDoor

/- blobs, part k: Used. -/
set_option linter.unusedVariables false
set_option linter.unusedSimpArgs false
namespace Go.Proofs.YtpecmnaikjbanaaGreatDoor
open Go Go.SL
attribute [local irreducible] J K Ctr Ends pts slc mapR mapI sbRow stock arrS loopP CtrY Sha.chunks Sha.chunk Sha.rounds Sha.sched sumL taggedL GI leafL diskA
/-- How much one name takes. -/
def oneU (A : Ab) (nm : ByteArray) : Nat := if (hashN kB nm).isSome then (A.size nm).1 else 0
theorem sum_map_perm {α : Type} {l m : List α} (h : l.Perm m) (f : α → Nat) : (l.map f).sum = (m.map f).sum := by
  induction h with
  | nil => rfl
  | cons x _ ih => simp [ih]
  | swap x y l => simp; omega
  | trans _ _ ih1 ih2 => exact ih1.trans ih2
theorem look_of_mem {A : Ab} (h : (A.names.map (·.1)).Nodup) {x : ByteArray × Nat} (hx : x ∈ A.names) : A.look x.1 = some x.2 := by
  have key : ∀ (l : List (ByteArray × Nat)), (l.map (·.1)).Nodup → x ∈ l → (l.find? (fun y => decide (y.1 = x.1))).map (·.2) = some x.2 := by
    intro l
    induction l with
    | nil => intro _ h; cases h
    | cons y l ih =>
      intro hn hm
      rw [List.map_cons, List.nodup_cons] at hn
      rw [List.find?_cons]
      rcases List.mem_cons.1 hm with rfl | hm
      · simp
      · have : y.1 ≠ x.1 := fun e => hn.1 (List.mem_map.2 ⟨x, hm, e.symm⟩)
        simp only [this, decide_false]
        exact ih hn.2 hm
  exact key A.names h hx
theorem namesF_perm (A : Ab) : (namesF A).Perm (A.names.map (·.1)) := by
  unfold namesF keysA
  have h := (sortB_perm0 (A.names.map (·.1))).map strOf
  rw [List.map_map] at h
  have h2 : (A.names.map (·.1)).map (strOf ∘ fun b => b.data.toList) = A.names.map (·.1) := by
    rw [List.map_map]
    refine List.map_congr_left fun x _ => ?_
    exact strOf_data x.1
  rwa [h2] at h
theorem used_names {A : Ab} (h : (A.names.map (·.1)).Nodup) : usedF A = ((namesF A).map (oneU A)).sum := by
  rw [sum_map_perm (namesF_perm A), List.map_map]
  unfold usedF
  congr 1
  refine List.map_congr_left fun x hx => ?_
  have hl := look_of_mem h hx
  simp only [Function.comp, oneU, Ab.size, hl]
theorem oneU_le {A : Ab} (h : DOk A) (nm : ByteArray) : oneU A nm ≤ 1048576 := by
  unfold oneU Ab.size
  split
  · cases A.look nm with
    | none => simp
    | some f => exact h.now f
  · omega
theorem sum_le_of {α : Type} (l : List α) (f : α → Nat) (m : Nat) (h : ∀ x ∈ l, f x ≤ m) : (l.map f).sum ≤ l.length * m := by
  induction l with
  | nil => simp
  | cons x l ih =>
    have h1 := h x (List.mem_cons_self ..)
    have h2 := ih (fun y hy => h y (List.mem_cons_of_mem _ hy))
    simp only [List.map_cons, List.sum_cons, List.length_cons, Nat.add_mul, Nat.one_mul]
    omega
/-- What is begun, of those whose hashes were met. -/
def metS (beg : List (Dg × Bl)) (dn : List Dg) : Int := ((beg.filter fun x => decide (x.1 ∈ dn)).map (·.2.size)).sum
theorem metS_nil (beg : List (Dg × Bl)) : metS beg [] = 0 := by unfold metS; rw [List.filter_eq_nil_iff.2 (by simp)]; rfl
theorem metS_all (beg : List (Dg × Bl)) (dn : List Dg) (h : ∀ x ∈ beg, x.1 ∈ dn) : metS beg dn = (beg.map (·.2.size)).sum := by
  unfold metS
  rw [List.filter_eq_self.2 (fun x hx => decide_eq_true (h x hx))]
theorem metS_none (beg : List (Dg × Bl)) (key : Dg) (dn : List Dg) (h : key ∉ beg.map (·.1)) : metS beg (key :: dn) = metS beg dn := by
  unfold metS
  congr 2
  refine List.filter_congr fun x hx => ?_
  have : x.1 ≠ key := fun e => h (List.mem_map.2 ⟨x, hx, e⟩)
  simp [this]
theorem metS_cons (beg : List (Dg × Bl)) (key : Dg) (y : Bl) (dn : List Dg) (hn : (beg.map (·.1)).Nodup) (hm : (key, y) ∈ beg) (hd : key ∉ dn) : metS beg (key :: dn) = metS beg dn + y.size := by
  induction beg with
  | nil => cases hm
  | cons x l ih =>
    rw [List.map_cons, List.nodup_cons] at hn
    rcases List.mem_cons.1 hm with rfl | hm
    · have h1 := metS_none l key dn hn.1
      unfold metS at h1 ⊢
      rw [List.filter_cons, List.filter_cons]
      simp only [List.mem_cons, true_or, decide_true, if_true, hd, decide_false, Bool.false_eq_true, if_false, List.map_cons, List.sum_cons]
      simp only [List.mem_cons] at h1
      rw [h1]
      omega
    · have hne : x.1 ≠ key := fun e => hn.1 (List.mem_map.2 ⟨_, hm, e.symm⟩)
      have h1 := ih hn.2 hm
      unfold metS at h1 ⊢
      rw [List.filter_cons, List.filter_cons]
      by_cases hx : x.1 ∈ dn
      · simp only [List.mem_cons, hx, or_true, decide_true, if_true, List.map_cons, List.sum_cons] at h1 ⊢
        omega
      · simp only [List.mem_cons, hx, hne, or_self, decide_false, Bool.false_eq_true, if_false] at h1 ⊢
        exact h1
theorem metS_le (beg : List (Dg × Bl)) (dn : List Dg) (h : ∀ x ∈ beg, 0 ≤ x.2.size ∧ x.2.size ≤ 1048576) : 0 ≤ metS beg dn ∧ metS beg dn ≤ beg.length * 1048576 := by
  unfold metS
  induction beg with
  | nil => simp
  | cons x l ih =>
    obtain ⟨h1, h2⟩ := h x (List.mem_cons_self ..)
    obtain ⟨h3, h4⟩ := ih (fun y hy => h y (List.mem_cons_of_mem _ hy))
    rw [List.filter_cons]
    split
    · simp only [List.map_cons, List.sum_cons, List.length_cons, Int.natCast_add]; omega
    · simp only [List.length_cons, Int.natCast_add]; omega
/-- What a store keeps of what is begun. -/
def BegOk (beg : List (Dg × Bl)) : Prop := (∀ x ∈ beg, 0 ≤ x.2.size ∧ x.2.size ≤ 1048576) ∧ beg.length ≤ 1000000
set_option maxRecDepth 20000 in
set_option maxHeartbeats 1000000 in
theorem Used_bl (bs bd : Nat) (q : Int) (mb : Nat) (s : Sto) (hb : BegOk s.beg) : Ctr Tryz.prog 21 [ptr bs] (stoL bs bd q mb s)
    (fun r H => r = .int .i64 (usedS s) ∧ H = stoL bs bd q mb s) := by
  obtain ⟨A, beg, brk⟩ := s
  obtain ⟨hb1, hb2⟩ := hb
  simp only at hb1 hb2
  refine Ctr.enter Tryz.func21 (by kernel_rfl) rfl Tryz.ntmps21 rfl rfl ?_
  intro G F R hE
  refine K_ent (H' := pts bs (cl (stC bd q mb brk) 92) :: diskA bd A :: mapR dV mb (begE beg) :: F) entA ?_
  refine K_diskA (bd := bd) (A := A) 1 rfl ?_
  intro hdk
  have hn200 := namesF_len hdk
  have hus : usedS ⟨A, beg, brk⟩ = ((namesF A).map (oneU A)).sum + (beg.map (·.2.size)).sum := by
    unfold usedS
    rw [used_names (hdk.nodup _ (List.mem_cons_self ..))]
  obtain ⟨l, hl⟩ : ∃ l, l = namesF A := ⟨_, rfl⟩
  rw [← hl] at hus hn200
  rw [hus] at hE
  have hle : ∀ i, ((l.take i).map (oneU A)).sum ≤ 209715200 := fun i => by
    have h1 := sum_le_of (l.take i) (oneU A) 1048576 (fun x _ => oneU_le hdk x)
    have h2 : (l.take i).length ≤ 200 := by rw [List.length_take]; omega
    omega
  (refine go ?_)
  have hnm := Names_dB bd A
  rw [← hl] at hnm
  (first | refine J_callE rfl rfl rfl rfl (hnm) entA ?_ (fun _ _ _ _ _ => trivial) | refine J_call0E rfl rfl rfl (hnm) entA ?_ (fun _ _ _ _ _ => trivial) | (refine go ?_; first | refine J_callE rfl rfl rfl rfl (hnm) entA ?_ (fun _ _ _ _ _ => trivial) | refine J_call0E rfl rfl rfl (hnm) entA ?_ (fun _ _ _ _ _ => trivial)))
  rintro r _ rfl
  (first | refine J_shape 0 rfl ?_ | refine K_shape 0 rfl ?_)
  rintro ra rc rfl
  refine J_slcVw 0 rfl ?_
  intro hvw
  (refine go ?_)
  refine K_loop (fun i : Nat => i ≤ l.length) (fun i => l.length - i)
    (fun i => [(0, ptr bs), (3, .int .i64 (((l.take i).map (oneU A)).sum : Nat)), (16, .slice ra l.length rc), (17, .int .i64 (l.length : Int)), (18, .int .i64 (i : Int))])
    (fun i => slc 9 1 (.slice ra l.length rc) l.length (l.map Value.string) :: pts bs (cl (stC bd q mb brk) 92) :: diskA bd A :: mapR dV mb (begE beg) :: F) 0 (Nat.zero_le _) rfl (by repeat (first | exact keep_nil | refine keep_cons rfl ?_)) entA ?_
  rintro i hi ih
  have hli := hle i
  (refine go ?_)
  refine K_condP rfl rfl ?_ ?_
  · intro hlt
    have hi' : i < l.length := by omega
    obtain ⟨nm, hx⟩ : ∃ x, l[i]? = some x := ⟨l[i], by simp⟩
    have hstep : ((l.take (i + 1)).map (oneU A)).sum = ((l.take i).map (oneU A)).sum + oneU A nm := by
      rw [List.take_add_one, hx]; simp
    have hcell : (l.map Value.string)[i]? = some (.string nm) := by rw [List.getElem?_map, hx]; rfl
    have hone := oneU_le hdk nm
    obtain ⟨b, o, cap', hsl⟩ := hvw.some (by intro h; rw [h] at hcell; simp at hcell)
    simp only [Value.slice.injEq] at hsl
    obtain ⟨rfl, _, rfl⟩ := hsl
    (refine go ?_)
    refine J_at (U := tab) i 1 rfl rfl rfl rfl rfl rfl rfl rfl hi' ?_
    refine J_isLoad ?_
    refine J_loadAt (U := tab) 0 (i * 1) rfl rfl rfl hvw rfl (by rw [Nat.mul_one]; exact hcell) rfl rfl ?_
    (refine go ?_)
    (first | refine J_callE rfl rfl rfl rfl (hash_any kB nm (by decide)) entA ?_ (fun _ _ _ _ _ => trivial) | refine J_call0E rfl rfl rfl (hash_any kB nm (by decide)) entA ?_ (fun _ _ _ _ _ => trivial) | (refine go ?_; first | refine J_callE rfl rfl rfl rfl (hash_any kB nm (by decide)) entA ?_ (fun _ _ _ _ _ => trivial) | refine J_call0E rfl rfl rfl (hash_any kB nm (by decide)) entA ?_ (fun _ _ _ _ _ => trivial)))
    rintro _ _ ⟨rfl, rfl⟩
    cases hh : hashN kB nm with
    | none =>
      have hz : oneU A nm = 0 := by unfold oneU; rw [hh]; rfl
      have hstep' : ((l.take i).map (oneU A)).sum = ((l.take (i + 1)).map (oneU A)).sum := by omega
      simp only [hashV]
      unfold dV
      (refine go ?_)
      refine J_alloc (U := tab) rfl rfl rfl (fun _ _ _ => trivial) ?_
      intro b9
      (refine go ?_)
      rw [hstep']
      refine K_again ih (i + 1) rfl (by omega) (by omega) (by repeat (first | exact keep_nil | refine keep_cons rfl ?_)) entA
    | some d =>
      have hz : oneU A nm = (A.size nm).1 := by unfold oneU; rw [hh]; rfl
      rw [hz] at hstep hone
      simp only [hashV]
      unfold dV
      (refine go ?_)
      refine J_alloc (U := tab) rfl rfl rfl (fun _ _ _ => trivial) ?_
      intro b9
      (refine go ?_)
      (first | refine J_callE rfl rfl rfl rfl (Size_dA bd A nm) entA ?_ (fun _ _ _ _ _ => trivial) | refine J_call0E rfl rfl rfl (Size_dA bd A nm) entA ?_ (fun _ _ _ _ _ => trivial) | (refine go ?_; first | refine J_callE rfl rfl rfl rfl (Size_dA bd A nm) entA ?_ (fun _ _ _ _ _ => trivial) | refine J_call0E rfl rfl rfl (Size_dA bd A nm) entA ?_ (fun _ _ _ _ _ => trivial)))
      rintro _ _ ⟨rfl, rfl⟩
      (refine go ?_)
      refine K_slot 3 (.int .i64 (((l.take (i + 1)).map (oneU A)).sum : Nat)) rfl (congrArg (Value.int .i64) (by rw [hstep]; omega)) ?_
      refine K_again ih (i + 1) rfl (by omega) (by omega) (by repeat (first | exact keep_nil | refine keep_cons rfl ?_)) entA
  · intro hge
    have hie : i = l.length := by omega
    subst hie
    rw [List.take_length]
    obtain ⟨n0, hn0⟩ : ∃ n0, n0 = (l.map (oneU A)).sum := ⟨_, rfl⟩
    rw [List.take_length] at hli
    rw [← hn0] at hli hE ⊢
    refine K_sat fun ⟨w, hw⟩ => ?_
    have hnd : (beg.map (·.1)).Nodup := by
      obtain ⟨h1, hA⟩ := getA_ex hw (i := 3) rfl
      have := mapR_nodup hA
      unfold begE at this
      rwa [List.map_map] at this
    clear hw w
    (refine go ?_)
    refine J_range (kv := dV) (es := begE beg) (U := tab) 3 rfl rfl rfl rfl rfl (fun _ => rfl) (fun _ _ _ => trivial) ?_
    intro it
    (refine go ?_)
    have hkeys : (begE beg).map (·.1) = beg.map (·.1) := by unfold begE; rw [List.map_map]; rfl
    have hsz : ∀ dn, 0 ≤ metS beg dn ∧ metS beg dn ≤ 1048576000000 := fun dn => by
      have := metS_le beg dn hb1
      omega
    have h00 : (n0 : Int) = (n0 : Int) + metS beg [] := by rw [metS_nil]; omega
    refine K_slot 3 (.int .i64 ((n0 : Int) + metS beg [])) rfl (congrArg (Value.int .i64) h00) ?_
    refine K_loop (fun s : List Dg => s.Nodup ∧ ∀ x ∈ s, x ∈ beg.map (·.1)) (fun s => beg.length - s.length) (fun s => [(0, ptr bs), (3, .int .i64 ((n0 : Int) + metS beg s)), (45, .pointer (some ⟨it, 0, none⟩))])
      (fun s => mapI dV mb it (begE beg) s :: pts bs (cl (stC bd q mb brk) 92) :: diskA bd A :: F) [] ⟨List.nodup_nil, by simp⟩ rfl (by repeat (first | exact keep_nil | refine keep_cons rfl ?_)) entA ?_
    clear ih
    rintro dn ⟨hdn, hsub⟩ ih
    have hsd := hsz dn
    (refine go ?_)
    refine J_next (kv := dV) (es := begE beg) 0 rfl kDg.inj rfl rfl (fun _ => rfl) (fun _ _ => trivial) (fun _ _ _ => trivial) ?_ ?_
    · intro hall
      have hme : metS beg dn = (beg.map (·.2.size)).sum := metS_all beg dn (fun x hx => hall (x.1, blV x.2) (List.mem_map.2 ⟨x, hx, rfl⟩))
      rw [hme]
      (refine go ?_)
      refine K_ent (Ent.head (B := [mapR dV mb (begE beg)]) (fun h hs => by obtain ⟨h', s, hm⟩ := mapI_mapR h hs; exact ⟨h', s, Sep_one' hm⟩)) ?_
      refine K_ent (H' := stoL bs bd q mb ⟨A, beg, brk⟩ ++ F) entA ?_
      (first | refine K_return hE Tryz.func21 rfl _ rfl ⟨rfl, rfl⟩ entA | refine K_fallEnd hE Tryz.func21 rfl _ rfl ⟨rfl, rfl⟩ entA)
    · intro key v hmem hnot
      obtain ⟨y, hy, hye⟩ : ∃ y, (key, y) ∈ beg ∧ v = blV y := by
        obtain ⟨z, hz, he⟩ := List.mem_map.1 hmem
        cases he
        exact ⟨z.2, hz, rfl⟩
      subst hye
      have hms := metS_cons beg key y dn hnd hy hnot
      have hsd2 := hsz (key :: dn)
      have hk : key ∈ beg.map (·.1) := List.mem_map.2 ⟨_, hy, rfl⟩
      have hlt : dn.length < beg.length := by
        have h1 : (key :: dn).length ≤ (beg.map (·.1)).length := (List.nodup_cons.2 ⟨hnot, hdn⟩).length_le_of_subset (fun x hx => by rcases List.mem_cons.1 hx with rfl | h; exact hk; exact hsub x h)
        simp only [List.length_cons, List.length_map] at h1
        omega
      (refine go ?_)
      refine J_entry (kv := dV) (es := begE beg) 0 rfl kDg.inj rfl rfl hmem ?_
      unfold blV
      (refine go ?_)
      refine J_alloc (U := tab) rfl rfl rfl (fun _ _ _ => trivial) ?_
      intro b11
      (refine go ?_)
      refine K_slot 3 (.int .i64 ((n0 : Int) + metS beg (key :: dn))) rfl (congrArg (Value.int .i64) (by rw [hms]; omega)) ?_
      refine K_again ih (key :: dn) rfl (⟨List.nodup_cons.2 ⟨hnot, hdn⟩, fun x hx => by rcases List.mem_cons.1 hx with rfl | h; exact hk; exact hsub x h⟩) (by show _ - (key :: dn).length < _; simp only [List.length_cons]; omega) (by repeat (first | exact keep_nil | refine keep_cons rfl ?_)) entA
end Go.Proofs.YtpecmnaikjbanaaGreatDoor

/- blobs, plain: a disk to which nothing happens, as what each name has. -/
set_option linter.unusedVariables false
set_option linter.unusedSimpArgs false
namespace Go.Proofs.YtpecmnaikjbanaaGreatDoor
open Go Go.SL
/-- A disk to which nothing happens. -/
structure HA (A : Ab) : Prop where
  plan : A.plan = []
  on : A.off = false
  keys : (A.names.map (·.1)).Nodup
  own : (A.names.map (·.2)).Nodup
  ids : (A.fs.map (·.1)).Nodup
  known : ∀ x ∈ A.names, x.2 ∈ A.fs.map (·.1)
/-- What a name has. -/
def vw (A : Ab) (nm : ByteArray) : Option (List UInt8) := (A.look nm).map A.now
theorem HA.new (room : Nat) : HA (Ab.new room) := ⟨rfl, rfl, List.nodup_nil, List.nodup_nil, List.nodup_nil, fun _ h => by cases h⟩
theorem HA.meet {A : Ab} (h : HA A) : A.meet true = (0, A) := by unfold Ab.meet; rw [if_neg (by simp), if_neg (by rw [h.on]; simp), h.plan]
theorem HA.find {A : Ab} (h : HA A) (nm : ByteArray) : A.find nm true = match A.look nm with | none => (4, none, A) | some f => (0, some f, A) := by
  unfold Ab.find
  rw [h.meet, if_pos rfl]
  dsimp only
  cases A.look nm <;> rfl
theorem look_mem {A : Ab} {nm : ByteArray} {f : Nat} (h : A.look nm = some f) : (nm, f) ∈ A.names := by
  unfold Ab.look Ab.lookIn at h
  cases hx : A.names.find? (fun x => decide (x.1 = nm)) with
  | none => rw [hx] at h; cases h
  | some x =>
    rw [hx] at h
    injection h with h
    have h1 := List.mem_of_find?_eq_some hx
    have h2 : x.1 = nm := by simpa using List.find?_some hx
    rw [← h2, ← h]
    exact h1
theorem HA.own1 {A : Ab} (h : HA A) {a b : ByteArray} {f : Nat} (ha : A.look a = some f) (hb : A.look b = some f) : a = b := by
  have h1 := look_mem ha
  have h2 := look_mem hb
  have hn := h.own
  have key : ∀ l : List (ByteArray × Nat), (l.map (·.2)).Nodup → (a, f) ∈ l → (b, f) ∈ l → a = b := by
    intro l
    induction l with
    | nil => intro _ h; cases h
    | cons y l ih =>
      intro hn h1 h2
      rw [List.map_cons, List.nodup_cons] at hn
      rcases List.mem_cons.1 h1 with e1 | h1
      · rcases List.mem_cons.1 h2 with e2 | h2
        · rw [← e2] at e1; exact congrArg Prod.fst e1
        · exact absurd (List.mem_map.2 ⟨_, h2, rfl⟩) (by rw [← e1] at hn; exact hn.1)
      · rcases List.mem_cons.1 h2 with e2 | h2
        · exact absurd (List.mem_map.2 ⟨_, h1, rfl⟩) (by rw [← e2] at hn; exact hn.1)
        · exact ih hn.2 h1 h2
  exact key A.names hn h1 h2
theorem look_app (l : List (ByteArray × Nat)) (k nm : ByteArray) (f : Nat) (hk : Ab.lookIn l k = none) : Ab.lookIn (l ++ [(k, f)]) nm = if nm = k then some f else Ab.lookIn l nm := by
  unfold Ab.lookIn at hk ⊢
  rw [List.find?_append]
  by_cases h : nm = k
  · subst h
    rw [if_pos rfl]
    cases hx : l.find? (fun x => decide (x.1 = nm)) with
    | none => simp
    | some x => rw [hx] at hk; cases hk
  · rw [if_neg h]
    cases hx : l.find? (fun x => decide (x.1 = nm)) with
    | none => simp; exact fun e => h e.symm
    | some x => simp
theorem now_new {A : Ab} {f g : Nat} (names : List (ByteArray × Nat)) (states : List (List (ByteArray × Nat))) : ({ A with names := names, states := states, fs := (f, [], []) :: A.fs } : Ab).now g = if f = g then [] else A.now g := by
  unfold Ab.now Ab.file
  rw [List.find?_cons]
  by_cases h : f = g <;> simp [h]
theorem HA.create {A : Ab} (h : HA A) {nm : ByteArray} {f : Nat} (hv : vw A nm = none) (hl : A.names.length < 200) (hf : f ∉ A.fs.map (·.1)) {e : Nat} {B : Ab} (hB : (e, B) = A.create true nm f) :
    e = 0 ∧ HA B ∧ (∀ n, vw B n = if n = nm then some [] else vw A n) ∧ B.names.length = A.names.length + 1 ∧ B.room = A.room := by
  have hlk : A.look nm = none := by
    unfold vw at hv
    cases hx : A.look nm with
    | none => rfl
    | some x => rw [hx] at hv; cases hv
  have hc : A.create true nm f = (0, { A.chg (A.names ++ [(nm, f)]) with fs := (f, [], []) :: A.fs }) := by
    unfold Ab.create
    rw [h.meet, if_pos rfl]
    simp only
    rw [hlk, if_neg (by simp), if_neg (by omega)]
  rw [hc] at hB
  injection hB with h1 h2
  subst h1 h2
  have hown : ∀ n g, A.look n = some g → f ≠ g := fun n g hg e => hf (e ▸ h.known _ (look_mem hg))
  refine ⟨rfl, ⟨h.plan, h.on, ?_, ?_, ?_, ?_⟩, ?_, ?_, rfl⟩
  · show ((A.names ++ [(nm, f)]).map (·.1)).Nodup
    rw [List.map_append, List.nodup_append]
    refine ⟨h.keys, by simp, fun a ha b hb => ?_⟩
    simp only [List.map_cons, List.map_nil, List.mem_singleton] at hb
    subst hb
    rintro rfl
    obtain ⟨x, hx, hxe⟩ := List.mem_map.1 ha
    have := look_of_mem h.keys hx
    rw [hxe, hlk] at this
    cases this
  · show ((A.names ++ [(nm, f)]).map (·.2)).Nodup
    rw [List.map_append, List.nodup_append]
    refine ⟨h.own, by simp, fun a ha b hb => ?_⟩
    simp only [List.map_cons, List.map_nil, List.mem_singleton] at hb
    subst hb
    rintro rfl
    obtain ⟨x, hx, rfl⟩ := List.mem_map.1 ha
    exact hf (h.known x hx)
  · exact List.nodup_cons.2 ⟨hf, h.ids⟩
  · intro x hx
    rcases List.mem_append.1 hx with hx | hx
    · exact List.mem_cons_of_mem _ (h.known x hx)
    · simp only [List.mem_singleton] at hx
      subst hx
      exact List.mem_cons_self ..
  · intro n
    unfold vw
    have e1 : ({ A.chg (A.names ++ [(nm, f)]) with fs := (f, [], []) :: A.fs } : Ab).look n = if n = nm then some f else A.look n := look_app A.names nm n f hlk
    rw [e1]
    by_cases hn : n = nm
    · rw [if_pos hn, if_pos hn]
      show some _ = _
      exact congrArg some ((now_new _ _).trans (if_pos rfl))
    · rw [if_neg hn, if_neg hn]
      cases hg : A.look n with
      | none => rfl
      | some g => exact congrArg some ((now_new _ _).trans (if_neg (hown n g hg)))
  · show (A.names ++ [(nm, f)]).length = _
    simp
theorem now_upd1 (A : Ab) (f g : Nat) (n : List UInt8) (w : List (Nat × Nat × List UInt8)) (hg : g ∈ A.fs.map (·.1)) : ({ A with fs := Ab.upd A.fs f n, writes := w } : Ab).now g = if g = f then n else A.now g := by
  unfold Ab.now Ab.file Ab.upd
  simp only [List.find?_map]
  have : ((fun x : Nat × List UInt8 × List UInt8 => decide (x.1 = g)) ∘ fun x => if x.1 = f then (x.1, n, x.2.2) else x) = fun x => decide (x.1 = g) := by
    funext x
    simp only [Function.comp]
    split <;> rfl
  rw [this]
  cases hx : A.fs.find? (fun x => decide (x.1 = g)) with
  | none =>
    obtain ⟨y, hy, hyg⟩ := List.mem_map.1 hg
    have := List.find?_eq_none.1 hx y hy
    simp [hyg] at this
  | some x =>
    have hxg : x.1 = g := by simpa using List.find?_some hx
    simp only [Option.map_some, Option.getD_some]
    by_cases hgf : g = f
    · rw [if_pos (hxg.trans hgf), if_pos hgf]
    · rw [if_neg (fun e => hgf (hxg ▸ e)), if_neg hgf]
theorem HA.write {A : Ab} (h : HA A) {nm : ByteArray} {c : List UInt8} (hv : vw A nm = some c) (at_ : Nat) (b : List UInt8) (hr : A.used + (at_ + b.length) ≤ A.room) {e : Nat} {B : Ab} (hB : (e, B) = A.write true nm at_ b) :
    e = 0 ∧ HA B ∧ (∀ n, vw B n = if n = nm then some (wroteL c at_ b) else vw A n) ∧ B.names = A.names ∧ B.room = A.room := by
  obtain ⟨f, hf, rfl⟩ : ∃ f, A.look nm = some f ∧ A.now f = c := by
    unfold vw at hv
    cases hx : A.look nm with
    | none => rw [hx] at hv; cases hv
    | some f => rw [hx] at hv; injection hv with hv; exact ⟨f, rfl, hv⟩
  have hc : A.write true nm at_ b = (0, { A with fs := Ab.upd A.fs f (wroteL (A.now f) at_ b), writes := A.writes ++ [(f, at_, b)] }) := by
    unfold Ab.write
    rw [h.find, hf]
    dsimp only
    rw [if_pos rfl, if_neg (by omega)]
  rw [hc] at hB
  injection hB with h1 h2
  subst h1 h2
  have hnow : ∀ g, g ∈ A.fs.map (·.1) → ({ A with fs := Ab.upd A.fs f (wroteL (A.now f) at_ b), writes := A.writes ++ [(f, at_, b)] } : Ab).now g = if g = f then wroteL (A.now f) at_ b else A.now g := fun g hg => now_upd1 A f g _ _ hg
  refine ⟨rfl, ⟨h.plan, h.on, h.keys, h.own, ?_, ?_⟩, ?_, rfl, rfl⟩
  · show ((Ab.upd A.fs f _).map (·.1)).Nodup
    rw [upd_ids]
    exact h.ids
  · intro x hx
    show x.2 ∈ (Ab.upd A.fs f _).map (·.1)
    rw [upd_ids]
    exact h.known x hx
  · intro n
    unfold vw
    show (A.look n).map _ = _
    by_cases hn : n = nm
    · subst hn
      rw [if_pos rfl, hf]
      exact congrArg some ((hnow f (h.known _ (look_mem hf))).trans (if_pos rfl))
    · rw [if_neg hn]
      cases hg : A.look n with
      | none => rfl
      | some g => exact congrArg some ((hnow g (h.known _ (look_mem hg))).trans (if_neg (fun e => hn (h.own1 (e ▸ hg) hf))))
theorem updS_ids1 (fs : List (Nat × List UInt8 × List UInt8)) (f : Nat) : (Ab.updS fs f).map (·.1) = fs.map (·.1) := by
  unfold Ab.updS
  rw [List.map_map]
  refine List.map_congr_left fun x _ => ?_
  simp only [Function.comp]
  split <;> rfl
theorem now_updS1 (A : Ab) (f g : Nat) (w : List (Nat × Nat × List UInt8)) : ({ A with fs := Ab.updS A.fs f, writes := w } : Ab).now g = A.now g := by
  unfold Ab.now Ab.file Ab.updS
  simp only [List.find?_map]
  have : ((fun x : Nat × List UInt8 × List UInt8 => decide (x.1 = g)) ∘ fun x => if x.1 = f then (x.1, x.2.1, x.2.1) else x) = fun x => decide (x.1 = g) := by
    funext x
    simp only [Function.comp]
    split <;> rfl
  rw [this]
  cases A.fs.find? (fun x => decide (x.1 = g)) with
  | none => rfl
  | some x =>
    simp only [Option.map_some, Option.getD_some]
    split <;> rfl
theorem HA.sync {A : Ab} (h : HA A) {nm : ByteArray} {c : List UInt8} (hv : vw A nm = some c) {e : Nat} {B : Ab} (hB : (e, B) = A.sync true nm) :
    e = 0 ∧ HA B ∧ (∀ n, vw B n = vw A n) ∧ B.names = A.names ∧ B.room = A.room := by
  obtain ⟨f, hf⟩ : ∃ f, A.look nm = some f := by
    unfold vw at hv
    cases hx : A.look nm with
    | none => rw [hx] at hv; cases hv
    | some f => exact ⟨f, rfl⟩
  have hc : A.sync true nm = (0, { A with fs := Ab.updS A.fs f, writes := A.writes.filter fun x => !decide (x.1 = f) }) := by
    unfold Ab.sync
    rw [h.find, hf]
    dsimp only
    rw [if_pos rfl]
  rw [hc] at hB
  injection hB with h1 h2
  subst h1 h2
  refine ⟨rfl, ⟨h.plan, h.on, h.keys, h.own, ?_, ?_⟩, ?_, rfl, rfl⟩
  · show ((Ab.updS A.fs f).map (·.1)).Nodup
    rw [updS_ids1]
    exact h.ids
  · intro x hx
    show x.2 ∈ (Ab.updS A.fs f).map (·.1)
    rw [updS_ids1]
    exact h.known x hx
  · intro n
    unfold vw
    show (A.look n).map _ = _
    cases hg : A.look n with
    | none => rfl
    | some g => exact congrArg some (now_updS1 A f g _)
theorem HA.syncNames {A : Ab} (h : HA A) {e : Nat} {B : Ab} (hB : (e, B) = A.syncNames) : e = 0 ∧ HA B ∧ (∀ n, vw B n = vw A n) ∧ B.names = A.names ∧ B.room = A.room := by
  have hc : A.syncNames = (0, { A with states := [A.names] }) := by
    unfold Ab.syncNames
    rw [h.meet, if_pos rfl]
  rw [hc] at hB
  injection hB with h1 h2
  subst h1 h2
  exact ⟨rfl, ⟨h.plan, h.on, h.keys, h.own, h.ids, h.known⟩, fun n => rfl, rfl, rfl⟩
theorem look_del (l : List (ByteArray × Nat)) (k n : ByteArray) : Ab.lookIn (Ab.delN l k) n = if n = k then none else Ab.lookIn l n := by
  unfold Ab.lookIn Ab.delN
  induction l with
  | nil => simp
  | cons x l ih =>
    rw [List.filter_cons]
    by_cases hx : x.1 = k
    · simp only [hx, decide_true, Bool.not_true, Bool.false_eq_true, if_false, List.find?_cons]
      rw [ih]
      by_cases hn : n = k
      · simp [hn]
      · have : ¬ k = n := fun e => hn e.symm
        simp [hn, this]
    · simp only [hx, decide_false, Bool.not_false, if_true, List.find?_cons]
      by_cases hxn : x.1 = n
      · have : ¬ n = k := fun e => hx (hxn.trans e)
        simp [hxn, this]
      · simp only [hxn, decide_false]
        exact ih
theorem HA.remove {A : Ab} (h : HA A) {nm : ByteArray} {c : List UInt8} (hv : vw A nm = some c) {e : Nat} {B : Ab} (hB : (e, B) = A.remove true nm) :
    e = 0 ∧ HA B ∧ (∀ n, vw B n = if n = nm then none else vw A n) ∧ B.names = Ab.delN A.names nm ∧ B.room = A.room := by
  obtain ⟨f, hf⟩ : ∃ f, A.look nm = some f := by
    unfold vw at hv
    cases hx : A.look nm with
    | none => rw [hx] at hv; cases hv
    | some f => exact ⟨f, rfl⟩
  have hc : A.remove true nm = (0, A.chg (Ab.delN A.names nm)) := by
    unfold Ab.remove
    rw [h.find, hf]
    rfl
  rw [hc] at hB
  injection hB with h1 h2
  subst h1 h2
  refine ⟨rfl, ⟨h.plan, h.on, ?_, ?_, h.ids, ?_⟩, ?_, rfl, rfl⟩
  · exact (List.filter_sublist.map _).nodup h.keys
  · exact (List.filter_sublist.map _).nodup h.own
  · intro x hx
    exact h.known x (List.mem_filter.1 hx).1
  · intro n
    unfold vw
    have e1 : (A.chg (Ab.delN A.names nm)).look n = if n = nm then none else A.look n := look_del A.names nm n
    rw [e1]
    by_cases hn : n = nm
    · rw [if_pos hn, if_pos hn]; rfl
    · rw [if_neg hn, if_neg hn]; rfl
theorem HA.rename {A : Ab} (h : HA A) {o n : ByteArray} {c : List UInt8} (hne : o ≠ n) (hv : vw A o = some c) (hvn : vw A n = none) {e : Nat} {B : Ab} (hB : (e, B) = A.rename true o n) :
    e = 0 ∧ HA B ∧ (∀ m, vw B m = if m = n then some c else if m = o then none else vw A m) ∧ B.room = A.room ∧ ∃ f, A.look o = some f ∧ B.names = Ab.delN A.names o ++ [(n, f)] := by
  obtain ⟨f, hf, rfl⟩ : ∃ f, A.look o = some f ∧ A.now f = c := by
    unfold vw at hv
    cases hx : A.look o with
    | none => rw [hx] at hv; cases hv
    | some f => rw [hx] at hv; injection hv with hv; exact ⟨f, rfl, hv⟩
  have hln : A.look n = none := by
    unfold vw at hvn
    cases hx : A.look n with
    | none => rfl
    | some x => rw [hx] at hvn; cases hvn
  have hld : Ab.lookIn (Ab.delN A.names o) n = none := by
    rw [look_del]
    split
    · rfl
    · exact hln
  have hset : Ab.setN (Ab.delN A.names o) n f = Ab.delN A.names o ++ [(n, f)] := by
    unfold Ab.setN
    rw [hld]; simp
  have hc : A.rename true o n = (0, A.chg (Ab.delN A.names o ++ [(n, f)])) := by
    unfold Ab.rename
    rw [h.find, hf]
    show (0, A.chg (Ab.setN (Ab.delN A.names o) n f)) = _
    rw [hset]
  rw [hc] at hB
  injection hB with h1 h2
  subst h1 h2
  have hsub : ∀ x ∈ Ab.delN A.names o, x ∈ A.names ∧ x.1 ≠ o := fun x hx => by
    obtain ⟨h1, h2⟩ := List.mem_filter.1 hx
    exact ⟨h1, by simpa using h2⟩
  refine ⟨rfl, ⟨h.plan, h.on, ?_, ?_, h.ids, ?_⟩, ?_, rfl, f, hf, rfl⟩
  · show ((Ab.delN A.names o ++ [(n, f)]).map (·.1)).Nodup
    rw [List.map_append, List.nodup_append]
    refine ⟨(List.filter_sublist.map _).nodup h.keys, by simp, fun a ha b hb => ?_⟩
    simp only [List.map_cons, List.map_nil, List.mem_singleton] at hb
    subst hb
    rintro rfl
    obtain ⟨x, hx, rfl⟩ := List.mem_map.1 ha
    have := look_of_mem h.keys (hsub x hx).1
    rw [hln] at this
    cases this
  · show ((Ab.delN A.names o ++ [(n, f)]).map (·.2)).Nodup
    rw [List.map_append, List.nodup_append]
    refine ⟨(List.filter_sublist.map _).nodup h.own, by simp, fun a ha b hb => ?_⟩
    simp only [List.map_cons, List.map_nil, List.mem_singleton] at hb
    subst hb
    rintro rfl
    obtain ⟨x, hx, hxe⟩ := List.mem_map.1 ha
    have h3 := look_of_mem h.keys (hsub x hx).1
    rw [hxe] at h3
    exact (hsub x hx).2 (h.own1 h3 hf)
  · intro x hx
    rcases List.mem_append.1 hx with hx | hx
    · exact h.known x (hsub x hx).1
    · simp only [List.mem_singleton] at hx
      subst hx
      exact h.known (o, f) (look_mem hf)
  · intro m
    unfold vw
    have e1 : (A.chg (Ab.delN A.names o ++ [(n, f)])).look m = if m = n then some f else if m = o then none else A.look m := by
      refine (look_app (Ab.delN A.names o) n m f hld).trans ?_
      rw [look_del]
      rfl
    rw [e1]
    by_cases hm : m = n
    · rw [if_pos hm, if_pos hm]; rfl
    · rw [if_neg hm, if_neg hm]
      by_cases hmo : m = o
      · rw [if_pos hmo, if_pos hmo]; rfl
      · rw [if_neg hmo, if_neg hmo]; rfl
end Go.Proofs.YtpecmnaikjbanaaGreatDoor

/- blobs, plain: what a store does on a disk to which nothing happens. -/
set_option linter.unusedVariables false
set_option linter.unusedSimpArgs false
namespace Go.Proofs.YtpecmnaikjbanaaGreatDoor
open Go Go.SL
theorem textL_ok (d : Dg) : (textL d).all okc = true := by
  rw [List.all_eq_true]
  intro x hx
  unfold textL at hx
  obtain ⟨i, _, rfl⟩ := List.mem_map.1 hx
  have h := sgnAt_lt d i
  unfold hexv at h
  unfold okc
  rw [decide_eq_true_eq]
  split at h
  · rename_i h1; right; left; exact h1
  · split at h
    · rename_i h1; left; omega
    · cases h
theorem isName_file (k : List UInt8) (d : Dg) (hk : k.length ≤ 10) (ho : k.all okc = true) : isName (fileN k d) = true := by
  unfold isName fileN
  rw [strOf_list]
  have hs : (strOf (k ++ textL d)).size = k.length + 64 := by
    show (k ++ textL d).toArray.size = _
    rw [List.size_toArray, List.length_append, textL_len]
  rw [hs, List.all_append, ho, textL_ok]
  simp
  omega
theorem isName_fS (x : Bl) : isName (fS x) = true := isName_file kS x.d (by decide) (by decide)
theorem isName_fB (x : Bl) : isName (fB x) = true := isName_file kB x.d (by decide) (by decide)
theorem fS_ne_fB (x y : Bl) : fS x ≠ fB y := fun h => absurd (fileN_kind (by rfl) h) (by decide)
theorem mayW_fS (x : Bl) (at_ : Nat) (b : List UInt8) (h : at_ + b.length ≤ 1048576) : mayW (fS x) at_ b = true := by
  unfold mayW
  rw [isName_fS]
  simp
  omega
theorem hasF_vw (A : Ab) (nm : ByteArray) : hasF A nm = (vw A nm).isSome := by
  unfold hasF vw
  cases A.look nm <;> rfl
theorem bytesF_vw {A : Ab} (h : HA A) (nm : ByteArray) : bytesF A nm = vw A nm := by
  unfold bytesF vw
  cases A.look nm with
  | none => rfl
  | some f => simp [h.on]
/-- Begin, where nothing stands against it. -/
theorem Begin_ok {q : Int} {x : Bl} {s t : Sto} {e : Nat} (h : HA s.A) (hb : s.brk = false) (hr : rightB x = true) (hno : begL s.beg x.d = none) (hB : vw s.A (fB x) = none) (hq : usedS s + x.size ≤ q) (hS : vw s.A (fS x) = none) (hn : s.A.names.length < 200) (hR : BeginR q x s e t) :
    e = 0 ∧ HA t.A ∧ t.brk = false ∧ t.beg = s.beg ++ [(x.d, x)] ∧ (∀ n, vw t.A n = if n = fS x then some [] else vw s.A n) ∧ t.A.names.length = s.A.names.length + 1 ∧ t.A.room = s.A.room := by
  obtain ⟨A, beg, brk⟩ := s
  simp only at h hb hno hB hS hn
  subst hb
  unfold BeginR at hR
  rw [if_neg (by simp), if_neg (by rw [hr]; simp), if_neg (by rw [hno, hasF_vw, hB]; simp), if_neg (by omega), if_neg (by rw [hasF_vw, hS]; simp)] at hR
  obtain ⟨e1, s1, ⟨B, hruns, rfl⟩, hc⟩ := hR
  obtain ⟨e2, A2, ⟨f, hf, hcr⟩, hc2⟩ := hruns
  rw [isName_fS] at hcr
  obtain ⟨rfl, h2, hv2, hl2, hr2⟩ := h.create hS hn hf hcr
  rcases hc2 with ⟨hne, _⟩ | ⟨_, e3, A3, hsn, hc3⟩
  · exact absurd rfl hne
  obtain ⟨rfl, h3, hv3, hl3, hr3⟩ := h2.syncNames hsn
  rcases hc3 with ⟨hne, _⟩ | ⟨_, rfl, rfl⟩
  · exact absurd rfl hne
  rcases hc with ⟨hne, _⟩ | ⟨_, rfl, rfl⟩
  · exact absurd rfl hne
  exact ⟨rfl, h3, rfl, rfl, fun n => (hv3 n).trans (hv2 n), by rw [hl3]; exact hl2, hr3.trans hr2⟩
/-- A Put of a piece that fits. -/
theorem Put_ok {x : Bl} {i at_ n : Int} {b c : List UInt8} {s t : Sto} {e : Nat} (h : HA s.A) (hb : s.brk = false) (ho : begL s.beg x.d = some x) (hsp : spanB x i = some (at_, n)) (hl : (b.length : Int) = n) (hv : vw s.A (fS x) = some c) (hat : 0 ≤ at_ ∧ at_ + b.length ≤ 1048576) (hroom : s.A.used + (at_.toNat + b.length) ≤ s.A.room) (hR : PutS x i b s e t) :
    e = 0 ∧ HA t.A ∧ t.brk = false ∧ t.beg = s.beg ∧ (∀ n, vw t.A n = if n = fS x then some (wroteL c at_.toNat b) else vw s.A n) ∧ t.A.names = s.A.names ∧ t.A.room = s.A.room := by
  obtain ⟨A, beg, brk⟩ := s
  simp only at h hb ho hv hroom
  subst hb
  unfold PutS at hR
  have hm : mayS ⟨A, beg, false⟩ x = 0 := by unfold mayS openS; simp [ho]
  rw [hm, if_neg (by simp), hsp] at hR
  dsimp only at hR
  rw [if_neg (by omega)] at hR
  obtain ⟨B, ⟨e1, A1, hw, hc⟩, rfl⟩ := hR
  unfold stWrite at hw
  rw [mayW_fS x at_.toNat b (by omega)] at hw
  obtain ⟨rfl, h1, hv1, hl1, hr1⟩ := h.write hv at_.toNat b hroom hw
  rcases hc with ⟨hne, _⟩ | ⟨_, rfl, rfl⟩
  · exact absurd rfl hne
  exact ⟨rfl, h1, rfl, rfl, hv1, hl1, hr1⟩
theorem Abort_ok {x : Bl} {c : List UInt8} {s t : Sto} {e : Nat} (h : HA s.A) (hb : s.brk = false) (ho : begL s.beg x.d = some x) (hv : vw s.A (fS x) = some c) (hR : AbortS x s e t) :
    e = 0 ∧ HA t.A ∧ t.brk = false ∧ t.beg = delB s.beg x.d ∧ (∀ n, vw t.A n = if n = fS x then none else vw s.A n) ∧ t.A.names = Ab.delN s.A.names (fS x) ∧ t.A.room = s.A.room := by
  obtain ⟨A, beg, brk⟩ := s
  simp only at h hb ho hv
  subst hb
  unfold AbortS at hR
  have hm : mayS ⟨A, beg, false⟩ x = 0 := by unfold mayS openS; simp [ho]
  rw [hm, if_neg (by simp)] at hR
  obtain ⟨s1, ⟨B, ⟨e1, A1, hw, hc⟩, rfl⟩, ht⟩ := hR
  unfold stRemove at hw
  rw [isName_fS] at hw
  obtain ⟨rfl, h1, hv1, hl1, hr1⟩ := h.remove hv hw
  rcases hc with ⟨hne, _⟩ | ⟨_, rfl, rfl⟩
  · exact absurd rfl hne
  rw [if_neg (by simp)] at ht
  subst ht
  exact ⟨rfl, h1, rfl, rfl, hv1, hl1, hr1⟩
/-- Install of what is not right. -/
theorem Install_bad {x : Bl} {c : List UInt8} {s t : Sto} {e : Nat} (h : HA s.A) (hb : s.brk = false) (ho : begL s.beg x.d = some x) (hv : vw s.A (fS x) = some c) (hw : wholeB x c = false) (hR : InstallS x s e t) :
    e = 8 ∧ HA t.A ∧ t.brk = false ∧ t.beg = delB s.beg x.d ∧ (∀ n, vw t.A n = if n = fS x then none else vw s.A n) ∧ t.A.names = Ab.delN s.A.names (fS x) ∧ t.A.room = s.A.room := by
  have hm : mayS s x = 0 := by unfold mayS openS; simp [hb, ho]
  unfold InstallS at hR
  rw [hm, if_neg (by simp), bytesF_vw h, hv, if_pos (by exact hw)] at hR
  obtain ⟨e1, hab, he⟩ := hR
  obtain ⟨rfl, h1, h2, h3, h4, h5, h6⟩ := Abort_ok h hb ho hv hab
  rw [if_neg (by simp)] at he
  exact ⟨he, h1, h2, h3, h4, h5, h6⟩
/-- Install of what is right. -/
theorem Install_ok {x : Bl} {c : List UInt8} {s t : Sto} {e : Nat} (h : HA s.A) (hb : s.brk = false) (ho : begL s.beg x.d = some x) (hv : vw s.A (fS x) = some c) (hno : vw s.A (fB x) = none) (hw : wholeB x c = true) (hR : InstallS x s e t) :
    e = 0 ∧ HA t.A ∧ t.brk = false ∧ t.beg = delB s.beg x.d ∧ (∀ n, vw t.A n = if n = fB x then some c else if n = fS x then none else vw s.A n) ∧ t.A.room = s.A.room ∧ ∃ f, t.A.names = Ab.delN s.A.names (fS x) ++ [(fB x, f)] := by
  obtain ⟨A, beg, brk⟩ := s
  simp only at h hb ho hv hno
  subst hb
  have hm : mayS ⟨A, beg, false⟩ x = 0 := by unfold mayS openS; simp [ho]
  unfold InstallS at hR
  rw [hm, if_neg (by simp), bytesF_vw h, hv, if_neg (by show ¬ wholeB x c = false; rw [hw]; simp)] at hR
  obtain ⟨s1, ⟨B, ⟨e1, A1, h1, hc1⟩, rfl⟩, ht⟩ := hR
  unfold stSync at h1
  rw [isName_fS] at h1
  obtain ⟨rfl, g1, v1, l1, r1⟩ := h.sync hv h1
  rcases hc1 with ⟨hne, _⟩ | ⟨_, e2, A2, h2, hc2⟩
  · exact absurd rfl hne
  unfold stRename at h2
  rw [show [fS x, fB x].all isName = true from by simp [isName_fS, isName_fB]] at h2
  obtain ⟨rfl, g2, v2, r2, f, _, l2⟩ := g1.rename (fS_ne_fB x x) ((v1 _).trans hv) ((v1 _).trans hno) h2
  rcases hc2 with ⟨hne, _⟩ | ⟨_, e3, A3, h3, hc3⟩
  · exact absurd rfl hne
  obtain ⟨rfl, g3, v3, l3, r3⟩ := g2.syncNames h3
  rcases hc3 with ⟨hne, _⟩ | ⟨_, rfl, rfl⟩
  · exact absurd rfl hne
  rw [if_neg (by simp)] at ht
  subst ht
  refine ⟨rfl, g3, rfl, rfl, fun n => ?_, r3.trans (r2.trans r1), f, by rw [l3, l2, l1]⟩
  rw [v3, v2]
  split
  · rfl
  · split
    · rfl
    · exact v1 n
end Go.Proofs.YtpecmnaikjbanaaGreatDoor

/- blobs, part l: Begin. -/
set_option linter.unusedVariables false
set_option linter.unusedSimpArgs false
namespace Go.Proofs.YtpecmnaikjbanaaGreatDoor
open Go Go.SL
/-- A store's own cells, whether it is broken left open. -/
def stE (bs bd : Nat) (q : Int) (mb : Nat) : HP := fun h => ∃ b, pts bs (cl (stC bd q mb b) 92) h
theorem stE_in (bs bd : Nat) (q : Int) (mb : Nat) (b : Bool) (H : List HP) : Ent (pts bs (cl (stC bd q mb b) 92) :: H) (stE bs bd q mb :: H) :=
  Ent.fold (B := [_]) fun h' hs => ⟨h', sub.refl h', b, Sep_one hs⟩
end Go.Proofs.YtpecmnaikjbanaaGreatDoor
namespace Go.Proofs.YtpecmnaikjbanaaGreatDoor
open Go Go.SL
theorem stE_cell {G : Glob} {w : World} {bs bd : Nat} {q : Int} {mb : Nat} {H : List HP} (hw : Sat G w (stE bs bd q mb :: H)) : w.cell? ⟨bs, 0, none⟩ = some (ptr bd) := by
  obtain ⟨h, hh, b, hA⟩ := hw.getA (i := 0) rfl
  have hb : h bs = some (cl (stC bd q mb b) 92) := by rw [hA bs, if_pos rfl]
  exact cell_of_hcell hh (by unfold hcell; rw [hb]; rfl)
attribute [local irreducible] J K Ctr Ends pts slc mapR mapI sbRow stock arrS loopP CtrY Sha.chunks Sha.chunk Sha.rounds Sha.sched sumL taggedL GI leafL diskA
section
variable {P : Program} {f : FuncId} {n : Nat} {R : Ending → World → Prop} {G : Glob} {L : Lst} {H : List HP} {S : World → Prop} {all : Array Oper} {rest : Pl}
theorem J_mid {k k' : List Item} {α : Type} (I : α → Prop) (Lf : α → Lst) (Hf : α → List HP) (hk : advK 1000 k = .mk k') (tail : ∀ y, I y → K P f n R G k' (Lf y) (Hf y))
    (h : (∀ y, I y → K P f n R G k' (Lf y) (Hf y)) → J P f n R G S all rest k L H) : J P f n R G S all rest k L H := h tail
theorem J_midD {k k' : List Item} {α : Type} (m : Nat) (I : α → Prop) (Lf : α → Lst) (Hf : α → List HP) (hk : advK 1000 (k.drop m) = .mk k') (tail : ∀ y, I y → K P f n R G k' (Lf y) (Hf y))
    (h : (∀ y, I y → K P f n R G k' (Lf y) (Hf y)) → J P f n R G S all rest k L H) : J P f n R G S all rest k L H := h tail
end
theorem usedS_le {A : Ab} {beg : List (Dg × Bl)} {brk : Bool} (h : DOk A) (hb : BegOk beg) : 0 ≤ usedS ⟨A, beg, brk⟩ ∧ usedS ⟨A, beg, brk⟩ ≤ 1048786000000 := by
  have h1 := metS_le beg (beg.map (·.1)) hb.1
  rw [metS_all beg _ (fun x hx => List.mem_map.2 ⟨x, hx, rfl⟩)] at h1
  have h2 := used_names (h.nodup _ (List.mem_cons_self ..))
  have h3 := sum_le_of (namesF A) (oneU A) 1048576 (fun x _ => oneU_le h x)
  have h4 := namesF_len h
  have h5 := hb.2
  unfold usedS
  simp only
  rw [h2]
  omega
theorem begE_set (l : List (Dg × Bl)) (x : Bl) (h : begL l x.d = none) : aset (begE l) x.d (blV x) = begE (l ++ [(x.d, x)]) := by
  have hn : x.d ∉ (begE l).map (·.1) := by
    rw [← alook_none, begE_look, h]; rfl
  unfold aset
  rw [if_neg hn]
  simp [begE]
set_option maxRecDepth 20000 in
set_option maxHeartbeats 1000000 in
theorem Begin_bl (bs bd : Nat) (q : Int) (hq : 0 ≤ q ∧ q ≤ 1073741824) (mb : Nat) (s : Sto) (x : Bl) (hbo : BegOk s.beg) (hst : s.A.states.length ≤ 900000000) (hwl : s.A.writes.length ≤ 900000000) :
    Ctr Tryz.prog 15 [ptr bs, blV x] (stoL bs bd q mb s)
    (fun r H => ∃ (e : Nat) (t : Sto), r = .int .i64 (e : Int) ∧ H = stoL bs bd q mb t ∧ BeginR q x s e t) := by
  obtain ⟨A, beg, brk⟩ := s
  have hused := Used_bl bs bd q mb ⟨A, beg, brk⟩ hbo
  have hlk := begE_look beg x.d
  obtain ⟨hb1, hb2⟩ := hbo
  simp only at hst hwl hb1 hb2
  have hright := Right_any x
  have hhas := Has_any bs bd q mb brk A x.d
  unfold dV at hhas
  unfold blV at hright ⊢
  refine Ctr.enter Tryz.func15 (by kernel_rfl) rfl Tryz.ntmps15 rfl rfl ?_
  intro G F R hE
  refine K_ent (H' := pts bs (cl (stC bd q mb brk) 92) :: mapR dV mb (begE beg) :: diskA bd A :: F) (Ent.refl _) ?_
  refine K_regionA rfl ?_
  refine J_box rfl rfl (fun _ _ _ => trivial) ?_
  intro b2
  refine J_box rfl rfl (fun _ _ _ => trivial) ?_
  intro b3
  (refine goR ?_)
  refine K_drawA (fun w => Sat G w ([pts b3 (cl (blC x) 32), pts b2 (cl [ptr bs] 35), pts bs (cl (stC bd q mb brk) 92), mapR dV mb (begE beg)])) (.st 0 (.st 1 (.st 2 (.st 3 (.st 4 (.st 5 (.st 6 (.st 7 (.st 8 (.st 9 (.act 10 (.act 11 (.st 12 .nil))))))))))))) rfl (by kernel_rfl) (by kernel_rfl) (by kernel_rfl) (fun w hw => hw.ent entA) ?_
  refine J_mid (fun isb : Bool => isb = (begL beg x.d).isSome) (fun isb => [(2, ptr b2), (3, ptr b3), (6, .bool isb)]) (fun _ => pts b3 (cl (blC x) 32) :: pts b2 (cl [ptr bs] 35) :: pts bs (cl (stC bd q mb brk) 92) :: mapR dV mb (begE beg) :: diskA bd A :: F) rfl ?_ ?_
  · rintro isb hisb
    have hB0 : brk = true → BeginR q x ⟨A, beg, brk⟩ 10 ⟨A, beg, brk⟩ := fun h => by unfold BeginR; rw [if_pos h]; exact ⟨rfl, rfl⟩
    have hB1 : ¬ brk = true → rightB x = false → BeginR q x ⟨A, beg, brk⟩ 1 ⟨A, beg, brk⟩ := fun h h1 => by unfold BeginR; rw [if_neg h, if_pos h1]; exact ⟨rfl, rfl⟩
    have hB2 : ¬ brk = true → ¬ rightB x = false → (isb = true ∨ hasF A (fB x) = true) → BeginR q x ⟨A, beg, brk⟩ 5 ⟨A, beg, brk⟩ := fun h h1 h2 => by unfold BeginR; rw [hisb] at h2; rw [if_neg h, if_neg h1, if_pos h2]; exact ⟨rfl, rfl⟩
    have hB3 : ∀ e t, ¬ brk = true → ¬ rightB x = false → ¬ (isb = true ∨ hasF A (fB x) = true) → (if q < usedS ⟨A, beg, brk⟩ + x.size then e = 11 ∧ t = ⟨A, beg, brk⟩
        else if hasF A (fS x) then e = 0 ∧ t = ⟨A, beg ++ [(x.d, x)], brk⟩
        else ∃ e1 s1, chgS [stCreate (fS x), stSyncNames] ⟨A, beg, brk⟩ e1 s1 ∧ ((e1 ≠ 0 ∧ e = e1 ∧ t = s1) ∨ (e1 = 0 ∧ e = 0 ∧ t = ⟨s1.A, s1.beg ++ [(x.d, x)], s1.brk⟩))) → BeginR q x ⟨A, beg, brk⟩ e t := fun e t h h1 h2 h3 => by
      unfold BeginR; rw [hisb] at h2; rw [if_neg h, if_neg h1, if_neg h2]; exact h3
    cases brk with
    | true =>
      (refine go ?_)
      refine K_ent (H' := stoL bs bd q mb ⟨A, beg, true⟩ ++ F) entA ?_
      (first | refine K_return hE Tryz.func15 rfl _ rfl ⟨10, ⟨A, beg, true⟩, rfl, rfl, hB0 rfl⟩ entA | refine K_fallEnd hE Tryz.func15 rfl _ rfl ⟨10, ⟨A, beg, true⟩, rfl, rfl, hB0 rfl⟩ entA)
    | false =>
      refine K_diskA (bd := bd) (A := A) 4 rfl ?_
      intro hdk
      have hul := usedS_le (brk := false) hdk ⟨hb1, hb2⟩
      (refine go ?_)
      refine J_loadArr (U := tab) (l := blC x) 0 rfl rfl rfl rfl rfl rfl ?_
      (first | refine J_callE rfl rfl rfl rfl (hright) entA ?_ (fun _ _ _ _ _ => trivial) | refine J_call0E rfl rfl rfl (hright) entA ?_ (fun _ _ _ _ _ => trivial) | (refine go ?_; first | refine J_callE rfl rfl rfl rfl (hright) entA ?_ (fun _ _ _ _ _ => trivial) | refine J_call0E rfl rfl rfl (hright) entA ?_ (fun _ _ _ _ _ => trivial)))
      rintro _ _ ⟨rfl, rfl⟩
      cases hr : rightB x with
      | false =>
        (refine go ?_)
        refine K_ent (H' := stoL bs bd q mb ⟨A, beg, false⟩ ++ F) entA ?_
        (first | refine K_return hE Tryz.func15 rfl _ rfl ⟨1, ⟨A, beg, false⟩, rfl, rfl, hB1 (by simp) hr⟩ entA | refine K_fallEnd hE Tryz.func15 rfl _ rfl ⟨1, ⟨A, beg, false⟩, rfl, rfl, hB1 (by simp) hr⟩ entA)
      | true =>
        have hr' : ¬ rightB x = false := by rw [hr]; simp
        have hrs := hr
        simp only [rightB, decide_eq_true_eq] at hrs
        cases isb with
        | true =>
          (refine go ?_)
          refine K_ent (H' := stoL bs bd q mb ⟨A, beg, false⟩ ++ F) entA ?_
          (first | refine K_return hE Tryz.func15 rfl _ rfl ⟨5, ⟨A, beg, false⟩, rfl, rfl, hB2 (by simp) hr' (.inl rfl)⟩ entA | refine K_fallEnd hE Tryz.func15 rfl _ rfl ⟨5, ⟨A, beg, false⟩, rfl, rfl, hB2 (by simp) hr' (.inl rfl)⟩ entA)
        | false =>
          (refine go ?_)
          refine J_loadAgg (U := tab) 0 rfl rfl rfl rfl rfl rfl ?_
          (first | refine J_callE rfl rfl rfl rfl (hhas) entA ?_ (fun _ _ _ _ _ => trivial) | refine J_call0E rfl rfl rfl (hhas) entA ?_ (fun _ _ _ _ _ => trivial) | (refine go ?_; first | refine J_callE rfl rfl rfl rfl (hhas) entA ?_ (fun _ _ _ _ _ => trivial) | refine J_call0E rfl rfl rfl (hhas) entA ?_ (fun _ _ _ _ _ => trivial)))
          rintro _ _ ⟨rfl, rfl⟩
          cases hhb : hasF A (fileN kB x.d) with
          | true =>
            (refine go ?_)
            refine K_ent (H' := stoL bs bd q mb ⟨A, beg, false⟩ ++ F) entA ?_
            (first | refine K_return hE Tryz.func15 rfl _ rfl ⟨5, ⟨A, beg, false⟩, rfl, rfl, hB2 (by simp) hr' (.inr hhb)⟩ entA | refine K_fallEnd hE Tryz.func15 rfl _ rfl ⟨5, ⟨A, beg, false⟩, rfl, rfl, hB2 (by simp) hr' (.inr hhb)⟩ entA)
          | false =>
            have hno : ¬ (false = true ∨ hasF A (fB x) = true) := by
              have : hasF A (fB x) = false := hhb
              rw [this]; simp
            (refine go ?_)
            refine K_drawA (fun w => Sat G w ([pts b3 (cl (blC x) 32), pts b2 (cl [ptr bs] 35), pts bs (cl (stC bd q mb false) 92)])) (.st 0 (.st 2 (.st 3 (.st 5 (.st 6 (.st 7 (.st 8 (.act 1 (.st 4 (.st 9 (.st 10 .nil))))))))))) rfl (by kernel_rfl) (by kernel_rfl) (by kernel_rfl) (fun w hw => hw.ent entA) ?_
            (refine go ?_)
            (first | refine J_callE rfl rfl rfl rfl (hused) entA ?_ (fun _ _ w hp hw => by obtain ⟨rfl, rfl⟩ := hp; exact hw.ent entA) | refine J_call0E rfl rfl rfl (hused) entA ?_ (fun _ _ w hp hw => by obtain ⟨rfl, rfl⟩ := hp; exact hw.ent entA))
            rintro _ _ ⟨rfl, rfl⟩
            (refine go ?_)
            refine K_condP rfl rfl ?_ ?_
            · intro hqu
              have hq' : q < usedS ⟨A, beg, false⟩ + x.size := hqu
              (refine go ?_)
              refine K_ent (H' := stoL bs bd q mb ⟨A, beg, false⟩ ++ F) entA ?_
              (first | refine K_return hE Tryz.func15 rfl _ rfl ⟨11, ⟨A, beg, false⟩, rfl, rfl, hB3 _ _ (by simp) hr' hno (by rw [if_pos hq']; exact ⟨rfl, rfl⟩)⟩ entA | refine K_fallEnd hE Tryz.func15 rfl _ rfl ⟨11, ⟨A, beg, false⟩, rfl, rfl, hB3 _ _ (by simp) hr' hno (by rw [if_pos hq']; exact ⟨rfl, rfl⟩)⟩ entA)
            · intro hqu
              have hq' : ¬ q < usedS ⟨A, beg, false⟩ + x.size := hqu
              refine K_ent (H' := pts b3 (cl (blC x) 32) :: pts b2 (cl [ptr bs] 35) :: pts bs (cl (stC bd q mb false) 92) :: mapR dV mb (begE beg) :: diskA bd A :: F) entA ?_
              (refine go ?_)
              refine J_loadAgg (U := tab) 0 rfl rfl rfl rfl rfl rfl ?_
              (first | refine J_callE rfl rfl rfl rfl (fS_any x) entA ?_ (fun _ _ _ _ _ => trivial) | refine J_call0E rfl rfl rfl (fS_any x) entA ?_ (fun _ _ _ _ _ => trivial) | (refine go ?_; first | refine J_callE rfl rfl rfl rfl (fS_any x) entA ?_ (fun _ _ _ _ _ => trivial) | refine J_call0E rfl rfl rfl (fS_any x) entA ?_ (fun _ _ _ _ _ => trivial)))
              rintro _ _ ⟨rfl, rfl⟩
              refine J_alloc (U := tab) rfl rfl rfl (fun _ _ _ => trivial) ?_
              intro b7
              (refine go ?_)
              (first | refine J_callE rfl rfl rfl rfl (is_any bs bd q mb false A (fS x)) entA ?_ (fun _ _ _ _ _ => trivial) | refine J_call0E rfl rfl rfl (is_any bs bd q mb false A (fS x)) entA ?_ (fun _ _ _ _ _ => trivial) | (refine go ?_; first | refine J_callE rfl rfl rfl rfl (is_any bs bd q mb false A (fS x)) entA ?_ (fun _ _ _ _ _ => trivial) | refine J_call0E rfl rfl rfl (is_any bs bd q mb false A (fS x)) entA ?_ (fun _ _ _ _ _ => trivial)))
              rintro _ _ ⟨rfl, rfl⟩
              refine J_midD 1 (fun B : Ab => BeginR q x ⟨A, beg, false⟩ 0 ⟨B, beg ++ [(x.d, x)], false⟩) (fun B => [(2, ptr b2), (3, ptr b3)]) (fun B => pts b3 (cl (blC x) 32) :: pts b2 (cl [ptr bs] 35) :: pts bs (cl (stC bd q mb false) 92) :: mapR dV mb (begE beg) :: diskA bd B :: F) rfl ?_ ?_
              · intro B hBB
                have hset := begE_set beg x (by cases h : begL beg x.d with | none => rfl | some y => rw [h] at hisb; cases hisb)
                refine K_drawA (fun w => Sat G w ([pts b3 (cl (blC x) 32), pts b2 (cl [ptr bs] 35), pts bs (cl (stC bd q mb false) 92)])) (.st 0 (.st 1 (.st 2 (.st 3 (.st 4 (.st 5 (.st 6 (.act 7 .nil)))))))) rfl (by kernel_rfl) (by kernel_rfl) (by kernel_rfl) (fun w hw => hw.ent entA) ?_
                (refine go ?_)
                refine J_loadAggS (U := tab) 0 rfl rfl rfl rfl rfl rfl ?_
                (refine go ?_)
                refine J_loadAggS (U := tab) (cs := blC x) 0 rfl rfl rfl rfl rfl rfl ?_
                (refine go ?_)
                refine J_mapUpdate (U := tab) (es := begE beg) (key := x.d) (v := blV x) 3 kDg (fun _ _ => by exact trivial) rfl rfl rfl rfl rfl rfl rfl rfl ?_
                rw [hset]
                (refine go ?_)
                refine K_ent (H' := stoL bs bd q mb ⟨B, beg ++ [(x.d, x)], false⟩ ++ F) entA ?_
                (first | refine K_return hE Tryz.func15 rfl _ rfl ⟨0, ⟨B, beg ++ [(x.d, x)], false⟩, rfl, rfl, hBB⟩ entA | refine K_fallEnd hE Tryz.func15 rfl _ rfl ⟨0, ⟨B, beg ++ [(x.d, x)], false⟩, rfl, rfl, hBB⟩ entA)
              · intro tail
                cases hsf : hasF A (fS x) with
                | true =>
                  (refine go ?_)
                  refine K_to tail A rfl (hB3 _ _ (by simp) hr' hno (by rw [if_neg hq', if_pos hsf]; exact ⟨rfl, rfl⟩)) (by repeat (first | exact keep_nil | refine keep_cons rfl ?_)) entA
                | false =>
                  have hst1 : ∀ (i : Nat) (fv : Value) (sp : Stp), [.func (.func 56) #[] #[ptr b2, ptr b7], .func (.func 51) #[ptr bd] #[] ][i]? = some fv → [stCreate (fS x), stSyncNames][i]? = some sp → ∃ g fi cap, fv = .func (.func g) fi cap ∧ ∀ y, GQ A i y → Ctr Tryz.prog g (fi.toList ++ cap.toList) [stX bs bd q mb false (Sep [pts b2 (cl [ptr bs] 35), pts b7 (cl [.string (fS x)] 9)]) y] (fun r H => ∃ (e : Nat) (x' : Ab), r = .int .i64 (e : Int) ∧ H = [stX bs bd q mb false (Sep [pts b2 (cl [ptr bs] 35), pts b7 (cl [.string (fS x)] 9)]) x'] ∧ sp y e x' ∧ (e = 0 → GQ A (i + 1) x')) := by
                    intro i fv sp hi hs
                    match i, hi, hs with
                    | 0, hi, hs =>
                      cases hi; cases hs
                      refine ⟨_, _, _, rfl, fun y hy => ?_⟩
                      refine (ctr_stX (p := stCreate (fS x) y) (begin1_any bs bd b2 b7 q mb false (fS x) y (by have := hy.1; omega))).post ?_
                      rintro r H ⟨e, B, rfl, rfl, h1⟩
                      exact ⟨e, B, rfl, rfl, h1, fun _ => hy.next (grow_stCreate h1)⟩
                    | 1, hi, hs =>
                      cases hi; cases hs
                      refine ⟨_, _, _, rfl, fun y hy => (names_X bs bd q mb false [pts b2 (cl [ptr bs] 35), pts b7 (cl [.string (fS x)] 9)] y).post ?_⟩
                      rintro r H ⟨e, B, rfl, rfl, h1⟩
                      exact ⟨e, B, rfl, rfl, h1, fun _ => hy.next (grow_stSyncNames h1)⟩
                    | k + 2, hi, hs => simp at hi
                  (refine go ?_)
                  refine K_drawA (fun w => Sat G w [stE bs bd q mb, pts b2 (cl [ptr bs] 35)]) (.st 0 (.st 1 (.st 2 (.st 3 (.st 4 (.st 5 (.st 6 (.act 7 (.act 8 (.st 9 .nil)))))))))) rfl (by kernel_rfl) (by kernel_rfl) (by kernel_rfl) (fun w hw => hw.ent (Ent.trans (H2 := [pts bs (cl (stC bd q mb false) 92), pts b2 (cl [ptr bs] 35)]) entA (stE_in bs bd q mb _ _))) ?_
                  (refine go ?_)
                  refine J_isLoad ?_
                  refine J_loadS (U := tab) rfl rfl (fun w hw => stE_cell hw) rfl rfl ?_
                  (refine go ?_)
                  refine J_buildSlice1 (U := tab) (cs := [.func (.func 56) #[] #[ptr b2, ptr b7], .func (.func 51) #[ptr bd] #[] ]) rfl rfl rfl rfl rfl rfl rfl rfl rfl (fun _ w hw => by exact hw.ent (Ent.trans (H2 := [pts bs (cl (stC bd q mb false) 92), pts b2 (cl [ptr bs] 35)]) entA (stE_in bs bd q mb _ _))) ?_
                  intro row
                  have hch := changeS_any bs bd q mb false (Sep [pts b2 (cl [ptr bs] 35), pts b7 (cl [.string (fS x)] 9)]) (pts row (cl [.func (.func 56) #[] #[ptr b2, ptr b7], .func (.func 51) #[ptr bd] #[] ] 95)) (.slice (some ⟨row, 0, none⟩) 2 2) [.func (.func 56) #[] #[ptr b2, ptr b7], .func (.func 51) #[ptr bd] #[] ] (Vw.pts rfl) (by show 2 ≤ _; omega) [stCreate (fS x), stSyncNames] rfl (GQ A) hst1 A (GQ.zero A)
                  refine J_ent (H' := pts row (cl [.func (.func 56) #[] #[ptr b2, ptr b7], .func (.func 51) #[ptr bd] #[] ] 95) :: stX bs bd q mb false (Sep [pts b2 (cl [ptr bs] 35), pts b7 (cl [.string (fS x)] 9)]) A :: mapR dV mb (begE beg) :: pts b3 (cl (blC x) 32) :: F) (Ent.trans (H2 := pts bs (cl (stC bd q mb false) 92) :: diskA bd A :: ([pts b2 (cl [ptr bs] 35), pts b7 (cl [.string (fS x)] 9)] ++ (pts row (cl [.func (.func 56) #[] #[ptr b2, ptr b7], .func (.func 51) #[ptr bd] #[] ] 95) :: mapR dV mb (begE beg) :: pts b3 (cl (blC x) 32) :: F))) entA (Ent.trans (stX_in bs bd q mb false _ A _) entA)) ?_
                  refine J_callE rfl rfl rfl rfl hch entA ?_ (fun _ _ w hp hw => by
                    obtain ⟨e, B, rfl, rfl, hruns, _⟩ := hp
                    exact hw.ent (Ent.trans (Ent.pick [1] rfl) (Ent.trans (stX_out bs bd q mb (or false (decide (e ≠ 0))) _ B _) (Ent.trans (H2 := [pts bs (cl (stC bd q mb (or false (decide (e ≠ 0)))) 92), pts b2 (cl [ptr bs] 35)]) entA (stE_in bs bd q mb _ _)))))
                  rintro _ _ ⟨e, B, rfl, rfl, hruns, -⟩
                  refine J_ent (Ent.trans (Ent.pick [1] rfl) (stX_out bs bd q mb (or false (decide (e ≠ 0))) _ B _)) ?_
                  have hfin : ∀ e' t, (∃ e1 s1, chgS [stCreate (fS x), stSyncNames] ⟨A, beg, false⟩ e1 s1 ∧ ((e1 ≠ 0 ∧ e' = e1 ∧ t = s1) ∨ (e1 = 0 ∧ e' = 0 ∧ t = ⟨s1.A, s1.beg ++ [(x.d, x)], s1.brk⟩))) → BeginR q x ⟨A, beg, false⟩ e' t := fun e' t h => hB3 e' t (by simp) hr' hno (by rw [if_neg hq', if_neg (by rw [hsf]; simp)]; exact h)
                  (refine go ?_)
                  refine K_condP rfl rfl ?_ ?_
                  · intro hne1
                    have he : e ≠ 0 := by omega
                    (refine go ?_)
                    refine K_ent (H' := stoL bs bd q mb ⟨B, beg, or false (decide (e ≠ 0))⟩ ++ F) entA ?_
                    (first | refine K_return hE Tryz.func15 rfl _ rfl ⟨e, ⟨B, beg, or false (decide (e ≠ 0))⟩, rfl, rfl, hfin _ _ ⟨e, _, ⟨B, hruns, rfl⟩, .inl ⟨he, rfl, rfl⟩⟩⟩ entA | refine K_fallEnd hE Tryz.func15 rfl _ rfl ⟨e, ⟨B, beg, or false (decide (e ≠ 0))⟩, rfl, rfl, hfin _ _ ⟨e, _, ⟨B, hruns, rfl⟩, .inl ⟨he, rfl, rfl⟩⟩⟩ entA)
                  · intro heq1
                    have he : e = 0 := by omega
                    subst he
                    (refine go ?_)
                    refine K_to tail B rfl (hfin _ _ ⟨0, _, ⟨B, hruns, rfl⟩, .inr ⟨rfl, rfl, rfl⟩⟩) (by repeat (first | exact keep_nil | refine keep_cons rfl ?_)) entA
  · intro tail
    (refine go ?_)
    refine J_loadAggS (U := tab) 0 rfl rfl rfl rfl rfl rfl ?_
    (refine go ?_)
    refine J_lookupOkS (U := tab) (es := begE beg) (key := x.d) rfl kDg rfl rfl rfl rfl rfl rfl rfl (fun w hw => hw.getMap (i := 3) rfl) ?_
    rw [begE_look]
    cases hb : begL beg x.d with
    | none =>
      rw [hb] at tail
      simp only [Option.map_none, Option.getD_none, Option.isSome_none]
      (refine go ?_)
      refine J_alloc (U := tab) rfl rfl rfl (fun _ w hw => hw.ent entA) ?_
      intro b5
      (refine goR ?_)
      (refine J_isStore ?_; first | refine J_store (U := tab) 0 (fun w hw => hw.ent entA) rfl rfl rfl rfl rfl rfl rfl rfl rfl ?_ | refine J_store (U := tab) 1 (fun w hw => hw.ent entA) rfl rfl rfl rfl rfl rfl rfl rfl rfl ?_ | refine J_store (U := tab) 2 (fun w hw => hw.ent entA) rfl rfl rfl rfl rfl rfl rfl rfl rfl ?_ | refine J_store (U := tab) 3 (fun w hw => hw.ent entA) rfl rfl rfl rfl rfl rfl rfl rfl rfl ?_ | refine J_store (U := tab) 4 (fun w hw => hw.ent entA) rfl rfl rfl rfl rfl rfl rfl rfl rfl ?_ | refine J_store (U := tab) 5 (fun w hw => hw.ent entA) rfl rfl rfl rfl rfl rfl rfl rfl rfl ?_ | refine J_store (U := tab) 6 (fun w hw => hw.ent entA) rfl rfl rfl rfl rfl rfl rfl rfl rfl ?_ | refine J_store (U := tab) 7 (fun w hw => hw.ent entA) rfl rfl rfl rfl rfl rfl rfl rfl rfl ?_ | refine J_store (U := tab) 8 (fun w hw => hw.ent entA) rfl rfl rfl rfl rfl rfl rfl rfl rfl ?_)
      (refine goR ?_)
      refine K_to tail false rfl rfl (by repeat (first | exact keep_nil | refine keep_cons rfl ?_)) entA
    | some y =>
      rw [hb] at tail
      simp only [Option.map_some, Option.getD_some, Option.isSome_some]
      unfold blV
      (refine go ?_)
      refine J_alloc (U := tab) rfl rfl rfl (fun _ w hw => hw.ent entA) ?_
      intro b5
      (refine goR ?_)
      (refine J_isStore ?_; first | refine J_store (U := tab) 0 (fun w hw => hw.ent entA) rfl rfl rfl rfl rfl rfl rfl rfl rfl ?_ | refine J_store (U := tab) 1 (fun w hw => hw.ent entA) rfl rfl rfl rfl rfl rfl rfl rfl rfl ?_ | refine J_store (U := tab) 2 (fun w hw => hw.ent entA) rfl rfl rfl rfl rfl rfl rfl rfl rfl ?_ | refine J_store (U := tab) 3 (fun w hw => hw.ent entA) rfl rfl rfl rfl rfl rfl rfl rfl rfl ?_ | refine J_store (U := tab) 4 (fun w hw => hw.ent entA) rfl rfl rfl rfl rfl rfl rfl rfl rfl ?_ | refine J_store (U := tab) 5 (fun w hw => hw.ent entA) rfl rfl rfl rfl rfl rfl rfl rfl rfl ?_ | refine J_store (U := tab) 6 (fun w hw => hw.ent entA) rfl rfl rfl rfl rfl rfl rfl rfl rfl ?_ | refine J_store (U := tab) 7 (fun w hw => hw.ent entA) rfl rfl rfl rfl rfl rfl rfl rfl rfl ?_ | refine J_store (U := tab) 8 (fun w hw => hw.ent entA) rfl rfl rfl rfl rfl rfl rfl rfl rfl ?_)
      (refine goR ?_)
      refine K_to tail true rfl rfl (by repeat (first | exact keep_nil | refine keep_cons rfl ?_)) entA
end Go.Proofs.YtpecmnaikjbanaaGreatDoor

/- blobs, the law's awake. -/
set_option linter.unusedVariables false
set_option linter.unusedSimpArgs false
namespace Go.Proofs.YtpecmnaikjbanaaGreatDoor
open Go Go.SL
attribute [local irreducible] J K Ctr Ends pts slc mapR mapI sbRow stock arrS loopP CtrY Sha.chunks Sha.chunk Sha.rounds Sha.sched sumL taggedL GI leafL diskA
theorem namesF_nil {A : Ab} (h : A.names = []) : namesF A = [] := by
  have := namesF_names A
  rw [h] at this
  exact List.length_eq_zero_iff.1 this
theorem stScrub_nil {kind : List UInt8} {right : Ab → Dg → Bool} {A B : Ab} {e : Nat} (h : A.names = []) (hs : stScrub kind right A e B) : e = 0 ∧ B = A := by
  unfold stScrub at hs
  rw [namesF_nil h] at hs
  exact hs
theorem Open_new {A B : Ab} {e : Nat} (h : A.names = []) (ho : OpenS A e B) : e = 0 ∧ B = A := by
  obtain ⟨e1, A1, ⟨e2, A2, h2, c2⟩, hfin⟩ := ho
  obtain ⟨rfl, rfl⟩ := stScrub_nil h h2
  rcases c2 with ⟨hne, _⟩ | ⟨_, e3, A3, h3, c3⟩
  · exact absurd rfl hne
  obtain ⟨rfl, rfl⟩ := stScrub_nil h h3
  rcases c3 with ⟨hne, _⟩ | ⟨_, e4, A4, h4, c4⟩
  · exact absurd rfl hne
  obtain ⟨rfl, rfl⟩ := stScrub_nil h h4
  rcases c4 with ⟨hne, _⟩ | ⟨_, rfl, rfl⟩
  · exact absurd rfl hne
  rw [if_neg (by omega)] at hfin
  exact hfin
theorem usedS_none {A : Ab} {brk : Bool} (h : A.names = []) : usedS ⟨A, [], brk⟩ = 0 := by unfold usedS usedF; rw [h]; rfl
theorem blob_ok {b : List UInt8} {k : Int} {x : Bl} (h : blobB b k = some x) : rightB x = true ∧ x.size = b.length ∧ x.piece = k ∧ wholeB x b = true := by
  have h0 := h
  unfold blobB leavesB at h
  split at h
  · rename_i hr
    simp only [Option.map_some, Option.some.injEq] at h
    subst h
    refine ⟨?_, rfl, rfl, ?_⟩
    · simpa [rightB] using hr
    · unfold wholeB; simpa using h0
  · cases h
theorem blob_one : ∃ x, blobB [7] 16 = some x := by
  unfold blobB leavesB
  rw [if_pos (by decide)]
  exact ⟨_, rfl⟩
theorem span_one {x : Bl} (h : rightB x = true) (h1 : x.size = 1) (h2 : x.piece = 16) : spanB x 0 = some (0, 1) := by
  unfold spanB countB
  rw [if_pos h, h1, h2, if_neg (by omega)]
  simp
  omega
/-- How a store grows. -/
def SGrow (n : Nat) (s t : Sto) : Prop := t.A.states.length ≤ s.A.states.length + n ∧ t.A.writes.length ≤ s.A.writes.length + n
theorem grow_runs (ss : List Stp) (hs : ∀ sp ∈ ss, ∀ A e B, sp A e B → Grow1 A B) (A : Ab) (e : Nat) (B : Ab) (h : Runs ss A e B) : B.states.length ≤ A.states.length + ss.length ∧ B.writes.length ≤ A.writes.length + ss.length := by
  induction ss generalizing A with
  | nil => obtain ⟨_, rfl⟩ := h; exact ⟨Nat.le_refl _, Nat.le_refl _⟩
  | cons sp ss ih =>
    obtain ⟨e1, A1, h1, hc⟩ := h
    have g := hs sp (List.mem_cons_self ..) _ _ _ h1
    have g1 := g.1
    have g2 := g.2
    simp only [List.length_cons]
    rcases hc with ⟨_, _, rfl⟩ | ⟨_, h2⟩
    · omega
    · have := ih (fun s h => hs s (List.mem_cons_of_mem _ h)) A1 h2
      omega
theorem grow_chgS {ss : List Stp} (hs : ∀ sp ∈ ss, ∀ A e B, sp A e B → Grow1 A B) {s t : Sto} {e : Nat} (h : chgS ss s e t) : SGrow ss.length s t := by
  obtain ⟨B, h, rfl⟩ := h
  exact grow_runs ss hs _ _ _ h
theorem SGrow.mono {m n : Nat} {s t : Sto} (h : SGrow m s t) (hmn : m ≤ n) : SGrow n s t := ⟨by have := h.1; omega, by have := h.2; omega⟩
theorem SGrow.refl (n : Nat) (s : Sto) : SGrow n s s := ⟨by omega, by omega⟩
theorem BeginR_grow {q : Int} {x : Bl} {s t : Sto} {e : Nat} (h : BeginR q x s e t) : SGrow 2 s t := by
  unfold BeginR at h
  split at h
  · exact h.2 ▸ SGrow.refl _ _
  split at h
  · exact h.2 ▸ SGrow.refl _ _
  split at h
  · exact h.2 ▸ SGrow.refl _ _
  split at h
  · exact h.2 ▸ SGrow.refl _ _
  split at h
  · rw [h.2]; exact SGrow.refl 2 s
  · obtain ⟨e1, s1, hc, hd⟩ := h
    have g := grow_chgS (ss := [stCreate (fS x), stSyncNames]) (fun sp hsp A e B hh => by
      simp only [List.mem_cons, List.not_mem_nil, or_false] at hsp
      rcases hsp with rfl | rfl
      · exact grow_stCreate hh
      · exact grow_stSyncNames hh) hc
    rcases hd with ⟨_, _, rfl⟩ | ⟨_, _, rfl⟩ <;> exact g
theorem PutS_grow {x : Bl} {i : Int} {b : List UInt8} {s t : Sto} {e : Nat} (h : PutS x i b s e t) : SGrow 1 s t := by
  unfold PutS at h
  split at h
  · exact h.2 ▸ SGrow.refl _ _
  split at h
  · exact h.2 ▸ SGrow.refl _ _
  split at h
  · exact h.2 ▸ SGrow.refl _ _
  · exact grow_chgS (fun sp hsp A e B hh => by
      simp only [List.mem_cons, List.not_mem_nil, or_false] at hsp
      subst hsp
      exact grow_stWrite hh) h
theorem AbortS_grow {x : Bl} {s t : Sto} {e : Nat} (h : AbortS x s e t) : SGrow 1 s t := by
  unfold AbortS at h
  split at h
  · exact h.2 ▸ SGrow.refl _ _
  · obtain ⟨s1, hc, rfl⟩ := h
    have g := grow_chgS (fun sp hsp A e B hh => by
      simp only [List.mem_cons, List.not_mem_nil, or_false] at hsp
      subst hsp
      exact grow_stRemove hh) hc
    split <;> exact g
theorem InstallS_grow {x : Bl} {s t : Sto} {e : Nat} (h : InstallS x s e t) : SGrow 3 s t := by
  unfold InstallS at h
  split at h
  · exact h.2 ▸ SGrow.refl _ _
  split at h
  · obtain ⟨e1, h1, _⟩ := h
    exact (AbortS_grow h1).mono (by omega)
  · obtain ⟨s1, hc, rfl⟩ := h
    have g := grow_chgS (ss := moveS (fS x) (fB x)) (fun sp hsp A e B hh => by
      simp only [moveS, List.mem_cons, List.not_mem_nil, or_false] at hsp
      rcases hsp with rfl | rfl | rfl
      · exact grow_stSync hh
      · exact grow_stRename hh
      · exact grow_stSyncNames hh) hc
    split <;> exact g
theorem used_le {A : Ab} (h : HA A) (m : Nat) (hm : ∀ n c, vw A n = some c → c.length ≤ m) : A.used ≤ A.names.length * m := by
  unfold Ab.used
  refine sum_le_of A.names _ m fun x hx => ?_
  refine hm x.1 _ ?_
  unfold vw
  rw [look_of_mem h.keys hx]
  rfl
theorem usedS_one {A : Ab} {x : Bl} {f : Nat} {c : List UInt8} {brk : Bool} (h : HA A) (hn : A.names = [(fB x, f)]) (hv : vw A (fB x) = some c) : usedS ⟨A, [], brk⟩ = c.length := by
  have hl : A.look (fB x) = some f := look_of_mem h.keys (x := (fB x, f)) (by rw [hn]; exact List.mem_singleton.2 rfl)
  unfold vw at hv
  rw [hl] at hv
  injection hv with hv
  unfold usedS usedF
  simp only
  rw [hn]
  simp only [List.map_cons, List.map_nil, List.sum_cons, List.sum_nil]
  have : (hashN kB (fB x)).isSome = true := by unfold fB; rw [hashN_file]; rfl
  rw [if_pos this, hv]
  omega
theorem names_one {A : Ab} {n : ByteArray} {c : List UInt8} (h1 : A.names.length = 1) (hv : vw A n = some c) : Ab.delN A.names n = [] := by
  obtain ⟨f, hf⟩ : ∃ f, A.look n = some f := by
    unfold vw at hv
    cases hx : A.look n with
    | none => rw [hx] at hv; cases hv
    | some f => exact ⟨f, rfl⟩
  have hm := look_mem hf
  match hA : A.names, h1, hm with
  | [y], _, hm =>
    have : y = (n, f) := (List.mem_singleton.1 hm).symm
    subst this
    simp [Ab.delN]
theorem Open_first (X : HP) (hK : KAt X) (bd room : Nat) (q : Int) (hq : 1 ≤ q ∧ q ≤ 1073741824) : Ctr Tryz.prog 13 [ptr bd, .int .i64 q] [diskA bd (Ab.new room), X]
    (fun r H => ∃ bs mb, r = .tuple #[ptr bs, .int .i64 0] ∧ H = stoL bs bd q mb ⟨Ab.new room, [], false⟩ ++ [X]) :=
  (Open_any' X hK bd q (Ab.new room) (by show 1 ≤ _; omega)).post (by
    rintro r H (⟨h, _⟩ | ⟨_, h, _⟩ | ⟨_, _, e, B, ho, hc⟩)
    · exfalso; omega
    · cases h
    · obtain ⟨rfl, rfl⟩ := Open_new rfl ho
      rcases hc with ⟨hne, _⟩ | ⟨_, _, bs, mb, rfl, rfl⟩
      · exact absurd rfl hne
      · exact ⟨bs, mb, rfl, rfl⟩)
theorem one_BAt (b : Nat) (x : UInt8) : BAt (pts b (cl (bV [x]) 5)) (.slice (some ⟨b, 0, none⟩) 1 1) [x] := ⟨Vw.pts rfl, _, _, rfl, Nat.le_refl _⟩
set_option maxRecDepth 20000 in
set_option maxHeartbeats 1000000 in
theorem awake_any (X : HP) (hK : KAt X) : Ctr Tryz.prog 10 [] [X] (fun r H => r = .bool true ∧ H = [X]) := by
  obtain ⟨x, hx⟩ := blob_one
  obtain ⟨hr, hsz, hpc, hwh⟩ := blob_ok hx
  have hsp := span_one hr hsz hpc
  refine Ctr.enter Tryz.func10 (by kernel_rfl) rfl Tryz.ntmps10 rfl rfl ?_
  intro G F R hE
  (refine go ?_)
  (first | refine J_callE rfl rfl rfl rfl (New_dA 10000 (by omega) (by omega)) entA ?_ (fun _ _ _ _ _ => trivial) | refine J_call0E rfl rfl rfl (New_dA 10000 (by omega) (by omega)) entA ?_ (fun _ _ _ _ _ => trivial) | (refine go ?_; first | refine J_callE rfl rfl rfl rfl (New_dA 10000 (by omega) (by omega)) entA ?_ (fun _ _ _ _ _ => trivial) | refine J_call0E rfl rfl rfl (New_dA 10000 (by omega) (by omega)) entA ?_ (fun _ _ _ _ _ => trivial)))
  rintro _ _ ⟨bd, rfl, rfl⟩
  (refine go ?_)
  (first | refine J_callE rfl rfl rfl rfl (Open_first X hK bd 10000 1000 (by omega)) entA ?_ (fun _ _ _ _ _ => trivial) | refine J_call0E rfl rfl rfl (Open_first X hK bd 10000 1000 (by omega)) entA ?_ (fun _ _ _ _ _ => trivial) | (refine go ?_; first | refine J_callE rfl rfl rfl rfl (Open_first X hK bd 10000 1000 (by omega)) entA ?_ (fun _ _ _ _ _ => trivial) | refine J_call0E rfl rfl rfl (Open_first X hK bd 10000 1000 (by omega)) entA ?_ (fun _ _ _ _ _ => trivial)))
  rintro _ _ ⟨bs, mb, rfl, rfl⟩
  (refine go ?_)
  refine J_buildSlice1 (U := tab) (cs := bV [7]) rfl rfl rfl rfl rfl rfl rfl rfl rfl (fun _ _ _ => trivial) ?_
  intro row
  have hbl := Blob_ref _ _ [7] (one_BAt row 7) (by decide) 16
  rw [hx] at hbl
  (first | refine J_callE rfl rfl rfl rfl (hbl) entA ?_ (fun _ _ _ _ _ => trivial) | refine J_call0E rfl rfl rfl (hbl) entA ?_ (fun _ _ _ _ _ => trivial) | (refine go ?_; first | refine J_callE rfl rfl rfl rfl (hbl) entA ?_ (fun _ _ _ _ _ => trivial) | refine J_call0E rfl rfl rfl (hbl) entA ?_ (fun _ _ _ _ _ => trivial)))
  rintro _ _ ⟨rfl, rfl⟩
  unfold blV
  (refine go ?_)
  refine J_alloc (U := tab) rfl rfl rfl (fun _ _ _ => trivial) ?_
  intro b5
  (refine go ?_)
  refine J_loadArr (U := tab) (l := blC x) 0 rfl rfl rfl rfl rfl rfl ?_
  have hbg := Begin_bl bs bd 1000 (by omega) mb ⟨Ab.new 10000, [], false⟩ x ⟨by simp, by simp⟩ (by show 1 ≤ _; omega) (by show 0 ≤ _; omega)
  unfold blV at hbg
  (first | refine J_callE rfl rfl rfl rfl (hbg) entA ?_ (fun _ _ _ _ _ => trivial) | refine J_call0E rfl rfl rfl (hbg) entA ?_ (fun _ _ _ _ _ => trivial) | (refine go ?_; first | refine J_callE rfl rfl rfl rfl (hbg) entA ?_ (fun _ _ _ _ _ => trivial) | refine J_call0E rfl rfl rfl (hbg) entA ?_ (fun _ _ _ _ _ => trivial)))
  rintro _ _ ⟨e1, s1, rfl, rfl, hR1⟩
  obtain ⟨rfl, a1, b1, c1, v1, n1, r1⟩ := Begin_ok (HA.new 10000) rfl hr rfl rfl (by rw [usedS_none rfl, hsz]; decide) rfl (by decide) hR1
  have g1 := BeginR_grow hR1
  have hop1 : begL s1.beg x.d = some x := by rw [c1]; simp [begL]
  (refine go ?_)
  refine J_loadArr (U := tab) (l := blC x) 3 rfl rfl rfl rfl rfl rfl ?_
  refine J_buildSlice1 (U := tab) (cs := bV [7]) rfl rfl rfl rfl rfl rfl rfl rfl rfl (fun _ _ _ => trivial) ?_
  intro row2
  have g11 : s1.A.states.length ≤ 1 + 2 := g1.1
  have g12 : s1.A.writes.length ≤ 0 + 2 := g1.2
  have hpt := Put_bl (pts row2 (cl (bV [7]) 5)) bs bd 1000 mb s1 x 0 (.slice (some ⟨row2, 0, none⟩) 1 1) [7] (Vw.pts rfl) (by decide) (by omega) (by omega) (by omega)
  unfold blV at hpt
  (first | refine J_callE rfl rfl rfl rfl (hpt) entA ?_ (fun _ _ _ _ _ => trivial) | refine J_call0E rfl rfl rfl (hpt) entA ?_ (fun _ _ _ _ _ => trivial) | (refine go ?_; first | refine J_callE rfl rfl rfl rfl (hpt) entA ?_ (fun _ _ _ _ _ => trivial) | refine J_call0E rfl rfl rfl (hpt) entA ?_ (fun _ _ _ _ _ => trivial)))
  rintro _ _ ⟨e2, s2, rfl, rfl, hR2⟩
  have hv1 : vw s1.A (fS x) = some [] := by rw [v1, if_pos rfl]
  have hu1 : s1.A.used ≤ s1.A.names.length * 0 := used_le a1 0 (fun n c hn => by
    rw [v1] at hn
    split at hn
    · injection hn with hn; subst hn; exact Nat.le_refl _
    · cases hn)
  have hrm1 : s1.A.room = 10000 := r1
  obtain ⟨rfl, a2, b2, c2, v2, n2, r2⟩ := Put_ok a1 b1 hop1 hsp rfl hv1 (by simp) (by rw [hrm1]; simp at hu1 ⊢; omega) hR2
  have g2 := PutS_grow hR2
  have g21 := g2.1
  have g22 := g2.2
  have hop2 : begL s2.beg x.d = some x := by rw [c2]; exact hop1
  have hrm2 := r2
  have hv2 : vw s2.A (fS x) = some [7] := by rw [v2, if_pos rfl]; rfl
  have hB2 : vw s2.A (fB x) = none := by rw [v2, if_neg (fun h => fS_ne_fB x x h.symm), v1, if_neg (fun h => fS_ne_fB x x h.symm)]; rfl
  (refine go ?_)
  refine J_loadArr (U := tab) (l := blC x) 4 rfl rfl rfl rfl rfl rfl ?_
  have hin := Install_bl X hK bs bd 1000 mb s2 x (by omega) (by omega)
  unfold blV at hin
  (first | refine J_callE rfl rfl rfl rfl (hin) entA ?_ (fun _ _ _ _ _ => trivial) | refine J_call0E rfl rfl rfl (hin) entA ?_ (fun _ _ _ _ _ => trivial) | (refine go ?_; first | refine J_callE rfl rfl rfl rfl (hin) entA ?_ (fun _ _ _ _ _ => trivial) | refine J_call0E rfl rfl rfl (hin) entA ?_ (fun _ _ _ _ _ => trivial)))
  rintro _ _ ⟨e3, s3, rfl, rfl, hR3⟩
  obtain ⟨rfl, a3, b3, c3, v3, r3, f3, n3⟩ := Install_ok a2 b2 hop2 hv2 hB2 hwh hR3
  have hn2 : s2.A.names.length = 1 := by rw [n2, n1]; rfl
  have hn3 : s3.A.names = [(fB x, f3)] := by rw [n3, names_one hn2 hv2]; rfl
  have hv3 : vw s3.A (fB x) = some [7] := by rw [v3, if_pos rfl]
  have hbg3 : s3.beg = [] := by rw [c3, c2, c1]; simp [delB]
  have hus : usedS s3 = 1 := by
    have := usedS_one (brk := s3.brk) a3 hn3 hv3
    obtain ⟨A3, beg3, brk3⟩ := s3
    simp only at hbg3
    subst hbg3
    exact this
  have hus2 := Used_bl bs bd 1000 mb s3 (by rw [hbg3]; exact ⟨by simp, by simp⟩)
  rw [hus] at hus2
  have hhs := Has_any bs bd 1000 mb s3.brk s3.A x.d
  rw [hasF_vw, show vw s3.A (fileN kB x.d) = some [7] from hv3] at hhs
  unfold dV at hhs
  (refine go ?_)
  refine J_loadAgg (U := tab) 5 rfl rfl rfl rfl rfl rfl ?_
  (first | refine J_callE rfl rfl rfl rfl (hhs) entA ?_ (fun _ _ _ _ _ => trivial) | refine J_call0E rfl rfl rfl (hhs) entA ?_ (fun _ _ _ _ _ => trivial) | (refine go ?_; first | refine J_callE rfl rfl rfl rfl (hhs) entA ?_ (fun _ _ _ _ _ => trivial) | refine J_call0E rfl rfl rfl (hhs) entA ?_ (fun _ _ _ _ _ => trivial)))
  rintro _ _ ⟨rfl, rfl⟩
  (refine go ?_)
  (first | refine J_callE rfl rfl rfl rfl (hus2) entA ?_ (fun _ _ _ _ _ => trivial) | refine J_call0E rfl rfl rfl (hus2) entA ?_ (fun _ _ _ _ _ => trivial) | (refine go ?_; first | refine J_callE rfl rfl rfl rfl (hus2) entA ?_ (fun _ _ _ _ _ => trivial) | refine J_call0E rfl rfl rfl (hus2) entA ?_ (fun _ _ _ _ _ => trivial)))
  rintro _ _ ⟨rfl, rfl⟩
  (refine go ?_)
  (first | refine K_return hE Tryz.func10 rfl _ rfl ⟨rfl, rfl⟩ entA | refine K_fallEnd hE Tryz.func10 rfl _ rfl ⟨rfl, rfl⟩ entA)
end Go.Proofs.YtpecmnaikjbanaaGreatDoor

/- blobs, plain: the rounds of the law Spoilt. -/
set_option linter.unusedVariables false
set_option linter.unusedSimpArgs false
namespace Go.Proofs.YtpecmnaikjbanaaGreatDoor
open Go Go.SL
/-- Between rounds nothing is there. -/
structure Clear (s : Sto) : Prop where
  ha : HA s.A
  room : s.A.room = 16777216
  brk : s.brk = false
  beg : s.beg = []
  names : s.A.names = []
theorem Clear.vw {s : Sto} (h : Clear s) (n : ByteArray) : vw s.A n = none := by
  unfold Proofs.YtpecmnaikjbanaaGreatDoor.vw Ab.look Ab.lookIn
  rw [h.names]
  rfl
theorem Clear.new : Clear ⟨Ab.new 16777216, [], false⟩ := ⟨HA.new _, rfl, rfl, rfl, rfl⟩
/-- While pieces of a blob are put in: so many bytes are there. -/
structure Half (y : Bl) (w : List UInt8) (i : Nat) (s : Sto) : Prop where
  ha : HA s.A
  room : s.A.room = 16777216
  brk : s.brk = false
  beg : s.beg = [(y.d, y)]
  names : s.A.names.length = 1
  has : ∀ n, vw s.A n = if n = fS y then some (w.take (i * y.piece.toNat)) else none
theorem Half.open {y : Bl} {w : List UInt8} {i : Nat} {s : Sto} (h : Half y w i s) : begL s.beg y.d = some y := by rw [h.beg]; simp [begL]
theorem Half.begin {y : Bl} {w : List UInt8} {s t : Sto} {e : Nat} (h : Clear s) (hr : rightB y = true) (hR : BeginR 1048576 y s e t) : e = 0 ∧ Half y w 0 t := by
  have hrs := hr
  simp only [rightB, decide_eq_true_eq] at hrs
  have hus : usedS s = 0 := by
    have := usedS_none (brk := s.brk) h.names
    obtain ⟨A, beg, brk⟩ := s
    have hb := h.beg
    simp only at hb
    subst hb
    exact this
  obtain ⟨rfl, a1, b1, c1, v1, n1, r1⟩ := Begin_ok h.ha h.brk hr (by rw [h.beg]; rfl) (h.vw _) (by rw [hus]; omega) (h.vw _) (by rw [h.names]; decide) hR
  refine ⟨rfl, a1, r1.trans h.room, b1, by rw [c1, h.beg]; rfl, by rw [n1, h.names]; rfl, fun n => ?_⟩
  rw [v1, h.vw n]
  simp
theorem wroteL_add (C b : List UInt8) : wroteL C C.length b = C ++ b := by
  unfold wroteL
  simp
theorem Half.put {y : Bl} {w : List UInt8} {i : Nat} {s t : Sto} {e : Nat} {at_ n : Int} (h : Half y w i s) (hr : rightB y = true) (hw : (w.length : Int) = y.size) (hsp : spanB y i = some (at_, n)) (hR : PutS y i ((w.drop at_.toNat).take n.toNat) s e t) : Half y w (i + 1) t := by
  have hrs := hr
  simp only [rightB, decide_eq_true_eq] at hrs
  have hpp : ((y.piece.toNat : Nat) : Int) = y.piece := by omega
  unfold spanB at hsp
  split at hsp
  · cases hsp
  rename_i hlt
  obtain ⟨_, h0, h1⟩ := span_lt (x := y) (i := (i : Int)) (by omega) (by omega)
  injection hsp with hsp
  injection hsp with ha hn
  have hat : at_ = ((i * y.piece.toNat : Nat) : Int) := by rw [← ha, Int.natCast_mul, hpp]
  obtain ⟨a, haa⟩ : ∃ a : Nat, a = i * y.piece.toNat := ⟨_, rfl⟩
  rw [← haa] at hat
  have hia : (i : Int) * y.piece = a := by rw [ha, hat]
  rw [hia] at h0 h1 hn
  have hnn : 0 ≤ n ∧ n ≤ y.size - a ∧ n ≤ y.piece ∧ (n = y.piece ∨ n = y.size - a) := by omega
  obtain ⟨m, hm⟩ : ∃ m : Nat, (m : Int) = n := ⟨n.toNat, by omega⟩
  subst hm
  have hlen : ((w.drop at_.toNat).take ((m : Int)).toNat).length = m := by
    rw [List.length_take, List.length_drop, hat]
    omega
  have hsp2 : spanB y i = some (at_, (m : Int)) := by
    unfold spanB
    rw [if_neg hlt, hia, hn, hat]
  have hhas : vw s.A (fS y) = some (w.take a) := by rw [h.has, if_pos rfl, haa]
  have hul : s.A.used ≤ s.A.names.length * 1048576 := used_le h.ha _ (fun n c hc => by
    rw [h.has] at hc
    split at hc
    · injection hc with hc
      rw [← hc, List.length_take]
      omega
    · cases hc)
  rw [h.names] at hul
  have hrm := h.room
  obtain ⟨-, a1, b1, c1, v1, n1, r1⟩ := Put_ok h.ha h.brk h.open hsp2 (by rw [hlen]) hhas (by rw [hlen]; omega) (by rw [hlen]; omega) hR
  refine ⟨a1, r1.trans h.room, b1, c1.trans h.beg, by rw [n1]; exact h.names, fun n => ?_⟩
  rw [v1]
  by_cases hnf : n = fS y
  · rw [if_pos hnf, if_pos hnf]
    have hta : (w.take a).length = a := by rw [List.length_take]; omega
    have h3 : at_.toNat = (w.take a).length := by rw [hta, hat]; rfl
    have h4 : wroteL (w.take a) at_.toNat ((w.drop at_.toNat).take ((m : Int)).toNat) = w.take a ++ (w.drop a).take m := by
      rw [h3, wroteL_add, hta]; rfl
    rw [h4]
    congr 1
    rw [← List.take_add, Nat.add_mul, Nat.one_mul, ← haa]
    rcases hnn.2.2.2 with hp | hp
    · congr 1; omega
    · rw [List.take_of_length_le (by omega), List.take_of_length_le (by omega)]
  · rw [if_neg hnf, if_neg hnf, h.has, if_neg hnf]
theorem Half.full {y : Bl} {w : List UInt8} {s : Sto} {i : Nat} (h : Half y w i s) (hr : rightB y = true) (hw : (w.length : Int) = y.size) (hi : countB y ≤ i) : vw s.A (fS y) = some w := by
  have hrs := hr
  simp only [rightB, decide_eq_true_eq] at hrs
  rw [h.has, if_pos rfl]
  congr 1
  refine List.take_of_length_le ?_
  unfold countB at hi
  rw [if_pos hr] at hi
  have h1 : y.size ≤ (i : Int) * y.piece := by
    have h2 := Int.mul_ediv_add_emod (y.size + y.piece - 1) y.piece
    have h3 := Int.emod_lt_of_pos (y.size + y.piece - 1) (by omega : 0 < y.piece)
    have h4 : y.piece * ((y.size + y.piece - 1) / y.piece) ≤ y.piece * i := Int.mul_le_mul_of_nonneg_left hi (by omega)
    rw [Int.mul_comm (i : Int)]
    omega
  have h5 : ((i * y.piece.toNat : Nat) : Int) = (i : Int) * y.piece := by rw [Int.natCast_mul]; congr 1; omega
  omega
theorem Half.good {y : Bl} {w : List UInt8} {s t : Sto} {e i : Nat} (h : Half y w i s) (hv : vw s.A (fS y) = some w) (hw : wholeB y w = true) (hR : InstallS y s e t) : e = 0 ∧ hasF t.A (fB y) = true := by
  obtain ⟨rfl, a1, b1, c1, v1, r1, f, n1⟩ := Install_ok h.ha h.brk h.open hv (by rw [h.has, if_neg (fun h => fS_ne_fB y y h.symm)]) hw hR
  exact ⟨rfl, by rw [hasF_vw, v1, if_pos rfl]; rfl⟩
theorem Clear.none {s : Sto} (h : Clear s) (y : Bl) : hasF s.A (fB y) = false ∧ usedS s = 0 := by
  refine ⟨by rw [hasF_vw, h.vw]; rfl, ?_⟩
  have := usedS_none (brk := s.brk) h.names
  obtain ⟨A, beg, brk⟩ := s
  have hb := h.beg
  simp only at hb
  subst hb
  exact this
end Go.Proofs.YtpecmnaikjbanaaGreatDoor

