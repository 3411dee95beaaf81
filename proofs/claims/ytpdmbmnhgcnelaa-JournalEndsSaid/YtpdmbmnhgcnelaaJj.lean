/- journal, part j: Commit. -/
import Derived.Test.YtpdmbmnhgcnelaaJi
set_option linter.unusedVariables false
set_option linter.unusedSimpArgs false
namespace Go.Proofs.Ytpdmbmnhgcnelaa
open Go Go.SL
attribute [local irreducible] J K Ctr Ends pts slc mapR mapI sbRow stock arrS loopP CtrY diskA

def CI (bd jb x1 x3 : Nat) (name : ByteArray) (next sz : Nat) (x : PS) : HP := Sep [diskA bd x.1, pts jb (cl [ptr bd, .string name, .int .i64 x.2.1, .int .i64 x.2.2.1, .int .i64 x.2.2.2, .bool false] 93), pts x1 (cl [ptr jb] 36), pts x3 (cl [.int .i64 (next : Int)] 3)]
def CQ (sz : Nat) (i : Nat) (x : PS) : Prop := x.2.2.1 = (sz : Int) ∧ x.1.states.length ≤ 900000000 + i ∧ x.1.writes.length ≤ 900000000 + i
theorem CQ.next {sz i : Nat} {x : PS} (h : CQ sz i x) {B : Ab} (g : Grow1 x.1 B) : CQ sz (i + 1) (B, x.2) := by
  obtain ⟨h0, h1, h2⟩ := h
  obtain ⟨g1, g2⟩ := g
  exact ⟨h0, by simp only; omega, by simp only; omega⟩
def cSync (name : ByteArray) := onA fun A e B => e = (A.sync (isName name) name).1 ∧ B = (A.sync (isName name) name).2
def cHead (name : ByteArray) (next sz : Nat) := onA fun A e B => e = (A.write (mayW name ((next % 2 * 16 : Nat) : Int) (headL next sz)) name (next % 2 * 16) (headL next sz)).1 ∧ B = (A.write (mayW name ((next % 2 * 16 : Nat) : Int) (headL next sz)) name (next % 2 * 16) (headL next sz)).2
def cSet (next : Nat) (x : PS) (e : Nat) (y : PS) : Prop := e = 0 ∧ y = (x.1, (next : Int), x.2.2.1, x.2.2.1)
def commitSteps (name : ByteArray) (next sz : Nat) : List (PS → Nat → PS → Prop) := [cSync name, cHead name next sz, cSync name, cSet next]
/-- What Commit does. -/
def CommitR (name : ByteArray) (A : Ab) (x : JN) (e : Nat) (A' : Ab) (x' : JN) : Prop :=
  if x.br then e = 10 ∧ A' = A ∧ x' = x else if x.s = x.c then e = 0 ∧ A' = A ∧ x' = x else if 1073741824 ≤ x.n then e = 3 ∧ A' = A ∧ x' = x
  else ∃ y : PS, Runs (commitSteps name (x.n.toNat + 1) x.s.toNat) (A, x.n, x.s, x.c) e y ∧ A' = y.1 ∧ x' = ⟨y.2.1, y.2.2.1, y.2.2.2, decide (e ≠ 0)⟩
theorem Commit1_any (bd jb x1 x3 : Nat) (name : ByteArray) (next sz : Nat) (A : Ab) (n s c : Int) (hwl : A.writes.length ≤ 1000000000) :
    Ctr Try.prog 53 [ptr x1] ([diskA bd A, pts jb (cl [ptr bd, .string name, .int .i64 n, .int .i64 s, .int .i64 c, .bool false] 93), pts x1 (cl [ptr jb] 36), pts x3 (cl [.int .i64 (next : Int)] 3)]) (fun r H => ∃ (e : Nat) (A1 : Ab), e = (A.sync (isName name) name).1 ∧ A1 = (A.sync (isName name) name).2 ∧ r = .int .i64 (e : Int) ∧ H = [diskA bd A1, pts jb (cl [ptr bd, .string name, .int .i64 n, .int .i64 s, .int .i64 c, .bool false] 93), pts x1 (cl [ptr jb] 36), pts x3 (cl [.int .i64 (next : Int)] 3)]) := by
  refine Ctr.enter Try.func53 (by kernel_rfl) rfl Try.ntmps53 rfl rfl ?_
  intro G F R hE
  (refine go ?_)
  refine K_drawA (fun w => Sat G w ([pts jb (cl [ptr bd, .string name, .int .i64 n, .int .i64 s, .int .i64 c, .bool false] 93), pts x1 (cl [ptr jb] 36), pts x3 (cl [.int .i64 (next : Int)] 3)])) (.st 0 (.st 1 (.st 2 (.st 3 (.st 4 (.st 5 (.st 6 (.st 7 (.act 8 (.st 9 .nil)))))))))) rfl (by kernel_rfl) (by kernel_rfl) (by kernel_rfl) (fun w hw => hw.ent entA) ?_
  (refine go ?_)
  (first | refine J_callE rfl rfl rfl rfl (Sync_dA bd A name hwl) entA ?_ (fun _ _ w hp hw => by obtain ⟨rfl, rfl⟩ := hp; exact hw.ent entA) | refine J_call0E rfl rfl rfl (Sync_dA bd A name hwl) entA ?_ (fun _ _ w hp hw => by obtain ⟨rfl, rfl⟩ := hp; exact hw.ent entA))
  rintro _ _ ⟨rfl, rfl⟩
  (refine go ?_)
  (first | refine K_return hE Try.func53 rfl _ rfl ⟨_, _, rfl, rfl, rfl, rfl⟩ entA | refine K_fallEnd hE Try.func53 rfl _ rfl ⟨_, _, rfl, rfl, rfl, rfl⟩ entA)
theorem Commit3_any (bd jb x1 x3 : Nat) (name : ByteArray) (next sz : Nat) (A : Ab) (n s c : Int) (hwl : A.writes.length ≤ 1000000000) :
    Ctr Try.prog 57 [ptr x1] ([diskA bd A, pts jb (cl [ptr bd, .string name, .int .i64 n, .int .i64 s, .int .i64 c, .bool false] 93), pts x1 (cl [ptr jb] 36), pts x3 (cl [.int .i64 (next : Int)] 3)]) (fun r H => ∃ (e : Nat) (A1 : Ab), e = (A.sync (isName name) name).1 ∧ A1 = (A.sync (isName name) name).2 ∧ r = .int .i64 (e : Int) ∧ H = [diskA bd A1, pts jb (cl [ptr bd, .string name, .int .i64 n, .int .i64 s, .int .i64 c, .bool false] 93), pts x1 (cl [ptr jb] 36), pts x3 (cl [.int .i64 (next : Int)] 3)]) := by
  refine Ctr.enter Try.func57 (by kernel_rfl) rfl Try.ntmps57 rfl rfl ?_
  intro G F R hE
  (refine go ?_)
  refine K_drawA (fun w => Sat G w ([pts jb (cl [ptr bd, .string name, .int .i64 n, .int .i64 s, .int .i64 c, .bool false] 93), pts x1 (cl [ptr jb] 36), pts x3 (cl [.int .i64 (next : Int)] 3)])) (.st 0 (.st 1 (.st 2 (.st 3 (.st 4 (.st 5 (.st 6 (.st 7 (.act 8 (.st 9 .nil)))))))))) rfl (by kernel_rfl) (by kernel_rfl) (by kernel_rfl) (fun w hw => hw.ent entA) ?_
  (refine go ?_)
  (first | refine J_callE rfl rfl rfl rfl (Sync_dA bd A name hwl) entA ?_ (fun _ _ w hp hw => by obtain ⟨rfl, rfl⟩ := hp; exact hw.ent entA) | refine J_call0E rfl rfl rfl (Sync_dA bd A name hwl) entA ?_ (fun _ _ w hp hw => by obtain ⟨rfl, rfl⟩ := hp; exact hw.ent entA))
  rintro _ _ ⟨rfl, rfl⟩
  (refine go ?_)
  (first | refine K_return hE Try.func57 rfl _ rfl ⟨_, _, rfl, rfl, rfl, rfl⟩ entA | refine K_fallEnd hE Try.func57 rfl _ rfl ⟨_, _, rfl, rfl, rfl, rfl⟩ entA)
theorem Commit2_any (bd jb x1 x3 : Nat) (name : ByteArray) (next sz : Nat) (hnx : next ≤ 2000000000) (hsz : sz ≤ 2000000000) (A : Ab) (n c : Int) (hwl : A.writes.length ≤ 1000000000) :
    Ctr Try.prog 55 [ptr x1, ptr x3] ([diskA bd A, pts jb (cl [ptr bd, .string name, .int .i64 n, .int .i64 (sz : Int), .int .i64 c, .bool false] 93), pts x1 (cl [ptr jb] 36), pts x3 (cl [.int .i64 (next : Int)] 3)]) (fun r H => ∃ (e : Nat) (A1 : Ab), e = (A.write (mayW name ((next % 2 * 16 : Nat) : Int) (headL next sz)) name (next % 2 * 16) (headL next sz)).1 ∧ A1 = (A.write (mayW name ((next % 2 * 16 : Nat) : Int) (headL next sz)) name (next % 2 * 16) (headL next sz)).2 ∧ r = .int .i64 (e : Int) ∧ H = [diskA bd A1, pts jb (cl [ptr bd, .string name, .int .i64 n, .int .i64 (sz : Int), .int .i64 c, .bool false] 93), pts x1 (cl [ptr jb] 36), pts x3 (cl [.int .i64 (next : Int)] 3)]) := by
  refine Ctr.enter Try.func55 (by kernel_rfl) rfl Try.ntmps55 rfl rfl ?_
  intro G F R hE
  (refine go ?_)
  refine K_drawA (fun w => Sat G w ([pts jb (cl [ptr bd, .string name, .int .i64 n, .int .i64 (sz : Int), .int .i64 c, .bool false] 93), pts x1 (cl [ptr jb] 36), pts x3 (cl [.int .i64 (next : Int)] 3)])) (.st 0 (.st 1 (.st 2 (.st 3 (.st 4 (.st 5 (.st 6 (.st 7 (.st 8 (.st 9 (.st 10 (.st 11 (.st 12 (.st 13 (.st 14 (.st 15 (.act 16 (.act 17 (.st 18 .nil))))))))))))))))))) rfl (by kernel_rfl) (by kernel_rfl) (by kernel_rfl) (fun w hw => hw.ent entA) ?_
  (refine go ?_)
  refine J_rem rfl rfl rfl (by omega) (by omega) ?_
  refine J_slot 12 (.int .i64 ((next % 2 : Nat) : Int)) rfl (congrArg (Value.int .i64) (by omega)) ?_
  (refine go ?_)
  refine J_mul rfl rfl rfl (by simp only [inK]; omega) ?_
  refine J_slot 13 (.int .i64 ((next % 2 * 16 : Nat) : Int)) rfl (congrArg (Value.int .i64) (by omega)) ?_
  (refine go ?_)
  (first | refine J_callE rfl rfl rfl rfl (head_any next sz (by omega) (by omega)) entA ?_ (fun _ _ w hp hw => by obtain rfl := hp; exact hw.ent entA) | refine J_call0E rfl rfl rfl (head_any next sz (by omega) (by omega)) entA ?_ (fun _ _ w hp hw => by obtain rfl := hp; exact hw.ent entA))
  rintro _ _ rfl
  (first | refine J_shape 0 rfl ?_ | refine K_shape 0 rfl ?_)
  rintro ra rc rfl
  refine J_slcB (bs := headL next sz) 0 rfl ?_
  intro hbr
  have hwr := Write_dA bd A name ((next % 2 * 16 : Nat) : Int) _ _ (headL next sz) hbr.1 hwl (by rw [headL_len]; omega) (by omega)
  rw [Int.toNat_natCast] at hwr
  (first | refine J_callE rfl rfl rfl rfl (hwr) entA ?_ (fun _ _ w hp hw => by obtain ⟨rfl, rfl⟩ := hp; exact hw.ent entA) | refine J_call0E rfl rfl rfl (hwr) entA ?_ (fun _ _ w hp hw => by obtain ⟨rfl, rfl⟩ := hp; exact hw.ent entA))
  rintro _ _ ⟨rfl, rfl⟩
  (refine go ?_)
  (first | refine K_return hE Try.func55 rfl _ rfl ⟨_, _, rfl, rfl, rfl, rfl⟩ entA | refine K_fallEnd hE Try.func55 rfl _ rfl ⟨_, _, rfl, rfl, rfl, rfl⟩ entA)
/-- A journal of which the size alone is known. -/
def jrS (jb : Nat) (s : Int) : HP := fun h => ∃ bd name n c br, pts jb (cl [ptr bd, .string name, .int .i64 n, .int .i64 s, .int .i64 c, .bool br] 93) h
theorem jrS_in (jb bd : Nat) (name : ByteArray) (n s c : Int) (br : Bool) (H : List HP) : Ent (pts jb (cl [ptr bd, .string name, .int .i64 n, .int .i64 s, .int .i64 c, .bool br] 93) :: H) (jrS jb s :: H) :=
  Ent.fold (B := [_]) fun h' hs => ⟨h', sub.refl h', bd, name, n, c, br, Sep_one hs⟩
end Go.Proofs.Ytpdmbmnhgcnelaa
namespace Go.Proofs.Ytpdmbmnhgcnelaa
open Go Go.SL
theorem jrS_cell {G : Glob} {w : World} {jb : Nat} {s : Int} {H : List HP} (hw : Sat G w (jrS jb s :: H)) : w.cell? ⟨jb, 3, none⟩ = some (.int .i64 s) := by
  obtain ⟨h, hh, bd, name, n, c, br, hA⟩ := hw.getA (i := 0) rfl
  have hb : h jb = some (cl [ptr bd, .string name, .int .i64 n, .int .i64 s, .int .i64 c, .bool br] 93) := by rw [hA jb, if_pos rfl]
  exact cell_of_hcell hh (by unfold hcell; rw [hb]; rfl)
attribute [local irreducible] J K Ctr Ends pts slc mapR mapI sbRow stock arrS loopP CtrY diskA
theorem Commit4_any (bd jb x1 x3 : Nat) (name : ByteArray) (next sz : Nat) (A : Ab) (n s c : Int) :
    Ctr Try.prog 58 [ptr x3, ptr x1] ([diskA bd A, pts jb (cl [ptr bd, .string name, .int .i64 n, .int .i64 s, .int .i64 c, .bool false] 93), pts x1 (cl [ptr jb] 36), pts x3 (cl [.int .i64 (next : Int)] 3)]) (fun r H => r = .int .i64 0 ∧ H = [diskA bd A, pts jb (cl [ptr bd, .string name, .int .i64 (next : Int), .int .i64 s, .int .i64 s, .bool false] 93), pts x1 (cl [ptr jb] 36), pts x3 (cl [.int .i64 (next : Int)] 3)]) := by
  refine Ctr.enter Try.func58 (by kernel_rfl) rfl Try.ntmps58 rfl rfl ?_
  intro G F R hE
  (refine go ?_)
  refine K_drawA (fun w => Sat G w [jrS jb s, pts x1 (cl [ptr jb] 36), pts x3 (cl [.int .i64 (next : Int)] 3)]) (.st 0 (.st 1 (.st 2 (.st 3 (.st 4 (.st 5 (.st 6 (.st 7 (.st 8 (.act 9 (.st 10 (.st 11 (.act 12 .nil))))))))))))) rfl (by kernel_rfl) (by kernel_rfl) (by kernel_rfl) (fun w hw => hw.ent (Ent.trans entA (jrS_in jb bd name _ s _ _ _))) ?_
  (refine go ?_)
  refine J_isLoad ?_
  refine J_loadS (U := tab) rfl rfl (fun w hw => jrS_cell hw) rfl rfl ?_
  (refine go ?_)
  refine J_isStore ?_
  refine J_store (U := tab) 1 (fun w hw => by exact hw.ent (Ent.trans entA (jrS_in jb bd name _ s _ _ _))) rfl rfl rfl rfl rfl rfl rfl rfl rfl ?_
  (refine go ?_)
  (first | refine K_return hE Try.func58 rfl _ rfl ⟨rfl, rfl⟩ entA | refine K_fallEnd hE Try.func58 rfl _ rfl ⟨rfl, rfl⟩ entA)
theorem Commit1_I (bd jb x1 x3 : Nat) (name : ByteArray) (next sz : Nat) (i : Nat) (hi : i ≤ 10) (x : PS) (hq : CQ sz i x) :
    Ctr Try.prog 53 [ptr x1] [CI bd jb x1 x3 name next sz x] (fun r H => ∃ (e : Nat) (x' : PS), r = .int .i64 (e : Int) ∧ H = [CI bd jb x1 x3 name next sz x'] ∧ cSync name x e x' ∧ (e = 0 → CQ sz (i + 1) x')) := by
  obtain ⟨A, n, s, c⟩ := x
  have h0 := hq.1
  simp only at h0
  subst h0
  exact (Commit1_any bd jb x1 x3 name next sz A n (sz : Int) c (by have := hq.2.2; simp only at this; omega)).conv (Ent.unsep1 _) (by
    rintro v H ⟨e, A1, he, hA1, rfl, rfl⟩
    exact ⟨_, ⟨_, (A1, n, (sz : Int), c), rfl, rfl, ⟨⟨he, hA1⟩, rfl⟩, fun _ => hq.next (hA1 ▸ grow_sync _ _ _)⟩, Ent.resep1 _⟩)
theorem Commit3_I (bd jb x1 x3 : Nat) (name : ByteArray) (next sz : Nat) (i : Nat) (hi : i ≤ 10) (x : PS) (hq : CQ sz i x) :
    Ctr Try.prog 57 [ptr x1] [CI bd jb x1 x3 name next sz x] (fun r H => ∃ (e : Nat) (x' : PS), r = .int .i64 (e : Int) ∧ H = [CI bd jb x1 x3 name next sz x'] ∧ cSync name x e x' ∧ (e = 0 → CQ sz (i + 1) x')) := by
  obtain ⟨A, n, s, c⟩ := x
  have h0 := hq.1
  simp only at h0
  subst h0
  exact (Commit3_any bd jb x1 x3 name next sz A n (sz : Int) c (by have := hq.2.2; simp only at this; omega)).conv (Ent.unsep1 _) (by
    rintro v H ⟨e, A1, he, hA1, rfl, rfl⟩
    exact ⟨_, ⟨_, (A1, n, (sz : Int), c), rfl, rfl, ⟨⟨he, hA1⟩, rfl⟩, fun _ => hq.next (hA1 ▸ grow_sync _ _ _)⟩, Ent.resep1 _⟩)
theorem Commit2_I (bd jb x1 x3 : Nat) (name : ByteArray) (next sz : Nat) (i : Nat) (hi : i ≤ 10) (hnx : next ≤ 2000000000) (hsz : sz ≤ 2000000000) (x : PS) (hq : CQ sz i x) :
    Ctr Try.prog 55 [ptr x1, ptr x3] [CI bd jb x1 x3 name next sz x] (fun r H => ∃ (e : Nat) (x' : PS), r = .int .i64 (e : Int) ∧ H = [CI bd jb x1 x3 name next sz x'] ∧ cHead name next sz x e x' ∧ (e = 0 → CQ sz (i + 1) x')) := by
  obtain ⟨A, n, s, c⟩ := x
  have h0 := hq.1
  simp only at h0
  subst h0
  exact (Commit2_any bd jb x1 x3 name next sz hnx hsz A n c (by have := hq.2.2; simp only at this; omega)).conv (Ent.unsep1 _) (by
    rintro v H ⟨e, A1, he, hA1, rfl, rfl⟩
    exact ⟨_, ⟨_, (A1, n, (sz : Int), c), rfl, rfl, ⟨⟨he, hA1⟩, rfl⟩, fun _ => hq.next (hA1 ▸ grow_write _ _ _ _ _)⟩, Ent.resep1 _⟩)
theorem Commit4_I (bd jb x1 x3 : Nat) (name : ByteArray) (next sz : Nat) (i : Nat) (hi : i ≤ 10) (x : PS) (hq : CQ sz i x) :
    Ctr Try.prog 58 [ptr x3, ptr x1] [CI bd jb x1 x3 name next sz x] (fun r H => ∃ (e : Nat) (x' : PS), r = .int .i64 (e : Int) ∧ H = [CI bd jb x1 x3 name next sz x'] ∧ cSet next x e x' ∧ (e = 0 → CQ sz (i + 1) x')) := by
  obtain ⟨A, n, s, c⟩ := x
  have h0 := hq.1
  simp only at h0
  subst h0
  exact (Commit4_any bd jb x1 x3 name next sz A n (sz : Int) c).conv (Ent.unsep1 _) (by
    rintro v H ⟨rfl, rfl⟩
    exact ⟨_, ⟨_, (A, (next : Int), (sz : Int), (sz : Int)), (by exact (congrArg (Value.int .i64) (show (0 : Int) = ((0 : Nat) : Int) from rfl))), rfl, ⟨rfl, rfl⟩, fun _ => ⟨rfl, by have := hq.2.1; simp only at this ⊢; omega, by have := hq.2.2; simp only at this ⊢; omega⟩⟩, Ent.resep1 _⟩)
set_option maxRecDepth 20000 in
theorem Commit_any (jb bd : Nat) (name : ByteArray) (A : Ab) (x : JN) (hn : 0 ≤ x.n) (hs : 0 ≤ x.s ∧ x.s ≤ 1000000000) (hst : A.states.length ≤ 900000000) (hwr : A.writes.length ≤ 900000000) :
    Ctr Try.prog 19 [ptr jb] [diskA bd A, jrN jb bd name x]
      (fun r H => ∃ (e : Nat) (A' : Ab) (x' : JN), r = .int .i64 (e : Int) ∧ H = [diskA bd A', jrN jb bd name x'] ∧ CommitR name A x e A' x') := by
  obtain ⟨n, s, c, br⟩ := x
  simp only at hs hn
  dsimp only [jrN, jr]
  refine Ctr.enter Try.func19 (by kernel_rfl) rfl Try.ntmps19 rfl rfl ?_
  intro G F R hE
  (refine go ?_)
  refine J_box rfl rfl (fun _ _ _ => trivial) ?_
  intro x1
  cases br with
  | true =>
    (refine go ?_)
    (first | refine K_return hE Try.func19 rfl _ rfl ⟨10, A, ⟨n, s, c, true⟩, rfl, rfl, (by unfold CommitR; rw [if_pos rfl]; exact ⟨rfl, rfl, rfl⟩)⟩ entA | refine K_fallEnd hE Try.func19 rfl _ rfl ⟨10, A, ⟨n, s, c, true⟩, rfl, rfl, (by unfold CommitR; rw [if_pos rfl]; exact ⟨rfl, rfl, rfl⟩)⟩ entA)
  | false =>
    (refine go ?_)
    refine K_drawA (fun w => Sat G w ([pts x1 (cl [ptr jb] 36), pts jb (cl [ptr bd, .string name, .int .i64 n, .int .i64 s, .int .i64 c, .bool false] 93)])) (.st 0 (.st 1 (.st 2 (.st 3 (.st 4 (.st 5 (.st 6 (.st 7 (.st 8 (.st 9 .nil)))))))))) rfl (by kernel_rfl) (by kernel_rfl) (by kernel_rfl) (fun w hw => hw.ent entA) ?_
    (refine go ?_)
    refine K_condP rfl rfl ?_ ?_
    · intro heq
      (refine go ?_)
      (first | refine K_return hE Try.func19 rfl _ rfl ⟨0, A, ⟨n, s, c, false⟩, rfl, rfl, (by unfold CommitR; rw [if_neg (by simp), if_pos heq]; exact ⟨rfl, rfl, rfl⟩)⟩ entA | refine K_fallEnd hE Try.func19 rfl _ rfl ⟨0, A, ⟨n, s, c, false⟩, rfl, rfl, (by unfold CommitR; rw [if_neg (by simp), if_pos heq]; exact ⟨rfl, rfl, rfl⟩)⟩ entA)
    intro hne
    (refine go ?_)
    refine K_condP rfl rfl ?_ ?_
    · intro hbig
      (refine go ?_)
      (first | refine K_return hE Try.func19 rfl _ rfl ⟨3, A, ⟨n, s, c, false⟩, rfl, rfl, (by unfold CommitR; rw [if_neg (by simp), if_neg hne, if_pos hbig]; exact ⟨rfl, rfl, rfl⟩)⟩ entA | refine K_fallEnd hE Try.func19 rfl _ rfl ⟨3, A, ⟨n, s, c, false⟩, rfl, rfl, (by unfold CommitR; rw [if_neg (by simp), if_neg hne, if_pos hbig]; exact ⟨rfl, rfl, rfl⟩)⟩ entA)
    intro hsm
    obtain ⟨sz, rfl⟩ : ∃ sz : Nat, s = (sz : Int) := ⟨s.toNat, by omega⟩
    obtain ⟨nx, hnx⟩ : ∃ nx : Nat, n + 1 = (nx : Int) := ⟨n.toNat + 1, by omega⟩
    (refine go ?_)
    refine J_slot 29 (.int .i64 (nx : Int)) rfl (congrArg (Value.int .i64) hnx) ?_
    refine J_alloc (U := tab) rfl rfl rfl (fun _ _ _ => trivial) ?_
    intro x3
    (refine go ?_)
    refine K_drawA (fun w => Sat G w ([pts x1 (cl [ptr jb] 36)])) (.st 0 (.st 1 (.st 2 (.st 3 (.st 4 (.act 5 (.act 6 (.act 7 (.st 8 .nil))))))))) rfl (by kernel_rfl) (by kernel_rfl) (by kernel_rfl) (fun w hw => hw.ent entA) ?_
    (refine go ?_)
    have hst1 : ∀ (i : Nat) (fv : Value) (s : PS → Nat → PS → Prop), ([.func (.func 53) #[] #[ptr x1], .func (.func 55) #[] #[ptr x1, ptr x3], .func (.func 57) #[] #[ptr x1], .func (.func 58) #[] #[ptr x3, ptr x1] ] : List Value)[i]? = some fv → (commitSteps name nx sz)[i]? = some s → ∃ g fi cap, fv = .func (.func g) fi cap ∧ ∀ x, CQ sz i x → Ctr Try.prog g (fi.toList ++ cap.toList) [CI bd jb x1 x3 name nx sz x] (fun r H => ∃ (e : Nat) (x' : PS), r = .int .i64 (e : Int) ∧ H = [CI bd jb x1 x3 name nx sz x'] ∧ s x e x' ∧ (e = 0 → CQ sz (i + 1) x')) := by
      intro i f1 s1 h1 h2
      match i, h1, h2 with
      | 0, h1, h2 => cases h1; cases h2; exact ⟨_, _, _, rfl, fun x hq => Commit1_I bd jb x1 x3 name nx sz 0 (by omega) x hq⟩
      | 1, h1, h2 => cases h1; cases h2; exact ⟨_, _, _, rfl, fun x hq => Commit2_I bd jb x1 x3 name nx sz 1 (by omega) (by omega) (by omega) x hq⟩
      | 2, h1, h2 => cases h1; cases h2; exact ⟨_, _, _, rfl, fun x hq => Commit3_I bd jb x1 x3 name nx sz 2 (by omega) x hq⟩
      | 3, h1, h2 => cases h1; cases h2; exact ⟨_, _, _, rfl, fun x hq => Commit4_I bd jb x1 x3 name nx sz 3 (by omega) x hq⟩
      | k + 4, h1, h2 => simp at h1
    refine J_buildSlice1 (U := tab) (cs := [.func (.func 53) #[] #[ptr x1], .func (.func 55) #[] #[ptr x1, ptr x3], .func (.func 57) #[] #[ptr x1], .func (.func 58) #[] #[ptr x3, ptr x1] ]) rfl rfl rfl rfl rfl rfl rfl rfl rfl (fun _ w hw => by exact hw.ent entA) ?_
    intro row
    have hall := all_any (CI bd jb x1 x3 name nx sz) (pts row (cl ([.func (.func 53) #[] #[ptr x1], .func (.func 55) #[] #[ptr x1, ptr x3], .func (.func 57) #[] #[ptr x1], .func (.func 58) #[] #[ptr x3, ptr x1] ]) 46)) (.slice (some ⟨row, 0, none⟩) 4 4) ([.func (.func 53) #[] #[ptr x1], .func (.func 55) #[] #[ptr x1, ptr x3], .func (.func 57) #[] #[ptr x1], .func (.func 58) #[] #[ptr x3, ptr x1] ]) (Vw.pts rfl) (by show 4 ≤ _; omega) (commitSteps name nx sz) rfl (CQ sz) hst1 (A, n, (sz : Int), c) ⟨rfl, by simp only; omega, by simp only; omega⟩
    refine J_callE rfl rfl rfl rfl hall (Ent.trans entA (Ent.cons _ (Ent.resep ([diskA bd A, pts jb (cl [ptr bd, .string name, .int .i64 n, .int .i64 (sz : Int), .int .i64 c, .bool false] 93), pts x1 (cl [ptr jb] 36), pts x3 (cl [.int .i64 (nx : Int)] 3)]) _))) ?_ (fun _ _ w hp hw => by
      obtain ⟨e, y, rfl, rfl, hr⟩ := hp
      exact hw.ent (Ent.trans (Ent.trans (Ent.pick [1] rfl) (Ent.unsep ([diskA bd y.1, pts jb (cl [ptr bd, .string name, .int .i64 y.2.1, .int .i64 y.2.2.1, .int .i64 y.2.2.2, .bool false] 93), pts x1 (cl [ptr jb] 36), pts x3 (cl [.int .i64 (nx : Int)] 3)]) _)) entA))
    rintro _ _ ⟨e, y, rfl, rfl, hr⟩
    refine J_ent (Ent.trans (Ent.pick [1] rfl) (Ent.unsep ([diskA bd y.1, pts jb (cl [ptr bd, .string name, .int .i64 y.2.1, .int .i64 y.2.2.1, .int .i64 y.2.2.2, .bool false] 93), pts x1 (cl [ptr jb] 36), pts x3 (cl [.int .i64 (nx : Int)] 3)]) _)) ?_
    refine J_callE rfl rfl rfl rfl (breaks_any jb bd name y.2.1 y.2.2.1 y.2.2.2 false e) entA ?_ (fun _ _ w hp hw => by obtain ⟨rfl, rfl⟩ := hp; exact hw.ent entA)
    rintro _ _ ⟨rfl, rfl⟩
    unfold jr
    (refine go ?_)
    (first | refine K_return hE Try.func19 rfl _ rfl ⟨e, y.1, ⟨y.2.1, y.2.2.1, y.2.2.2, decide (e ≠ 0)⟩, rfl, rfl, (by unfold CommitR; rw [if_neg (by simp), if_neg hne, if_neg hsm]; exact ⟨y, (by simp only [Int.toNat_natCast]; rw [show n.toNat + 1 = nx from by omega]; exact hr), rfl, rfl⟩)⟩ entA | refine K_fallEnd hE Try.func19 rfl _ rfl ⟨e, y.1, ⟨y.2.1, y.2.2.1, y.2.2.2, decide (e ≠ 0)⟩, rfl, rfl, (by unfold CommitR; rw [if_neg (by simp), if_neg hne, if_neg hsm]; exact ⟨y, (by simp only [Int.toNat_natCast]; rw [show n.toNat + 1 = nx from by omega]; exact hr), rfl, rfl⟩)⟩ entA)
end Go.Proofs.Ytpdmbmnhgcnelaa
