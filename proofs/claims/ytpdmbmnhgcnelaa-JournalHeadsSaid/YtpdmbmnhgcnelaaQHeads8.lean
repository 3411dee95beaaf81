/- Texts of one claim, joined: Jj, Jk0, Jk, Jl, Jq, Ry, Fu. -/
import Derived.Test.YtpdmbmnhgcnelaaQHeads3
import Derived.Test.YtpdmbmnhgcnelaaQHeads6
import Derived.Test.YtpdmbmnhgcnelaaQHeads7
/- journal, part j: Commit. -/
set_option linter.unusedVariables false
set_option linter.unusedSimpArgs false
namespace Go.Proofs.Ytpdmbmnhgcnelaa
open Go Go.SL
attribute [local irreducible] J K Ctr Ends pts slc mapR mapI sbRow stock arrS loopP CtrY diskA

def CI (bd jb x1 x3 : Nat) (name : ByteArray) (next sz : Nat) (x : PS) : HP := Sep [diskA bd x.1, pts jb (cl [ptr bd, .string name, .int .i64 x.2.1, .int .i64 x.2.2.1, .int .i64 x.2.2.2, .bool false] 93), pts x1 (cl [ptr jb] 36), pts x3 (cl [.int .i64 (next : Int)] 3)]
def CQ (sz : Nat) (i : Nat) (x : PS) : Prop := x.2.2.1 = (sz : Int) ∧ x.1.states.length ≤ 900000000 + i ∧ x.1.writes.length ≤ 900000000 + i
theorem CQ.next {sz i : Nat} {x : PS} (h : CQ sz i x) {B : Ab} (g : Grow1 x.1 B) : CQ sz (i + 1) (B, x.2) := by
  obtain ⟨h0, h1, h2⟩ := h
  obtain ⟨g1, g2⟩ := g
  exact ⟨h0, by simp only; omega, by simp only; omega⟩
def cSync (name : ByteArray) := onA fun A e B => e = (A.sync (isName name) name).1 ∧ B = (A.sync (isName name) name).2
def cHead (name : ByteArray) (next sz : Nat) := onA fun A e B => e = (A.write (mayW name ((next % 2 * 16 : Nat) : Int) (headL next sz)) name (next % 2 * 16) (headL next sz)).1 ∧ B = (A.write (mayW name ((next % 2 * 16 : Nat) : Int) (headL next sz)) name (next % 2 * 16) (headL next sz)).2
def cSet (next : Nat) (x : PS) (e : Nat) (y : PS) : Prop := e = 0 ∧ y = (x.1, (next : Int), x.2.2.1, x.2.2.1)
def commitSteps (name : ByteArray) (next sz : Nat) : List (PS → Nat → PS → Prop) := [cSync name, cHead name next sz, cSync name, cSet next]
/-- What Commit does. -/
def CommitR (name : ByteArray) (A : Ab) (x : JN) (e : Nat) (A' : Ab) (x' : JN) : Prop :=
  if x.br then e = 10 ∧ A' = A ∧ x' = x else if x.s = x.c then e = 0 ∧ A' = A ∧ x' = x else if 1073741824 ≤ x.n then e = 3 ∧ A' = A ∧ x' = x
  else ∃ y : PS, Runs (commitSteps name (x.n.toNat + 1) x.s.toNat) (A, x.n, x.s, x.c) e y ∧ A' = y.1 ∧ x' = ⟨y.2.1, y.2.2.1, y.2.2.2, decide (e ≠ 0)⟩
theorem Commit1_any (bd jb x1 x3 : Nat) (name : ByteArray) (next sz : Nat) (A : Ab) (n s c : Int) (hwl : A.writes.length ≤ 1000000000) :
    Ctr Try.prog 53 [ptr x1] ([diskA bd A, pts jb (cl [ptr bd, .string name, .int .i64 n, .int .i64 s, .int .i64 c, .bool false] 93), pts x1 (cl [ptr jb] 36), pts x3 (cl [.int .i64 (next : Int)] 3)]) (fun r H => ∃ (e : Nat) (A1 : Ab), e = (A.sync (isName name) name).1 ∧ A1 = (A.sync (isName name) name).2 ∧ r = .int .i64 (e : Int) ∧ H = [diskA bd A1, pts jb (cl [ptr bd, .string name, .int .i64 n, .int .i64 s, .int .i64 c, .bool false] 93), pts x1 (cl [ptr jb] 36), pts x3 (cl [.int .i64 (next : Int)] 3)]) := by
  refine Ctr.enter Try.func53 (by kernel_rfl) rfl Try.ntmps53 rfl rfl ?_
  intro G F R hE
  (refine go ?_)
  refine K_drawA (fun w => Sat G w ([pts jb (cl [ptr bd, .string name, .int .i64 n, .int .i64 s, .int .i64 c, .bool false] 93), pts x1 (cl [ptr jb] 36), pts x3 (cl [.int .i64 (next : Int)] 3)])) (.st 0 (.st 1 (.st 2 (.st 3 (.st 4 (.st 5 (.st 6 (.st 7 (.act 8 (.st 9 .nil)))))))))) rfl (by kernel_rfl) (by kernel_rfl) (by kernel_rfl) (fun w hw => hw.ent entA) ?_
  (refine go ?_)
  (first | refine J_callE rfl rfl rfl rfl (Sync_dA bd A name hwl) entA ?_ (fun _ _ w hp hw => by obtain ⟨rfl, rfl⟩ := hp; exact hw.ent entA) | refine J_call0E rfl rfl rfl (Sync_dA bd A name hwl) entA ?_ (fun _ _ w hp hw => by obtain ⟨rfl, rfl⟩ := hp; exact hw.ent entA))
  rintro _ _ ⟨rfl, rfl⟩
  (refine go ?_)
  (first | refine K_return hE Try.func53 rfl _ rfl ⟨_, _, rfl, rfl, rfl, rfl⟩ entA | refine K_fallEnd hE Try.func53 rfl _ rfl ⟨_, _, rfl, rfl, rfl, rfl⟩ entA)
theorem Commit3_any (bd jb x1 x3 : Nat) (name : ByteArray) (next sz : Nat) (A : Ab) (n s c : Int) (hwl : A.writes.length ≤ 1000000000) :
    Ctr Try.prog 57 [ptr x1] ([diskA bd A, pts jb (cl [ptr bd, .string name, .int .i64 n, .int .i64 s, .int .i64 c, .bool false] 93), pts x1 (cl [ptr jb] 36), pts x3 (cl [.int .i64 (next : Int)] 3)]) (fun r H => ∃ (e : Nat) (A1 : Ab), e = (A.sync (isName name) name).1 ∧ A1 = (A.sync (isName name) name).2 ∧ r = .int .i64 (e : Int) ∧ H = [diskA bd A1, pts jb (cl [ptr bd, .string name, .int .i64 n, .int .i64 s, .int .i64 c, .bool false] 93), pts x1 (cl [ptr jb] 36), pts x3 (cl [.int .i64 (next : Int)] 3)]) := by
  refine Ctr.enter Try.func57 (by kernel_rfl) rfl Try.ntmps57 rfl rfl ?_
  intro G F R hE
  (refine go ?_)
  refine K_drawA (fun w => Sat G w ([pts jb (cl [ptr bd, .string name, .int .i64 n, .int .i64 s, .int .i64 c, .bool false] 93), pts x1 (cl [ptr jb] 36), pts x3 (cl [.int .i64 (next : Int)] 3)])) (.st 0 (.st 1 (.st 2 (.st 3 (.st 4 (.st 5 (.st 6 (.st 7 (.act 8 (.st 9 .nil)))))))))) rfl (by kernel_rfl) (by kernel_rfl) (by kernel_rfl) (fun w hw => hw.ent entA) ?_
  (refine go ?_)
  (first | refine J_callE rfl rfl rfl rfl (Sync_dA bd A name hwl) entA ?_ (fun _ _ w hp hw => by obtain ⟨rfl, rfl⟩ := hp; exact hw.ent entA) | refine J_call0E rfl rfl rfl (Sync_dA bd A name hwl) entA ?_ (fun _ _ w hp hw => by obtain ⟨rfl, rfl⟩ := hp; exact hw.ent entA))
  rintro _ _ ⟨rfl, rfl⟩
  (refine go ?_)
  (first | refine K_return hE Try.func57 rfl _ rfl ⟨_, _, rfl, rfl, rfl, rfl⟩ entA | refine K_fallEnd hE Try.func57 rfl _ rfl ⟨_, _, rfl, rfl, rfl, rfl⟩ entA)
theorem Commit2_any (bd jb x1 x3 : Nat) (name : ByteArray) (next sz : Nat) (hnx : next ≤ 2000000000) (hsz : sz ≤ 2000000000) (A : Ab) (n c : Int) (hwl : A.writes.length ≤ 1000000000) :
    Ctr Try.prog 55 [ptr x1, ptr x3] ([diskA bd A, pts jb (cl [ptr bd, .string name, .int .i64 n, .int .i64 (sz : Int), .int .i64 c, .bool false] 93), pts x1 (cl [ptr jb] 36), pts x3 (cl [.int .i64 (next : Int)] 3)]) (fun r H => ∃ (e : Nat) (A1 : Ab), e = (A.write (mayW name ((next % 2 * 16 : Nat) : Int) (headL next sz)) name (next % 2 * 16) (headL next sz)).1 ∧ A1 = (A.write (mayW name ((next % 2 * 16 : Nat) : Int) (headL next sz)) name (next % 2 * 16) (headL next sz)).2 ∧ r = .int .i64 (e : Int) ∧ H = [diskA bd A1, pts jb (cl [ptr bd, .string name, .int .i64 n, .int .i64 (sz : Int), .int .i64 c, .bool false] 93), pts x1 (cl [ptr jb] 36), pts x3 (cl [.int .i64 (next : Int)] 3)]) := by
  refine Ctr.enter Try.func55 (by kernel_rfl) rfl Try.ntmps55 rfl rfl ?_
  intro G F R hE
  (refine go ?_)
  refine K_drawA (fun w => Sat G w ([pts jb (cl [ptr bd, .string name, .int .i64 n, .int .i64 (sz : Int), .int .i64 c, .bool false] 93), pts x1 (cl [ptr jb] 36), pts x3 (cl [.int .i64 (next : Int)] 3)])) (.st 0 (.st 1 (.st 2 (.st 3 (.st 4 (.st 5 (.st 6 (.st 7 (.st 8 (.st 9 (.st 10 (.st 11 (.st 12 (.st 13 (.st 14 (.st 15 (.act 16 (.act 17 (.st 18 .nil))))))))))))))))))) rfl (by kernel_rfl) (by kernel_rfl) (by kernel_rfl) (fun w hw => hw.ent entA) ?_
  (refine go ?_)
  refine J_rem rfl rfl rfl (by omega) (by omega) ?_
  refine J_slot 12 (.int .i64 ((next % 2 : Nat) : Int)) rfl (congrArg (Value.int .i64) (by omega)) ?_
  (refine go ?_)
  refine J_mul rfl rfl rfl (by simp only [inK]; omega) ?_
  refine J_slot 13 (.int .i64 ((next % 2 * 16 : Nat) : Int)) rfl (congrArg (Value.int .i64) (by omega)) ?_
  (refine go ?_)
  (first | refine J_callE rfl rfl rfl rfl (head_any next sz (by omega) (by omega)) entA ?_ (fun _ _ w hp hw => by obtain rfl := hp; exact hw.ent entA) | refine J_call0E rfl rfl rfl (head_any next sz (by omega) (by omega)) entA ?_ (fun _ _ w hp hw => by obtain rfl := hp; exact hw.ent entA))
  rintro _ _ rfl
  (first | refine J_shape 0 rfl ?_ | refine K_shape 0 rfl ?_)
  rintro ra rc rfl
  refine J_slcB (bs := headL next sz) 0 rfl ?_
  intro hbr
  have hwr := Write_dA bd A name ((next % 2 * 16 : Nat) : Int) _ _ (headL next sz) hbr.1 hwl (by rw [headL_len]; omega) (by omega)
  rw [Int.toNat_natCast] at hwr
  (first | refine J_callE rfl rfl rfl rfl (hwr) entA ?_ (fun _ _ w hp hw => by obtain ⟨rfl, rfl⟩ := hp; exact hw.ent entA) | refine J_call0E rfl rfl rfl (hwr) entA ?_ (fun _ _ w hp hw => by obtain ⟨rfl, rfl⟩ := hp; exact hw.ent entA))
  rintro _ _ ⟨rfl, rfl⟩
  (refine go ?_)
  (first | refine K_return hE Try.func55 rfl _ rfl ⟨_, _, rfl, rfl, rfl, rfl⟩ entA | refine K_fallEnd hE Try.func55 rfl _ rfl ⟨_, _, rfl, rfl, rfl, rfl⟩ entA)
/-- A journal of which the size alone is known. -/
def jrS (jb : Nat) (s : Int) : HP := fun h => ∃ bd name n c br, pts jb (cl [ptr bd, .string name, .int .i64 n, .int .i64 s, .int .i64 c, .bool br] 93) h
theorem jrS_in (jb bd : Nat) (name : ByteArray) (n s c : Int) (br : Bool) (H : List HP) : Ent (pts jb (cl [ptr bd, .string name, .int .i64 n, .int .i64 s, .int .i64 c, .bool br] 93) :: H) (jrS jb s :: H) :=
  Ent.fold (B := [_]) fun h' hs => ⟨h', sub.refl h', bd, name, n, c, br, Sep_one hs⟩
end Go.Proofs.Ytpdmbmnhgcnelaa
namespace Go.Proofs.Ytpdmbmnhgcnelaa
open Go Go.SL
theorem jrS_cell {G : Glob} {w : World} {jb : Nat} {s : Int} {H : List HP} (hw : Sat G w (jrS jb s :: H)) : w.cell? ⟨jb, 3, none⟩ = some (.int .i64 s) := by
  obtain ⟨h, hh, bd, name, n, c, br, hA⟩ := hw.getA (i := 0) rfl
  have hb : h jb = some (cl [ptr bd, .string name, .int .i64 n, .int .i64 s, .int .i64 c, .bool br] 93) := by rw [hA jb, if_pos rfl]
  exact cell_of_hcell hh (by unfold hcell; rw [hb]; rfl)
attribute [local irreducible] J K Ctr Ends pts slc mapR mapI sbRow stock arrS loopP CtrY diskA
theorem Commit4_any (bd jb x1 x3 : Nat) (name : ByteArray) (next sz : Nat) (A : Ab) (n s c : Int) :
    Ctr Try.prog 58 [ptr x3, ptr x1] ([diskA bd A, pts jb (cl [ptr bd, .string name, .int .i64 n, .int .i64 s, .int .i64 c, .bool false] 93), pts x1 (cl [ptr jb] 36), pts x3 (cl [.int .i64 (next : Int)] 3)]) (fun r H => r = .int .i64 0 ∧ H = [diskA bd A, pts jb (cl [ptr bd, .string name, .int .i64 (next : Int), .int .i64 s, .int .i64 s, .bool false] 93), pts x1 (cl [ptr jb] 36), pts x3 (cl [.int .i64 (next : Int)] 3)]) := by
  refine Ctr.enter Try.func58 (by kernel_rfl) rfl Try.ntmps58 rfl rfl ?_
  intro G F R hE
  (refine go ?_)
  refine K_drawA (fun w => Sat G w [jrS jb s, pts x1 (cl [ptr jb] 36), pts x3 (cl [.int .i64 (next : Int)] 3)]) (.st 0 (.st 1 (.st 2 (.st 3 (.st 4 (.st 5 (.st 6 (.st 7 (.st 8 (.act 9 (.st 10 (.st 11 (.act 12 .nil))))))))))))) rfl (by kernel_rfl) (by kernel_rfl) (by kernel_rfl) (fun w hw => hw.ent (Ent.trans entA (jrS_in jb bd name _ s _ _ _))) ?_
  (refine go ?_)
  refine J_isLoad ?_
  refine J_loadS (U := tab) rfl rfl (fun w hw => jrS_cell hw) rfl rfl ?_
  (refine go ?_)
  refine J_isStore ?_
  refine J_store (U := tab) 1 (fun w hw => by exact hw.ent (Ent.trans entA (jrS_in jb bd name _ s _ _ _))) rfl rfl rfl rfl rfl rfl rfl rfl rfl ?_
  (refine go ?_)
  (first | refine K_return hE Try.func58 rfl _ rfl ⟨rfl, rfl⟩ entA | refine K_fallEnd hE Try.func58 rfl _ rfl ⟨rfl, rfl⟩ entA)
theorem Commit1_I (bd jb x1 x3 : Nat) (name : ByteArray) (next sz : Nat) (i : Nat) (hi : i ≤ 10) (x : PS) (hq : CQ sz i x) :
    Ctr Try.prog 53 [ptr x1] [CI bd jb x1 x3 name next sz x] (fun r H => ∃ (e : Nat) (x' : PS), r = .int .i64 (e : Int) ∧ H = [CI bd jb x1 x3 name next sz x'] ∧ cSync name x e x' ∧ (e = 0 → CQ sz (i + 1) x')) := by
  obtain ⟨A, n, s, c⟩ := x
  have h0 := hq.1
  simp only at h0
  subst h0
  exact (Commit1_any bd jb x1 x3 name next sz A n (sz : Int) c (by have := hq.2.2; simp only at this; omega)).conv (Ent.unsep1 _) (by
    rintro v H ⟨e, A1, he, hA1, rfl, rfl⟩
    exact ⟨_, ⟨_, (A1, n, (sz : Int), c), rfl, rfl, ⟨⟨he, hA1⟩, rfl⟩, fun _ => hq.next (hA1 ▸ grow_sync _ _ _)⟩, Ent.resep1 _⟩)
theorem Commit3_I (bd jb x1 x3 : Nat) (name : ByteArray) (next sz : Nat) (i : Nat) (hi : i ≤ 10) (x : PS) (hq : CQ sz i x) :
    Ctr Try.prog 57 [ptr x1] [CI bd jb x1 x3 name next sz x] (fun r H => ∃ (e : Nat) (x' : PS), r = .int .i64 (e : Int) ∧ H = [CI bd jb x1 x3 name next sz x'] ∧ cSync name x e x' ∧ (e = 0 → CQ sz (i + 1) x')) := by
  obtain ⟨A, n, s, c⟩ := x
  have h0 := hq.1
  simp only at h0
  subst h0
  exact (Commit3_any bd jb x1 x3 name next sz A n (sz : Int) c (by have := hq.2.2; simp only at this; omega)).conv (Ent.unsep1 _) (by
    rintro v H ⟨e, A1, he, hA1, rfl, rfl⟩
    exact ⟨_, ⟨_, (A1, n, (sz : Int), c), rfl, rfl, ⟨⟨he, hA1⟩, rfl⟩, fun _ => hq.next (hA1 ▸ grow_sync _ _ _)⟩, Ent.resep1 _⟩)
theorem Commit2_I (bd jb x1 x3 : Nat) (name : ByteArray) (next sz : Nat) (i : Nat) (hi : i ≤ 10) (hnx : next ≤ 2000000000) (hsz : sz ≤ 2000000000) (x : PS) (hq : CQ sz i x) :
    Ctr Try.prog 55 [ptr x1, ptr x3] [CI bd jb x1 x3 name next sz x] (fun r H => ∃ (e : Nat) (x' : PS), r = .int .i64 (e : Int) ∧ H = [CI bd jb x1 x3 name next sz x'] ∧ cHead name next sz x e x' ∧ (e = 0 → CQ sz (i + 1) x')) := by
  obtain ⟨A, n, s, c⟩ := x
  have h0 := hq.1
  simp only at h0
  subst h0
  exact (Commit2_any bd jb x1 x3 name next sz hnx hsz A n c (by have := hq.2.2; simp only at this; omega)).conv (Ent.unsep1 _) (by
    rintro v H ⟨e, A1, he, hA1, rfl, rfl⟩
    exact ⟨_, ⟨_, (A1, n, (sz : Int), c), rfl, rfl, ⟨⟨he, hA1⟩, rfl⟩, fun _ => hq.next (hA1 ▸ grow_write _ _ _ _ _)⟩, Ent.resep1 _⟩)
theorem Commit4_I (bd jb x1 x3 : Nat) (name : ByteArray) (next sz : Nat) (i : Nat) (hi : i ≤ 10) (x : PS) (hq : CQ sz i x) :
    Ctr Try.prog 58 [ptr x3, ptr x1] [CI bd jb x1 x3 name next sz x] (fun r H => ∃ (e : Nat) (x' : PS), r = .int .i64 (e : Int) ∧ H = [CI bd jb x1 x3 name next sz x'] ∧ cSet next x e x' ∧ (e = 0 → CQ sz (i + 1) x')) := by
  obtain ⟨A, n, s, c⟩ := x
  have h0 := hq.1
  simp only at h0
  subst h0
  exact (Commit4_any bd jb x1 x3 name next sz A n (sz : Int) c).conv (Ent.unsep1 _) (by
    rintro v H ⟨rfl, rfl⟩
    exact ⟨_, ⟨_, (A, (next : Int), (sz : Int), (sz : Int)), (by exact (congrArg (Value.int .i64) (show (0 : Int) = ((0 : Nat) : Int) from rfl))), rfl, ⟨rfl, rfl⟩, fun _ => ⟨rfl, by have := hq.2.1; simp only at this ⊢; omega, by have := hq.2.2; simp only at this ⊢; omega⟩⟩, Ent.resep1 _⟩)
set_option maxRecDepth 20000 in
theorem Commit_any (jb bd : Nat) (name : ByteArray) (A : Ab) (x : JN) (hn : 0 ≤ x.n) (hs : 0 ≤ x.s ∧ x.s ≤ 1000000000) (hst : A.states.length ≤ 900000000) (hwr : A.writes.length ≤ 900000000) :
    Ctr Try.prog 19 [ptr jb] [diskA bd A, jrN jb bd name x]
      (fun r H => ∃ (e : Nat) (A' : Ab) (x' : JN), r = .int .i64 (e : Int) ∧ H = [diskA bd A', jrN jb bd name x'] ∧ CommitR name A x e A' x') := by
  obtain ⟨n, s, c, br⟩ := x
  simp only at hs hn
  dsimp only [jrN, jr]
  refine Ctr.enter Try.func19 (by kernel_rfl) rfl Try.ntmps19 rfl rfl ?_
  intro G F R hE
  (refine go ?_)
  refine J_box rfl rfl (fun _ _ _ => trivial) ?_
  intro x1
  cases br with
  | true =>
    (refine go ?_)
    (first | refine K_return hE Try.func19 rfl _ rfl ⟨10, A, ⟨n, s, c, true⟩, rfl, rfl, (by unfold CommitR; rw [if_pos rfl]; exact ⟨rfl, rfl, rfl⟩)⟩ entA | refine K_fallEnd hE Try.func19 rfl _ rfl ⟨10, A, ⟨n, s, c, true⟩, rfl, rfl, (by unfold CommitR; rw [if_pos rfl]; exact ⟨rfl, rfl, rfl⟩)⟩ entA)
  | false =>
    (refine go ?_)
    refine K_drawA (fun w => Sat G w ([pts x1 (cl [ptr jb] 36), pts jb (cl [ptr bd, .string name, .int .i64 n, .int .i64 s, .int .i64 c, .bool false] 93)])) (.st 0 (.st 1 (.st 2 (.st 3 (.st 4 (.st 5 (.st 6 (.st 7 (.st 8 (.st 9 .nil)))))))))) rfl (by kernel_rfl) (by kernel_rfl) (by kernel_rfl) (fun w hw => hw.ent entA) ?_
    (refine go ?_)
    refine K_condP rfl rfl ?_ ?_
    · intro heq
      (refine go ?_)
      (first | refine K_return hE Try.func19 rfl _ rfl ⟨0, A, ⟨n, s, c, false⟩, rfl, rfl, (by unfold CommitR; rw [if_neg (by simp), if_pos heq]; exact ⟨rfl, rfl, rfl⟩)⟩ entA | refine K_fallEnd hE Try.func19 rfl _ rfl ⟨0, A, ⟨n, s, c, false⟩, rfl, rfl, (by unfold CommitR; rw [if_neg (by simp), if_pos heq]; exact ⟨rfl, rfl, rfl⟩)⟩ entA)
    intro hne
    (refine go ?_)
    refine K_condP rfl rfl ?_ ?_
    · intro hbig
      (refine go ?_)
      (first | refine K_return hE Try.func19 rfl _ rfl ⟨3, A, ⟨n, s, c, false⟩, rfl, rfl, (by unfold CommitR; rw [if_neg (by simp), if_neg hne, if_pos hbig]; exact ⟨rfl, rfl, rfl⟩)⟩ entA | refine K_fallEnd hE Try.func19 rfl _ rfl ⟨3, A, ⟨n, s, c, false⟩, rfl, rfl, (by unfold CommitR; rw [if_neg (by simp), if_neg hne, if_pos hbig]; exact ⟨rfl, rfl, rfl⟩)⟩ entA)
    intro hsm
    obtain ⟨sz, rfl⟩ : ∃ sz : Nat, s = (sz : Int) := ⟨s.toNat, by omega⟩
    obtain ⟨nx, hnx⟩ : ∃ nx : Nat, n + 1 = (nx : Int) := ⟨n.toNat + 1, by omega⟩
    (refine go ?_)
    refine J_slot 29 (.int .i64 (nx : Int)) rfl (congrArg (Value.int .i64) hnx) ?_
    refine J_alloc (U := tab) rfl rfl rfl (fun _ _ _ => trivial) ?_
    intro x3
    (refine go ?_)
    refine K_drawA (fun w => Sat G w ([pts x1 (cl [ptr jb] 36)])) (.st 0 (.st 1 (.st 2 (.st 3 (.st 4 (.act 5 (.act 6 (.act 7 (.st 8 .nil))))))))) rfl (by kernel_rfl) (by kernel_rfl) (by kernel_rfl) (fun w hw => hw.ent entA) ?_
    (refine go ?_)
    have hst1 : ∀ (i : Nat) (fv : Value) (s : PS → Nat → PS → Prop), ([.func (.func 53) #[] #[ptr x1], .func (.func 55) #[] #[ptr x1, ptr x3], .func (.func 57) #[] #[ptr x1], .func (.func 58) #[] #[ptr x3, ptr x1] ] : List Value)[i]? = some fv → (commitSteps name nx sz)[i]? = some s → ∃ g fi cap, fv = .func (.func g) fi cap ∧ ∀ x, CQ sz i x → Ctr Try.prog g (fi.toList ++ cap.toList) [CI bd jb x1 x3 name nx sz x] (fun r H => ∃ (e : Nat) (x' : PS), r = .int .i64 (e : Int) ∧ H = [CI bd jb x1 x3 name nx sz x'] ∧ s x e x' ∧ (e = 0 → CQ sz (i + 1) x')) := by
      intro i f1 s1 h1 h2
      match i, h1, h2 with
      | 0, h1, h2 => cases h1; cases h2; exact ⟨_, _, _, rfl, fun x hq => Commit1_I bd jb x1 x3 name nx sz 0 (by omega) x hq⟩
      | 1, h1, h2 => cases h1; cases h2; exact ⟨_, _, _, rfl, fun x hq => Commit2_I bd jb x1 x3 name nx sz 1 (by omega) (by omega) (by omega) x hq⟩
      | 2, h1, h2 => cases h1; cases h2; exact ⟨_, _, _, rfl, fun x hq => Commit3_I bd jb x1 x3 name nx sz 2 (by omega) x hq⟩
      | 3, h1, h2 => cases h1; cases h2; exact ⟨_, _, _, rfl, fun x hq => Commit4_I bd jb x1 x3 name nx sz 3 (by omega) x hq⟩
      | k + 4, h1, h2 => simp at h1
    refine J_buildSlice1 (U := tab) (cs := [.func (.func 53) #[] #[ptr x1], .func (.func 55) #[] #[ptr x1, ptr x3], .func (.func 57) #[] #[ptr x1], .func (.func 58) #[] #[ptr x3, ptr x1] ]) rfl rfl rfl rfl rfl rfl rfl rfl rfl (fun _ w hw => by exact hw.ent entA) ?_
    intro row
    have hall := all_any (CI bd jb x1 x3 name nx sz) (pts row (cl ([.func (.func 53) #[] #[ptr x1], .func (.func 55) #[] #[ptr x1, ptr x3], .func (.func 57) #[] #[ptr x1], .func (.func 58) #[] #[ptr x3, ptr x1] ]) 46)) (.slice (some ⟨row, 0, none⟩) 4 4) ([.func (.func 53) #[] #[ptr x1], .func (.func 55) #[] #[ptr x1, ptr x3], .func (.func 57) #[] #[ptr x1], .func (.func 58) #[] #[ptr x3, ptr x1] ]) (Vw.pts rfl) (by show 4 ≤ _; omega) (commitSteps name nx sz) rfl (CQ sz) hst1 (A, n, (sz : Int), c) ⟨rfl, by simp only; omega, by simp only; omega⟩
    refine J_callE rfl rfl rfl rfl hall (Ent.trans entA (Ent.cons _ (Ent.resep ([diskA bd A, pts jb (cl [ptr bd, .string name, .int .i64 n, .int .i64 (sz : Int), .int .i64 c, .bool false] 93), pts x1 (cl [ptr jb] 36), pts x3 (cl [.int .i64 (nx : Int)] 3)]) _))) ?_ (fun _ _ w hp hw => by
      obtain ⟨e, y, rfl, rfl, hr⟩ := hp
      exact hw.ent (Ent.trans (Ent.trans (Ent.pick [1] rfl) (Ent.unsep ([diskA bd y.1, pts jb (cl [ptr bd, .string name, .int .i64 y.2.1, .int .i64 y.2.2.1, .int .i64 y.2.2.2, .bool false] 93), pts x1 (cl [ptr jb] 36), pts x3 (cl [.int .i64 (nx : Int)] 3)]) _)) entA))
    rintro _ _ ⟨e, y, rfl, rfl, hr⟩
    refine J_ent (Ent.trans (Ent.pick [1] rfl) (Ent.unsep ([diskA bd y.1, pts jb (cl [ptr bd, .string name, .int .i64 y.2.1, .int .i64 y.2.2.1, .int .i64 y.2.2.2, .bool false] 93), pts x1 (cl [ptr jb] 36), pts x3 (cl [.int .i64 (nx : Int)] 3)]) _)) ?_
    refine J_callE rfl rfl rfl rfl (breaks_any jb bd name y.2.1 y.2.2.1 y.2.2.2 false e) entA ?_ (fun _ _ w hp hw => by obtain ⟨rfl, rfl⟩ := hp; exact hw.ent entA)
    rintro _ _ ⟨rfl, rfl⟩
    unfold jr
    (refine go ?_)
    (first | refine K_return hE Try.func19 rfl _ rfl ⟨e, y.1, ⟨y.2.1, y.2.2.1, y.2.2.2, decide (e ≠ 0)⟩, rfl, rfl, (by unfold CommitR; rw [if_neg (by simp), if_neg hne, if_neg hsm]; exact ⟨y, (by simp only [Int.toNat_natCast]; rw [show n.toNat + 1 = nx from by omega]; exact hr), rfl, rfl⟩)⟩ entA | refine K_fallEnd hE Try.func19 rfl _ rfl ⟨e, y.1, ⟨y.2.1, y.2.2.1, y.2.2.2, decide (e ≠ 0)⟩, rfl, rfl, (by unfold CommitR; rw [if_neg (by simp), if_neg hne, if_neg hsm]; exact ⟨y, (by simp only [Int.toNat_natCast]; rw [show n.toNat + 1 = nx from by omega]; exact hr), rfl, rfl⟩)⟩ entA)
end Go.Proofs.Ytpdmbmnhgcnelaa

/- journal, part k0: what Open holds while it ranges; bounds of records. -/
set_option linter.unusedVariables false
set_option linter.unusedSimpArgs false
namespace Go.Proofs.Ytpdmbmnhgcnelaa
open Go Go.SL

theorem recordsL_bound : ∀ (f : Nat) (bs : List UInt8), ((recordsL f bs).flatMap encL).length ≤ 2 * bs.length ∧ (recordsL f bs).length ≤ bs.length ∧ ∀ x ∈ recordsL f bs, x.length ≤ 4096
  | 0, bs => by simp [recordsL]
  | f + 1, bs => by
    unfold recordsL
    split
    · simp
    · rename_i k n hl
      have hp := longA_pos hl
      split
      · rename_i hb
        obtain ⟨h1, h2, h3⟩ := recordsL_bound f (bs.drop (k + n))
        have hx : ((bs.drop k).take n).length = n := by rw [List.length_take, List.length_drop]; omega
        have he : (encL ((bs.drop k).take n)).length ≤ n + 2 := by
          have := uv_len 1 n (by have := hp.2.2.2; omega)
          simp only [encL, List.length_append, hx]; omega
        rw [List.length_drop] at h1 h2
        simp only [List.flatMap_cons, List.length_append, List.length_cons]
        refine ⟨by omega, by omega, fun x hm => ?_⟩
        rcases List.mem_cons.1 hm with rfl | hm
        · rw [hx]; omega
        · exact h3 x hm
      · simp
theorem recordsA_bound (bs : List UInt8) : ((recordsA bs).flatMap encL).length ≤ 2 * bs.length ∧ (recordsA bs).length ≤ bs.length ∧ ∀ x ∈ recordsA bs, x.length ≤ 4096 := recordsL_bound _ bs
/-- Slices of bytes in rows. -/
def RowsR (M : Arrs) (cs : List Value) (ls : List (List UInt8)) : Prop := cs.length = ls.length ∧ ∀ (j : Nat) (y : List UInt8), ls[j]? = some y → ∃ cv, cs[j]? = some cv ∧ RIn M 1 cv y.length (bV y)
def LI (lb : Nat) (ls : List (List UInt8)) : HP := fun h => ∃ x : Value × List Value × Arrs, RowsR x.2.2 x.2.1 ls ∧ Sep [pts lb (cl [x.1] 24), slc 22 1 x.1 ls.length x.2.1, arrS 5 x.2.2] h
theorem arrS_nil (e : TypeId) (H : List HP) : Ent H (arrS e [] :: H) := Ent.addEmp H
theorem LI_start (lb : Nat) (a : Option Addr) (H : List HP) : Ent (pts lb (cl [.slice a 0 0] 24) :: H) (LI lb [] :: H) := by
  have h1 : Ent (pts lb (cl [.slice a 0 0] 24) :: H) ([pts lb (cl [.slice a 0 0] 24), slc 22 1 (.slice a 0 0) 0 [], arrS 5 [] ] ++ H) :=
    Ent.cons _ ((slc_lift 22 1 a H).trans (Ent.cons _ (arrS_nil 5 H)))
  exact h1.trans (Ent.fold fun h hs => ⟨h, sub.refl h, (.slice a 0 0, [], []), ⟨rfl, fun j y hj => by simp at hj⟩, hs⟩)
theorem LI_next (lb : Nat) (ls : List (List UInt8)) (x : List UInt8) (v rv : Value) (cs : List Value) (M M' : Arrs) (hR : RowsR M cs ls) (hr : RIn M' 1 rv x.length (bV x)) (hs : ∀ y ∈ M, y ∈ M') (H : List HP) :
    Ent (pts lb (cl [v] 24) :: slc 22 1 v (ls.length + 1) (cs ++ [rv]) :: arrS 5 M' :: H) (LI lb (ls ++ [x]) :: H) := by
  refine Ent.fold (B := [pts lb (cl [v] 24), slc 22 1 v (ls.length + 1) (cs ++ [rv]), arrS 5 M']) fun h hp => ⟨h, sub.refl h, (v, cs ++ [rv], M'), ⟨by simp [hR.1], fun j y hj => ?_⟩, by simp only [List.length_append, List.length_singleton]; exact hp⟩
  simp only
  rw [List.getElem?_append] at hj ⊢
  rw [hR.1]
  split at hj
  · rename_i hlt
    obtain ⟨cv, h1, h2⟩ := hR.2 j y hj
    rw [if_pos hlt]
    exact ⟨cv, h1, h2.mono hs⟩
  · rename_i hge
    rw [if_neg hge]
    have h0 : j - ls.length = 0 := by
      rcases Nat.eq_zero_or_pos (j - ls.length) with h | h
      · exact h
      · rw [List.getElem?_eq_none (by simp; omega)] at hj; cases hj
    rw [h0] at hj ⊢
    cases hj
    exact ⟨rv, rfl, hr⟩
theorem LI_open (lb : Nat) (ls : List (List UInt8)) : ∀ h, LI lb ls h → ∃ x : Value × List Value × Arrs, RowsR x.2.2 x.2.1 ls ∧ Sep [pts lb (cl [x.1] 24), slc 22 1 x.1 ls.length x.2.1, arrS 5 x.2.2] h := fun h hs => hs
/-- A list of texts that is handed out. -/
def listH (v : Value) (ls : List (List UInt8)) : HP := fun h => ∃ x : List Value × Arrs, RowsR x.2 x.1 ls ∧ Sep [slc 22 1 v ls.length x.1, arrS 5 x.2] h
theorem listH_in {v : Value} {ls : List (List UInt8)} {cs : List Value} {M : Arrs} (hR : RowsR M cs ls) (H : List HP) : Ent (slc 22 1 v ls.length cs :: arrS 5 M :: H) (listH v ls :: H) :=
  Ent.fold (B := [slc 22 1 v ls.length cs, arrS 5 M]) fun h hp => ⟨h, sub.refl h, (cs, M), hR, hp⟩
theorem listH_open (v : Value) (ls : List (List UInt8)) : ∀ h, listH v ls h → ∃ x : List Value × Arrs, RowsR x.2 x.1 ls ∧ Sep [slc 22 1 v ls.length x.1, arrS 5 x.2] h := fun h hs => hs
theorem RowsR.lat {v : Value} {ls : List (List UInt8)} {cs : List Value} {M : Arrs} (hR : RowsR M cs ls) (h0 : ∃ h, slc 22 1 v ls.length cs h) : LAt (Sep [slc 22 1 v ls.length cs, arrS 5 M]) v ls := by
  have hv := Vw.of_slc 22 1 v ls.length cs h0
  refine ⟨cs, hv.mono (Sep_get (i := 0) rfl), hR.1, ?_, fun i x hx => ?_⟩
  · obtain ⟨h, hl, ⟨a, rfl, hn, _⟩ | ⟨b, o, cap, pre, junk, rfl, hp, hn, hc, _⟩⟩ := h0
    · exact ⟨a, 0, by rw [hn], by omega⟩
    · exact ⟨_, cap, rfl, hn⟩
  · obtain ⟨cv, h1, h2⟩ := hR.2 i x hx
    obtain ⟨a, c, hv2, hc⟩ := h2.shape
    exact ⟨cv, h1, (h2.view 5).mono (Sep_get (i := 1) rfl), a, c, hv2, hc⟩
section
variable {P : Program} {f : FuncId} {n : Nat} {R : Ending → World → Prop} {G : Glob} {k : List Item} {L : Lst} {H : List HP}
theorem K_lat {v : Value} {ls : List (List UInt8)} {cs : List Value} {M : Arrs} (i : Nat) (hR : RowsR M cs ls) (hi : getL H i = some (slc 22 1 v ls.length cs)) (h : LAt (Sep [slc 22 1 v ls.length cs, arrS 5 M]) v ls → K P f n R G k L H) : K P f n R G k L H :=
  K_sat fun ⟨w, hw⟩ => by
    obtain ⟨h1, _, hA⟩ := hw.getA hi
    exact h (hR.lat ⟨h1, hA⟩)
theorem K_dA {bd : Nat} {A : Ab} (i : Nat) (hi : getL H i = some (diskA bd A)) (h : (∃ D, Rel D A) → K P f n R G k L H) : K P f n R G k L H :=
  K_sat fun ⟨w, hw⟩ => by
    obtain ⟨h1, _, D, hR, _⟩ := hw.getA hi
    exact h ⟨D, hR⟩
end
theorem read_len (A : Ab) (hR : ∃ D, Rel D A) (name : ByteArray) (at_ n : Int) : (A.read name at_ n).1.length ≤ 1048576 := by
  obtain ⟨D, hR⟩ := hR
  unfold Ab.read
  split
  · simp
  split
  · simp
  · rename_i f hf
    split
    · simp
    · have h1 : (A.now f).length ≤ 1048576 := by
        unfold Ab.now Ab.file
        cases h : A.fs.find? (fun x => decide (x.1 = f)) with
        | none => simp
        | some x =>
          have := hR.smallF x (List.mem_of_find?_eq_some h)
          simpa using this.1
      rw [List.length_take, List.length_drop]; omega
end Go.Proofs.Ytpdmbmnhgcnelaa

/- journal, part k: Open. -/
set_option linter.unusedVariables false
set_option linter.unusedSimpArgs false
namespace Go.Proofs.Ytpdmbmnhgcnelaa
open Go Go.SL
attribute [local irreducible] J K Ctr Ends pts slc mapR mapI sbRow stock arrS loopP CtrY diskA LI listH

/-- The records that a file has. -/
def fileL (A : Ab) (name : ByteArray) : List (List UInt8) := recordsA (foundL (A.read name 0 (A.size name).1).1)
/-- What Open does: its error, and the disk behind it; the journal, if it is OK. -/
def OpenR (A : Ab) (name : ByteArray) (e : Nat) (A' : Ab) (x : JN) : Prop :=
  if ¬ (isName name = true ∧ isName (freshOf name) = true) then e = 1 ∧ A' = A else if A.off then e = 7 ∧ A' = A
  else ∃ y : PS, PutR name (fileL A name) (A, 0, 0, 0) e y ∧ A' = y.1 ∧ x = ⟨y.2.1, y.2.2.1, y.2.2.2, false⟩
set_option maxRecDepth 20000 in
theorem Open_any (bd : Nat) (name : ByteArray) (A : Ab) (hname : name.size ≤ 1000000000) (hst : A.states.length ≤ 900000000) (hwr : A.writes.length ≤ 900000000) :
    Ctr Try.prog 14 [ptr bd, .string name] [diskA bd A]
      (fun r H => ∃ (e : Nat) (A' : Ab) (x : JN), OpenR A name e A' x ∧ ((e ≠ 0 ∧ r = .tuple #[.pointer none, .slice none 0 0, .int .i64 (e : Int)] ∧ H = [diskA bd A']) ∨
        (e = 0 ∧ ∃ jb lv, r = .tuple #[ptr jb, lv, .int .i64 0] ∧ H = [diskA bd A', jrN jb bd name x, listH lv (fileL A name)]))) := by
  refine Ctr.enter Try.func14 (by kernel_rfl) rfl Try.ntmps14 rfl rfl ?_
  intro G F R hE
  refine K_dA 0 rfl ?_
  intro hRel
  (refine go ?_)
  (first | refine J_callE rfl rfl rfl rfl (may_any name) entA ?_ (fun _ _ _ _ _ => trivial) | refine J_call0E rfl rfl rfl (may_any name) entA ?_ (fun _ _ _ _ _ => trivial) | (refine go ?_; first | refine J_callE rfl rfl rfl rfl (may_any name) entA ?_ (fun _ _ _ _ _ => trivial) | refine J_call0E rfl rfl rfl (may_any name) entA ?_ (fun _ _ _ _ _ => trivial)))
  rintro _ _ ⟨rfl, rfl⟩
  cases h1 : isName name with
  | false =>
    (refine go ?_)
    (first | refine K_return hE Try.func14 rfl _ rfl ⟨1, A, ⟨0, 0, 0, false⟩, (by unfold OpenR; rw [if_pos (by simp [h1])]; exact ⟨rfl, rfl⟩), .inl ⟨by omega, rfl, rfl⟩⟩ entA | refine K_fallEnd hE Try.func14 rfl _ rfl ⟨1, A, ⟨0, 0, 0, false⟩, (by unfold OpenR; rw [if_pos (by simp [h1])]; exact ⟨rfl, rfl⟩), .inl ⟨by omega, rfl, rfl⟩⟩ entA)
  | true =>
  (refine go ?_)
  refine J_strAdd rfl rfl rfl (by show name.size + 4 ≤ _; omega) ?_
  refine J_slot 25 (.string (freshOf name)) rfl rfl ?_
  (first | refine J_callE rfl rfl rfl rfl (may_any (freshOf name)) entA ?_ (fun _ _ _ _ _ => trivial) | refine J_call0E rfl rfl rfl (may_any (freshOf name)) entA ?_ (fun _ _ _ _ _ => trivial) | (refine go ?_; first | refine J_callE rfl rfl rfl rfl (may_any (freshOf name)) entA ?_ (fun _ _ _ _ _ => trivial) | refine J_call0E rfl rfl rfl (may_any (freshOf name)) entA ?_ (fun _ _ _ _ _ => trivial)))
  rintro _ _ ⟨rfl, rfl⟩
  cases h2 : isName (freshOf name) with
  | false =>
    (refine go ?_)
    (first | refine K_return hE Try.func14 rfl _ rfl ⟨1, A, ⟨0, 0, 0, false⟩, (by unfold OpenR; rw [if_pos (by simp [h2])]; exact ⟨rfl, rfl⟩), .inl ⟨by omega, rfl, rfl⟩⟩ entA | refine K_fallEnd hE Try.func14 rfl _ rfl ⟨1, A, ⟨0, 0, 0, false⟩, (by unfold OpenR; rw [if_pos (by simp [h2])]; exact ⟨rfl, rfl⟩), .inl ⟨by omega, rfl, rfl⟩⟩ entA)
  | true =>
  (refine go ?_)
  (first | refine J_callE rfl rfl rfl rfl (Off_dA bd A) entA ?_ (fun _ _ _ _ _ => trivial) | refine J_call0E rfl rfl rfl (Off_dA bd A) entA ?_ (fun _ _ _ _ _ => trivial) | (refine go ?_; first | refine J_callE rfl rfl rfl rfl (Off_dA bd A) entA ?_ (fun _ _ _ _ _ => trivial) | refine J_call0E rfl rfl rfl (Off_dA bd A) entA ?_ (fun _ _ _ _ _ => trivial)))
  rintro _ _ ⟨rfl, rfl⟩
  cases h3 : A.off with
  | true =>
    (refine go ?_)
    (first | refine K_return hE Try.func14 rfl _ rfl ⟨7, A, ⟨0, 0, 0, false⟩, (by unfold OpenR; rw [if_neg (by simp [h1, h2]), if_pos h3]; exact ⟨rfl, rfl⟩), .inl ⟨by omega, rfl, rfl⟩⟩ entA | refine K_fallEnd hE Try.func14 rfl _ rfl ⟨7, A, ⟨0, 0, 0, false⟩, (by unfold OpenR; rw [if_neg (by simp [h1, h2]), if_pos h3]; exact ⟨rfl, rfl⟩), .inl ⟨by omega, rfl, rfl⟩⟩ entA)
  | false =>
  (refine go ?_)
  (first | refine J_callE rfl rfl rfl rfl (Size_dA bd A name) entA ?_ (fun _ _ _ _ _ => trivial) | refine J_call0E rfl rfl rfl (Size_dA bd A name) entA ?_ (fun _ _ _ _ _ => trivial) | (refine go ?_; first | refine J_callE rfl rfl rfl rfl (Size_dA bd A name) entA ?_ (fun _ _ _ _ _ => trivial) | refine J_call0E rfl rfl rfl (Size_dA bd A name) entA ?_ (fun _ _ _ _ _ => trivial)))
  rintro _ _ ⟨rfl, rfl⟩
  (refine go ?_)
  (first | refine J_callE rfl rfl rfl rfl (Read_dA bd A name 0 (A.size name).1) entA ?_ (fun _ _ _ _ _ => trivial) | refine J_call0E rfl rfl rfl (Read_dA bd A name 0 (A.size name).1) entA ?_ (fun _ _ _ _ _ => trivial) | (refine go ?_; first | refine J_callE rfl rfl rfl rfl (Read_dA bd A name 0 (A.size name).1) entA ?_ (fun _ _ _ _ _ => trivial) | refine J_call0E rfl rfl rfl (Read_dA bd A name 0 (A.size name).1) entA ?_ (fun _ _ _ _ _ => trivial)))
  rintro _ _ ⟨rb, rfl, rfl⟩
  have hrl := read_len A hRel name 0 (A.size name).1
  obtain ⟨B, hB⟩ : ∃ B, B = (A.read name 0 (A.size name).1).1 := ⟨_, rfl⟩
  rw [← hB] at hrl ⊢
  (refine go ?_)
  (first | refine J_shape 1 rfl ?_ | refine K_shape 1 rfl ?_)
  rintro ra rc rfl
  refine J_slcB (bs := B) 1 rfl ?_
  intro hbr
  refine J_alloc (U := tab) rfl rfl rfl (fun _ _ _ => trivial) ?_
  intro lb
  (refine go ?_)
  (first | refine J_callE rfl rfl rfl rfl (found_any _ _ B hbr (by omega)) entA ?_ (fun _ _ _ _ _ => trivial) | refine J_call0E rfl rfl rfl (found_any _ _ B hbr (by omega)) entA ?_ (fun _ _ _ _ _ => trivial) | (refine go ?_; first | refine J_callE rfl rfl rfl rfl (found_any _ _ B hbr (by omega)) entA ?_ (fun _ _ _ _ _ => trivial) | refine J_call0E rfl rfl rfl (found_any _ _ B hbr (by omega)) entA ?_ (fun _ _ _ _ _ => trivial)))
  rintro fv _ ⟨hbf, rfl⟩
  obtain ⟨fa, fc, rfl, hfc⟩ := hbf.2
  (first | refine J_callE rfl rfl rfl rfl (records_any fa (foundL B).length fc) entA ?_ (fun _ _ _ _ _ => trivial) | refine J_call0E rfl rfl rfl (records_any fa (foundL B).length fc) entA ?_ (fun _ _ _ _ _ => trivial) | (refine go ?_; first | refine J_callE rfl rfl rfl rfl (records_any fa (foundL B).length fc) entA ?_ (fun _ _ _ _ _ => trivial) | refine J_call0E rfl rfl rfl (records_any fa (foundL B).length fc) entA ?_ (fun _ _ _ _ _ => trivial)))
  rintro _ _ ⟨bx, rfl, rfl⟩
  have hfl : (foundL B).length ≤ 1048576 := by
    unfold foundL
    split
    · simp
    · rw [List.length_take, List.length_drop]; omega
  (refine go ?_)
  obtain ⟨rs, hrs⟩ : ∃ rs, rs = recordsA (foundL B) := ⟨_, rfl⟩
  have hbd := recordsA_bound (foundL B)
  rw [← hrs] at hbd
  refine K_adv1 rfl ?_
  refine K_ent (Ent.trans (Ent.pick [2] rfl) (LI_start lb none _)) ?_
  refine K_range (Fr := diskA bd A :: F) (Pre := fun _ _ => [pts bx (cl [.slice fa (foundL B).length fc] 22), slc 5 1 (.slice ra B.length rc) B.length (bV B), LI lb [] ]) (Post := ?Po) rfl hE.1.1 rfl ?c (fun l r => entA) ?hend
  case c =>
    intro l r
    refine records1_any (slc 5 1 (.slice ra B.length rc) B.length (bV B)) l bx _ (foundL B) hbf (by omega) _ (fun i => LI lb ((recordsA (foundL B)).take i)) ?_
    intro i x hx rv
    refine CtrY.of_K rfl rfl ?_
    intro G2 F2 R2 hY
    have hil : i < (recordsA (foundL B)).length := (List.getElem?_eq_some_iff.1 hx).1
    have hbx := (recordsA_bound (foundL B)).2.1
    have htk : (recordsA (foundL B)).take (i + 1) = (recordsA (foundL B)).take i ++ [x] := by rw [List.take_add_one, hx]; rfl
    have htl : ((recordsA (foundL B)).take i).length ≤ (foundL B).length := by rw [List.length_take]; omega
    simp only [htk] at hY
    generalize (recordsA (foundL B)).take i = ts at htl hY ⊢
    (refine go ?_)
    refine K_beginRound rfl hY ?_
    refine K_ent (Ent.pick [1] rfl) ?_
    refine K_open (LI_open lb ts) ?_
    rintro ⟨lv, cs, M⟩ hR
    refine K_ent (Ent.trans (Ent.pick [4, 2] rfl) (Ent.join _ _ _)) ?_
    refine K_open (row_slcO 5 1 x.length rv (bV x) M) ?_
    rintro M' ⟨hrv, hsub⟩
    obtain ⟨xa, xc, rfl, hxc⟩ := hrv.shape
    refine K_shape 2 rfl ?_
    intro la lc hlv
    simp only at hlv
    subst hlv
    (refine go ?_)
    refine J_buildSlice1 (U := tab) rfl rfl rfl rfl rfl rfl rfl rfl rfl (fun _ _ _ => trivial) ?_
    intro row
    (refine go ?_)
    refine J_append (U := tab) (mm := 1) (news := [.slice xa x.length xc]) 3 0 rfl rfl rfl rfl rfl rfl rfl rfl rfl rfl rfl rfl (Vw.pts rfl) rfl (by simp [Value.oneCell']) (by omega) (by show (_ + 1) * 24 ≤ _; omega) (fun _ => rfl) (fun _ _ _ => trivial) ?_
    intro v1
    (first | refine J_shape 3 rfl ?_ | refine K_shape 3 rfl ?_)
    rintro va vc rfl
    (refine go ?_)
    refine K_ent (Ent.trans entA (LI_next lb ts x _ (.slice xa x.length xc) cs M M' hR hrv hsub _)) ?_
    refine K_roundEnd hY rfl entA ⟨rfl, rfl⟩
  intro l r v H hpost
  obtain ⟨v', rfl⟩ := hpost
  refine ⟨_, _, _, rfl, by decide, ?_⟩
  rw [hE.1.2, List.take_length, ← hrs]
  refine K_ent (Ent.pick [2] rfl) ?_
  refine K_open (LI_open lb rs) ?_
  rintro ⟨lv, cs, M⟩ hR
  refine K_shape 1 rfl ?_
  intro la lc hlv
  simp only at hlv
  subst hlv
  simp only at hR
  refine K_lat 1 hR rfl ?_
  intro hlat
  (refine go ?_)
  refine J_box rfl rfl (fun _ _ _ => trivial) ?_
  intro jb
  (refine go ?_)
  have hput := put_any jb bd name 0 0 0 false A (Sep [slc 22 1 (.slice la rs.length lc) rs.length cs, arrS 5 M]) (.slice la rs.length lc) rs hlat (by omega) (by omega) hname hst hwr
  refine J_callE rfl rfl rfl rfl hput (Ent.trans entA (Ent.cons (diskA bd A) (Ent.cons (jr jb bd name 0 0 0 false) (Ent.resep [slc 22 1 (.slice la rs.length lc) rs.length cs, arrS 5 M] _)))) ?_ (fun _ _ _ _ _ => trivial)
  rintro _ _ ⟨e, y, rfl, rfl, hpr⟩
  have hfile : fileL A name = rs := by rw [hrs, hB]; rfl
  have hopen : OpenR A name e y.1 ⟨y.2.1, y.2.2.1, y.2.2.2, false⟩ := by
    unfold OpenR
    rw [if_neg (by simp [h1, h2]), if_neg (by rw [h3]; simp), hfile]
    exact ⟨y, hpr, rfl, rfl⟩
  rw [hfile] at hE
  (refine go ?_)
  refine K_condP rfl rfl ?_ ?_
  · intro hne
    have hne' : e ≠ 0 := by omega
    (refine go ?_)
    refine K_returnM hE Try.func14 rfl _ rfl ⟨e, _, _, hopen, .inl ⟨hne', rfl, rfl⟩⟩ entA
  · intro heq
    have heq' : e = 0 := by omega
    subst heq'
    (refine go ?_)
    refine K_drawA (fun w => Sat G w ([pts lb (cl [.slice la rs.length lc] 24)])) (.st 0 (.st 1 (.st 2 (.st 3 (.st 4 .nil))))) rfl (by kernel_rfl) (by kernel_rfl) (by kernel_rfl) (fun w hw => hw.ent entA) ?_
    (refine go ?_)
    refine K_ent (Ent.trans (Ent.pick [2] rfl) (Ent.unsep [slc 22 1 (.slice la rs.length lc) rs.length cs, arrS 5 M] _)) ?_
    refine K_ent (listH_in hR _) ?_
    refine K_returnM hE Try.func14 rfl _ rfl ⟨0, _, _, hopen, .inr ⟨rfl, jb, _, rfl, rfl⟩⟩ entA
end Go.Proofs.Ytpdmbmnhgcnelaa

/- journal, part l0 (plain): what a file's bytes tell. -/
set_option linter.unusedVariables false
set_option linter.unusedSimpArgs false
namespace Go.Proofs.Ytpdmbmnhgcnelaa
open Go Go.SL

theorem toUint_cons {n : Nat} (h : n < 128) : toUintA [UInt8.ofNat n] = some n := by
  have := toUint_uv (n := n) (by omega)
  rwa [uv_small h] at this
theorem toUint_big {c : UInt8} (h : ¬ c.toNat < 128) : toUintA [c] = none := by
  unfold toUintA cutA
  simp [cutL, h]
theorem longA_enc {x : List UInt8} (hx : x.length ≤ 4096) (rest : List UInt8) : longA (encL x ++ rest) = some ((uv x.length).length, x.length) := by
  unfold longA encL
  have hp := uv_pos x.length
  rw [if_pos (by simp only [List.length_append]; omega)]
  by_cases h : x.length < 128
  · rw [uv_small h]
    simp only [List.cons_append, List.nil_append, List.take_succ_cons, List.take_zero, toUint_cons h, List.length_singleton]
  · have h2 : uv x.length = [UInt8.ofNat (x.length % 128 + 128), UInt8.ofNat (x.length / 128)] := by rw [uv_big h, uv_small (by omega)]
    have hu := toUint_uv (n := x.length) (by omega)
    rw [h2] at hu ⊢
    have e : (UInt8.ofNat (x.length % 128 + 128)).toNat = x.length % 128 + 128 := by simp only [UInt8.toNat_ofNat']; omega
    simp only [List.cons_append, List.nil_append, List.take_succ_cons, List.take_zero]
    rw [toUint_big (by rw [e]; omega)]
    simp only [List.length_cons]
    rw [if_pos (by omega), hu]
    rfl
theorem records_enc : ∀ (ls : List (List UInt8)), (∀ x ∈ ls, x.length ≤ 4096) → recordsA (ls.flatMap encL) = ls
  | [], _ => by
    refine recordsA_none ?_
    unfold longA
    simp
  | x :: ls, h => by
    have hx := h x (List.mem_cons_self ..)
    have hl := longA_enc hx (ls.flatMap encL)
    have hen : (encL x).length = (uv x.length).length + x.length := by simp [encL]
    rw [List.flatMap_cons, recordsA_cons hl ⟨hx, by rw [List.length_append, hen]; omega⟩]
    congr 1
    · unfold encL
      rw [List.append_assoc, List.drop_left, List.take_left]
    · rw [← hen, List.drop_left, records_enc ls (fun y hy => h y (List.mem_cons_of_mem _ hy))]
theorem records_nil : recordsA [] = [] := records_enc [] (by simp)
theorem leN_head {n m : Nat} (hn : n < 4294967296) (hm : m < 4294967296) : leN (headL n m) = n ∧ leN ((headL n m).drop 4) = m := by
  unfold headL
  rw [List.append_assoc]
  refine ⟨leN_le4 n hn _, ?_⟩
  rw [show (le4 n ++ (le4 m ++ (le4 n ++ le4 m))).drop 4 = le4 m ++ (le4 n ++ le4 m) from rfl]
  exact leN_le4 m hm _
theorem headOk_at {C : List UInt8} {k last n m : Nat} (h : (C.drop (16 * k)).take 16 = headL n m) (hn : n < 4294967296) (hm : m < 4294967296) : headOk C k last = decide (last < n ∧ n ≤ 1073741824 ∧ n % 2 = k ∧ m + 32 ≤ C.length) := by
  unfold headOk
  rw [h]
  simp only [(leN_head hn hm).1, (leN_head hn hm).2, and_true]
theorem headOk_zero {C : List UInt8} {k last : Nat} (h : (C.drop (16 * k)).take 16 = List.replicate 16 0) : headOk C k last = false := by
  unfold headOk
  rw [h]
  have : leN (List.replicate 16 0) = 0 := by decide
  simp only [this]
  exact decide_eq_false (fun hh => by have := hh.1; omega)
theorem lastOf_at {C : List UInt8} {k n m : Nat} {s : Nat × Nat} (h : (C.drop (16 * k)).take 16 = headL n m) (hn : n < 4294967296) (hm : m < 4294967296) : lastOf2 C k s = if s.1 < n ∧ n ≤ 1073741824 ∧ n % 2 = k ∧ m + 32 ≤ C.length then (n, m) else s := by
  unfold lastOf2
  rw [headOk_at h hn hm, h, (leN_head hn hm).1, (leN_head hn hm).2]
  by_cases hc : s.1 < n ∧ n ≤ 1073741824 ∧ n % 2 = k ∧ m + 32 ≤ C.length
  · rw [if_pos hc, if_pos (decide_eq_true hc)]
  · rw [if_neg hc, if_neg (by rw [decide_eq_false hc]; simp)]
theorem lastOf_zero {C : List UInt8} {k : Nat} {s : Nat × Nat} (h : (C.drop (16 * k)).take 16 = List.replicate 16 0) : lastOf2 C k s = s := by
  unfold lastOf2
  rw [headOk_zero h]; simp
theorem cut16 (a b c : List UInt8) (ha : a.length = 16) (hb : b.length = 16) : ((a ++ b ++ c).drop (16 * 0)).take 16 = a ∧ ((a ++ b ++ c).drop (16 * 1)).take 16 = b ∧ (a ++ b ++ c).drop 32 = c := by
  have h32 : (a ++ b).length = 32 := by rw [List.length_append]; omega
  refine ⟨?_, ?_, ?_⟩
  · rw [List.append_assoc, Nat.mul_zero, List.drop_zero, ← ha, List.take_left]
  · rw [List.append_assoc, show 16 * 1 = a.length from by omega, List.drop_left, ← hb, List.take_left]
  · rw [← h32, List.drop_left]
theorem found_put (m : Nat) (c : List UInt8) (hm : m ≤ c.length) (hm2 : m < 4294967296) : foundL (List.replicate 16 0 ++ headL 1 m ++ c) = c.take m := by
  obtain ⟨h0, h1, h2⟩ := cut16 (List.replicate 16 0) (headL 1 m) c (by simp) (headL_len _ _)
  have hl : (List.replicate 16 0 ++ headL 1 m ++ c).length = 32 + c.length := by simp only [List.length_append, List.length_replicate, headL_len]
  unfold foundL
  rw [if_neg (by omega), h2, lastOf_zero h0, lastOf_at h1 (by omega) hm2, if_pos ⟨by decide, by omega, by decide, by omega⟩]
theorem found_commit (m m1 : Nat) (c : List UInt8) (hm : m ≤ c.length) (hm2 : m < 4294967296) (hm1 : m1 < 4294967296) : foundL (headL 2 m ++ headL 1 m1 ++ c) = c.take m := by
  obtain ⟨h0, h1, h2⟩ := cut16 (headL 2 m) (headL 1 m1) c (headL_len _ _) (headL_len _ _)
  have hl : (headL 2 m ++ headL 1 m1 ++ c).length = 32 + c.length := by simp only [List.length_append, headL_len]
  unfold foundL
  rw [if_neg (by omega), h2, lastOf_at h0 (by omega) hm2, if_pos ⟨by decide, by omega, by decide, by omega⟩, lastOf_at h1 (by omega) hm1, if_neg (by intro h; have := h.1; simp only at this; omega)]
theorem found_nil : foundL [] = [] := rfl
end Go.Proofs.Ytpdmbmnhgcnelaa

/- journal, part l1 (plain): a disk that nothing ails, with one file: what put, Append, Commit, Crash make of it. -/
set_option linter.unusedVariables false
set_option linter.unusedSimpArgs false
namespace Go.Proofs.Ytpdmbmnhgcnelaa
open Go Go.SL

theorem file_cons (A : Ab) (g f : Nat) (x : List UInt8 × List UInt8) : ({ A with fs := (g, x) :: A.fs } : Ab).file f = if g = f then x else A.file f := by
  simp only [Ab.file, List.find?_cons]
  by_cases h : g = f
  · simp [h]
  · simp [h]
theorem find_map_same {fs : List (Nat × List UInt8 × List UInt8)} (u : Nat × List UInt8 × List UInt8 → Nat × List UInt8 × List UInt8) (hu : ∀ x, (u x).1 = x.1) (f : Nat) :
    (fs.map u).find? (fun x => decide (x.1 = f)) = (fs.find? (fun x => decide (x.1 = f))).map u := by
  induction fs with
  | nil => rfl
  | cons x l ih =>
    simp only [List.map_cons, List.find?_cons, hu]
    by_cases h : x.1 = f
    · simp [h]
    · simp [h, ih]
theorem find_mem {fs : List (Nat × List UInt8 × List UInt8)} {f : Nat} (h : f ∈ fs.map (·.1)) : ∃ x, fs.find? (fun x => decide (x.1 = f)) = some x ∧ x.1 = f := by
  obtain ⟨y, hy, hyf⟩ := List.mem_map.1 h
  cases hx : fs.find? (fun x => decide (x.1 = f)) with
  | none => exact absurd hyf (by simpa using List.find?_eq_none.1 hx y hy)
  | some x => exact ⟨x, rfl, by simpa using List.find?_some hx⟩
/-- A file behind a change of all files. -/
theorem file_map (A : Ab) (u : Nat × List UInt8 × List UInt8 → Nat × List UInt8 × List UInt8) (hu : ∀ x, (u x).1 = x.1) {f : Nat} (h : f ∈ A.fs.map (·.1)) : ({ A with fs := A.fs.map u } : Ab).file f = (u (f, A.file f)).2 := by
  obtain ⟨x, hx, hxf⟩ := find_mem h
  simp only [Ab.file]
  rw [find_map_same u hu, hx]
  obtain ⟨a, b⟩ := x
  simp only at hxf
  subst hxf
  rfl
theorem ids_map (fs : List (Nat × List UInt8 × List UInt8)) (u : Nat × List UInt8 × List UInt8 → Nat × List UInt8 × List UInt8) (hu : ∀ x, (u x).1 = x.1) : (fs.map u).map (·.1) = fs.map (·.1) := by
  rw [List.map_map]
  exact List.map_congr_left fun x _ => hu x
theorem meet_ok {A : Ab} (hp : A.plan = []) (ho : A.off = false) : A.meet true = (0, A) := by simp [Ab.meet, hp, ho]
theorem find_ok {A : Ab} (hp : A.plan = []) (ho : A.off = false) {nm : ByteArray} {f : Nat} (hl : A.look nm = some f) : A.find nm true = (0, some f, A) := by simp [Ab.find, meet_ok hp ho, hl]
theorem write_ok {A : Ab} (hp : A.plan = []) (ho : A.off = false) {nm : ByteArray} {f : Nat} (hl : A.look nm = some f) (at_ : Nat) (b : List UInt8) (hr : A.used + (at_ + b.length - (A.now f).length) ≤ A.room) :
    A.write true nm at_ b = (0, { A with fs := Ab.upd A.fs f (wroteL (A.now f) at_ b), writes := A.writes ++ [(f, at_, b)] }) := by
  simp only [Ab.write, find_ok hp ho hl, if_true]
  rw [if_neg (by omega)]
theorem sync_ok {A : Ab} (hp : A.plan = []) (ho : A.off = false) {nm : ByteArray} {f : Nat} (hl : A.look nm = some f) :
    A.sync true nm = (0, { A with fs := Ab.updS A.fs f, writes := A.writes.filter fun x => !decide (x.1 = f) }) := by
  simp only [Ab.sync, find_ok hp ho hl, if_true]
/-- One file, of that name, with these bytes. -/
structure JF (A : Ab) (nm : ByteArray) (f : Nat) (C : List UInt8) : Prop where
  plan : A.plan = []
  off : A.off = false
  names : A.names = [(nm, f)]
  now : A.now f = C
  mem : f ∈ A.fs.map (·.1)
/-- It is sure. -/
structure JS (A : Ab) (nm : ByteArray) (f : Nat) (S : List UInt8) : Prop where
  states : A.states = [[(nm, f)]]
  sure : A.sure f = S
  writes : ∀ w ∈ A.writes, w.1 ≠ f
theorem JF.look {A : Ab} {nm : ByteArray} {f : Nat} {C : List UInt8} (h : JF A nm f C) : A.look nm = some f := by simp [Ab.look, Ab.lookIn, h.names]
theorem JF.used {A : Ab} {nm : ByteArray} {f : Nat} {C : List UInt8} (h : JF A nm f C) : A.used = C.length := by simp [Ab.used, h.names, h.now]
/-- A write into it. -/
theorem JF.write {A : Ab} {nm : ByteArray} {f : Nat} {C : List UInt8} (h : JF A nm f C) (at_ : Nat) (b : List UInt8) (hr : C.length + (at_ + b.length - C.length) ≤ A.room) :
    (A.write true nm at_ b).1 = 0 ∧ JF (A.write true nm at_ b).2 nm f (wroteL C at_ b) ∧ (A.write true nm at_ b).2.room = A.room ∧ (A.write true nm at_ b).2.states = A.states := by
  rw [write_ok h.plan h.off h.look at_ b (by rw [h.used, h.now]; exact hr), h.now]
  refine ⟨rfl, ⟨h.plan, h.off, h.names, ?_, ?_⟩, rfl, rfl⟩
  · have := file_map A (fun x => if x.1 = f then (x.1, wroteL C at_ b, x.2.2) else x) (fun x => by split <;> rfl) h.mem
    simp only [Ab.now, Ab.file] at this ⊢
    simp only [Ab.upd]
    rw [this]; simp
  · simp only [Ab.upd]
    rw [ids_map _ _ (fun x => by split <;> rfl)]
    exact h.mem
/-- It is synced. -/
theorem JF.sync {A : Ab} {nm : ByteArray} {f : Nat} {C : List UInt8} (h : JF A nm f C) :
    (A.sync true nm).1 = 0 ∧ JF (A.sync true nm).2 nm f C ∧ (A.sync true nm).2.room = A.room ∧ (A.sync true nm).2.states = A.states ∧ (A.sync true nm).2.sure f = C ∧ ∀ w ∈ (A.sync true nm).2.writes, w.1 ≠ f := by
  rw [sync_ok h.plan h.off h.look]
  have hf := file_map A (fun x => if x.1 = f then (x.1, x.2.1, x.2.1) else x) (fun x => by split <;> rfl) h.mem
  have hn := h.now
  simp only [Ab.now] at hn
  refine ⟨rfl, ⟨h.plan, h.off, h.names, ?_, ?_⟩, rfl, rfl, ?_, ?_⟩
  · simp only [Ab.now, Ab.file, Ab.updS] at hf ⊢
    rw [hf]; simp only [if_true]; exact hn
  · simp only [Ab.updS]
    rw [ids_map _ _ (fun x => by split <;> rfl)]
    exact h.mem
  · simp only [Ab.sure, Ab.file, Ab.updS] at hf ⊢
    rw [hf]; simp only [if_true]; exact hn
  · intro w hw
    have := (List.mem_filter.1 hw).2
    simpa using this
end Go.Proofs.Ytpdmbmnhgcnelaa

/- journal, part l2 (plain): put on a disk that nothing ails. -/
set_option linter.unusedVariables false
set_option linter.unusedSimpArgs false
namespace Go.Proofs.Ytpdmbmnhgcnelaa
open Go Go.SL

theorem wroteL_nil0 (a : List UInt8) : wroteL [] 0 a = a := by simp [wroteL]
/-- What put needs: no other file but the one that is so named. -/
structure PutOk (A : Ab) (nm : ByteArray) : Prop where
  plan : A.plan = []
  off : A.off = false
  names : A.names = [] ∨ ∃ f, A.names = [(nm, f)]
  ids : ∀ x ∈ A.names, x.2 ∈ A.fs.map (·.1)
  idsW : ∀ w ∈ A.writes, w.1 ∈ A.fs.map (·.1)
theorem put_law {A : Ab} {nm : ByteArray} {ls : List (List UInt8)} {e : Nat} {y : PS} {n s c : Int} (h : PutOk A nm) (hn : isName nm = true) (hf : isName (freshOf nm) = true) (hne : freshOf nm ≠ nm)
    (hroom : A.used + (wholeOf ls).length ≤ A.room) (hw : (wholeOf ls).length ≤ 1048576) (hR : PutR nm ls (A, n, s, c) e y) :
    e = 0 ∧ y.2 = (1, ((ls.flatMap encL).length : Int), ((ls.flatMap encL).length : Int)) ∧ ∃ g, JF y.1 nm g (wholeOf ls) ∧ JS y.1 nm g (wholeOf ls) ∧ y.1.room = A.room ∧ y.1.writes.length ≤ A.writes.length + 1 := by
  obtain ⟨fresh, hfr⟩ : ∃ fresh, fresh = freshOf nm := ⟨_, rfl⟩
  obtain ⟨W, hW⟩ : ∃ W, W = wholeOf ls := ⟨_, rfl⟩
  have hlook : A.look fresh = none := by
    rcases h.names with h0 | ⟨f, h0⟩
    · simp [Ab.look, Ab.lookIn, h0]
    · have : ¬ nm = fresh := fun e => hne (by rw [← hfr, e])
      simp [Ab.look, Ab.lookIn, h0, this]
  have hsize : (A.size fresh).2 = 4 := by simp [Ab.size, hlook]
  have hlen : A.names.length ≤ 1 := by rcases h.names with h0 | ⟨f, h0⟩ <;> simp [h0]
  unfold PutR putSteps at hR
  rw [← hfr, ← hW] at hR
  rw [← hW] at hroom hw ⊢
  simp only at hR
  rw [if_neg (by rw [hsize]; decide)] at hR
  rw [← hfr] at hf hne
  simp only [List.nil_append] at hR
  -- create
  obtain ⟨e1, x1, ⟨⟨g, hg, he1, hx1⟩, hx1'⟩, hR⟩ := hR
  have hcr : A.create true fresh g = (0, { A.chg (A.names ++ [(fresh, g)]) with fs := (g, [], []) :: A.fs }) := by
    unfold Ab.create
    rw [meet_ok h.plan h.off]
    simp only [if_true, hlook, Option.isSome_none, Bool.false_eq_true, if_false]
    rw [if_neg (by omega)]
  simp only at he1 hx1 hx1'
  rw [hf, hcr] at he1 hx1
  obtain ⟨A1, q1⟩ := x1
  simp only at hx1 hx1' he1
  subst hx1'
  rcases hR with ⟨hbad, -⟩ | ⟨-, hR⟩
  · exact absurd he1 hbad
  have hp1 : A1.plan = [] := by rw [hx1]; exact h.plan
  have ho1 : A1.off = false := by rw [hx1]; exact h.off
  have hn1 : A1.names = A.names ++ [(fresh, g)] := by rw [hx1]; rfl
  have hl1 : A1.look fresh = some g := by
    unfold Ab.look Ab.lookIn
    rw [hn1, List.find?_append]
    have : A.names.find? (fun x => decide (x.1 = fresh)) = none := by
      simp only [Ab.look, Ab.lookIn] at hlook
      exact Option.map_eq_none_iff.1 hlook
    rw [this]; simp
  have hfile1 : ∀ f, A1.file f = if g = f then ([], []) else A.file f := by
    intro f; rw [hx1]; exact file_cons (A.chg (A.names ++ [(fresh, g)])) g f ([], [])
  have hm1 : g ∈ A1.fs.map (·.1) := by rw [hx1]; simp
  have hu1 : A1.used = A.used := by
    unfold Ab.used
    rw [hn1, List.map_append, List.sum_append]
    have h1 : (A1.now g).length = 0 := by simp [Ab.now, hfile1]
    have h2 : (A.names.map fun x => (A1.now x.2).length) = A.names.map fun x => (A.now x.2).length := by
      apply List.map_congr_left
      intro x hx
      have : ¬ g = x.2 := fun e => hg (by rw [e]; exact h.ids x hx)
      simp only [Ab.now, hfile1]
      rw [if_neg this]
    rw [h2]; simp [h1]
  have hr1 : A1.room = A.room := by rw [hx1]; rfl
  have hw1 : A1.writes = A.writes := by rw [hx1]; rfl
  have hids1 : A1.fs.map (·.1) = g :: A.fs.map (·.1) := by rw [hx1]; rfl
  clear hx1 hcr
  -- write
  obtain ⟨e2, x2, ⟨⟨he2, hx2⟩, hx2'⟩, hR⟩ := hR
  have hmw : mayW fresh 0 W = true := by unfold mayW; rw [hf]; simp; omega
  have hnow1 : A1.now g = [] := by simp [Ab.now, hfile1]
  rw [hmw, write_ok hp1 ho1 hl1 0 W (by rw [hu1, hnow1, hr1]; simpa using hroom), hnow1, wroteL_nil0] at he2 hx2
  obtain ⟨A2, q2⟩ := x2
  simp only at hx2 hx2' he2
  subst hx2'
  rcases hR with ⟨hbad, -⟩ | ⟨-, hR⟩
  · exact absurd he2 hbad
  have hl2 : A2.look fresh = some g := by rw [hx2]; exact hl1
  have hp2 : A2.plan = [] := by rw [hx2]; exact hp1
  have ho2 : A2.off = false := by rw [hx2]; exact ho1
  have hn2 : A2.names = A.names ++ [(fresh, g)] := by rw [hx2]; exact hn1
  have hr2 : A2.room = A.room := by rw [hx2]; exact hr1
  have hw2 : A2.writes = A.writes ++ [(g, 0, W)] := by rw [hx2, ← hw1]
  have hids2 : A2.fs.map (·.1) = g :: A.fs.map (·.1) := by
    rw [hx2, ← hids1]
    exact ids_map _ _ (fun x => by split <;> rfl)
  have hnow2 : A2.now g = W := by
    have := file_map A1 (fun x => if x.1 = g then (x.1, W, x.2.2) else x) (fun x => by split <;> rfl) hm1
    rw [hx2]
    simp only [Ab.now, Ab.file, Ab.upd] at this ⊢
    rw [this]; simp
  clear hx2
  -- sync
  obtain ⟨e3, x3, ⟨⟨he3, hx3⟩, hx3'⟩, hR⟩ := hR
  rw [hf, sync_ok hp2 ho2 hl2] at he3 hx3
  obtain ⟨A3, q3⟩ := x3
  simp only at hx3 hx3' he3
  subst hx3'
  rcases hR with ⟨hbad, -⟩ | ⟨-, hR⟩
  · exact absurd he3 hbad
  have hl3 : A3.look fresh = some g := by rw [hx3]; exact hl2
  have hp3 : A3.plan = [] := by rw [hx3]; exact hp2
  have ho3 : A3.off = false := by rw [hx3]; exact ho2
  have hn3 : A3.names = A.names ++ [(fresh, g)] := by rw [hx3]; exact hn2
  have hr3 : A3.room = A.room := by rw [hx3]; exact hr2
  have hw3 : A3.writes = A.writes.filter fun x => !decide (x.1 = g) := by rw [hx3]; simp only; rw [hw2, List.filter_append]; simp
  have hids3 : A3.fs.map (·.1) = g :: A.fs.map (·.1) := by
    rw [hx3, ← hids2]
    exact ids_map _ _ (fun x => by split <;> rfl)
  have hf3 : A3.file g = (W, W) := by
    have := file_map A2 (fun x => if x.1 = g then (x.1, x.2.1, x.2.1) else x) (fun x => by split <;> rfl) (by rw [hids2]; exact List.mem_cons_self ..)
    simp only [Ab.now] at hnow2
    rw [hx3]
    simp only [Ab.file, Ab.updS] at this ⊢
    rw [this]
    simp only [if_true]
    simp only [Ab.file] at hnow2
    rw [hnow2]
  clear hx3
  -- rename
  obtain ⟨e4, x4, ⟨⟨he4, hx4⟩, hx4'⟩, hR⟩ := hR
  have hall : [fresh, nm].all isName = true := by simp [hf, hn]
  have hdel : Ab.delN (A.names ++ [(fresh, g)]) fresh = A.names := by
    rcases h.names with h0 | ⟨f, h0⟩
    · simp [Ab.delN, h0]
    · have : ¬ nm = fresh := fun e => hne e.symm
      simp [Ab.delN, h0, this]
  have hset : Ab.setN A.names nm g = [(nm, g)] := by
    rcases h.names with h0 | ⟨f, h0⟩
    · simp [Ab.setN, Ab.lookIn, h0]
    · simp [Ab.setN, Ab.lookIn, h0]
  have hren : A3.rename true fresh nm = (0, A3.chg [(nm, g)]) := by
    unfold Ab.rename
    rw [find_ok hp3 ho3 hl3]
    simp only
    rw [hn3, hdel, hset]
  rw [hall, hren] at he4 hx4
  obtain ⟨A4, q4⟩ := x4
  simp only at hx4 hx4' he4
  subst hx4'
  rcases hR with ⟨hbad, -⟩ | ⟨-, hR⟩
  · exact absurd he4 hbad
  -- names
  obtain ⟨e5, x5, ⟨⟨he5, hx5⟩, hx5'⟩, hR⟩ := hR
  have hsn : A4.syncNames = (0, { A4 with states := [[(nm, g)]] }) := by
    unfold Ab.syncNames
    rw [meet_ok (by rw [hx4]; exact hp3) (by rw [hx4]; exact ho3)]
    simp only [if_true]
    rw [hx4]; rfl
  rw [hsn] at he5 hx5
  obtain ⟨A5, q5⟩ := x5
  simp only at hx5 hx5' he5
  subst hx5'
  rcases hR with ⟨hbad, -⟩ | ⟨-, hR⟩
  · exact absurd he5 hbad
  -- the numbers
  obtain ⟨e6, x6, ⟨he6, hx6⟩, hR⟩ := hR
  rcases hR with ⟨hbad, -⟩ | ⟨-, he, hy⟩
  · exact absurd he6 hbad
  subst hy hx6
  refine ⟨he, rfl, g, ⟨?_, ?_, ?_, ?_, ?_⟩, ⟨?_, ?_, ?_⟩, ?_, ?_⟩
  · simp only; rw [hx5, hx4]; exact hp3
  · simp only; rw [hx5, hx4]; exact ho3
  · simp only; rw [hx5, hx4]; rfl
  · simp only; rw [hx5, hx4]; show (A3.file g).1 = W; rw [hf3]
  · simp only; rw [hx5, hx4]; show g ∈ A3.fs.map (·.1); rw [hids3]; exact List.mem_cons_self ..
  · simp only; rw [hx5]
  · simp only; rw [hx5, hx4]; show (A3.file g).2 = W; rw [hf3]
  · simp only; rw [hx5, hx4]
    intro w hw'
    have : w ∈ A3.writes := hw'
    rw [hw3] at this
    simpa using (List.mem_filter.1 this).2
  · simp only; rw [hx5, hx4]; exact hr3
  · simp only; rw [hx5, hx4]
    show A3.writes.length ≤ _
    rw [hw3]
    have := List.length_filter_le (fun x : Nat × Nat × List UInt8 => !decide (x.1 = g)) A.writes
    omega
end Go.Proofs.Ytpdmbmnhgcnelaa

/- journal, part l3 (plain): Append, Commit, Crash, Open on a disk that nothing ails. -/
set_option linter.unusedVariables false
set_option linter.unusedSimpArgs false
namespace Go.Proofs.Ytpdmbmnhgcnelaa
open Go Go.SL

theorem wroteL_end (C b : List UInt8) : wroteL C C.length b = C ++ b := by
  unfold wroteL
  rw [show C.length + b.length - C.length = b.length from by omega]
  simp
theorem wroteL_head (a h r : List UInt8) (hl : h.length = a.length) : wroteL (a ++ r) 0 h = h ++ r := by
  unfold wroteL
  rw [show 0 + h.length - (a ++ r).length = 0 from by rw [List.length_append]; omega]
  simp only [List.replicate_zero, List.append_nil, List.take_zero, List.nil_append, Nat.zero_add]
  rw [hl, List.drop_left]
/-- A journal's file behind Open: its head counts m of the records' bytes. -/
def jfile (m : Nat) (body : List UInt8) : List UInt8 := List.replicate 16 0 ++ headL 1 m ++ body
theorem jfile_len (m : Nat) (body : List UInt8) : (jfile m body).length = 32 + body.length := by
  unfold jfile; simp only [List.length_append, List.length_replicate, headL_len]
theorem wholeOf_eq (ls : List (List UInt8)) : wholeOf ls = jfile (ls.flatMap encL).length (ls.flatMap encL) := rfl
structure AInv (A : Ab) (nm : ByteArray) (g m rm : Nat) (body : List UInt8) : Prop where
  jf : JF A nm g (jfile m body)
  states : A.states = [[(nm, g)]]
  room : A.room = rm
  le : m ≤ body.length
  same : body.length = m → JS A nm g (jfile m body)
theorem append_law {A : Ab} {nm : ByteArray} {g m rm : Nat} {body b : List UInt8} (h : AInv A nm g m rm body) (hn : isName nm = true) (hb : b.length ≤ 4096) (hfit : body.length + (encL b).length ≤ 524288) (hr : 32 + body.length + (encL b).length ≤ rm) :
    (appendA nm A ⟨1, (body.length : Int), (m : Int), false⟩ b).1 = 0 ∧ (appendA nm A ⟨1, (body.length : Int), (m : Int), false⟩ b).2.2 = ⟨1, ((body ++ encL b).length : Int), (m : Int), false⟩ ∧
    AInv (appendA nm A ⟨1, (body.length : Int), (m : Int), false⟩ b).2.1 nm g m rm (body ++ encL b) ∧ (appendA nm A ⟨1, (body.length : Int), (m : Int), false⟩ b).2.1.writes.length ≤ A.writes.length + 1 := by
  have hpos : 0 < (encL b).length := by have := uv_pos b.length; simp [encL]; omega
  have hmw : mayW nm (32 + (body.length : Int)) (encL b) = true := by unfold mayW; rw [hn]; simp; omega
  have ht : (32 + (body.length : Int)).toNat = (jfile m body).length := by rw [jfile_len]; omega
  obtain ⟨h1, h2, h3, h4⟩ := h.jf.write (jfile m body).length (encL b) (by rw [h.room]; rw [jfile_len]; omega)
  have hgw := grow_write A true nm (jfile m body).length (encL b)
  rw [wroteL_end] at h2
  unfold appendA
  simp only [Bool.false_eq_true, if_false]
  rw [if_neg (by omega), if_neg (by omega), hmw, ht, if_pos h1]
  refine ⟨rfl, by simp, ⟨?_, by rw [h4]; exact h.states, by rw [h3]; exact h.room, by have := h.le; rw [List.length_append]; omega, fun he => ?_⟩, hgw.2⟩
  · unfold jfile at h2 ⊢
    rw [List.append_assoc] at h2
    simpa using h2
  · have := h.le
    rw [List.length_append] at he; omega
theorem append_big {A : Ab} {nm : ByteArray} {x : JN} {b : List UInt8} (hx : x.br = false) (hb : 4096 < b.length) : appendA nm A x b = (1, A, x) := by
  unfold appendA
  rw [if_neg (by rw [hx]; simp), if_pos hb]
theorem commit_law {A A' : Ab} {nm : ByteArray} {g m rm e : Nat} {body : List UInt8} {x' : JN} (h : AInv A nm g m rm body) (hn : isName nm = true) (hb : body.length ≤ 524288) (hr : 32 + body.length ≤ rm)
    (hc : CommitR nm A ⟨1, (body.length : Int), (m : Int), false⟩ e A' x') :
    e = 0 ∧ x'.br = false ∧ A'.room = rm ∧ ∃ C, JF A' nm g C ∧ JS A' nm g C ∧ foundL C = body ∧ C.length = 32 + body.length ∧ A'.writes.length ≤ A.writes.length + 1 := by
  unfold CommitR at hc
  simp only [Bool.false_eq_true, if_false] at hc
  have hle := h.le
  by_cases heq : body.length = m
  · rw [if_pos (by omega)] at hc
    obtain ⟨rfl, rfl, rfl⟩ := hc
    refine ⟨rfl, rfl, h.room, _, h.jf, h.same heq, ?_, jfile_len _ _, by omega⟩
    unfold jfile
    rw [found_put m body hle (by omega), ← heq, List.take_length]
  · rw [if_neg (by omega), if_neg (by omega)] at hc
    obtain ⟨y, hR, rfl, rfl⟩ := hc
    simp only [Int.toNat_natCast, show ((1 : Int)).toNat + 1 = 2 from rfl] at hR
    unfold commitSteps at hR
    obtain ⟨e1, ⟨A1, q1⟩, ⟨⟨he1, hx1⟩, hx1'⟩, hR⟩ := hR
    simp only at he1 hx1 hx1'
    rw [hn] at he1 hx1
    obtain ⟨s1, s2, s3, s4, s5, s6⟩ := h.jf.sync
    rw [← hx1] at s2 s3 s4 s5 s6
    subst hx1'
    rcases hR with ⟨hbad, -⟩ | ⟨-, hR⟩
    · exact absurd (he1.trans s1) hbad
    obtain ⟨e2, ⟨A2, q2⟩, ⟨⟨he2, hx2⟩, hx2'⟩, hR⟩ := hR
    simp only at he2 hx2 hx2'
    have hmw : mayW nm ((2 % 2 * 16 : Nat) : Int) (headL 2 body.length) = true := by unfold mayW; rw [hn, headL_len]; simp
    rw [hmw] at he2 hx2
    obtain ⟨t1, t2, t3, t4⟩ := s2.write (2 % 2 * 16) (headL 2 body.length) (by rw [s3, h.room, jfile_len, headL_len]; omega)
    have hg2 := grow_write A1 true nm (2 % 2 * 16) (headL 2 body.length)
    rw [← hx2] at t2 t3 t4 hg2
    subst hx2'
    rcases hR with ⟨hbad, -⟩ | ⟨-, hR⟩
    · exact absurd (he2.trans t1) hbad
    obtain ⟨e3, ⟨A3, q3⟩, ⟨⟨he3, hx3⟩, hx3'⟩, hR⟩ := hR
    simp only at he3 hx3 hx3'
    rw [hn] at he3 hx3
    obtain ⟨u1, u2, u3, u4, u5, u6⟩ := t2.sync
    rw [← hx3] at u2 u3 u4 u5 u6
    subst hx3'
    rcases hR with ⟨hbad, -⟩ | ⟨-, hR⟩
    · exact absurd (he3.trans u1) hbad
    obtain ⟨e4, x4, ⟨he4, hx4⟩, hR⟩ := hR
    rcases hR with ⟨hbad, -⟩ | ⟨-, he, hy⟩
    · exact absurd he4 hbad
    subst hy hx4 he
    have hC : wroteL (jfile m body) (2 % 2 * 16) (headL 2 body.length) = headL 2 body.length ++ headL 1 m ++ body := by
      unfold jfile
      rw [List.append_assoc, show 2 % 2 * 16 = 0 from rfl, wroteL_head _ _ _ (by simp [headL_len]), List.append_assoc]
    rw [hC] at u2 u5
    have hw3 : A3.writes.length ≤ A.writes.length + 1 := by
      have h1 : A1.writes.length ≤ A.writes.length := by
        rw [hx1, sync_ok h.jf.plan h.jf.off h.jf.look]
        exact List.length_filter_le _ _
      have h3 : A3.writes.length ≤ A2.writes.length := by
        rw [hx3, sync_ok t2.plan t2.off t2.look]
        exact List.length_filter_le _ _
      have := hg2.2
      omega
    refine ⟨rfl, by simp, by simp only; rw [u3, t3, s3]; exact h.room, _, u2, ⟨by rw [u4, t4, s4]; exact h.states, u5, u6⟩, ?_, by simp only [List.length_append, headL_len], hw3⟩
    rw [found_commit body.length m body (Nat.le_refl _) (by omega) (by omega), List.take_length]
end Go.Proofs.Ytpdmbmnhgcnelaa

/- journal, part l4 (plain): a crash, Open. -/
set_option linter.unusedVariables false
set_option linter.unusedSimpArgs false
namespace Go.Proofs.Ytpdmbmnhgcnelaa
open Go Go.SL

theorem updSure_find (fs : List (Nat × List UInt8 × List UInt8)) (k f : Nat) (s : List UInt8) (h : k ≠ f) : (Ab.updSure fs k s).find? (fun x => decide (x.1 = f)) = fs.find? (fun x => decide (x.1 = f)) := by
  unfold Ab.updSure
  rw [find_map_same _ (fun x => by split <;> rfl)]
  cases hx : fs.find? (fun x => decide (x.1 = f)) with
  | none => rfl
  | some x =>
    have : x.1 = f := by simpa using List.find?_some hx
    have hne : ¬ x.1 = k := by rw [this]; exact fun e => h e.symm
    simp [hne]
theorem lasts_find (stay : List UInt8) (torn cut : Int) (f : Nat) : ∀ (ws : List (Nat × Nat × List UInt8)) (i : Nat) (fs : List (Nat × List UInt8 × List UInt8)), (∀ w ∈ ws, w.1 ≠ f) →
    (Ab.lasts stay torn cut i ws fs).find? (fun x => decide (x.1 = f)) = fs.find? (fun x => decide (x.1 = f))
  | [], i, fs, _ => rfl
  | w :: ws, i, fs, h => by
    unfold Ab.lasts
    split
    · exact lasts_find stay torn cut f ws (i + 1) fs (fun v hv => h v (List.mem_cons_of_mem _ hv))
    · rw [lasts_find stay torn cut f ws (i + 1) _ (fun v hv => h v (List.mem_cons_of_mem _ hv)), updSure_find _ _ _ _ (h w (List.mem_cons_self ..))]
theorem lasts_id (stay : List UInt8) (torn cut : Int) : ∀ (ws : List (Nat × Nat × List UInt8)) (i : Nat) (fs : List (Nat × List UInt8 × List UInt8)), (Ab.lasts stay torn cut i ws fs).map (·.1) = fs.map (·.1)
  | [], i, fs => rfl
  | w :: ws, i, fs => by
    unfold Ab.lasts
    split
    · exact lasts_id stay torn cut ws (i + 1) fs
    · rw [lasts_id stay torn cut ws (i + 1) _]
      unfold Ab.updSure
      exact ids_map _ _ (fun x => by split <;> rfl)
/-- What was sure stays. -/
theorem crash_law {A : Ab} {nm : ByteArray} {g : Nat} {C S : List UInt8} (h : JF A nm g C) (hs : JS A nm g S) (stay : List UInt8) (torn cut : Int) :
    JF (A.crash 0 stay torn cut) nm g S ∧ JS (A.crash 0 stay torn cut) nm g S ∧ (A.crash 0 stay torn cut).room = A.room ∧ (A.crash 0 stay torn cut).writes = [] := by
  have hnm : A.states.getD (max 0 (min (0 : Int) (A.states.length - 1))).toNat [] = [(nm, g)] := by rw [hs.states]; rfl
  have hreach : g ∈ Ab.reach (A.states ++ [[(nm, g)]]) := by rw [hs.states]; simp [Ab.reach]
  have hfile : (A.crash 0 stay torn cut).file g = (S, S) := by
    have hl := lasts_find stay torn cut g A.writes 0 A.fs hs.writes
    obtain ⟨x, hx, hxg⟩ := find_mem h.mem
    have hsx : x.2.2 = S := by
      have := hs.sure
      unfold Ab.sure Ab.file at this
      rw [hx] at this
      exact this
    simp only [Ab.crash, Ab.file]
    rw [hnm, find_map_same _ (fun x => by split <;> rfl), hl, hx]
    simp only [Option.map_some, Option.getD_some]
    rw [if_pos (by rw [hxg]; exact hreach)]
    simp only [hsx]
  refine ⟨⟨rfl, rfl, ?_, by unfold Ab.now; rw [hfile], ?_⟩, ⟨?_, by unfold Ab.sure; rw [hfile], by simp [Ab.crash]⟩, rfl, rfl⟩
  · simp only [Ab.crash]; exact hnm
  · simp only [Ab.crash]
    rw [ids_map _ _ (fun x => by split <;> rfl), lasts_id]
    exact h.mem
  · simp only [Ab.crash]; rw [hnm]
theorem JF.putOk {A : Ab} {nm : ByteArray} {g : Nat} {C : List UInt8} (h : JF A nm g C) (hw : ∀ w ∈ A.writes, w.1 ∈ A.fs.map (·.1)) : PutOk A nm :=
  ⟨h.plan, h.off, .inr ⟨g, h.names⟩, fun x hx => by rw [h.names] at hx; simp at hx; subst hx; exact h.mem, hw⟩
theorem JF.fileL {A : Ab} {nm : ByteArray} {g : Nat} {C : List UInt8} (h : JF A nm g C) : fileL A nm = recordsA (foundL C) := by
  have hs : A.size nm = (C.length, 0) := by simp [Ab.size, h.look, h.now]
  have hr : A.read nm 0 (C.length : Int) = (C, 0) := by
    unfold Ab.read
    rw [h.off, h.look]
    simp only [Bool.false_eq_true, if_false, h.now]
    rw [if_neg (by omega)]
    simp
  unfold Proofs.Ytpdmbmnhgcnelaa.fileL
  rw [hs]
  simp only
  rw [hr]
/-- Open, where there is a name for it and room. -/
theorem open_law {A A' : Ab} {nm : ByteArray} {e : Nat} {x : JN} {ls : List (List UInt8)} (h : PutOk A nm) (hn : isName nm = true) (hf : isName (freshOf nm) = true) (hne : freshOf nm ≠ nm) (hls : fileL A nm = ls) (hle : (ls.flatMap encL).length ≤ 524288) (hroom : A.used + 32 + (ls.flatMap encL).length ≤ A.room)
    (hR : OpenR A nm e A' x) : e = 0 ∧ x = ⟨1, ((ls.flatMap encL).length : Int), ((ls.flatMap encL).length : Int), false⟩ ∧ (∃ g, AInv A' nm g (ls.flatMap encL).length A.room (ls.flatMap encL)) ∧ A'.writes.length ≤ A.writes.length + 1 := by
  unfold OpenR at hR
  rw [if_neg (by rw [hn, hf]; simp), if_neg (by rw [h.off]; simp), hls] at hR
  obtain ⟨y, hp, rfl, rfl⟩ := hR
  have hwl : (wholeOf ls).length = 32 + (ls.flatMap encL).length := by rw [wholeOf_eq, jfile_len]
  obtain ⟨h1, h2, g, h3, h4, h5, h6⟩ := put_law h hn hf hne (by rw [hwl]; omega) (by rw [hwl]; omega) hp
  rw [wholeOf_eq] at h3 h4
  refine ⟨h1, by rw [h2], ⟨g, h3, h4.states, h5, Nat.le_refl _, fun _ => h4⟩, h6⟩
theorem new_putOk (room : Nat) (nm : ByteArray) : PutOk (Ab.new room) nm := ⟨rfl, rfl, .inl rfl, by simp [Ab.new], by simp [Ab.new]⟩
theorem new_file (room : Nat) (nm : ByteArray) : fileL (Ab.new room) nm = [] := by
  unfold fileL
  have : (Ab.new room).read nm 0 ((Ab.new room).size nm).1 = ([], 4) := by simp [Ab.new, Ab.read, Ab.size, Ab.look, Ab.lookIn]
  rw [this]
  exact records_nil
theorem new_used (room : Nat) : (Ab.new room).used = 0 := by simp [Ab.new, Ab.used]
/-- A journal's whole way: appended, committed, behind a crash it tells the same. -/
theorem AInv.back {A A1 A2 : Ab} {nm : ByteArray} {g m rm e e2 : Nat} {ls : List (List UInt8)} {x1 x2 : JN} (h : AInv A nm g m rm (ls.flatMap encL)) (hn : isName nm = true) (hf : isName (freshOf nm) = true) (hne : freshOf nm ≠ nm) (hls : ∀ x ∈ ls, x.length ≤ 4096)
    (hb : (ls.flatMap encL).length ≤ 524288) (hr : 64 + 2 * (ls.flatMap encL).length ≤ rm) (hc : CommitR nm A ⟨1, ((ls.flatMap encL).length : Int), (m : Int), false⟩ e A1 x1) (ho : OpenR (A1.crash 0 [] (-1) 0) nm e2 A2 x2) :
    e = 0 ∧ x1.br = false ∧ e2 = 0 ∧ fileL (A1.crash 0 [] (-1) 0) nm = ls ∧ x2 = ⟨1, ((ls.flatMap encL).length : Int), ((ls.flatMap encL).length : Int), false⟩ ∧ (∃ g, AInv A2 nm g (ls.flatMap encL).length rm (ls.flatMap encL)) ∧ A1.writes.length ≤ A.writes.length + 1 ∧ A2.writes.length ≤ 1 := by
  obtain ⟨c1, c2, c3, C, c4, c5, c6, c7, c8⟩ := commit_law h hn hb (by omega) hc
  obtain ⟨d1, d2, d3, d4⟩ := crash_law c4 c5 [] (-1) 0
  have hfl : fileL (A1.crash 0 [] (-1) 0) nm = ls := by rw [d1.fileL, c6, records_enc ls hls]
  obtain ⟨f1, f2, ⟨g2, f3⟩, f4⟩ := open_law (d1.putOk (by rw [d4]; simp)) hn hf hne hfl hb (by rw [d1.used, d3, c3, c7]; omega) ho
  rw [d3, c3] at f3
  rw [d4] at f4
  exact ⟨c1, c2, f1, hfl, f2, ⟨g2, f3⟩, c8, by simpa using f4⟩
theorem AInv.reopen {A A2 : Ab} {nm : ByteArray} {g rm e2 : Nat} {ls : List (List UInt8)} {x2 : JN} (h : AInv A nm g (ls.flatMap encL).length rm (ls.flatMap encL)) (hids : ∀ w ∈ A.writes, w.1 ∈ A.fs.map (·.1)) (hn : isName nm = true) (hf : isName (freshOf nm) = true) (hne : freshOf nm ≠ nm) (hls : ∀ x ∈ ls, x.length ≤ 4096)
    (hb : (ls.flatMap encL).length ≤ 524288) (hr : 64 + 2 * (ls.flatMap encL).length ≤ rm) (ho : OpenR A nm e2 A2 x2) :
    e2 = 0 ∧ fileL A nm = ls ∧ x2 = ⟨1, ((ls.flatMap encL).length : Int), ((ls.flatMap encL).length : Int), false⟩ ∧ (∃ g, AInv A2 nm g (ls.flatMap encL).length rm (ls.flatMap encL)) ∧ A2.writes.length ≤ A.writes.length + 1 := by
  have hfl : fileL A nm = ls := by
    rw [h.jf.fileL]
    unfold jfile
    rw [found_put _ _ (Nat.le_refl _) (by omega), List.take_length, records_enc ls hls]
  obtain ⟨f1, f2, ⟨g2, f3⟩, f4⟩ := open_law (h.jf.putOk hids) hn hf hne hfl hb (by rw [h.jf.used, h.room, jfile_len]; omega) ho
  rw [h.room] at f3
  exact ⟨f1, hfl, f2, ⟨g2, f3⟩, f4⟩
end Go.Proofs.Ytpdmbmnhgcnelaa

/- journal, part q: of the reference: number, Head, Uint, Record. -/
set_option linter.unusedVariables false
set_option linter.unusedSimpArgs false
namespace Go.Proofs.Ytpdmbmnhgcnelaa
open Go Go.SL
attribute [local irreducible] J K Ctr Ends pts slc mapR mapI sbRow stock arrS loopP CtrY diskA

theorem u8_ofInt (m : Nat) (z : Int) (h : z = ((m % 256 : Nat) : Int)) : Value.int .u8 z = u8 (UInt8.ofNat m) := by
  subst h; simp [u8, UInt8.toNat_ofNat']
theorem refNumber_any (n : Nat) (h : n < 4294967296) : Ctr Try.prog 49 [.int .i64 (n : Int)] [] (fun r H => ∃ b, r = .slice (some ⟨b, 0, none⟩) 4 4 ∧ H = [pts b (cl (bV (le4 n)) 5)]) := by
  refine Ctr.enter Try.func49 (by kernel_rfl) rfl Try.ntmps49 rfl rfl ?_
  intro G F R hE
  (repeat (first | refine go1 ?_ | refine J_fork ?_ ?_ | refine J_rem rfl rfl rfl (by omega) (by omega) ?_ | refine J_quo rfl rfl rfl (by omega) (by omega) (by simp only [inK]; omega) ?_ | refine J_convW (U := tab) rfl rfl rfl rfl rfl rfl ?_))
  refine J_slot 5 (u8 (UInt8.ofNat n)) rfl (u8_ofInt n _ (by omega)) ?_
  refine J_slot 9 (u8 (UInt8.ofNat (n / 256))) rfl (u8_ofInt (n / 256) _ (by omega)) ?_
  refine J_slot 13 (u8 (UInt8.ofNat (n / 65536))) rfl (u8_ofInt (n / 65536) _ (by omega)) ?_
  refine J_slot 16 (u8 (UInt8.ofNat (n / 16777216))) rfl (u8_ofInt (n / 16777216) _ (by omega)) ?_
  refine J_buildSlice1 (U := tab) (cs := bV (le4 n)) rfl rfl rfl rfl rfl rfl rfl rfl rfl (fun _ _ _ => trivial) ?_
  intro b
  (refine go ?_)
  (first | refine K_return hE Try.func49 rfl _ rfl ⟨b, rfl, rfl⟩ entA | refine K_fallEnd hE Try.func49 rfl _ rfl ⟨b, rfl, rfl⟩ entA)
set_option maxRecDepth 20000 in
theorem refHead_any (n m : Nat) (h : n < 4294967296) (h2 : m < 4294967296) : Ctr Try.prog 17 [.int .i64 (n : Int), .int .i64 (m : Int)] [] (fun r H => H = [slc 5 1 r (headL n m).length (bV (headL n m))]) := by
  refine Ctr.enter Try.func17 (by kernel_rfl) rfl Try.ntmps17 rfl rfl ?_
  intro G F R hE
  (refine go ?_)
  (first | refine J_callE rfl rfl rfl rfl (refNumber_any n h) entA ?_ (fun _ _ _ _ _ => trivial) | refine J_call0E rfl rfl rfl (refNumber_any n h) entA ?_ (fun _ _ _ _ _ => trivial) | (refine go ?_; first | refine J_callE rfl rfl rfl rfl (refNumber_any n h) entA ?_ (fun _ _ _ _ _ => trivial) | refine J_call0E rfl rfl rfl (refNumber_any n h) entA ?_ (fun _ _ _ _ _ => trivial)))
  rintro _ _ ⟨b1, rfl, rfl⟩
  (refine go ?_)
  (first | refine J_callE rfl rfl rfl rfl (refNumber_any m h2) entA ?_ (fun _ _ _ _ _ => trivial) | refine J_call0E rfl rfl rfl (refNumber_any m h2) entA ?_ (fun _ _ _ _ _ => trivial) | (refine go ?_; first | refine J_callE rfl rfl rfl rfl (refNumber_any m h2) entA ?_ (fun _ _ _ _ _ => trivial) | refine J_call0E rfl rfl rfl (refNumber_any m h2) entA ?_ (fun _ _ _ _ _ => trivial)))
  rintro _ _ ⟨b2, rfl, rfl⟩
  refine J_ent (Ent.pick [1, 0] rfl) ?_
  refine J_ent (slc_row 5 1 b1 4 4 (bV (le4 n)) [] _ rfl (Nat.le_refl _) (by simp [bV, le4])) ?_
  refine J_append (U := tab) (mm := 4) (news := bV (le4 m)) 0 1 rfl rfl rfl rfl rfl rfl rfl rfl rfl rfl rfl rfl (Vw.pts rfl) rfl (bV_one _) (by omega) (by show (_ + _) * 1 ≤ _; omega) (fun _ => rfl) (fun _ _ _ => trivial) ?_
  intro v1
  obtain ⟨t, ht⟩ : ∃ t, t = le4 n ++ le4 m := ⟨_, rfl⟩
  have htl : t.length = 8 := by rw [ht]; rfl
  rw [show bV (le4 n) ++ bV (le4 m) = bV t from by rw [ht]; simp [bV], show 4 + 4 = t.length from htl.symm]
  (first | refine J_shape 0 rfl ?_ | refine K_shape 0 rfl ?_)
  rintro va vc rfl
  refine J_slcB (bs := t) 0 rfl ?_
  intro hbt
  (refine go ?_)
  refine J_buildSlice1 (U := tab) (cs := []) rfl rfl rfl rfl rfl rfl rfl rfl rfl (fun _ _ _ => trivial) ?_
  intro b3
  refine J_ent (slc_row 5 1 b3 0 0 [] [] _ rfl (Nat.le_refl _) (by simp)) ?_
  (refine go ?_)
  refine J_append (U := tab) (mm := t.length) (news := bV t) 0 1 rfl rfl rfl rfl rfl rfl rfl rfl rfl rfl rfl rfl hbt.1 (by show _ = _ * 1; rw [bV_length]; omega) (bV_one _) (by omega) (by show (_ + _) * 1 ≤ _; omega) (fun _ => rfl) (fun _ _ _ => trivial) ?_
  intro v2
  (first | refine J_shape 0 rfl ?_ | refine K_shape 0 rfl ?_)
  rintro va2 vc2 rfl
  (refine go ?_)
  refine J_append (U := tab) (mm := t.length) (news := bV t) 0 1 rfl rfl rfl rfl rfl rfl rfl rfl rfl rfl rfl rfl hbt.1 (by show _ = _ * 1; rw [bV_length]; omega) (bV_one _) (by omega) (by show (_ + _) * 1 ≤ _; omega) (fun _ => rfl) (fun _ _ _ => trivial) ?_
  intro v3
  rw [show [] ++ bV t ++ bV t = bV (headL n m) from by rw [ht]; simp [bV, headL], show 0 + t.length + t.length = (headL n m).length from by rw [headL_len]; omega]
  (first | refine J_shape 0 rfl ?_ | refine K_shape 0 rfl ?_)
  rintro va3 vc3 rfl
  (refine go ?_)
  (first | refine K_return hE Try.func17 rfl _ rfl rfl entA | refine K_fallEnd hE Try.func17 rfl _ rfl rfl entA)
set_option maxRecDepth 20000 in
theorem refUint_any (n : Nat) (hn : n ≤ 1000000000000) : Ctr Try.prog 22 [.int .u64 (n : Int)] [] (fun r H => H = [slc 5 1 r (uv n).length (bV (uv n))]) := by
  have hnl := uv_len10 (n := n) (by omega)
  refine Ctr.enter Try.func22 (by kernel_rfl) rfl Try.ntmps22 rfl rfl ?_
  intro G F R hE
  (refine go ?_)
  refine K_ent (slc_lift 5 1 none _) ?_
  refine K_loop (fun y : Value × List UInt8 × Nat => y.2.2 ≤ n ∧ y.2.1 ++ uv y.2.2 = uv n) (fun y => y.2.2)
    (fun y => [(0, .int .u64 (y.2.2 : Int)), (3, y.1)])
    (fun y => slc 5 1 y.1 y.2.1.length (bV y.2.1) :: F) (.slice none 0 0, [], n) ⟨Nat.le_refl _, rfl⟩ rfl (by repeat (first | exact keep_nil | refine keep_cons rfl ?_)) entA ?_
  rintro ⟨v, acc, m⟩ ⟨hm, hacc⟩ ih
  simp only at hm hacc
  have hal : acc.length + (uv m).length = (uv n).length := by rw [← hacc, List.length_append]
  have hpos := uv_pos m
  (first | refine J_shape 0 rfl ?_ | refine K_shape 0 rfl ?_)
  intro va vc hvv
  simp only at hvv
  subst hvv
  simp only
  (refine go ?_)
  refine K_condP rfl rfl ?_ ?_
  · intro hbig
    have hm128 : ¬ m < 128 := by omega
    have huv := uv_big hm128
    have hul : (uv m).length = (uv (m / 128)).length + 1 := by rw [huv]; simp
    (repeat (first | refine go1 ?_ | refine J_fork ?_ ?_ | refine J_rem rfl rfl rfl (by omega) (by omega) ?_ | refine J_convW (U := tab) rfl rfl rfl rfl rfl rfl ?_))
    refine J_slot 10 (u8 (UInt8.ofNat (m % 128 + 128))) rfl (u8_ofInt (m % 128 + 128) _ (by omega)) ?_
    refine J_buildSlice1 (U := tab) (cs := bV [UInt8.ofNat (m % 128 + 128)]) rfl rfl rfl rfl rfl rfl rfl rfl rfl (fun _ _ _ => trivial) ?_
    intro b
    (refine go ?_)
    refine J_append (U := tab) (mm := 1) (news := bV [UInt8.ofNat (m % 128 + 128)]) 1 0 rfl rfl rfl rfl rfl rfl rfl rfl rfl rfl rfl rfl (Vw.pts rfl) rfl (bV_one _) (by omega) (by show (_ + _) * 1 ≤ _; omega) (fun _ => rfl) (fun _ _ _ => trivial) ?_
    intro v1
    rw [show bV acc ++ bV [UInt8.ofNat (m % 128 + 128)] = bV (acc ++ [UInt8.ofNat (m % 128 + 128)]) from by simp [bV], show acc.length + 1 = (acc ++ [UInt8.ofNat (m % 128 + 128)]).length from by simp]
    (first | refine J_shape 1 rfl ?_ | refine K_shape 1 rfl ?_)
    rintro va1 vc1 rfl
    (repeat (first | refine go1 ?_ | refine J_fork ?_ ?_ | refine J_quo rfl rfl rfl (by omega) (by omega) (by simp only [inK]; omega) ?_))
    (first | refine J_slot 0 ((.int .u64 ((m / 128 : Nat) : Int))) rfl ((congrArg (Value.int .u64) (by omega))) ?_ | refine K_slot 0 ((.int .u64 ((m / 128 : Nat) : Int))) rfl ((congrArg (Value.int .u64) (by omega))) ?_)
    refine K_again ih (.slice va1 (acc ++ [UInt8.ofNat (m % 128 + 128)]).length vc1, acc ++ [UInt8.ofNat (m % 128 + 128)], m / 128) rfl (⟨by simp only; omega, by simp only; rw [List.append_assoc, List.singleton_append, ← huv]; exact hacc⟩) (by simp only; omega) (by repeat (first | exact keep_nil | refine keep_cons rfl ?_)) entA
  intro hsm
  have hm128 : m < 128 := by omega
  have huv := uv_small hm128
  (repeat (first | refine go1 ?_ | refine J_fork ?_ ?_ | refine J_convW (U := tab) rfl rfl rfl rfl rfl rfl ?_))
  refine J_slot 17 (u8 (UInt8.ofNat m)) rfl (u8_ofInt m _ (by omega)) ?_
  refine J_buildSlice1 (U := tab) (cs := bV [UInt8.ofNat m]) rfl rfl rfl rfl rfl rfl rfl rfl rfl (fun _ _ _ => trivial) ?_
  intro b
  (refine go ?_)
  refine J_append (U := tab) (mm := 1) (news := bV [UInt8.ofNat m]) 1 0 rfl rfl rfl rfl rfl rfl rfl rfl rfl rfl rfl rfl (Vw.pts rfl) rfl (bV_one _) (by omega) (by show (_ + _) * 1 ≤ _; omega) (fun _ => rfl) (fun _ _ _ => trivial) ?_
  intro v1
  rw [show bV acc ++ bV [UInt8.ofNat m] = bV (uv n) from by rw [← hacc, huv]; simp [bV], show acc.length + 1 = (uv n).length from by rw [← hacc, huv]; simp]
  (first | refine J_shape 1 rfl ?_ | refine K_shape 1 rfl ?_)
  rintro va1 vc1 rfl
  (refine go ?_)
  (first | refine K_return hE Try.func22 rfl _ rfl rfl entA | refine K_fallEnd hE Try.func22 rfl _ rfl rfl entA)
theorem refRecord_any (A : HP) (v : Value) (bs : List UInt8) (hv : BAt A v bs) (hl : bs.length ≤ 1000000000000) :
    Ctr Try.prog 9 [v] [A] (fun r H => H = [slc 5 1 r (encL bs).length (bV (encL bs)), A]) := by
  obtain ⟨a, c, rfl, hc⟩ := hv.2
  refine Ctr.enter Try.func9 (by kernel_rfl) rfl Try.ntmps9 rfl rfl ?_
  intro G F R hE
  (refine go ?_)
  (first | refine J_callE rfl rfl rfl rfl (refUint_any bs.length (by omega)) entA ?_ (fun _ _ _ _ _ => trivial) | refine J_call0E rfl rfl rfl (refUint_any bs.length (by omega)) entA ?_ (fun _ _ _ _ _ => trivial) | (refine go ?_; first | refine J_callE rfl rfl rfl rfl (refUint_any bs.length (by omega)) entA ?_ (fun _ _ _ _ _ => trivial) | refine J_call0E rfl rfl rfl (refUint_any bs.length (by omega)) entA ?_ (fun _ _ _ _ _ => trivial)))
  rintro r _ rfl
  (first | refine J_shape 0 rfl ?_ | refine K_shape 0 rfl ?_)
  rintro ra rc rfl
  (refine go ?_)
  have hu := uv_len10 (n := bs.length) (by omega)
  refine J_append (U := tab) (mm := bs.length) (news := bV bs) 0 1 rfl rfl rfl rfl rfl rfl rfl rfl rfl rfl rfl rfl hv.1 (by show _ = _ * 1; rw [bV_length]; omega) (bV_one _) (by omega) (by show (_ + _) * 1 ≤ _; omega) (fun _ => rfl) (fun _ _ _ => trivial) ?_
  intro v1
  rw [show bV (uv bs.length) ++ bV bs = bV (encL bs) from by simp [bV, encL], show (uv bs.length).length + bs.length = (encL bs).length from by simp [encL]]
  (refine go ?_)
  (first | refine K_return hE Try.func9 rfl _ rfl rfl entA | refine K_fallEnd hE Try.func9 rfl _ rfl rfl entA)
end Go.Proofs.Ytpdmbmnhgcnelaa

/- the reference's journal, part a: ToUint, of. -/
set_option linter.unusedVariables false
set_option linter.unusedSimpArgs false
namespace Go.Proofs.Ytpdmbmnhgcnelaa
open Go Go.SL
/-- cut, of two bytes at most. -/
def cutR (bs : List UInt8) : Nat × Nat :=
  if 1 ≤ bs.length ∧ (bs.getD 0 0).toNat < 128 then ((bs.getD 0 0).toNat, 1)
  else if 2 ≤ bs.length ∧ (bs.getD 1 0).toNat < 128 ∧ (bs.getD 1 0).toNat ≠ 0 then ((bs.getD 0 0).toNat % 128 + (bs.getD 1 0).toNat * 128, 2) else (0, 0)
theorem toUint_cutR {bs : List UInt8} (hl : bs.length ≤ 2) : toUintA bs = if (cutR bs).2 = 0 ∨ (cutR bs).2 ≠ bs.length then none else some (cutR bs).1 := by
  match bs, hl with
  | [], _ => rfl
  | [a], _ =>
    by_cases ha : a.toNat < 128
    · simp [toUintA, cutA, cutL, cutR, ha]
    · simp [toUintA, cutA, cutL, cutR, ha]
  | [a, b], _ =>
    by_cases ha : a.toNat < 128
    · simp [toUintA, cutA, cutL, cutR, ha]
    · by_cases hb : b.toNat < 128
      · by_cases hb0 : b.toNat = 0
        · simp [toUintA, cutA, cutL, cutR, ha, hb0]
        · simp [toUintA, cutA, cutL, cutR, ha, hb, hb0]; try omega
      · simp [toUintA, cutA, cutL, cutR, ha, hb]
def accN (bs : List UInt8) : Nat → Nat
  | 0 => 0
  | 1 => (bs.getD 0 0).toNat % 128
  | _ => (bs.getD 0 0).toNat % 128 + (bs.getD 1 0).toNat % 128 * 128
def worN : Nat → Nat
  | 0 => 1
  | 1 => 128
  | _ => 16384
attribute [local irreducible] J K Ctr Ends pts slc mapR mapI sbRow stock arrS loopP CtrY diskA

set_option maxRecDepth 20000 in
theorem refCut_any (A : HP) (v : Value) (bs : List UInt8) (hv : BAt A v bs) (hl : bs.length ≤ 2) :
    Ctr Try.prog 100 [v] [A] (fun r H => r = .tuple #[.int .u64 ((cutR bs).1 : Int), .int .i64 ((cutR bs).2 : Int)] ∧ H = [A]) := by
  obtain ⟨a, c, rfl, hc⟩ := hv.2
  have hx : ∀ x : UInt8, x.toNat < 256 := fun x => x.toNat_lt
  have hb0 := hx (bs.getD 0 0); have hb1 := hx (bs.getD 1 0)
  refine Ctr.enter Try.func100 (by kernel_rfl) rfl Try.ntmps100 rfl rfl ?_
  intro G F R hE
  (refine go ?_)
  refine K_loop (fun i : Nat => i ≤ bs.length ∧ (1 ≤ i → ¬ (bs.getD 0 0).toNat < 128) ∧ (2 ≤ i → ¬ (bs.getD 1 0).toNat < 128)) (fun i => bs.length - i)
    (fun i => [(0, .slice a bs.length c), (4, .int .u64 (accN bs i : Int)), (5, .int .u64 (worN i : Int)), (6, .int .i64 (i : Int))])
    (fun _ => A :: F) 0 ⟨Nat.zero_le _, by omega, by omega⟩ rfl (by repeat (first | exact keep_nil | refine keep_cons rfl ?_)) entA ?_
  rintro i ⟨hi, h0, h1⟩ ih
  have hi2 : i = 0 ∨ i = 1 ∨ i = 2 := by omega
  by_cases hge : bs.length ≤ i
  case pos =>
    have hres : cutR bs = (0, 0) := by
      unfold cutR
      rw [if_neg (fun h => h0 (by omega) h.2), if_neg (fun h => h1 (by omega) h.2.1)]
    rw [hres] at hE
    (refine go ?_)
    (first | refine J_slot 12 ((.bool false)) rfl ((congrArg Value.bool (decide_eq_false (by omega)))) ?_ | refine K_slot 12 ((.bool false)) rfl ((congrArg Value.bool (decide_eq_false (by omega)))) ?_)
    (refine go ?_)
    (first | refine K_return hE Try.func100 rfl _ rfl ⟨rfl, rfl⟩ entA | refine K_fallEnd hE Try.func100 rfl _ rfl ⟨rfl, rfl⟩ entA)
  obtain ⟨b, o, c', hsl⟩ := bV_at hv.1 (by omega)
  simp only [Value.slice.injEq, true_and] at hsl
  obtain ⟨rfl, rfl⟩ := hsl
  rcases hi2 with rfl | rfl | rfl
  case inr.inr => exfalso; omega
  · rw [show accN bs 0 = 0 from rfl, show worN 0 = 1 from rfl]
    (refine go ?_)
    (first | refine J_slot 12 ((.bool true)) rfl ((congrArg Value.bool (decide_eq_true (by omega)))) ?_ | refine K_slot 12 ((.bool true)) rfl ((congrArg Value.bool (decide_eq_true (by omega)))) ?_)
    (refine go ?_)
    refine J_at1 (U := tab) 0 rfl rfl rfl rfl rfl rfl rfl rfl (by omega) ?_
    refine J_loadAt (U := tab) 0 0 rfl rfl rfl hv.1 rfl (bV_getD (by omega)) rfl rfl ?_
    (repeat (first | refine go1 ?_ | refine J_fork ?_ ?_ | refine J_rem rfl rfl rfl (by omega) (by omega) ?_ | refine J_mul rfl rfl rfl (by simp only [inK]; omega) ?_))
    (first | refine J_slot 4 ((.int .u64 ((accN bs 1 : Nat) : Int))) rfl ((congrArg (Value.int .u64) (by show _ = (((bs.getD 0 0).toNat % 128 : Nat) : Int); omega))) ?_ | refine K_slot 4 ((.int .u64 ((accN bs 1 : Nat) : Int))) rfl ((congrArg (Value.int .u64) (by show _ = (((bs.getD 0 0).toNat % 128 : Nat) : Int); omega))) ?_)
    (first | refine J_slot 5 ((.int .u64 ((worN 1 : Nat) : Int))) rfl ((congrArg (Value.int .u64) (by show _ = ((128 : Nat) : Int); omega))) ?_ | refine K_slot 5 ((.int .u64 ((worN 1 : Nat) : Int))) rfl ((congrArg (Value.int .u64) (by show _ = ((128 : Nat) : Int); omega))) ?_)
    refine J_at1 (U := tab) 0 rfl rfl rfl rfl rfl rfl rfl rfl (by omega) ?_
    refine J_loadAt (U := tab) 0 0 rfl rfl rfl hv.1 rfl (bV_getD (by omega)) rfl rfl ?_
    (refine go ?_)
    refine K_condP rfl rfl ?_ ?_
    · intro hlt
      have hlt' : (bs.getD 0 0).toNat < 128 := by omega
      have hres : cutR bs = ((bs.getD 0 0).toNat, 1) := by unfold cutR; rw [if_pos ⟨by omega, hlt'⟩]
      rw [hres] at hE
      (refine go ?_)
      (first | refine J_slot 2 ((.int .u64 (((bs.getD 0 0).toNat : Nat) : Int))) rfl ((congrArg (Value.int .u64) (by show (((bs.getD 0 0).toNat % 128 : Nat) : Int) = _; omega))) ?_ | refine K_slot 2 ((.int .u64 (((bs.getD 0 0).toNat : Nat) : Int))) rfl ((congrArg (Value.int .u64) (by show (((bs.getD 0 0).toNat % 128 : Nat) : Int) = _; omega))) ?_)
      (first | refine K_return hE Try.func100 rfl _ rfl ⟨rfl, rfl⟩ entA | refine K_fallEnd hE Try.func100 rfl _ rfl ⟨rfl, rfl⟩ entA)
    · intro hge2
      (refine go ?_)
      refine K_again ih (1 : Nat) rfl ⟨by omega, fun _ => by omega, by omega⟩ (by omega) (by repeat (first | exact keep_nil | refine keep_cons rfl ?_)) entA
  · rw [show accN bs 1 = (bs.getD 0 0).toNat % 128 from rfl, show worN 1 = 128 from rfl]
    (refine go ?_)
    (first | refine J_slot 12 ((.bool true)) rfl ((congrArg Value.bool (decide_eq_true (by omega)))) ?_ | refine K_slot 12 ((.bool true)) rfl ((congrArg Value.bool (decide_eq_true (by omega)))) ?_)
    (refine go ?_)
    refine J_at1 (U := tab) 1 rfl rfl rfl rfl rfl rfl rfl rfl (by omega) ?_
    refine J_loadAt (U := tab) 0 1 rfl rfl rfl hv.1 rfl (bV_getD (by omega)) rfl rfl ?_
    (repeat (first | refine go1 ?_ | refine J_fork ?_ ?_ | refine J_rem rfl rfl rfl (by omega) (by omega) ?_ | refine J_mul rfl rfl rfl (by simp only [inK]; omega) ?_))
    (first | refine J_slot 4 ((.int .u64 ((accN bs 2 : Nat) : Int))) rfl ((congrArg (Value.int .u64) (by show _ = (((bs.getD 0 0).toNat % 128 + (bs.getD 1 0).toNat % 128 * 128 : Nat) : Int); omega))) ?_ | refine K_slot 4 ((.int .u64 ((accN bs 2 : Nat) : Int))) rfl ((congrArg (Value.int .u64) (by show _ = (((bs.getD 0 0).toNat % 128 + (bs.getD 1 0).toNat % 128 * 128 : Nat) : Int); omega))) ?_)
    (first | refine J_slot 5 ((.int .u64 ((worN 2 : Nat) : Int))) rfl ((congrArg (Value.int .u64) (by show _ = ((16384 : Nat) : Int); omega))) ?_ | refine K_slot 5 ((.int .u64 ((worN 2 : Nat) : Int))) rfl ((congrArg (Value.int .u64) (by show _ = ((16384 : Nat) : Int); omega))) ?_)
    refine J_at1 (U := tab) 1 rfl rfl rfl rfl rfl rfl rfl rfl (by omega) ?_
    refine J_loadAt (U := tab) 0 1 rfl rfl rfl hv.1 rfl (bV_getD (by omega)) rfl rfl ?_
    (refine go ?_)
    have h00 := h0 (by omega)
    refine K_condP rfl rfl ?_ ?_
    · intro hlt
      (refine go ?_)
      refine J_at1 (U := tab) 1 rfl rfl rfl rfl rfl rfl rfl rfl (by omega) ?_
      (refine go ?_)
      refine J_loadAt (U := tab) 0 1 rfl rfl rfl hv.1 rfl (bV_getD (by omega)) rfl rfl ?_
      (refine go ?_)
      refine K_condP rfl rfl ?_ ?_
      · intro hz
        have hz' : (bs.getD 1 0).toNat = 0 := by omega
        have hres : cutR bs = (0, 0) := by unfold cutR; rw [if_neg (fun h => h00 h.2), if_neg (fun h => h.2.2 hz')]
        rw [hres] at hE
        (refine go ?_)
        (first | refine K_return hE Try.func100 rfl _ rfl ⟨rfl, rfl⟩ entA | refine K_fallEnd hE Try.func100 rfl _ rfl ⟨rfl, rfl⟩ entA)
      · intro hz
        have hres : cutR bs = ((bs.getD 0 0).toNat % 128 + (bs.getD 1 0).toNat * 128, 2) := by unfold cutR; rw [if_neg (fun h => h00 h.2), if_pos ⟨by omega, by omega, fun h => hz (by omega)⟩]
        rw [hres] at hE
        (refine go ?_)
        (first | refine J_slot 2 ((.int .u64 (((bs.getD 0 0).toNat % 128 + (bs.getD 1 0).toNat * 128 : Nat) : Int))) rfl ((congrArg (Value.int .u64) (by show (((bs.getD 0 0).toNat % 128 + (bs.getD 1 0).toNat % 128 * 128 : Nat) : Int) = _; omega))) ?_ | refine K_slot 2 ((.int .u64 (((bs.getD 0 0).toNat % 128 + (bs.getD 1 0).toNat * 128 : Nat) : Int))) rfl ((congrArg (Value.int .u64) (by show (((bs.getD 0 0).toNat % 128 + (bs.getD 1 0).toNat % 128 * 128 : Nat) : Int) = _; omega))) ?_)
        (first | refine K_return hE Try.func100 rfl _ rfl ⟨rfl, rfl⟩ entA | refine K_fallEnd hE Try.func100 rfl _ rfl ⟨rfl, rfl⟩ entA)
    · intro hge2
      (refine go ?_)
      refine K_again ih (2 : Nat) rfl ⟨by omega, fun _ => h00, fun _ => by omega⟩ (by omega) (by repeat (first | exact keep_nil | refine keep_cons rfl ?_)) entA
theorem refToUint_any (A : HP) (v : Value) (bs : List UInt8) (hv : BAt A v bs) (hl : bs.length ≤ 2) :
    Ctr Try.prog 94 [v] [A] (fun r H => r = (match toUintA bs with
      | some n => .tuple #[.int .u64 (n : Int), .int .i64 0]
      | none => .tuple #[.int .u64 0, .int .i64 2]) ∧ H = [A]) := by
  obtain ⟨a, c, rfl, hc⟩ := hv.2
  have htu := toUint_cutR hl
  refine Ctr.enter Try.func94 (by kernel_rfl) rfl Try.ntmps94 rfl rfl ?_
  intro G F R hE
  (refine go ?_)
  (first | refine J_callE rfl rfl rfl rfl (refCut_any A _ bs hv hl) entA ?_ (fun _ _ _ _ _ => trivial) | refine J_call0E rfl rfl rfl (refCut_any A _ bs hv hl) entA ?_ (fun _ _ _ _ _ => trivial) | (refine go ?_; first | refine J_callE rfl rfl rfl rfl (refCut_any A _ bs hv hl) entA ?_ (fun _ _ _ _ _ => trivial) | refine J_call0E rfl rfl rfl (refCut_any A _ bs hv hl) entA ?_ (fun _ _ _ _ _ => trivial)))
  rintro _ _ ⟨rfl, rfl⟩
  repeat' (first | (with_reducible intro _hh) | refine go1 ?_ | refine J_fork ?_ ?_ | refine J_gsP rfl rfl rfl rfl ?_ ?_ | refine K_condP rfl rfl ?_ ?_)
  · rw [htu, if_pos (by omega)] at hE
    (first | refine K_return hE Try.func94 rfl _ rfl ⟨rfl, rfl⟩ entA | refine K_fallEnd hE Try.func94 rfl _ rfl ⟨rfl, rfl⟩ entA)
  · rw [htu, if_pos (by omega)] at hE
    (first | refine K_return hE Try.func94 rfl _ rfl ⟨rfl, rfl⟩ entA | refine K_fallEnd hE Try.func94 rfl _ rfl ⟨rfl, rfl⟩ entA)
  · rw [htu, if_neg (by omega)] at hE
    (first | refine K_return hE Try.func94 rfl _ rfl ⟨rfl, rfl⟩ entA | refine K_fallEnd hE Try.func94 rfl _ rfl ⟨rfl, rfl⟩ entA)
theorem refOf_any (A : HP) (v : Value) (bs : List UInt8) (hv : Vw A v bs.length (bV bs)) (h : 4 ≤ bs.length) : Ctr Try.prog 76 [v] [A] (fun r H => r = .int .i64 (leN bs : Int) ∧ H = [A]) := by
  obtain ⟨b, o, c, rfl⟩ := bV_at hv (by omega)
  have hx : ∀ x : UInt8, x.toNat < 256 := fun x => x.toNat_lt
  have h0 := hx (bs.getD 0 0); have h1 := hx (bs.getD 1 0); have h2 := hx (bs.getD 2 0); have h3 := hx (bs.getD 3 0)
  have hle : leN bs = (bs.getD 0 0).toNat + (bs.getD 1 0).toNat * 2 ^ 8 + (bs.getD 2 0).toNat * 2 ^ 16 + (bs.getD 3 0).toNat * 2 ^ 24 := rfl
  refine Ctr.enter Try.func76 (by kernel_rfl) rfl Try.ntmps76 rfl rfl ?_
  intro G F R hE
  (refine go ?_)
  refine K_drawA (fun w => Sat G w ([A])) (sts 0 23 .nil) rfl (by kernel_rfl) (by kernel_rfl) (by kernel_rfl) (fun w hw => hw.ent entA) ?_
  (refine go ?_)
  refine J_at1 (U := tab) 0 rfl rfl rfl rfl rfl rfl rfl rfl (by omega) ?_
  refine J_loadAtS (U := tab) 0 0 rfl rfl rfl hv rfl (bV_getD (by omega)) rfl rfl ?_
  (refine go ?_)
  refine J_at1 (U := tab) 1 rfl rfl rfl rfl rfl rfl rfl rfl (by omega) ?_
  refine J_loadAtS (U := tab) 0 1 rfl rfl rfl hv rfl (bV_getD (by omega)) rfl rfl ?_
  (repeat (first | refine go1 ?_ | refine J_fork ?_ ?_ | refine J_mul rfl rfl rfl (by simp only [inK]; omega) ?_))
  refine J_at1 (U := tab) 2 rfl rfl rfl rfl rfl rfl rfl rfl (by omega) ?_
  refine J_loadAtS (U := tab) 0 2 rfl rfl rfl hv rfl (bV_getD (by omega)) rfl rfl ?_
  (repeat (first | refine go1 ?_ | refine J_fork ?_ ?_ | refine J_mul rfl rfl rfl (by simp only [inK]; omega) ?_))
  refine J_at1 (U := tab) 3 rfl rfl rfl rfl rfl rfl rfl rfl (by omega) ?_
  refine J_loadAtS (U := tab) 0 3 rfl rfl rfl hv rfl (bV_getD (by omega)) rfl rfl ?_
  (repeat (first | refine go1 ?_ | refine J_fork ?_ ?_ | refine J_mul rfl rfl rfl (by simp only [inK]; omega) ?_))
  refine K_slot 2 (.int .i64 (leN bs : Int)) rfl (congrArg (Value.int .i64) (by rw [hle]; omega)) ?_
  (first | refine K_return hE Try.func76 rfl _ rfl ⟨rfl, rfl⟩ entA | refine K_fallEnd hE Try.func76 rfl _ rfl ⟨rfl, rfl⟩ entA)
end Go.Proofs.Ytpdmbmnhgcnelaa

/- files, part u: the reference's Wrote. -/
set_option linter.unusedVariables false
set_option linter.unusedSimpArgs false
namespace Go.Proofs.Ytpdmbmnhgcnelaa
open Go Go.SL
attribute [local irreducible] J K Ctr Ends pts slc mapR mapI sbRow stock arrS

theorem Wrote_ref (A : HP) (v1 v2 : Value) (old b : List UInt8) (at_ : Nat) (h1 : Vw A v1 old.length (bV old)) (h2 : Vw A v2 b.length (bV b)) (hb : old.length + at_ + b.length ≤ 1000000000) :
    Ctr Try.prog 36 [v1, .int .i64 at_, v2] [A] (fun r H => H = [slc 5 1 r (wroteL old at_ b).length (bV (wroteL old at_ b)), A]) := by
  obtain ⟨a1, c1, rfl⟩ := h1.shape
  obtain ⟨a2, c2, rfl⟩ := h2.shape
  refine Ctr.enter Try.func36 (by kernel_rfl) rfl Try.ntmps36 rfl rfl ?_
  intro G F R hR
  (refine go ?_)
  refine J_buildSlice1 (U := tab) rfl rfl rfl rfl rfl rfl rfl rfl rfl (fun _ _ _ => trivial) ?_
  intro b0
  (refine go ?_)
  refine J_ent (slc_row 5 1 b0 0 0 [] [] _ rfl (Nat.le_refl _) (by simp)) ?_
  refine J_append (U := tab) (mm := old.length) (news := bV old) 0 1 rfl rfl rfl rfl rfl rfl rfl rfl rfl rfl rfl rfl h1 (by show _ = _ * 1; rw [bV_length]; omega) (bV_one old) (by omega) (by show _ * 1 ≤ _; omega) (fun _ => rfl) (fun _ _ _ => trivial) ?_
  intro v'
  have e1 : (0 : Nat) + old.length = old.length := by omega
  rw [e1, List.nil_append]
  refine J_shape 0 rfl ?_
  rintro av cv rfl
  (refine go ?_)
  refine K_loop (fun s : Nat × Option Addr × Nat => s.1 ≤ at_ + b.length - old.length) (fun s => at_ + b.length - old.length - s.1)
    (fun s => [(0, .slice a1 old.length c1), (1, .int .i64 at_), (2, .slice a2 b.length c2), (7, .slice s.2.1 (old ++ List.replicate s.1 0).length s.2.2)])
    (fun s => slc 5 1 (.slice s.2.1 (old ++ List.replicate s.1 0).length s.2.2) (old ++ List.replicate s.1 0).length (bV (old ++ List.replicate s.1 0)) :: A :: F)
    (0, av, cv) (Nat.zero_le _) rfl (by simp only [List.replicate_zero, List.append_nil]; exact (by repeat (first | exact keep_nil | refine keep_cons rfl ?_))) (by simp only [List.replicate_zero, List.append_nil]; exact Ent.refl _) ?_
  rintro ⟨i, a, c⟩ hi ih
  simp only at hi
  have hlen : (old ++ List.replicate i (0 : UInt8)).length = old.length + i := by simp
  (refine go ?_)
  refine K_condP rfl rfl ?_ ?_
  · intro hlt
    simp only [hlen] at hlt
    (refine go ?_)
    refine J_buildSlice1 (U := tab) rfl rfl rfl rfl rfl rfl rfl rfl rfl (fun _ _ _ => trivial) ?_
    intro b1
    refine J_append (U := tab) (mm := 1) (news := bV [0]) 1 0 rfl rfl rfl rfl rfl rfl rfl rfl rfl rfl rfl rfl (Vw.pts rfl) rfl (bV_one [0]) (by rw [hlen]; omega) (by show _ * 1 ≤ _; rw [hlen]; omega) (fun _ => rfl) (fun _ _ _ => trivial) ?_
    intro v'
    have e1 : bV (old ++ List.replicate i 0) ++ bV [0] = bV (old ++ List.replicate (i + 1) 0) := by simp [bV, List.replicate_succ']
    have e2 : (old ++ List.replicate i (0 : UInt8)).length + 1 = (old ++ List.replicate (i + 1) (0 : UInt8)).length := by simp; omega
    rw [e1, e2]
    refine J_shape 1 rfl ?_
    rintro a' c' rfl
    (refine go ?_)
    refine K_again ih (i + 1, a', c') rfl (by show i + 1 ≤ _; omega) (by simp only; omega) (by repeat (first | exact keep_nil | refine keep_cons rfl ?_)) (Ent.drop _ _)
  · intro hge
    simp only [hlen] at hge
    have hie : i = at_ + b.length - old.length := by omega
    subst hie
    have hle : at_ + b.length ≤ (old ++ List.replicate (at_ + b.length - old.length) (0 : UInt8)).length := by rw [hlen]; omega
    have hw : wroteL old at_ b = (old ++ List.replicate (at_ + b.length - old.length) 0).take at_ ++ b ++ (old ++ List.replicate (at_ + b.length - old.length) 0).drop (at_ + b.length) := rfl
    generalize (old ++ List.replicate (at_ + b.length - old.length) (0 : UInt8)) = o at hle hw hlen ⊢
    (refine go ?_)
    refine K_loop (fun i : Nat => i ≤ b.length) (fun i => b.length - i)
      (fun i => [(0, .slice a1 old.length c1), (1, .int .i64 at_), (2, .slice a2 b.length c2), (7, .slice a o.length c), (8, .int .i64 i)])
      (fun i => slc 5 1 (.slice a o.length c) o.length (bV (o.take at_ ++ b.take i ++ o.drop (at_ + i))) :: A :: F)
      0 (Nat.zero_le _) rfl (by repeat (first | exact keep_nil | refine keep_cons rfl ?_)) (by simp only [List.take_zero, List.append_nil, Nat.add_zero, List.take_append_drop]; exact Ent.refl _) ?_
    intro i hi ih
    (refine go ?_)
    refine K_condP rfl rfl ?_ ?_
    · intro hlt
      obtain ⟨x, hx⟩ : ∃ x, b[i]? = some x := ⟨b[i]'(by omega), by simp⟩
      obtain ⟨ob, oo, oc, hsb⟩ := h2.some (by rw [← List.length_pos_iff, bV_length]; omega)
      simp only [Value.slice.injEq, true_and] at hsb
      obtain ⟨rfl, rfl⟩ := hsb
      (refine go ?_)
      refine J_at1 (U := tab) i rfl rfl rfl rfl rfl rfl rfl rfl (by omega) ?_
      refine J_loadV (U := tab) 1 rfl rfl rfl (h2.cell (bV_get hx)) rfl rfl ?_
      (refine go ?_)
      refine J_slcAt 0 rfl (by omega) ?_
      rintro bo oo' co hs hvo
      simp only [Value.slice.injEq, true_and] at hs
      obtain ⟨rfl, rfl⟩ := hs
      refine J_at1 (U := tab) (at_ + i) rfl rfl rfl rfl rfl rfl rfl (by omega) (by omega) ?_
      (refine go ?_)
      refine J_storeSlc (U := tab) (q := at_ + i) 0 (fun _ _ => trivial) rfl rfl rfl rfl rfl rfl rfl (by omega) rfl ?_
      rw [bV_set]
      have e : (o.take at_ ++ b.take i ++ o.drop (at_ + i)).set (at_ + i) x = o.take at_ ++ b.take (i + 1) ++ o.drop (at_ + (i + 1)) := by
        have hl1 : (o.take at_ ++ b.take i).length = at_ + i := by simp; omega
        rw [List.set_append_right _ _ (by omega), hl1, Nat.sub_self, List.drop_eq_getElem_cons (by omega : at_ + i < o.length), List.set_cons_zero, List.take_add_one, hx]
        simp [Nat.add_assoc]
      rw [e]
      (refine go ?_)
      refine K_again ih (i + 1) rfl (by show i + 1 ≤ _; omega) (by show _ - (_ + 1) < _; omega) (by repeat (first | exact keep_nil | refine keep_cons rfl ?_)) (Ent.refl _)
    · intro hge2
      have hie : i = b.length := by omega
      subst hie
      rw [List.take_length, ← hw]
      have hlw : (wroteL old at_ b).length = o.length := by rw [hw]; simp; omega
      rw [← hlw]
      (refine go ?_)
      refine K_return hR Try.func36 rfl _ rfl rfl (Ent.fin [0, 1] 0 rfl rfl)
end Go.Proofs.Ytpdmbmnhgcnelaa

