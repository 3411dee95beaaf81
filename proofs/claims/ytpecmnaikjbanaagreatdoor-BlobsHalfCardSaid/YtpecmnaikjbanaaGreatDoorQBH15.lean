/- Texts of one claim, joined: Bn, Bo, Vf, Vg, Bz0, Vg1. -/
import Derived.Test.YtpecmnaikjbanaaGreatDoorQBH8
import Derived.Test.YtpecmnaikjbanaaGreatDoorQBH10
import Derived.Test.YtpecmnaikjbanaaGreatDoorQBH13
import Derived.Test.YtpecmnaikjbanaaGreatDoorQBH14
import Derived.Test.YtpecmnaikjbanaaGreatDoorRows
import Derived.OpenShut
import Derived.ChangeArms
import Derived.ProofKit
import Derived.Handed
import Derived.JoinedOf
import Derived.RowKit
import Derived.WalkKit
import Derived.ShutString
import Derived.ChangeOld
import Derived.Below
import Derived.SizedLaws
import Derived.ChangeSame
import Derived.ChangeVars
/- blobs, part n: Commit. -/
set_option linter.unusedVariables false
set_option linter.unusedSimpArgs false
namespace Go.Proofs.YtpecmnaikjbanaaGreatDoor
open Go Go.SL
/-- How steps go on: no more than a hundred states and writes each. -/
def GW (A : Ab) (i : Nat) (x : Ab) : Prop := x.states.length ≤ A.states.length + 100 * i ∧ x.writes.length ≤ A.writes.length + 100 * i
theorem GW.zero (A : Ab) : GW A 0 A := ⟨Nat.le_refl _, Nat.le_refl _⟩
theorem GW.next {A x y : Ab} {i : Nat} (h : GW A i x) (g : Grow1 x y) : GW A (i + 1) y := ⟨by have := h.1; have := g.1; omega, by have := h.2; have := g.2; omega⟩
theorem All2.append {α β : Type} {q : α → β → Prop} {l l' : List α} {r r' : List β} (h : All2 q l r) (h' : All2 q l' r') : All2 q (l ++ l') (r ++ r') := by
  refine ⟨by rw [List.length_append, List.length_append, h.1, h'.1], fun i x y hx hy => ?_⟩
  rcases Nat.lt_or_ge i l.length with hi | hi
  · rw [List.getElem?_append_left hi] at hx
    rw [List.getElem?_append_left (by rw [← h.1]; exact hi)] at hy
    exact h.2 i x y hx hy
  · rw [List.getElem?_append_right hi] at hx
    rw [List.getElem?_append_right (by rw [← h.1]; exact hi), ← h.1] at hy
    exact h'.2 _ x y hx hy
/-- A function value that does a step. -/
def StpOk (Y : Ab → HP) (A : Ab) (fv : Value) (sp : Stp) : Prop := ∃ g fi cap, fv = .func (.func g) fi cap ∧ ∀ j, j ≤ 1000 → ∀ y, GW A j y → Ctr Tryz.prog g (fi.toList ++ cap.toList) [Y y] (fun r H => ∃ (e : Nat) (x' : Ab), r = .int .i64 (e : Int) ∧ H = [Y x'] ∧ sp y e x' ∧ (e = 0 → GW A (j + 1) x'))
theorem stpOk_of {Y : Ab → HP} {A : Ab} {g : FuncId} {fi cap : Array Value} {sp : Stp} (hst : A.states.length ≤ 900000000) (hwl : A.writes.length ≤ 900000000) (h : ∀ y : Ab, y.states.length ≤ 1000000000 → y.writes.length ≤ 1000000000 → Ctr Tryz.prog g (fi.toList ++ cap.toList) [Y y] (fun r H => ∃ (e : Nat) (x' : Ab), r = .int .i64 (e : Int) ∧ H = [Y x'] ∧ sp y e x')) (hg : ∀ A e B, sp A e B → Grow1 A B) : StpOk Y A (.func (.func g) fi cap) sp :=
  ⟨g, fi, cap, rfl, fun j hj y hy => (h y (by have := hy.1; omega) (by have := hy.2; omega)).post (by
    rintro r H ⟨e, B, rfl, rfl, h1⟩
    exact ⟨e, B, rfl, rfl, h1, fun _ => hy.next (hg _ _ _ h1)⟩)⟩
attribute [local irreducible] J K Ctr Ends pts slc mapR mapI sbRow stock arrS loopP CtrY Sha.chunks Sha.chunk Sha.rounds Sha.sched sumL taggedL GI leafL diskA
/-- Steps that change files, done by a store. -/
theorem changeA_any (bs bd : Nat) (q : Int) (mb : Nat) (brk : Bool) (Y : HP) (V : HP) (v : Value) (fvs : List Value) (hv : Vw V v fvs.length fvs) (hn : fvs.length ≤ 1000) (ss : List Stp) (A : Ab) (h : All2 (StpOk (stX bs bd q mb brk Y) A) fvs ss) :
    Ctr Tryz.prog 55 [ptr bs, v] [V, stX bs bd q mb brk Y A]
      (fun r H => ∃ (e : Nat) (B : Ab), r = .int .i64 (e : Int) ∧ H = [V, stX bs bd q mb (brk || decide (e ≠ 0)) Y B] ∧ Runs ss A e B) :=
  (changeS_any bs bd q mb brk Y V v fvs hv (by omega) ss h.1.symm (fun i x => i ≤ 1000 → GW A i x) (fun i fv s hi hs => by
    obtain ⟨g, fi, cap, rfl, hc⟩ := h.2 i fv s hi hs
    have hil := (List.getElem?_eq_some_iff.1 hi).1
    refine ⟨g, fi, cap, rfl, fun x hx => (hc i (by omega) x (hx (by omega))).post ?_⟩
    rintro r H ⟨e, B, rfl, rfl, h1, h2⟩
    exact ⟨e, B, rfl, rfl, h1, fun he _ => h2 he⟩) A (fun _ => GW.zero A)).post (by
    rintro r H ⟨e, B, rfl, rfl, h1, _⟩
    exact ⟨e, B, rfl, rfl, h1⟩)
/-- More beside what a step wants. -/
theorem ctr_stXr {f : FuncId} {args : List Value} {bs bd : Nat} {q : Int} {mb : Nat} {brk : Bool} (Zs : List HP) {Xs : List HP} {A : Ab} {p : Nat → Ab → Prop}
    (h : Ctr Tryz.prog f args (pts bs (cl (stC bd q mb brk) 92) :: diskA bd A :: Xs) (fun r H => ∃ (e : Nat) (B : Ab), r = .int .i64 (e : Int) ∧ H = pts bs (cl (stC bd q mb brk) 92) :: diskA bd B :: Xs ∧ p e B)) :
    Ctr Tryz.prog f args [stX bs bd q mb brk (Sep (Xs ++ Zs)) A] (fun r H => ∃ (e : Nat) (B : Ab), r = .int .i64 (e : Int) ∧ H = [stX bs bd q mb brk (Sep (Xs ++ Zs)) B] ∧ p e B) :=
  ctr_stX ((ctr_frame Zs h).post (by
    rintro v H ⟨_, ⟨e, B, rfl, rfl, hp⟩, rfl⟩
    exact ⟨e, B, rfl, rfl, hp⟩))
theorem ctr_stXl {f : FuncId} {args : List Value} {bs bd : Nat} {q : Int} {mb : Nat} {brk : Bool} (Zs : List HP) {Xs : List HP} {A : Ab} {p : Nat → Ab → Prop}
    (h : Ctr Tryz.prog f args (pts bs (cl (stC bd q mb brk) 92) :: diskA bd A :: Xs) (fun r H => ∃ (e : Nat) (B : Ab), r = .int .i64 (e : Int) ∧ H = pts bs (cl (stC bd q mb brk) 92) :: diskA bd B :: Xs ∧ p e B)) :
    Ctr Tryz.prog f args [stX bs bd q mb brk (Sep (Zs ++ Xs)) A] (fun r H => ∃ (e : Nat) (B : Ab), r = .int .i64 (e : Int) ∧ H = [stX bs bd q mb brk (Sep (Zs ++ Xs)) B] ∧ p e B) := by
  have hE : ∀ B, Ent (pts bs (cl (stC bd q mb brk) 92) :: diskA bd B :: (Zs ++ Xs)) (pts bs (cl (stC bd q mb brk) 92) :: diskA bd B :: (Xs ++ Zs)) := fun B => Ent.perm ((List.perm_append_comm.cons _).cons _)
  have hE' : ∀ B, Ent (pts bs (cl (stC bd q mb brk) 92) :: diskA bd B :: (Xs ++ Zs)) (pts bs (cl (stC bd q mb brk) 92) :: diskA bd B :: (Zs ++ Xs)) := fun B => Ent.perm ((List.perm_append_comm.cons _).cons _)
  refine ctr_stX ((ctr_frame Zs h).conv (hE A) ?_)
  rintro v H ⟨_, ⟨e, B, rfl, rfl, hp⟩, rfl⟩
  exact ⟨_, ⟨e, B, rfl, rfl, hp⟩, hE' B⟩
theorem commit1_any (b2 bs bd : Nat) (q : Int) (mb : Nat) (brk : Bool) (A : Ab) (y : Bl) :
    Ctr Tryz.prog 72 [blV y, ptr b2] [Sep [pts b2 (cl [ptr bs] 35), pts bs (cl (stC bd q mb brk) 92), diskA bd A] ]
    (fun r H => r = .bool (!hasF A (fB y)) ∧ H = [Sep [pts b2 (cl [ptr bs] 35), pts bs (cl (stC bd q mb brk) 92), diskA bd A] ]) := by
  have hw := Has_any bs bd q mb brk A y.d
  unfold dV at hw
  unfold blV
  refine Ctr.enter Tryz.func72 (by kernel_rfl) rfl Tryz.ntmps72 rfl rfl ?_
  intro G F R hE
  refine K_regionA rfl ?_
  refine J_box rfl rfl (fun _ _ _ => trivial) ?_
  intro b0
  refine J_ent (Ent.trans (Ent.pick [1] rfl) (Ent.unsep [_, _, _] _)) ?_
  (refine go ?_)
  refine J_loadAgg (U := tab) 3 rfl rfl rfl rfl rfl rfl ?_
  (first | refine J_callE rfl rfl rfl rfl (hw) entA ?_ (fun _ _ _ _ _ => trivial) | refine J_call0E rfl rfl rfl (hw) entA ?_ (fun _ _ _ _ _ => trivial) | (refine go ?_; first | refine J_callE rfl rfl rfl rfl (hw) entA ?_ (fun _ _ _ _ _ => trivial) | refine J_call0E rfl rfl rfl (hw) entA ?_ (fun _ _ _ _ _ => trivial)))
  rintro _ _ ⟨rfl, rfl⟩
  (refine go ?_)
  refine K_ent (Ent.trans (Ent.pick [2, 0, 1] rfl) (Ent.resep [_, _, _] _)) ?_
  (first | refine K_return hE Tryz.func72 rfl _ rfl ⟨rfl, rfl⟩ entA | refine K_fallEnd hE Tryz.func72 rfl _ rfl ⟨rfl, rfl⟩ entA)
theorem commit2_any (bs bd b2 b7 : Nat) (q : Int) (mb : Nat) (brk : Bool) (n : ByteArray) (A : Ab) (hst : A.states.length ≤ 1000000000) :
    Ctr Tryz.prog 75 [ptr b2, ptr b7] (pts bs (cl (stC bd q mb brk) 92) :: diskA bd A :: [pts b2 (cl [ptr bs] 35), pts b7 (cl [.string n] 9)])
      (fun r H => ∃ (e : Nat) (B : Ab), r = .int .i64 (e : Int) ∧ H = pts bs (cl (stC bd q mb brk) 92) :: diskA bd B :: [pts b2 (cl [ptr bs] 35), pts b7 (cl [.string n] 9)] ∧ stRemove n A e B) := by
  refine Ctr.enter Tryz.func75 (by kernel_rfl) rfl Tryz.ntmps75 rfl rfl ?_
  intro G F R hE
  (refine go ?_)
  refine K_drawA (fun w => Sat G w ([pts bs (cl (stC bd q mb brk) 92), pts b2 (cl [ptr bs] 35), pts b7 (cl [.string n] 9)])) (.st 0 (.st 1 (.st 2 (.st 3 (.st 4 (.act 5 (.st 6 .nil))))))) rfl (by kernel_rfl) (by kernel_rfl) (by kernel_rfl) (fun w hw => hw.ent entA) ?_
  (refine go ?_)
  (first | refine J_callE rfl rfl rfl rfl (Remove_dA bd A n hst) entA ?_ (fun _ _ w hp hw => by obtain ⟨rfl, rfl⟩ := hp; exact hw.ent entA) | refine J_call0E rfl rfl rfl (Remove_dA bd A n hst) entA ?_ (fun _ _ w hp hw => by obtain ⟨rfl, rfl⟩ := hp; exact hw.ent entA))
  rintro _ _ ⟨rfl, rfl⟩
  (refine go ?_)
  (first | refine K_return hE Tryz.func75 rfl _ rfl ⟨_, _, rfl, rfl, rfl⟩ entA | refine K_fallEnd hE Tryz.func75 rfl _ rfl ⟨_, _, rfl, rfl, rfl⟩ entA)
theorem commit3_any (bs bd b2 b7 : Nat) (q : Int) (mb : Nat) (brk : Bool) (n : ByteArray) (A : Ab) (hst : A.states.length ≤ 1000000000) :
    Ctr Tryz.prog 76 [ptr b2, ptr b7] (pts bs (cl (stC bd q mb brk) 92) :: diskA bd A :: [pts b2 (cl [ptr bs] 35), pts b7 (cl [.string n] 9)])
      (fun r H => ∃ (e : Nat) (B : Ab), r = .int .i64 (e : Int) ∧ H = pts bs (cl (stC bd q mb brk) 92) :: diskA bd B :: [pts b2 (cl [ptr bs] 35), pts b7 (cl [.string n] 9)] ∧ stCreate n A e B) := by
  refine Ctr.enter Tryz.func76 (by kernel_rfl) rfl Tryz.ntmps76 rfl rfl ?_
  intro G F R hE
  (refine go ?_)
  refine K_drawA (fun w => Sat G w ([pts bs (cl (stC bd q mb brk) 92), pts b2 (cl [ptr bs] 35), pts b7 (cl [.string n] 9)])) (.st 0 (.st 1 (.st 2 (.st 3 (.st 4 (.act 5 (.st 6 .nil))))))) rfl (by kernel_rfl) (by kernel_rfl) (by kernel_rfl) (fun w hw => hw.ent entA) ?_
  (refine go ?_)
  (first | refine J_callE rfl rfl rfl rfl (Create_dA bd A n hst) entA ?_ (fun _ _ w hp hw => by obtain ⟨f, hf, rfl, rfl⟩ := hp; exact hw.ent entA) | refine J_call0E rfl rfl rfl (Create_dA bd A n hst) entA ?_ (fun _ _ w hp hw => by obtain ⟨f, hf, rfl, rfl⟩ := hp; exact hw.ent entA))
  rintro _ _ ⟨f, hf, rfl, rfl⟩
  (refine go ?_)
  (first | refine K_return hE Tryz.func76 rfl _ rfl ⟨_, _, rfl, rfl, ⟨f, hf, rfl⟩⟩ entA | refine K_fallEnd hE Tryz.func76 rfl _ rfl ⟨_, _, rfl, rfl, ⟨f, hf, rfl⟩⟩ entA)
theorem commit4_any (bs bd b2 b7 b9 : Nat) (q : Int) (mb : Nat) (brk : Bool) (n : ByteArray) (X : HP) (bv : Value) (b : List UInt8) (hv : Vw X bv b.length (bV b)) (A : Ab) (hwl : A.writes.length ≤ 1000000000) (hbl : b.length ≤ 1000000000) :
    Ctr Tryz.prog 77 [ptr b2, ptr b7, ptr b9] (pts bs (cl (stC bd q mb brk) 92) :: diskA bd A :: [pts b2 (cl [ptr bs] 35), pts b7 (cl [.string n] 9), pts b9 (cl [bv] 22), X])
      (fun r H => ∃ (e : Nat) (B : Ab), r = .int .i64 (e : Int) ∧ H = pts bs (cl (stC bd q mb brk) 92) :: diskA bd B :: [pts b2 (cl [ptr bs] 35), pts b7 (cl [.string n] 9), pts b9 (cl [bv] 22), X] ∧ stWrite n 0 b A e B) := by
  obtain ⟨a, c, rfl⟩ := hv.shape
  have hw := Write_dA bd A n 0 X _ b hv hwl hbl ⟨by omega, by omega⟩
  refine Ctr.enter Tryz.func77 (by kernel_rfl) rfl Tryz.ntmps77 rfl rfl ?_
  intro G F R hE
  (refine go ?_)
  refine K_drawA (fun w => Sat G w ([pts bs (cl (stC bd q mb brk) 92), pts b2 (cl [ptr bs] 35), pts b7 (cl [.string n] 9), pts b9 (cl [.slice a b.length c] 22)])) (.st 0 (.st 1 (.st 2 (.st 3 (.st 4 (.st 5 (.act 6 (.st 7 .nil)))))))) rfl (by kernel_rfl) (by kernel_rfl) (by kernel_rfl) (fun w hw => hw.ent entA) ?_
  (refine go ?_)
  refine J_loadH (U := tab) 3 rfl rfl rfl rfl rfl rfl ?_
  (refine go ?_)
  (first | refine J_callE rfl rfl rfl rfl (hw) entA ?_ (fun _ _ w hp hw => by obtain ⟨rfl, rfl⟩ := hp; exact hw.ent entA) | refine J_call0E rfl rfl rfl (hw) entA ?_ (fun _ _ w hp hw => by obtain ⟨rfl, rfl⟩ := hp; exact hw.ent entA))
  rintro _ _ ⟨rfl, rfl⟩
  (refine go ?_)
  (first | refine K_return hE Tryz.func77 rfl _ rfl ⟨_, _, rfl, rfl, rfl⟩ entA | refine K_fallEnd hE Tryz.func77 rfl _ rfl ⟨_, _, rfl, rfl, rfl⟩ entA)
/-- What the steps of a Commit want, beside the store. -/
def cmX (bs b2 b9 b11 c3 c4 c5 : Nat) (n o : ByteArray) (bv : Value) (b : List UInt8) : List HP := [pts b2 (cl [ptr bs] 35), pts b11 (cl [.string n] 9), pts b9 (cl [bv] 22), slc 5 1 bv b.length (bV b)] ++ mvX bs c3 c4 c5 n o
def cmF (has : Bool) (b2 b11 : Nat) : List Value := if has then [.func (.func 75) #[] #[ptr b2, ptr b11] ] else []
def cmG (b2 b9 b11 : Nat) : List Value := [.func (.func 76) #[] #[ptr b2, ptr b11], .func (.func 77) #[] #[ptr b2, ptr b11, ptr b9] ]
def cmS (has : Bool) (n : ByteArray) : List Stp := if has then [stRemove n] else []
theorem cm_steps (has : Bool) (bs bd : Nat) (q : Int) (mb : Nat) (brk : Bool) (b2 b9 b11 c3 c4 c5 : Nat) (n o : ByteArray) (bv : Value) (b : List UInt8) (hv : Vw (slc 5 1 bv b.length (bV b)) bv b.length (bV b)) (hbl : b.length ≤ 1000000000) (A : Ab) (hst : A.states.length ≤ 900000000) (hwl : A.writes.length ≤ 900000000) :
    All2 (StpOk (stX bs bd q mb brk (Sep (cmX bs b2 b9 b11 c3 c4 c5 n o bv b))) A) (cmF has b2 b11 ++ cmG b2 b9 b11 ++ mvF bd c3 c4 c5) (cmS has n ++ [stCreate n, stWrite n 0 b] ++ moveS n o) := by
  refine All2.append (All2.append ?_ ?_) ?_
  · cases has with
    | false => exact All2.nil
    | true =>
      refine All2.one (stpOk_of hst hwl (fun y h1 h2 => ?_) (fun _ _ _ h => grow_stRemove h))
      exact ctr_stXr (Xs := [pts b2 (cl [ptr bs] 35), pts b11 (cl [.string n] 9)]) ([pts b9 (cl [bv] 22), slc 5 1 bv b.length (bV b)] ++ mvX bs c3 c4 c5 n o) (p := stRemove n y) (commit2_any bs bd b2 b11 q mb brk n y h1)
  · refine All2.cons (All2.one ?_) ?_
    · refine stpOk_of hst hwl (fun y h1 h2 => ?_) (fun _ _ _ h => grow_stWrite h)
      exact ctr_stXr (Xs := [pts b2 (cl [ptr bs] 35), pts b11 (cl [.string n] 9), pts b9 (cl [bv] 22), slc 5 1 bv b.length (bV b)]) (mvX bs c3 c4 c5 n o) (p := stWrite n 0 b y) (commit4_any bs bd b2 b11 b9 q mb brk n _ bv b hv y h2 hbl)
    · refine stpOk_of hst hwl (fun y h1 h2 => ?_) (fun _ _ _ h => grow_stCreate h)
      exact ctr_stXr (Xs := [pts b2 (cl [ptr bs] 35), pts b11 (cl [.string n] 9)]) ([pts b9 (cl [bv] 22), slc 5 1 bv b.length (bV b)] ++ mvX bs c3 c4 c5 n o) (p := stCreate n y) (commit3_any bs bd b2 b11 q mb brk n y h1)
  · refine All2.cons (All2.cons (All2.one ?_) ?_) ?_
    · refine stpOk_of hst hwl (fun y h1 h2 => ?_) (fun _ _ _ h => grow_stSyncNames h)
      exact names_X bs bd q mb brk (cmX bs b2 b9 b11 c3 c4 c5 n o bv b) y
    · refine stpOk_of hst hwl (fun y h1 h2 => ?_) (fun _ _ _ h => grow_stRename h)
      exact ctr_stXl [pts b2 (cl [ptr bs] 35), pts b11 (cl [.string n] 9), pts b9 (cl [bv] 22), slc 5 1 bv b.length (bV b)] (Xs := mvX bs c3 c4 c5 n o) (p := stRename n o y) (move2_any bs bd c3 c4 c5 q mb brk n o y h1)
    · refine stpOk_of hst hwl (fun y h1 h2 => ?_) (fun _ _ _ h => grow_stSync h)
      have h0 := ctr_frame [pts c5 (cl [.string o] 9)] (move1_any bs bd c3 c4 q mb brk n y h2)
      refine ctr_stXl [pts b2 (cl [ptr bs] 35), pts b11 (cl [.string n] 9), pts b9 (cl [bv] 22), slc 5 1 bv b.length (bV b)] (Xs := mvX bs c3 c4 c5 n o) (p := stSync n y) (h0.post ?_)
      rintro r H ⟨_, ⟨e, B, rfl, rfl, h3⟩, rfl⟩
      exact ⟨e, B, rfl, rfl, h3⟩
end Go.Proofs.YtpecmnaikjbanaaGreatDoor

/- blobs, part o: Commit's walk. -/
set_option linter.unusedVariables false
set_option linter.unusedSimpArgs false
namespace Go.Proofs.YtpecmnaikjbanaaGreatDoor
open Go Go.SL
attribute [local irreducible] J K Ctr Ends pts slc mapR mapI sbRow stock arrS loopP CtrY Sha.chunks Sha.chunk Sha.rounds Sha.sched sumL taggedL GI leafL diskA
theorem cmF_one (has : Bool) (b2 b11 : Nat) : ∀ v ∈ cmF has b2 b11, v.oneCell' = true := by
  cases has <;> simp [cmF, Value.oneCell']
theorem mvF_one (bd b3 b4 b5 : Nat) : ∀ v ∈ mvF bd b3 b4 b5, v.oneCell' = true := by simp [mvF, Value.oneCell']
theorem cmG_one (b2 b9 b11 : Nat) : ∀ v ∈ cmG b2 b9 b11, v.oneCell' = true := by simp [cmG, Value.oneCell']
theorem cmF_len (has : Bool) (b2 b11 : Nat) : (cmF has b2 b11).length ≤ 1 := by cases has <;> simp [cmF]
set_option maxRecDepth 20000 in
set_option maxHeartbeats 1000000 in
theorem Commit_bl (X : HP) (hK : KAt X) (lv : Value) (l : List Bl) (hv : Vw X lv l.length (l.flatMap blC)) (hll : l.length ≤ 1000000) (bs bd : Nat) (q : Int) (mb : Nat) (s : Sto) (hst : s.A.states.length ≤ 900000000) (hwl : s.A.writes.length ≤ 900000000) :
    Ctr Tryz.prog 24 [ptr bs, imV lv] (stoL bs bd q mb s ++ [X])
    (fun r H => ∃ (e : Nat) (t : Sto), r = .int .i64 (e : Int) ∧ H = stoL bs bd q mb t ++ [X] ∧ CommitS l s e t) := by
  obtain ⟨A, beg, brk⟩ := s
  simp only at hst hwl
  have him := Image_any X lv l hv hll
  have hnm := Name_any X hK lv l hv hll
  have henc := mEncode_any X lv l hv hll
  obtain ⟨la, lc, rfl⟩ := hv.shape
  unfold imV at him hnm henc ⊢
  refine Ctr.enter Tryz.func24 (by kernel_rfl) rfl Tryz.ntmps24 rfl rfl ?_
  intro G F R hE
  refine K_ent (H' := pts bs (cl (stC bd q mb brk) 92) :: mapR dV mb (begE beg) :: diskA bd A :: X :: F) (Ent.refl _) ?_
  refine K_regionA rfl ?_
  refine J_box rfl rfl (fun _ _ _ => trivial) ?_
  intro b2
  refine J_box rfl rfl (fun _ _ _ => trivial) ?_
  intro b3
  cases brk with
  | true =>
    (refine go ?_)
    refine K_ent (H' := stoL bs bd q mb ⟨A, beg, true⟩ ++ (X :: F)) entA ?_
    (first | refine K_return hE Tryz.func24 rfl _ rfl ⟨10, ⟨A, beg, true⟩, rfl, rfl, by unfold CommitS; rw [if_pos rfl]; exact ⟨rfl, rfl⟩⟩ entA | refine K_fallEnd hE Tryz.func24 rfl _ rfl ⟨10, ⟨A, beg, true⟩, rfl, rfl, by unfold CommitS; rw [if_pos rfl]; exact ⟨rfl, rfl⟩⟩ entA)
  | false =>
    have hC0 : ∀ e t, (if imageB l ≠ 0 then e = imageB l ∧ t = ⟨A, beg, false⟩
      else if hasF A (fileN kI (nameB l)) then e = 0 ∧ t = ⟨A, beg, false⟩
      else if l.any (fun y => !hasF A (fB y)) then e = 4 ∧ t = ⟨A, beg, false⟩
      else chgS (cmS (hasF A (fileN kN (nameB l))) (fileN kN (nameB l)) ++ [stCreate (fileN kN (nameB l)), stWrite (fileN kN (nameB l)) 0 (encB l)] ++ moveS (fileN kN (nameB l)) (fileN kI (nameB l))) ⟨A, beg, false⟩ e t) → CommitS l ⟨A, beg, false⟩ e t := fun e t h => by
      unfold CommitS; rw [if_neg (by simp)]; exact h
    (refine go ?_)
    refine J_loadArr (U := tab) (l := [.slice la l.length lc]) 0 rfl rfl rfl rfl rfl rfl ?_
    (first | refine J_callE rfl rfl rfl rfl (him) entA ?_ (fun _ _ _ _ _ => trivial) | refine J_call0E rfl rfl rfl (him) entA ?_ (fun _ _ _ _ _ => trivial) | (refine go ?_; first | refine J_callE rfl rfl rfl rfl (him) entA ?_ (fun _ _ _ _ _ => trivial) | refine J_call0E rfl rfl rfl (him) entA ?_ (fun _ _ _ _ _ => trivial)))
    rintro _ _ ⟨rfl, rfl⟩
    (refine go ?_)
    refine K_condP rfl rfl ?_ ?_
    · intro hne
      have hne' : imageB l ≠ 0 := by omega
      (refine go ?_)
      refine K_ent (H' := stoL bs bd q mb ⟨A, beg, false⟩ ++ (X :: F)) entA ?_
      (first | refine K_return hE Tryz.func24 rfl _ rfl ⟨imageB l, ⟨A, beg, false⟩, rfl, rfl, hC0 _ _ (by rw [if_pos hne']; exact ⟨rfl, rfl⟩)⟩ entA | refine K_fallEnd hE Tryz.func24 rfl _ rfl ⟨imageB l, ⟨A, beg, false⟩, rfl, rfl, hC0 _ _ (by rw [if_pos hne']; exact ⟨rfl, rfl⟩)⟩ entA)
    intro heq
    have hi : imageB l = 0 := by omega
    have hi' : ¬ imageB l ≠ 0 := by omega
    rw [if_pos hi] at hnm
    refine K_ent (H' := pts b3 (cl [.slice la l.length lc] 55) :: pts b2 (cl [ptr bs] 35) :: pts bs (cl (stC bd q mb false) 92) :: mapR dV mb (begE beg) :: diskA bd A :: X :: F) entA ?_
    (refine go ?_)
    refine J_loadArr (U := tab) (l := [.slice la l.length lc]) 0 rfl rfl rfl rfl rfl rfl ?_
    (first | refine J_callE rfl rfl rfl rfl (hnm) entA ?_ (fun _ _ _ _ _ => trivial) | refine J_call0E rfl rfl rfl (hnm) entA ?_ (fun _ _ _ _ _ => trivial) | (refine go ?_; first | refine J_callE rfl rfl rfl rfl (hnm) entA ?_ (fun _ _ _ _ _ => trivial) | refine J_call0E rfl rfl rfl (hnm) entA ?_ (fun _ _ _ _ _ => trivial)))
    rintro _ _ ⟨rfl, rfl⟩
    unfold dV
    (refine go ?_)
    refine J_alloc (U := tab) rfl rfl rfl (fun _ _ _ => trivial) ?_
    intro b6
    (refine go ?_)
    have hfI := file_any kI (nameB l) (by decide)
    have hfN := file_any kN (nameB l) (by decide)
    unfold dV at hfI hfN
    refine K_ent (H' := pts b6 (cl (dC (nameB l)) 30) :: pts b3 (cl [.slice la l.length lc] 55) :: pts b2 (cl [ptr bs] 35) :: pts bs (cl (stC bd q mb false) 92) :: mapR dV mb (begE beg) :: diskA bd A :: X :: F) entA ?_
    refine K_drawA (fun w => Sat G w ([pts b6 (cl (dC (nameB l)) 30), pts b2 (cl [ptr bs] 35)])) (.st 0 (.st 1 (.act 2 (.act 3 (.st 4 .nil))))) rfl (by kernel_rfl) (by kernel_rfl) (by kernel_rfl) (fun w hw => hw.ent entA) ?_
    (refine go ?_)
    refine J_loadArrS (U := tab) (l := dC (nameB l)) 0 rfl rfl rfl rfl rfl rfl ?_
    (refine go ?_)
    (first | refine J_callE rfl rfl rfl rfl (hfI) entA ?_ (fun _ _ w hp hw => by obtain ⟨rfl, rfl⟩ := hp; exact hw.ent entA) | refine J_call0E rfl rfl rfl (hfI) entA ?_ (fun _ _ w hp hw => by obtain ⟨rfl, rfl⟩ := hp; exact hw.ent entA))
    rintro _ _ ⟨rfl, rfl⟩
    (refine go ?_)
    (first | refine J_callE rfl rfl rfl rfl (is_any bs bd q mb false A (fileN kI (nameB l))) entA ?_ (fun _ _ w hp hw => by obtain ⟨rfl, rfl⟩ := hp; exact hw.ent entA) | refine J_call0E rfl rfl rfl (is_any bs bd q mb false A (fileN kI (nameB l))) entA ?_ (fun _ _ w hp hw => by obtain ⟨rfl, rfl⟩ := hp; exact hw.ent entA))
    rintro _ _ ⟨rfl, rfl⟩
    (refine go ?_)
    cases hhi : hasF A (fileN kI (nameB l)) with
    | true =>
      (refine go ?_)
      refine K_ent (H' := stoL bs bd q mb ⟨A, beg, false⟩ ++ (X :: F)) entA ?_
      (first | refine K_return hE Tryz.func24 rfl _ rfl ⟨0, ⟨A, beg, false⟩, rfl, rfl, hC0 _ _ (by rw [if_neg hi', if_pos hhi]; exact ⟨rfl, rfl⟩)⟩ entA | refine K_fallEnd hE Tryz.func24 rfl _ rfl ⟨0, ⟨A, beg, false⟩, rfl, rfl, hC0 _ _ (by rw [if_neg hi', if_pos hhi]; exact ⟨rfl, rfl⟩)⟩ entA)
    | false =>
      have hhi' : ¬ hasF A (fileN kI (nameB l)) = true := by rw [hhi]; simp
      (refine go ?_)
      refine J_ent (H' := X :: Sep [pts b2 (cl [ptr bs] 35), pts bs (cl (stC bd q mb false) 92), diskA bd A] :: pts b6 (cl (dC (nameB l)) 30) :: pts b3 (cl [.slice la l.length lc] 55) :: mapR dV mb (begE beg) :: F) (Ent.trans (H2 := pts b2 (cl [ptr bs] 35) :: pts bs (cl (stC bd q mb false) 92) :: diskA bd A :: X :: pts b6 (cl (dC (nameB l)) 30) :: pts b3 (cl [.slice la l.length lc] 55) :: mapR dV mb (begE beg) :: F) entA (Ent.trans (Ent.resep [_, _, _] _) entA)) ?_
      (first | refine J_callE rfl rfl rfl rfl (ContainsFunc_bl X (Sep [pts b2 (cl [ptr bs] 35), pts bs (cl (stC bd q mb false) 92), diskA bd A]) _ l hv hll 72 [ptr b2] (fun y => !hasF A (fB y)) (fun y _ => commit1_any b2 bs bd q mb false A y)) entA ?_ (fun _ _ _ _ _ => trivial) | refine J_call0E rfl rfl rfl (ContainsFunc_bl X (Sep [pts b2 (cl [ptr bs] 35), pts bs (cl (stC bd q mb false) 92), diskA bd A]) _ l hv hll 72 [ptr b2] (fun y => !hasF A (fB y)) (fun y _ => commit1_any b2 bs bd q mb false A y)) entA ?_ (fun _ _ _ _ _ => trivial) | (refine go ?_; first | refine J_callE rfl rfl rfl rfl (ContainsFunc_bl X (Sep [pts b2 (cl [ptr bs] 35), pts bs (cl (stC bd q mb false) 92), diskA bd A]) _ l hv hll 72 [ptr b2] (fun y => !hasF A (fB y)) (fun y _ => commit1_any b2 bs bd q mb false A y)) entA ?_ (fun _ _ _ _ _ => trivial) | refine J_call0E rfl rfl rfl (ContainsFunc_bl X (Sep [pts b2 (cl [ptr bs] 35), pts bs (cl (stC bd q mb false) 92), diskA bd A]) _ l hv hll 72 [ptr b2] (fun y => !hasF A (fB y)) (fun y _ => commit1_any b2 bs bd q mb false A y)) entA ?_ (fun _ _ _ _ _ => trivial)))
      rintro _ _ ⟨rfl, rfl⟩
      refine J_ent (Ent.trans (Ent.pick [1] rfl) (Ent.unsep [_, _, _] _)) ?_
      cases hany : l.any (fun y => !hasF A (fB y)) with
      | true =>
        (refine go ?_)
        refine K_ent (H' := stoL bs bd q mb ⟨A, beg, false⟩ ++ (X :: F)) entA ?_
        (first | refine K_return hE Tryz.func24 rfl _ rfl ⟨4, ⟨A, beg, false⟩, rfl, rfl, hC0 _ _ (by rw [if_neg hi', if_neg hhi', if_pos hany]; exact ⟨rfl, rfl⟩)⟩ entA | refine K_fallEnd hE Tryz.func24 rfl _ rfl ⟨4, ⟨A, beg, false⟩, rfl, rfl, hC0 _ _ (by rw [if_neg hi', if_neg hhi', if_pos hany]; exact ⟨rfl, rfl⟩)⟩ entA)
      | false =>
        have hC1 : ∀ e t, chgS (cmS (hasF A (fileN kN (nameB l))) (fileN kN (nameB l)) ++ [stCreate (fileN kN (nameB l)), stWrite (fileN kN (nameB l)) 0 (encB l)] ++ moveS (fileN kN (nameB l)) (fileN kI (nameB l))) ⟨A, beg, false⟩ e t → CommitS l ⟨A, beg, false⟩ e t := fun e t h =>
          hC0 e t (by rw [if_neg hi', if_neg hhi', if_neg (by rw [hany]; simp)]; exact h)
        have hel := encB_len hi
        refine J_ent (H' := pts b3 (cl [.slice la l.length lc] 55) :: pts b6 (cl (dC (nameB l)) 30) :: pts b2 (cl [ptr bs] 35) :: pts bs (cl (stC bd q mb false) 92) :: mapR dV mb (begE beg) :: diskA bd A :: X :: F) entA ?_
        (refine go ?_)
        refine J_loadArr (U := tab) (l := [.slice la l.length lc]) 0 rfl rfl rfl rfl rfl rfl ?_
        (first | refine J_callE rfl rfl rfl rfl (henc) entA ?_ (fun _ _ _ _ _ => trivial) | refine J_call0E rfl rfl rfl (henc) entA ?_ (fun _ _ _ _ _ => trivial) | (refine go ?_; first | refine J_callE rfl rfl rfl rfl (henc) entA ?_ (fun _ _ _ _ _ => trivial) | refine J_call0E rfl rfl rfl (henc) entA ?_ (fun _ _ _ _ _ => trivial)))
        rintro _ _ (⟨hbad, _⟩ | ⟨rv, _, rfl, rfl⟩)
        · exact absurd hi hbad
        (first | refine J_shape 0 rfl ?_ | refine K_shape 0 rfl ?_)
        rintro ra rc rfl
        refine J_slcVw 0 rfl ?_
        intro hbv
        (refine go ?_)
        refine J_alloc (U := tab) rfl rfl rfl (fun _ _ _ => trivial) ?_
        intro b9
        (refine go ?_)
        refine J_ent (H' := pts b6 (cl (dC (nameB l)) 30) :: pts b9 (cl [.slice ra (encB l).length rc] 22) :: slc 5 1 (.slice ra (encB l).length rc) (encB l).length (bV (encB l)) :: pts b2 (cl [ptr bs] 35) :: pts bs (cl (stC bd q mb false) 92) :: mapR dV mb (begE beg) :: diskA bd A :: X :: F) entA ?_
        (refine go ?_)
        refine J_loadArr (U := tab) (l := dC (nameB l)) 0 rfl rfl rfl rfl rfl rfl ?_
        (first | refine J_callE rfl rfl rfl rfl (hfN) entA ?_ (fun _ _ _ _ _ => trivial) | refine J_call0E rfl rfl rfl (hfN) entA ?_ (fun _ _ _ _ _ => trivial) | (refine go ?_; first | refine J_callE rfl rfl rfl rfl (hfN) entA ?_ (fun _ _ _ _ _ => trivial) | refine J_call0E rfl rfl rfl (hfN) entA ?_ (fun _ _ _ _ _ => trivial)))
        rintro _ _ ⟨rfl, rfl⟩
        refine J_alloc (U := tab) rfl rfl rfl (fun _ _ _ => trivial) ?_
        intro b11
        (refine go ?_)
        obtain ⟨nN, hnN⟩ : ∃ nN, nN = fileN kN (nameB l) := ⟨_, rfl⟩
        obtain ⟨nI, hnI⟩ : ∃ nI, nI = fileN kI (nameB l) := ⟨_, rfl⟩
        rw [← hnN, ← hnI] at hC1
        rw [← hnI] at hfI
        rw [← hnN]
        (first | refine J_callE rfl rfl rfl rfl (is_any bs bd q mb false A nN) entA ?_ (fun _ _ _ _ _ => trivial) | refine J_call0E rfl rfl rfl (is_any bs bd q mb false A nN) entA ?_ (fun _ _ _ _ _ => trivial) | (refine go ?_; first | refine J_callE rfl rfl rfl rfl (is_any bs bd q mb false A nN) entA ?_ (fun _ _ _ _ _ => trivial) | refine J_call0E rfl rfl rfl (is_any bs bd q mb false A nN) entA ?_ (fun _ _ _ _ _ => trivial)))
        rintro _ _ ⟨rfl, rfl⟩
        obtain ⟨has, hhas⟩ : ∃ has, has = hasF A nN := ⟨_, rfl⟩
        rw [← hhas] at hC1 ⊢
        refine J_midD 1 (fun g : Option Addr × Nat => True) (fun g => [(2, ptr b2), (6, ptr b6), (9, ptr b9), (11, ptr b11), (12, .slice g.1 (cmF has b2 b11).length g.2)])
          (fun g => slc 95 1 (.slice g.1 (cmF has b2 b11).length g.2) (cmF has b2 b11).length (cmF has b2 b11) :: pts b11 (cl [.string nN] 9) :: pts b6 (cl (dC (nameB l)) 30) :: pts b9 (cl [.slice ra (encB l).length rc] 22) :: slc 5 1 (.slice ra (encB l).length rc) (encB l).length (bV (encB l)) :: pts b2 (cl [ptr bs] 35) :: pts bs (cl (stC bd q mb false) 92) :: mapR dV mb (begE beg) :: diskA bd A :: X :: F) rfl ?_ ?_
        · rintro ⟨ga, gc⟩ -
          have hfl := cmF_len has b2 b11
          (refine go ?_)
          refine J_buildSlice1 (U := tab) (cs := cmG b2 b9 b11) rfl rfl rfl rfl rfl rfl rfl rfl rfl (fun _ _ _ => trivial) ?_
          intro row2
          refine J_append (U := tab) (mm := 2) (news := cmG b2 b9 b11) 1 0 rfl rfl rfl rfl rfl rfl rfl rfl rfl rfl rfl rfl (Vw.pts rfl) rfl (cmG_one _ _ _) (by omega) (by show (_ + 2) * 8 ≤ _; omega) (fun _ => rfl) (fun _ _ _ => trivial) ?_
          intro v1
          rw [show (cmF has b2 b11).length + 2 = (cmF has b2 b11 ++ cmG b2 b9 b11).length from by rw [List.length_append]; rfl]
          (first | refine J_shape 1 rfl ?_ | refine K_shape 1 rfl ?_)
          rintro xa xc rfl
          (refine go ?_)
          refine K_ent (H' := pts b6 (cl (dC (nameB l)) 30) :: pts b2 (cl [ptr bs] 35) :: pts b11 (cl [.string nN] 9) :: slc 95 1 (.slice xa (cmF has b2 b11 ++ cmG b2 b9 b11).length xc) (cmF has b2 b11 ++ cmG b2 b9 b11).length (cmF has b2 b11 ++ cmG b2 b9 b11) :: pts b9 (cl [.slice ra (encB l).length rc] 22) :: slc 5 1 (.slice ra (encB l).length rc) (encB l).length (bV (encB l)) :: pts bs (cl (stC bd q mb false) 92) :: mapR dV mb (begE beg) :: diskA bd A :: X :: F) entA ?_
          refine K_drawA (fun w => Sat G w ([pts b6 (cl (dC (nameB l)) 30), pts b2 (cl [ptr bs] 35), pts b11 (cl [.string nN] 9)])) (.st 0 (.st 1 (.st 2 (.st 3 (.st 4 (.act 5 (.act 6 (.act 7 (.act 8 (.st 9 .nil)))))))))) rfl (by kernel_rfl) (by kernel_rfl) (by kernel_rfl) (fun w hw => hw.ent entA) ?_
          (refine go ?_)
          refine J_loadArrS (U := tab) (l := dC (nameB l)) 0 rfl rfl rfl rfl rfl rfl ?_
          (refine go ?_)
          (first | refine J_callE rfl rfl rfl rfl (hfI) entA ?_ (fun _ _ w hp hw => by obtain ⟨rfl, rfl⟩ := hp; exact hw.ent entA) | refine J_call0E rfl rfl rfl (hfI) entA ?_ (fun _ _ w hp hw => by obtain ⟨rfl, rfl⟩ := hp; exact hw.ent entA))
          rintro _ _ ⟨rfl, rfl⟩
          (refine go ?_)
          (first | refine J_callE rfl rfl rfl rfl (move_any bs bd q mb false nN nI) entA ?_ (fun _ _ w hp hw => by obtain ⟨row, c3, c4, c5, rfl, rfl⟩ := hp; exact hw.ent entA) | refine J_call0E rfl rfl rfl (move_any bs bd q mb false nN nI) entA ?_ (fun _ _ w hp hw => by obtain ⟨row, c3, c4, c5, rfl, rfl⟩ := hp; exact hw.ent entA))
          rintro _ _ ⟨row, c3, c4, c5, rfl, rfl⟩
          (refine go ?_)
          have hl2 : (cmF has b2 b11 ++ cmG b2 b9 b11).length ≤ 3 := by rw [List.length_append]; show _ + 2 ≤ 3; omega
          refine J_ent (H' := slc 95 1 (.slice xa (cmF has b2 b11 ++ cmG b2 b9 b11).length xc) (cmF has b2 b11 ++ cmG b2 b9 b11).length (cmF has b2 b11 ++ cmG b2 b9 b11) :: pts row (cl (mvF bd c3 c4 c5) 95) :: pts bs (cl (stC bd q mb false) 92) :: diskA bd A :: (cmX bs b2 b9 b11 c3 c4 c5 nN nI (.slice ra (encB l).length rc) (encB l) ++ (pts b6 (cl (dC (nameB l)) 30) :: mapR dV mb (begE beg) :: X :: F))) entA ?_
          refine J_append (U := tab) (mm := 3) (news := mvF bd c3 c4 c5) 0 1 rfl rfl rfl rfl rfl rfl rfl rfl rfl rfl rfl rfl (Vw.pts rfl) rfl (mvF_one _ _ _ _) (by omega) (by show (_ + 3) * 8 ≤ _; omega) (fun _ => rfl) (fun _ _ hw => hw.ent entA) ?_
          intro v2
          rw [show (cmF has b2 b11 ++ cmG b2 b9 b11).length + 3 = (cmF has b2 b11 ++ cmG b2 b9 b11 ++ mvF bd c3 c4 c5).length from (@List.length_append _ (cmF has b2 b11 ++ cmG b2 b9 b11) (mvF bd c3 c4 c5)).symm]
          (first | refine J_shape 0 rfl ?_ | refine K_shape 0 rfl ?_)
          rintro ya yc rfl
          refine J_slcVw 0 rfl ?_
          intro hvs
          have hch := changeA_any bs bd q mb false (Sep (cmX bs b2 b9 b11 c3 c4 c5 nN nI (.slice ra (encB l).length rc) (encB l))) _ _ _ hvs (by rw [List.length_append]; show _ + 3 ≤ 1000; omega) (cmS has nN ++ [stCreate nN, stWrite nN 0 (encB l)] ++ moveS nN nI) A (cm_steps has bs bd q mb false b2 b9 b11 c3 c4 c5 nN nI _ (encB l) hbv (by omega) A hst hwl)
          (refine go ?_)
          refine J_ent (H' := slc 95 1 (.slice ya (cmF has b2 b11 ++ cmG b2 b9 b11 ++ mvF bd c3 c4 c5).length yc) (cmF has b2 b11 ++ cmG b2 b9 b11 ++ mvF bd c3 c4 c5).length (cmF has b2 b11 ++ cmG b2 b9 b11 ++ mvF bd c3 c4 c5) :: stX bs bd q mb false (Sep (cmX bs b2 b9 b11 c3 c4 c5 nN nI (.slice ra (encB l).length rc) (encB l))) A :: pts b6 (cl (dC (nameB l)) 30) :: mapR dV mb (begE beg) :: X :: F) (Ent.trans (H2 := pts bs (cl (stC bd q mb false) 92) :: diskA bd A :: (cmX bs b2 b9 b11 c3 c4 c5 nN nI (.slice ra (encB l).length rc) (encB l) ++ (slc 95 1 (.slice ya (cmF has b2 b11 ++ cmG b2 b9 b11 ++ mvF bd c3 c4 c5).length yc) (cmF has b2 b11 ++ cmG b2 b9 b11 ++ mvF bd c3 c4 c5).length (cmF has b2 b11 ++ cmG b2 b9 b11 ++ mvF bd c3 c4 c5) :: pts b6 (cl (dC (nameB l)) 30) :: mapR dV mb (begE beg) :: X :: F))) entA (Ent.trans (stX_in bs bd q mb false _ A _) entA)) ?_
          refine J_callE rfl rfl rfl rfl hch entA ?_ (fun _ _ w hp hw => by
            obtain ⟨e, B, rfl, rfl, hruns⟩ := hp
            exact hw.ent (Ent.trans (Ent.pick [1] rfl) (Ent.trans (stX_out bs bd q mb (or false (decide (e ≠ 0))) _ B _) entA)))
          rintro _ _ ⟨e, B, rfl, rfl, hruns⟩
          refine J_ent (Ent.trans (Ent.pick [1] rfl) (stX_out bs bd q mb (or false (decide (e ≠ 0))) _ B _)) ?_
          (refine go ?_)
          refine K_ent (H' := stoL bs bd q mb ⟨B, beg, or false (decide (e ≠ 0))⟩ ++ (X :: F)) entA ?_
          (first | refine K_return hE Tryz.func24 rfl _ rfl ⟨e, ⟨B, beg, or false (decide (e ≠ 0))⟩, rfl, rfl, hC1 _ _ ⟨B, hruns, rfl⟩⟩ entA | refine K_fallEnd hE Tryz.func24 rfl _ rfl ⟨e, ⟨B, beg, or false (decide (e ≠ 0))⟩, rfl, rfl, hC1 _ _ ⟨B, hruns, rfl⟩⟩ entA)
        · intro tail
          cases has with
          | false =>
            refine J_ent (slc_lift 95 1 none _) ?_
            (refine goR ?_)
            refine K_condF rfl rfl ?_
            refine K_to tail (none, 0) rfl trivial (by repeat (first | exact keep_nil | refine keep_cons rfl ?_)) entA
          | true =>
            (refine go ?_)
            refine J_buildSlice1 (U := tab) (cs := cmF true b2 b11) rfl rfl rfl rfl rfl rfl rfl rfl rfl (fun _ _ _ => trivial) ?_
            intro row1
            refine J_ent (slc_lift 95 1 none _) ?_
            refine J_append (U := tab) (mm := 1) (news := cmF true b2 b11) 0 1 rfl rfl rfl rfl rfl rfl rfl rfl rfl rfl rfl rfl (Vw.pts rfl) rfl (cmF_one _ _ _) (by omega) (by show (0 + 1) * 8 ≤ _; omega) (fun _ => rfl) (fun _ _ _ => trivial) ?_
            intro v1
            (first | refine J_shape 0 rfl ?_ | refine K_shape 0 rfl ?_)
            rintro xa xc rfl
            (refine goR ?_)
            refine K_to tail (xa, xc) rfl trivial (by repeat (first | exact keep_nil | refine keep_cons rfl ?_)) entA
end Go.Proofs.YtpecmnaikjbanaaGreatDoor

/- blobs: a blob is taken in (the law's put). -/
set_option linter.unusedVariables false
set_option linter.unusedSimpArgs false
namespace Go.Proofs.YtpecmnaikjbanaaGreatDoor
open Go Go.SL
attribute [local irreducible] J K Ctr Ends pts slc mapR mapI sbRow stock arrS loopP CtrY Sha.chunks Sha.chunk Sha.rounds Sha.sched sumL taggedL GI leafL diskA
theorem SGrow.trans {m n : Nat} {s t u : Sto} (h : SGrow m s t) (h' : SGrow n t u) : SGrow (m + n) s u := ⟨by have := h.1; have := h'.1; omega, by have := h.2; have := h'.2; omega⟩
set_option maxRecDepth 20000 in
set_option maxHeartbeats 1000000 in
theorem put_any8 (X : HP) (hK : KAt X) (bv : Value) (b : List UInt8) (hv : BAt X bv b) (bs bd : Nat) (q : Int) (hq : 0 ≤ q ∧ q ≤ 1048576) (mb : Nat) (s : Sto) (hs : StoI q s) (hn : s.A.names.length < 190) (hbl : s.beg.length ≤ 1000) (hst : s.A.states.length ≤ 800000000) (hwl : s.A.writes.length ≤ 800000000)
    (x : Bl) (hr : rightB x = true) (hwh : wholeB x b = true) (hb : begL s.beg x.d = none) (hB : vw s.A (fBd x.d) = none) (hu : usedS s + x.size ≤ q) :
    Ctr Tryz.prog 25 [ptr bs, blV x, bv] (stoL bs bd q mb s ++ [X])
      (fun r H => ∃ t, r = .bool true ∧ H = stoL bs bd q mb t ++ [X] ∧ StoI q t ∧ t.beg = s.beg ∧ vw t.A = setV (vw s.A) (fBd x.d) (some b) ∧ t.A.names.length ≤ s.A.names.length + 1 ∧ usedS t ≤ usedS s + x.size ∧ SGrow 1100 s t) := by
  obtain ⟨a0, c0, rfl, hc0⟩ := hv.2
  have hsz := (whole_size hwh).1
  have hrs := hr
  simp only [rightB, decide_eq_true_eq] at hrs
  have hbg := Begin_bl bs bd q (by omega) mb s x (hs.begOk (by omega)) (by omega) (by omega)
  have hcn := Count_ref x
  have hcnt := countB_le x
  have hspn := fun i : Int => Span_ref x i
  have hin := fun u => Install_bl X hK bs bd q mb u x
  have hptc := fun u i pv p => Put_bl X bs bd q mb u x i pv p
  unfold blV at hbg hcn hspn hin hptc ⊢
  refine Ctr.enter Tryz.func25 (by kernel_rfl) rfl Tryz.ntmps25 rfl rfl ?_
  intro G F R hE
  refine K_ent (H' := X :: (stoL bs bd q mb s ++ F)) entA ?_
  refine K_regionA rfl ?_
  refine J_box rfl rfl (fun _ _ _ => trivial) ?_
  intro b4
  (refine go ?_)
  refine J_loadArr (U := tab) (l := blC x) 0 rfl rfl rfl rfl rfl rfl ?_
  (first | refine J_callE rfl rfl rfl rfl (hbg) entA ?_ (fun _ _ _ _ _ => trivial) | refine J_call0E rfl rfl rfl (hbg) entA ?_ (fun _ _ _ _ _ => trivial) | (refine go ?_; first | refine J_callE rfl rfl rfl rfl (hbg) entA ?_ (fun _ _ _ _ _ => trivial) | refine J_call0E rfl rfl rfl (hbg) entA ?_ (fun _ _ _ _ _ => trivial)))
  rintro _ _ ⟨e1, s1, rfl, rfl, hR1⟩
  have hg1 := BeginR_grow hR1
  have hg11 := hg1.1
  have hg12 := hg1.2
  obtain ⟨rfl, hI0⟩ := PutI.begin (w := b) hs (by omega) hr hb hB hu hR1
  (refine go ?_)
  refine K_loop (fun g : Nat × Sto => (g.1 : Int) ≤ countB x ∧ PutI q s x b (fun k => 0 ≤ k ∧ k < g.1) g.2 ∧ g.2.A.states.length ≤ s1.A.states.length + g.1 ∧ g.2.A.writes.length ≤ s1.A.writes.length + g.1) (fun g => (countB x).toNat - g.1)
    (fun g => [(0, ptr bs), (2, .slice a0 b.length c0), (4, ptr b4), (7, .int .i64 0), (8, .int .i64 (g.1 : Int))])
    (fun g => pts b4 (cl (blC x) 32) :: X :: (stoL bs bd q mb g.2 ++ F)) (0, s1) ⟨hcnt.1, ⟨hI0.si, hI0.beg, hI0.opn, (by obtain ⟨c, h1, h2⟩ := hI0.vw; exact ⟨c, h1, h2.len, fun k hk => absurd hk.2 (by have := hk.1; simp only; omega)⟩), hI0.len, hI0.used⟩, by simp, by simp⟩ rfl (by repeat (first | exact keep_nil | refine keep_cons rfl ?_)) entA ?_
  rintro ⟨i, u⟩ ⟨hi, hH, hus, huw⟩ ih
  simp only at hi hH hus huw
  dsimp only
  have hul := hH.len
  (refine go ?_)
  refine J_loadArr (U := tab) (l := blC x) 0 rfl rfl rfl rfl rfl rfl ?_
  (first | refine J_callE rfl rfl rfl rfl (hcn) entA ?_ (fun _ _ _ _ _ => trivial) | refine J_call0E rfl rfl rfl (hcn) entA ?_ (fun _ _ _ _ _ => trivial) | (refine go ?_; first | refine J_callE rfl rfl rfl rfl (hcn) entA ?_ (fun _ _ _ _ _ => trivial) | refine J_call0E rfl rfl rfl (hcn) entA ?_ (fun _ _ _ _ _ => trivial)))
  rintro _ _ ⟨rfl, rfl⟩
  (refine go ?_)
  by_cases hlt : (i : Int) < countB x
  · (first | refine J_slot 20 ((.bool true)) rfl ((congrArg Value.bool (decide_eq_true hlt))) ?_ | refine K_slot 20 ((.bool true)) rfl ((congrArg Value.bool (decide_eq_true hlt))) ?_)
    obtain ⟨_, hat0, hat1⟩ := span_lt (x := x) (i := (i : Int)) (by omega) hlt
    have hsp : spanB x (i : Int) = some ((i : Int) * x.piece, min x.piece (x.size - (i : Int) * x.piece)) := by unfold spanB; rw [if_neg (by omega)]
    obtain ⟨at_, hat⟩ : ∃ at_ : Nat, (at_ : Int) = (i : Int) * x.piece := ⟨((i : Int) * x.piece).toNat, by omega⟩
    rw [← hat] at hat0 hat1 hsp
    obtain ⟨m, hm⟩ : ∃ m : Nat, (m : Int) = min x.piece (x.size - (at_ : Int)) := ⟨(min x.piece (x.size - (at_ : Int))).toNat, by omega⟩
    rw [← hm] at hsp
    have hspc := hspn (i : Int)
    rw [hsp] at hspc
    have hml : at_ + m ≤ b.length := by omega
    have hpc2 := hv.piece at_ (at_ + m) (by omega) (by omega)
    rw [show at_ + m - at_ = m from by omega] at hpc2
    have hplen : ((b.drop at_).take m).length = m := by rw [List.length_take, List.length_drop]; omega
    have hpt := hptc u (i : Int) (.slice (sliceAt a0 c0 at_ 1) m (c0 - at_)) ((b.drop at_).take m) hpc2.1 (by omega) (by omega) (by omega) (by omega)
    (refine go ?_)
    refine J_loadArr (U := tab) (l := blC x) 0 rfl rfl rfl rfl rfl rfl ?_
    (first | refine J_callE rfl rfl rfl rfl (hspc) entA ?_ (fun _ _ _ _ _ => trivial) | refine J_call0E rfl rfl rfl (hspc) entA ?_ (fun _ _ _ _ _ => trivial) | (refine go ?_; first | refine J_callE rfl rfl rfl rfl (hspc) entA ?_ (fun _ _ _ _ _ => trivial) | refine J_call0E rfl rfl rfl (hspc) entA ?_ (fun _ _ _ _ _ => trivial)))
    rintro _ _ ⟨rfl, rfl⟩
    simp only
    (refine go ?_)
    refine K_drawA (fun w => Sat G w ([pts b4 (cl (blC x) 32)])) (.st 0 (.st 1 (.st 2 (.st 3 (.st 4 (.st 5 (.st 6 (.st 7 (.st 8 (.act 9 (.st 10 .nil))))))))))) rfl (by kernel_rfl) (by kernel_rfl) (by kernel_rfl) (fun w hw => hw.ent entA) ?_
    (refine go ?_)
    refine J_loadArrS (U := tab) (l := blC x) 0 rfl rfl rfl rfl rfl rfl ?_
    (refine go ?_)
    refine J_sliceAny (U := tab) (p := (at_ : Int)) (q := (at_ : Int) + (m : Int)) rfl rfl rfl rfl rfl rfl rfl (by omega) (by omega) (.inr (by omega)) ?_
    refine J_slot 41 (.slice (sliceAt a0 c0 at_ 1) m (c0 - at_)) rfl (by rw [show ((at_ : Int) + (m : Int)).toNat = at_ + m from by omega, Int.toNat_natCast, show at_ + m - at_ = m from by omega]; rfl) ?_
    (refine go ?_)
    refine J_callE rfl rfl rfl rfl hpt entA ?_ (fun _ _ w hp hw => by obtain ⟨_, _, rfl, rfl, _⟩ := hp; exact hw.ent entA)
    rintro _ _ ⟨e2, u2, rfl, rfl, hR2⟩
    have hg2 := PutS_grow hR2
    have hg21 := hg2.1
    have hg22 := hg2.2
    obtain ⟨rfl, hH2⟩ := hH.put (by omega) (by omega) (by omega) hsp (by rw [Int.toNat_natCast, Int.toNat_natCast]; exact hR2)
    have hH3 : PutI q s x b (fun k => 0 ≤ k ∧ k < ((i + 1 : Nat) : Int)) u2 := ⟨hH2.si, hH2.beg, hH2.opn, (by
      obtain ⟨c, h1, h2⟩ := hH2.vw
      exact ⟨c, h1, h2.len, fun k hk => h2.has k (by rcases Int.lt_or_le k i with h | h; exact .inl ⟨hk.1, h⟩; exact .inr (by have := hk.2; omega))⟩), hH2.len, hH2.used⟩
    (refine go ?_)
    refine K_ent (H' := pts b4 (cl (blC x) 32) :: X :: (stoL bs bd q mb u2 ++ F)) entA ?_
    refine K_again ih (i + 1, u2) rfl ⟨by simp only; omega, hH3, by simp only; omega, by simp only; omega⟩ (by simp only; omega) (by repeat (first | exact keep_nil | refine keep_cons rfl ?_)) entA
  · (first | refine J_slot 20 ((.bool false)) rfl ((congrArg Value.bool (decide_eq_false hlt))) ?_ | refine K_slot 20 ((.bool false)) rfl ((congrArg Value.bool (decide_eq_false hlt))) ?_)
    have hic : (i : Int) = countB x := by omega
    (refine go ?_)
    refine J_loadArr (U := tab) (l := blC x) 0 rfl rfl rfl rfl rfl rfl ?_
    (first | refine J_callE rfl rfl rfl rfl (hin u (by omega) (by omega)) entA ?_ (fun _ _ _ _ _ => trivial) | refine J_call0E rfl rfl rfl (hin u (by omega) (by omega)) entA ?_ (fun _ _ _ _ _ => trivial) | (refine go ?_; first | refine J_callE rfl rfl rfl rfl (hin u (by omega) (by omega)) entA ?_ (fun _ _ _ _ _ => trivial) | refine J_call0E rfl rfl rfl (hin u (by omega) (by omega)) entA ?_ (fun _ _ _ _ _ => trivial)))
    rintro _ _ ⟨e3, t, rfl, rfl, hR3⟩
    have hg3 := InstallS_grow hR3
    have hg31 := hg3.1
    have hg32 := hg3.2
    obtain ⟨rfl, k1, k2, k3, k4, k5⟩ := hH.done hs hb hB (by omega) hr (fun k h1 h2 => ⟨h1, by omega⟩) hwh hR3
    clear ih
    (refine go ?_)
    refine K_ent (H' := stoL bs bd q mb t ++ (X :: F)) entA ?_
    (first | refine K_return hE Tryz.func25 rfl _ rfl ⟨t, rfl, rfl, k1, k2, k3, k4, k5, ⟨by omega, by omega⟩⟩ entA | refine K_fallEnd hE Tryz.func25 rfl _ rfl ⟨t, rfl, rfl, k1, k2, k3, k4, k5, ⟨by omega, by omega⟩⟩ entA)
end Go.Proofs.YtpecmnaikjbanaaGreatDoor

/- blobs: the law Half, its walk. -/
set_option linter.unusedVariables false
set_option linter.unusedSimpArgs false
namespace Go.Proofs.YtpecmnaikjbanaaGreatDoor
open Go Go.SL
theorem image_two {x y : Bl} (hx : rightB x = true) (hy : rightB y = true) (hne : x.d ≠ y.d) : imageB [x, y] = 0 := by
  unfold imageB
  rw [if_neg (by simp [hx, hy])]
  have : twiceB [x, y] = false := by simp [twiceB, fun e : y.d = x.d => hne e.symm]; exact fun e => hne e.symm
  rw [this]
  rfl
theorem image_one {x : Bl} (hx : rightB x = true) : imageB [x] = 0 := by
  unfold imageB
  rw [if_neg (by simp [hx])]
  rfl
theorem imagesF_nil {A : Ab} (h : HA A) (hn : ∀ d, vw A (fI d) = none) : imagesF A = [] := by
  rw [List.eq_nil_iff_forall_not_mem]
  intro d hd
  have := (mem_imagesF h d).1 hd
  rw [hn d] at this
  cases this
theorem vw_new (room : Nat) (n : ByteArray) : vw (Ab.new room) n = none := rfl
theorem row_two (row : Nat) (x y : Bl) (X : HP) : Vw (Sep [pts row (cl ([x, y].flatMap blC) 32), X]) (.slice (some ⟨row, 0, none⟩) [x, y].length 2) [x, y].length ([x, y].flatMap blC) := (Vw.pts rfl).mono (Sep_get (i := 0) rfl)
attribute [local irreducible] J K Ctr Ends pts slc mapR mapI sbRow stock arrS loopP CtrY Sha.chunks Sha.chunk Sha.rounds Sha.sched sumL taggedL GI leafL diskA
set_option maxRecDepth 20000 in
set_option maxHeartbeats 1000000 in
theorem Half_any (X : HP) (hK : KAt X) (av bv : Value) (a b : List UInt8) (ha : BAt X av a) (hb : BAt X bv b) (hal : a.length ≤ 9223372036854775807) (hbl : b.length ≤ 9223372036854775807) (piece : Int) :
    Ctr Tryz.prog 5 [av, bv, .int .i64 piece] [X] (fun r H => r = .bool true ∧ H = [X]) := by
  obtain ⟨a0, c0, rfl, hc0⟩ := ha.2
  obtain ⟨a1, c1, rfl, hc1⟩ := hb.2
  refine Ctr.enter Tryz.func5 (by kernel_rfl) rfl Tryz.ntmps5 rfl rfl ?_
  intro G F R hE
  (refine go ?_)
  (first | refine J_callE rfl rfl rfl rfl (awake_any X hK) entA ?_ (fun _ _ _ _ _ => trivial) | refine J_call0E rfl rfl rfl (awake_any X hK) entA ?_ (fun _ _ _ _ _ => trivial) | (refine go ?_; first | refine J_callE rfl rfl rfl rfl (awake_any X hK) entA ?_ (fun _ _ _ _ _ => trivial) | refine J_call0E rfl rfl rfl (awake_any X hK) entA ?_ (fun _ _ _ _ _ => trivial)))
  rintro _ _ ⟨rfl, rfl⟩
  (refine go ?_)
  (first | refine J_callE rfl rfl rfl rfl (New_dA 16777216 (by omega) (by omega)) entA ?_ (fun _ _ _ _ _ => trivial) | refine J_call0E rfl rfl rfl (New_dA 16777216 (by omega) (by omega)) entA ?_ (fun _ _ _ _ _ => trivial) | (refine go ?_; first | refine J_callE rfl rfl rfl rfl (New_dA 16777216 (by omega) (by omega)) entA ?_ (fun _ _ _ _ _ => trivial) | refine J_call0E rfl rfl rfl (New_dA 16777216 (by omega) (by omega)) entA ?_ (fun _ _ _ _ _ => trivial)))
  rintro _ _ ⟨bd, rfl, rfl⟩
  repeat' (first | (with_reducible intro _hh) | refine go1 ?_ | refine J_fork ?_ ?_ | refine J_gsP rfl rfl rfl rfl ?_ ?_ | refine K_condP rfl rfl ?_ ?_)
  all_goals (first | ((first | refine K_return hE Tryz.func5 rfl _ rfl ⟨rfl, rfl⟩ entA | refine K_fallEnd hE Tryz.func5 rfl _ rfl ⟨rfl, rfl⟩ entA)) | skip)
  have hal2 : a.length ≤ 500 := by omega
  have hbl2 : b.length ≤ 500 := by omega
  have hba := Blob_ref X _ a ha (by omega) piece
  have hbb := Blob_ref X _ b hb (by omega) piece
  have hopn := Open_first X hK bd 16777216 1048576 (by omega)
  (first | refine J_callE rfl rfl rfl rfl (hopn) entA ?_ (fun _ _ _ _ _ => trivial) | refine J_call0E rfl rfl rfl (hopn) entA ?_ (fun _ _ _ _ _ => trivial) | (refine go ?_; first | refine J_callE rfl rfl rfl rfl (hopn) entA ?_ (fun _ _ _ _ _ => trivial) | refine J_call0E rfl rfl rfl (hopn) entA ?_ (fun _ _ _ _ _ => trivial)))
  rintro _ _ ⟨bs, mb, rfl, rfl⟩
  cases hx : blobB a piece with
  | none =>
    rw [hx] at hba
    (refine go ?_)
    (first | refine J_callE rfl rfl rfl rfl (hba) entA ?_ (fun _ _ _ _ _ => trivial) | refine J_call0E rfl rfl rfl (hba) entA ?_ (fun _ _ _ _ _ => trivial) | (refine go ?_; first | refine J_callE rfl rfl rfl rfl (hba) entA ?_ (fun _ _ _ _ _ => trivial) | refine J_call0E rfl rfl rfl (hba) entA ?_ (fun _ _ _ _ _ => trivial)))
    rintro _ _ ⟨rfl, rfl⟩
    unfold blV
    (refine go ?_)
    refine J_alloc (U := tab) rfl rfl rfl (fun _ _ _ => trivial) ?_
    intro b11
    cases hy : blobB b piece with
    | none =>
      rw [hy] at hbb
      (refine go ?_)
      (first | refine J_callE rfl rfl rfl rfl (hbb) entA ?_ (fun _ _ _ _ _ => trivial) | refine J_call0E rfl rfl rfl (hbb) entA ?_ (fun _ _ _ _ _ => trivial) | (refine go ?_; first | refine J_callE rfl rfl rfl rfl (hbb) entA ?_ (fun _ _ _ _ _ => trivial) | refine J_call0E rfl rfl rfl (hbb) entA ?_ (fun _ _ _ _ _ => trivial)))
      rintro _ _ ⟨rfl, rfl⟩
      unfold blV
      (refine go ?_)
      refine J_alloc (U := tab) rfl rfl rfl (fun _ _ _ => trivial) ?_
      intro b13
      (refine go ?_)
      refine K_ent (H' := X :: F) entA ?_
      (first | refine K_return hE Tryz.func5 rfl _ rfl ⟨rfl, rfl⟩ entA | refine K_fallEnd hE Tryz.func5 rfl _ rfl ⟨rfl, rfl⟩ entA)
    | some y =>
      rw [hy] at hbb
      (refine go ?_)
      (first | refine J_callE rfl rfl rfl rfl (hbb) entA ?_ (fun _ _ _ _ _ => trivial) | refine J_call0E rfl rfl rfl (hbb) entA ?_ (fun _ _ _ _ _ => trivial) | (refine go ?_; first | refine J_callE rfl rfl rfl rfl (hbb) entA ?_ (fun _ _ _ _ _ => trivial) | refine J_call0E rfl rfl rfl (hbb) entA ?_ (fun _ _ _ _ _ => trivial)))
      rintro _ _ ⟨rfl, rfl⟩
      unfold blV
      (refine go ?_)
      refine J_alloc (U := tab) rfl rfl rfl (fun _ _ _ => trivial) ?_
      intro b13
      (refine go ?_)
      refine K_ent (H' := X :: F) entA ?_
      (first | refine K_return hE Tryz.func5 rfl _ rfl ⟨rfl, rfl⟩ entA | refine K_fallEnd hE Tryz.func5 rfl _ rfl ⟨rfl, rfl⟩ entA)
  | some x =>
    rw [hx] at hba
    obtain ⟨hxr, hxs, hxp, hxw⟩ := blob_ok hx
    (refine go ?_)
    (first | refine J_callE rfl rfl rfl rfl (hba) entA ?_ (fun _ _ _ _ _ => trivial) | refine J_call0E rfl rfl rfl (hba) entA ?_ (fun _ _ _ _ _ => trivial) | (refine go ?_; first | refine J_callE rfl rfl rfl rfl (hba) entA ?_ (fun _ _ _ _ _ => trivial) | refine J_call0E rfl rfl rfl (hba) entA ?_ (fun _ _ _ _ _ => trivial)))
    rintro _ _ ⟨rfl, rfl⟩
    unfold blV
    (refine go ?_)
    refine J_alloc (U := tab) rfl rfl rfl (fun _ _ _ => trivial) ?_
    intro b11
    cases hy : blobB b piece with
    | none =>
      rw [hy] at hbb
      (refine go ?_)
      (first | refine J_callE rfl rfl rfl rfl (hbb) entA ?_ (fun _ _ _ _ _ => trivial) | refine J_call0E rfl rfl rfl (hbb) entA ?_ (fun _ _ _ _ _ => trivial) | (refine go ?_; first | refine J_callE rfl rfl rfl rfl (hbb) entA ?_ (fun _ _ _ _ _ => trivial) | refine J_call0E rfl rfl rfl (hbb) entA ?_ (fun _ _ _ _ _ => trivial)))
      rintro _ _ ⟨rfl, rfl⟩
      unfold blV
      (refine go ?_)
      refine J_alloc (U := tab) rfl rfl rfl (fun _ _ _ => trivial) ?_
      intro b13
      (refine go ?_)
      refine K_ent (H' := X :: F) entA ?_
      (first | refine K_return hE Tryz.func5 rfl _ rfl ⟨rfl, rfl⟩ entA | refine K_fallEnd hE Tryz.func5 rfl _ rfl ⟨rfl, rfl⟩ entA)
    | some y =>
      rw [hy] at hbb
      obtain ⟨hyr, hys, hyp, hyw⟩ := blob_ok hy
      (refine go ?_)
      (first | refine J_callE rfl rfl rfl rfl (hbb) entA ?_ (fun _ _ _ _ _ => trivial) | refine J_call0E rfl rfl rfl (hbb) entA ?_ (fun _ _ _ _ _ => trivial) | (refine go ?_; first | refine J_callE rfl rfl rfl rfl (hbb) entA ?_ (fun _ _ _ _ _ => trivial) | refine J_call0E rfl rfl rfl (hbb) entA ?_ (fun _ _ _ _ _ => trivial)))
      rintro _ _ ⟨rfl, rfl⟩
      unfold blV
      (refine go ?_)
      refine J_alloc (U := tab) rfl rfl rfl (fun _ _ _ => trivial) ?_
      intro b13
      (refine go ?_)
      (first | refine K_ent (H' := pts b11 (cl (blC x) 32) :: pts b13 (cl (blC y) 32) :: X :: (stoL bs bd 1048576 mb ⟨Ab.new 16777216, [], false⟩ ++ F)) entA ?_ | refine J_ent (H' := pts b11 (cl (blC x) 32) :: pts b13 (cl (blC y) 32) :: X :: (stoL bs bd 1048576 mb ⟨Ab.new 16777216, [], false⟩ ++ F)) entA ?_)
      refine J_loadAgg (U := tab) 0 rfl rfl rfl rfl rfl rfl ?_
      (refine go ?_)
      refine J_loadAgg (U := tab) 1 rfl rfl rfl rfl rfl rfl ?_
      (refine go ?_)
      refine J_eqAgg (b := decide (x.d = y.d)) rfl rfl rfl guDg (fun w => eqDg x.d y.d w) ?_
      by_cases hne : x.d = y.d
      · rw [decide_eq_true hne]
        (refine go ?_)
        refine K_ent (H' := X :: F) entA ?_
        (first | refine K_return hE Tryz.func5 rfl _ rfl ⟨rfl, rfl⟩ entA | refine K_fallEnd hE Tryz.func5 rfl _ rfl ⟨rfl, rfl⟩ entA)
      rw [decide_eq_false hne]
      have hs0 : StoI 1048576 ⟨Ab.new 16777216, [], false⟩ := StoI.new (by omega)
      have hu0 : usedS ⟨Ab.new 16777216, [], false⟩ = 0 := usedS_none rfl
      have hpu := put_any8 X hK _ a ha bs bd 1048576 (by omega) mb ⟨Ab.new 16777216, [], false⟩ hs0 (by decide) (by decide) (by show 1 ≤ _; omega) (by show 0 ≤ _; omega) x hxr hxw rfl rfl (by rw [hu0]; omega)
      unfold blV at hpu
      (refine go ?_)
      refine J_loadArr (U := tab) (l := blC x) 0 rfl rfl rfl rfl rfl rfl ?_
      (first | refine J_callE rfl rfl rfl rfl (hpu) entA ?_ (fun _ _ _ _ _ => trivial) | refine J_call0E rfl rfl rfl (hpu) entA ?_ (fun _ _ _ _ _ => trivial) | (refine go ?_; first | refine J_callE rfl rfl rfl rfl (hpu) entA ?_ (fun _ _ _ _ _ => trivial) | refine J_call0E rfl rfl rfl (hpu) entA ?_ (fun _ _ _ _ _ => trivial)))
      rintro _ _ ⟨t, rfl, rfl, ht, htb, htv, htn, htu, htg⟩
      have htg1 : t.A.states.length ≤ 1 + 1100 := htg.1
      have htg2 : t.A.writes.length ≤ 0 + 1100 := htg.2
      have htn' : t.A.names.length ≤ 0 + 1 := htn
      have htb' : t.beg = [] := htb
      have hvw : ∀ n, vw t.A n = if n = fBd x.d then some a else none := fun n => by rw [htv]; rfl
      (refine go ?_)
      (first | refine K_ent (H' := pts b11 (cl (blC x) 32) :: pts b13 (cl (blC y) 32) :: X :: (stoL bs bd 1048576 mb t ++ F)) entA ?_ | refine J_ent (H' := pts b11 (cl (blC x) 32) :: pts b13 (cl (blC y) 32) :: X :: (stoL bs bd 1048576 mb t ++ F)) entA ?_)
      have hbg := Begin_bl bs bd 1048576 (by omega) mb t y (ht.begOk (by rw [htb']; decide)) (by omega) (by omega)
      unfold blV at hbg
      (refine go ?_)
      refine J_loadArr (U := tab) (l := blC y) 1 rfl rfl rfl rfl rfl rfl ?_
      (first | refine J_callE rfl rfl rfl rfl (hbg) entA ?_ (fun _ _ _ _ _ => trivial) | refine J_call0E rfl rfl rfl (hbg) entA ?_ (fun _ _ _ _ _ => trivial) | (refine go ?_; first | refine J_callE rfl rfl rfl rfl (hbg) entA ?_ (fun _ _ _ _ _ => trivial) | refine J_call0E rfl rfl rfl (hbg) entA ?_ (fun _ _ _ _ _ => trivial)))
      rintro _ _ ⟨e1, u, rfl, rfl, hR1⟩
      have hg1 := BeginR_grow hR1
      have hg11 := hg1.1
      have hg12 := hg1.2
      obtain ⟨rfl, hI⟩ := PutI.begin (w := b) ht (by omega) hyr (by rw [htb']; rfl) (by rw [hvw, if_neg (fun e => hne (fBd_inj e).symm)]) (by rw [hu0] at htu; omega) hR1
      obtain ⟨cc, hv1, -⟩ := hI.vw
      have hvu : ∀ n, vw u.A n = if n = fSd y.d then some cc else if n = fBd x.d then some a else none := fun n => by
        rw [hv1]; unfold setV; rw [hvw]
      have hxB : vw u.A (fBd x.d) = some a := by rw [hvu, if_neg (fun e => fSd_ne_fBd _ _ e.symm), if_pos rfl]
      have hyB : vw u.A (fBd y.d) = none := by rw [hvu, if_neg (fun e => fSd_ne_fBd _ _ e.symm), if_neg (fun e => hne (fBd_inj e).symm)]
      have hII : ∀ d, vw u.A (fI d) = none := fun d => by rw [hvu, if_neg (fun e => fSd_ne_fI _ _ e.symm), if_neg (fun e => fBd_ne_fI _ _ e.symm)]
      have hul := hI.beg
      have hub : u.beg.length ≤ 1 := by rw [hul, htb']; simp
      (refine go ?_)
      (first | refine K_ent (H' := pts b11 (cl (blC x) 32) :: pts b13 (cl (blC y) 32) :: X :: (stoL bs bd 1048576 mb u ++ F)) entA ?_ | refine J_ent (H' := pts b11 (cl (blC x) 32) :: pts b13 (cl (blC y) 32) :: X :: (stoL bs bd 1048576 mb u ++ F)) entA ?_)
      (refine go ?_)
      refine J_loadArr (U := tab) (l := blC x) 0 rfl rfl rfl rfl rfl rfl ?_
      (refine go ?_)
      refine J_loadArr (U := tab) (l := blC y) 1 rfl rfl rfl rfl rfl rfl ?_
      (refine go ?_)
      refine J_buildSlice1 (U := tab) (cs := [x, y].flatMap blC) rfl rfl rfl rfl rfl rfl rfl rfl rfl (fun _ _ _ => trivial) ?_
      intro row
      (refine go ?_)
      have hcm := Commit_bl (Sep [pts row (cl ([x, y].flatMap blC) 32), X]) (hK.mono (Sep_get (i := 1) rfl)) _ [x, y] (row_two row x y X) (by simp) bs bd 1048576 mb u (by omega) (by omega)
      unfold imV at hcm
      refine J_ent (H' := Sep [pts row (cl ([x, y].flatMap blC) 32), X] :: pts b11 (cl (blC x) 32) :: pts b13 (cl (blC y) 32) :: (stoL bs bd 1048576 mb u ++ F)) (Ent.trans (H2 := pts row (cl ([x, y].flatMap blC) 32) :: X :: pts b11 (cl (blC x) 32) :: pts b13 (cl (blC y) 32) :: (stoL bs bd 1048576 mb u ++ F)) entA (Ent.resep [_, _] _)) ?_
      (first | refine J_callE rfl rfl rfl rfl (hcm) entA ?_ (fun _ _ _ _ _ => trivial) | refine J_call0E rfl rfl rfl (hcm) entA ?_ (fun _ _ _ _ _ => trivial) | (refine go ?_; first | refine J_callE rfl rfl rfl rfl (hcm) entA ?_ (fun _ _ _ _ _ => trivial) | refine J_call0E rfl rfl rfl (hcm) entA ?_ (fun _ _ _ _ _ => trivial)))
      rintro _ _ ⟨e2, u2, rfl, rfl, hR2⟩
      obtain ⟨rfl, rfl⟩ : e2 = 4 ∧ u2 = u := by
        unfold CommitS at hR2
        rw [if_neg (by rw [hI.si.brk]; simp), image_two hxr hyr hne, if_neg (by omega), if_neg (by rw [hasF_vw, show vw u.A (fileN kI (nameB [x, y])) = none from hII _]; simp), if_pos (by simp [hasF_vw, fB_eq, hyB])] at hR2
        exact hR2
      refine J_ent (H' := pts b11 (cl (blC x) 32) :: pts b13 (cl (blC y) 32) :: X :: (stoL bs bd 1048576 mb u2 ++ F)) (Ent.trans (H2 := Sep [pts row (cl ([x, y].flatMap blC) 32), X] :: pts b11 (cl (blC x) 32) :: pts b13 (cl (blC y) 32) :: (stoL bs bd 1048576 mb u2 ++ F)) entA (Ent.trans (Ent.unsep [_, _] _) entA)) ?_
      have hrd := ReadS_any bs bd 1048576 mb u2.brk u2.A y.d 0 1
      rw [show readS u2.A y.d 0 1 = ([], 4) from by unfold readS; rw [hasF_vw, show vw u2.A (fileN kB y.d) = none from hyB]; rfl] at hrd
      unfold dV at hrd
      (refine go ?_)
      refine J_loadAgg (U := tab) 1 rfl rfl rfl rfl rfl rfl ?_
      (first | refine J_callE rfl rfl rfl rfl (hrd) entA ?_ (fun _ _ _ _ _ => trivial) | refine J_call0E rfl rfl rfl (hrd) entA ?_ (fun _ _ _ _ _ => trivial) | (refine go ?_; first | refine J_callE rfl rfl rfl rfl (hrd) entA ?_ (fun _ _ _ _ _ => trivial) | refine J_call0E rfl rfl rfl (hrd) entA ?_ (fun _ _ _ _ _ => trivial)))
      rintro _ _ ⟨rv, rfl, rfl⟩
      (first | refine J_shape 0 rfl ?_ | refine K_shape 0 rfl ?_)
      rintro ra rc rfl
      (refine go ?_)
      (first | refine K_ent (H' := pts b11 (cl (blC x) 32) :: pts b13 (cl (blC y) 32) :: X :: (stoL bs bd 1048576 mb u2 ++ F)) entA ?_ | refine J_ent (H' := pts b11 (cl (blC x) 32) :: pts b13 (cl (blC y) 32) :: X :: (stoL bs bd 1048576 mb u2 ++ F)) entA ?_)
      have hbg2 := Begin_bl bs bd 1048576 (by omega) mb u2 x (hI.si.begOk (by omega)) (by omega) (by omega)
      unfold blV at hbg2
      (refine go ?_)
      refine J_loadArr (U := tab) (l := blC x) 0 rfl rfl rfl rfl rfl rfl ?_
      (first | refine J_callE rfl rfl rfl rfl (hbg2) entA ?_ (fun _ _ _ _ _ => trivial) | refine J_call0E rfl rfl rfl (hbg2) entA ?_ (fun _ _ _ _ _ => trivial) | (refine go ?_; first | refine J_callE rfl rfl rfl rfl (hbg2) entA ?_ (fun _ _ _ _ _ => trivial) | refine J_call0E rfl rfl rfl (hbg2) entA ?_ (fun _ _ _ _ _ => trivial)))
      rintro _ _ ⟨e3, u3, rfl, rfl, hR3⟩
      obtain ⟨rfl, rfl⟩ : e3 = 5 ∧ u3 = u2 := by
        unfold BeginR at hR3
        rw [if_neg (by rw [hI.si.brk]; simp), if_neg (by rw [hxr]; simp), if_pos (.inr (by rw [hasF_vw, fB_eq, hxB]; rfl))] at hR3
        exact hR3
      have hhs := Has_any bs bd 1048576 mb u3.brk u3.A y.d
      rw [hasF_vw, show vw u3.A (fileN kB y.d) = none from hyB] at hhs
      unfold dV at hhs
      have hims := Images_any bs bd 1048576 mb u3.brk u3.A
      rw [imagesF_nil hI.si.ha hII] at hims
      (refine go ?_)
      (first | refine K_ent (H' := pts b11 (cl (blC x) 32) :: pts b13 (cl (blC y) 32) :: X :: (stoL bs bd 1048576 mb u3 ++ F)) entA ?_ | refine J_ent (H' := pts b11 (cl (blC x) 32) :: pts b13 (cl (blC y) 32) :: X :: (stoL bs bd 1048576 mb u3 ++ F)) entA ?_)
      refine J_loadAgg (U := tab) 1 rfl rfl rfl rfl rfl rfl ?_
      (first | refine J_callE rfl rfl rfl rfl (hhs) entA ?_ (fun _ _ _ _ _ => trivial) | refine J_call0E rfl rfl rfl (hhs) entA ?_ (fun _ _ _ _ _ => trivial) | (refine go ?_; first | refine J_callE rfl rfl rfl rfl (hhs) entA ?_ (fun _ _ _ _ _ => trivial) | refine J_call0E rfl rfl rfl (hhs) entA ?_ (fun _ _ _ _ _ => trivial)))
      rintro _ _ ⟨rfl, rfl⟩
      (refine go ?_)
      (first | refine J_callE rfl rfl rfl rfl (hims) entA ?_ (fun _ _ _ _ _ => trivial) | refine J_call0E rfl rfl rfl (hims) entA ?_ (fun _ _ _ _ _ => trivial) | (refine go ?_; first | refine J_callE rfl rfl rfl rfl (hims) entA ?_ (fun _ _ _ _ _ => trivial) | refine J_call0E rfl rfl rfl (hims) entA ?_ (fun _ _ _ _ _ => trivial)))
      rintro rv2 _ rfl
      (first | refine J_shape 0 rfl ?_ | refine K_shape 0 rfl ?_)
      rintro ra2 rc2 rfl
      (refine go ?_)
      refine K_ent (H' := X :: F) entA ?_
      (first | refine K_return hE Tryz.func5 rfl _ rfl ⟨rfl, rfl⟩ entA | refine K_fallEnd hE Tryz.func5 rfl _ rfl ⟨rfl, rfl⟩ entA)
end Go.Proofs.YtpecmnaikjbanaaGreatDoor

/- blobs: the variable that the rows lay: what its cells are. -/
set_option linter.unusedVariables false
set_option linter.unusedSimpArgs false
set_option linter.unnecessarySimpa false
namespace Go.Proofs.YtpecmnaikjbanaaGreatDoor
open Go Go.SL
theorem arr_cells {P : Program} {H : Type} {enc : TypeId × Value → H} {W : World} {base : Nat} {spare : Nat → Bool} {held : Bool} {fuel n : Nat} {t e : TypeId} {k : IntKind} {l : List Value} {x : DataW H × List MemPlace} (ht : P.underlying t = some (.array n e)) (he : P.underlying e = some (.int k)) (hc : P.cellsOf e = 1) (hct : P.cellsOf t = n)
    (h : DataW.trod enc P W base spare held fuel t l = some x) (ns : List Int) (hx : x.1 = .agg (ns.map fun z => .lit (.int k z))) : l = ns.map (Value.int k) := by
  obtain ⟨xs, m, _, hxe, hlen, hxl, hf⟩ := DataW.trod_array ht h
  rw [hct] at hlen
  rw [hxe] at hx
  simp only [DataW.agg.injEq] at hx
  apply List.ext_getElem?
  intro i
  rcases Nat.lt_or_ge i n with hi | hi
  · have h1 := hf i hi
    obtain ⟨y, hy⟩ : ∃ y, xs[i]? = some y := ⟨xs[i]'(by rw [hxl]; exact hi), by simp⟩
    rw [hy, hc, Nat.mul_one] at h1
    obtain ⟨z, r, hz, w⟩ := DataW.trod_int he h1
    have h2 := congrArg (fun l : List Value => l[0]?) r
    have h3 : l[i]? = some (.int k z) := by simpa using h2
    have h4 := congrArg (fun l => l[i]?) hx
    simp only [List.getElem?_map, hy, Option.map_some, hz] at h4
    rw [h3, List.getElem?_map]
    cases hn : ns[i]? with
    | none => rw [hn] at h4; cases h4
    | some z2 =>
      rw [hn] at h4
      simp only [Option.map_some, Option.some.injEq, DataW.lit.injEq, Lit.int.injEq] at h4
      rw [h4.2]
      rfl
  · have hnl : ns.length = n := by have := congrArg List.length hx; simpa [hxl] using this.symm
    rw [List.getElem?_eq_none (by omega), List.getElem?_eq_none (by simp; omega)]
def ksI : List Int := Sha.ks.map fun w => (w.toNat : Int)
theorem wV_ks : wV Sha.ks = ksI.map (Value.int .u32) := by unfold wV ksI; rw [List.map_map]; rfl
theorem ksI_eq : Rows.laid_starling_digest_constants (H := Unit) = .agg (ksI.map fun z => .lit (.int .u32 z)) := by
  unfold Rows.laid_starling_digest_constants ksI Sha.ks
  simp only [List.map_cons, List.map_nil, BitVec.toNat_ofNat]
  rfl
theorem ks_global : Tryz.prog.globalNamed "starling/digest.constants" = some 0 := by kernel_rfl
theorem ks_type : (Tryz.prog.globals[0]?).map (·.type) = some 161 := by kernel_rfl
theorem ks_cells : Tryz.prog.cellsOf 161 = 64 := by kernel_rfl
theorem u32_cells : Tryz.prog.cellsOf 129 = 1 := by kernel_rfl
theorem cells_of_laid {W : World} (h : laidMet Tryz.prog [("starling/digest.constants", Rows.laid_starling_digest_constants)] W) : W.var? Tryz.prog "starling/digest.constants" = some (wV Sha.ks).toArray := by
  obtain ⟨ps, ⟨g, t, cs, fuel, p, q, hg, ht, hvar, hd, _, _⟩, _⟩ := h
  obtain rfl := Option.some.inj (ks_global.symm.trans hg)
  obtain rfl := Option.some.inj (ks_type.symm.trans ht)
  rw [hvar, wV_ks]
  congr 1
  have := arr_cells Tryz.underlying161 Tryz.underlying129 u32_cells ks_cells hd ksI ksI_eq
  rw [← this]
theorem KAt_of_laid {W : World} (h : laidMet Tryz.prog [("starling/digest.constants", Rows.laid_starling_digest_constants)] W) : KAt (old W) := by
  have hv := cells_of_laid h
  refine ⟨some ⟨0, 0, none⟩, 64, rfl, .inr ⟨_, 0, rfl, fun hp ho j c hj => ?_⟩⟩
  rw [Nat.zero_add]
  refine hcell_of_cell ho ?_
  rw [World.var?_cell ks_global hv j]
  simpa using hj
/-- A world in which the variable reads as the rows lay it. -/
noncomputable def laidWorld (os : Os) : World :=
  { World.holding Tryz.prog os ⟨#[], #[], []⟩ with heap := (World.holding Tryz.prog os ⟨#[], #[], []⟩).heap.modify 0 fun
      | .cells _ t frozen => .cells (ksI.map (Value.int .u32)).toArray t frozen
      | o => o }
theorem laidWorld_row (os : Os) (args : Array Value) : ((laidWorld os).forCall (fun _ _ => 0) ⟨#[], args, []⟩).memory.heap[0]? = some (.cells (ksI.map (Value.int .u32)).toArray 161 (0, 0)) := by kernel_rfl
theorem ksI_len : ksI.length = 64 := by unfold ksI; rw [List.length_map]; rfl
set_option maxRecDepth 20000 in
theorem laidWorld_met (os : Os) (args : Array Value) : laidMet Tryz.prog [("starling/digest.constants", Rows.laid_starling_digest_constants)] ((laidWorld os).forCall (fun _ _ => 0) ⟨#[], args, []⟩).memory := by
  have hrow := laidWorld_row os args
  refine ⟨_, ⟨0, 161, (ksI.map (Value.int .u32)).toArray, 8, [], [], ks_global, ks_type, ?_, ?_, rfl, rfl⟩, ?_, ?_⟩
  · unfold World.var?
    rw [ks_global]
    simp only [Option.bind_some, hrow]
  · kernel_rfl
  · rw [List.append_nil, List.append_nil]
    unfold MemPlace.row
    refine List.Pairwise.map (R := fun a b => a ≠ b) _ (fun i j hij e => hij ?_) List.nodup_range
    exact Nat.add_left_cancel (MemPlace.cell.inj e).2
  · intro b off h
    have hb : b = 0 := by
      simp only [List.append_nil, MemPlace.row, List.mem_map] at h
      obtain ⟨i, _, hi⟩ := h
      simp [MemPlace.cell.injEq] at hi
      exact hi.1.symm
    subst hb
    refine ⟨⟨_, _, hrow⟩, fun u v hc => ?_⟩
    simp only [World.cell?, hrow] at hc
    exfalso
    have h2 : ∀ x ∈ ksI.map (Value.int .u32), ∀ u v, x ≠ .iface u v := by
      intro x hx u v
      obtain ⟨z, _, rfl⟩ := List.mem_map.1 hx
      simp
    have h3 : (ksI.map (Value.int .u32))[off]? = some (.iface u v) := by simpa using hc
    exact h2 _ (List.mem_of_getElem? h3) u v rfl
end Go.Proofs.YtpecmnaikjbanaaGreatDoor

/-
  BlobsHalf answers true, whatever it is given; what it is given reads behind the call as it read before. No condition.
-/
namespace Go.Proofs.YtpecmnaikjbanaaGreatDoor.blobsHalf
open Go Go.SL
open Go.ChangeShapes Go.WideShapes Go.ChangeAt Go.RowKit
open Go.ChangeMaps (open_string shut_string)
set_option linter.unusedVariables false
set_option linter.unusedSimpArgs false

theorem own : ownKnob Tryz.prog.godebug = none := by kernel_rfl
theorem laidOut : laidOutB Tryz.prog = true := by kernel_rfl

set_option maxRecDepth 100000 in
theorem lifted (os : Os) (started : os.Started) (H : Type) (enc : TypeId × Value → H) :
    ReturnsInHanded {} Tryz.checked os 5 .any (fun w args => (Rows.blobsHalfSpec.pre enc Tryz.prog Tryz.f5 Rows.blobsHalfRow.domain false w args ∧ laidMet Tryz.prog [("starling/digest.constants", Rows.laid_starling_digest_constants)] w) ∧ sizedMet enc Tryz.prog Tryz.f5 (OpenSpec.ofChange Rows.blobsHalfSpec) false w args) (Rows.blobsHalfSpec.post enc Tryz.prog Tryz.f5 false true false false) := by
  refine returnsInHanded_of_change_and (C := Tryz.checked) (X := fun w _ => laidMet Tryz.prog [("starling/digest.constants", Rows.laid_starling_digest_constants)] w) (fun _ _ _ hh h => h.of_heap hh) own started (by kernel_rfl) Tryz.func5
    (ChangeSpec.witness_at (enc := enc) (C := Tryz.checked) (os := os) (X := fun w _ => laidMet Tryz.prog [("starling/digest.constants", Rows.laid_starling_digest_constants)] w) false (laidWorld os) #[.slice none 0 0, .slice none 0 0, .int .i64 0] 8 rfl (by kernel_rfl) (by kernel_rfl) (by kernel_rfl) (by kernel_rfl) (by kernel_rfl) (laidWorld_met os #[.slice none 0 0, .slice none 0 0, .int .i64 0])) ?_
  intro W base args ds gs before hval0 hW hcnd _ hL _
  have hval : ∀ (j : Nat) t v, Tryz.f5.params[j]? = some t → args[j]? = some v → Value.okWide Tryz.prog W .any base t v := hval0
  have hW' := hW
  obtain ⟨p, q, hA0, hV, rfl, hfz, hnd⟩ := hW
  have hA : DataW.TrodAll enc Tryz.prog W 0 (fun _ => true) true Tryz.f5.params.toList args.toList ds p := hA0
  rw [Tryz.params5] at hA hval
  obtain ⟨v0, vs0, d0, ds0, p0, q0, hargs, rfl, rfl, h0, r0⟩ := trodAll_cons hA
  obtain ⟨v1, vs1, d1, ds1, p1, q1, rfl, rfl, rfl, h1, r1⟩ := trodAll_cons r0
  obtain ⟨v2, vs2, d2, ds2, p2, q2, rfl, rfl, rfl, h2, r2⟩ := trodAll_cons r1
  obtain ⟨rfl, rfl, rfl⟩ := trodAll_nil r2
  obtain rfl : args = #[v0, v1, v2] := by cases args; simp_all
  obtain ⟨rfl, rfl⟩ := trodVars_none hV
  obtain ⟨a0, len0, cap0, rfl⟩ := okWide_slice Tryz.underlying22 (hval 0 22 v0 rfl rfl)
  have k0 := h0
  have lt0 : ∀ x ∈ p0, x.block < W.heap.size := by obtain ⟨m, hm⟩ := k0; exact DataW.trod_lt m _ _ _ hm
  obtain ⟨bs0, hbl0, hbs0, hv0⟩ : ∃ bs : List UInt8, bs.length = len0 ∧ len0 ≤ 9223372036854775807 ∧ Vw (old W) (.slice a0 len0 cap0) len0 (bV bs) ∧ len0 ≤ cap0 := by
    obtain ⟨fuel, hf⟩ := h0
    rcases open_ints Tryz.underlying22 Tryz.underlying5 (by kernel_rfl) hf with ⟨hcs, _⟩ | ⟨x, l, c, zs, hcs, _, hl, hm, hz, _, hcell, hwz⟩
    · simp [Value.cells] at hcs
      obtain ⟨rfl, rfl, rfl⟩ := hcs
      exact ⟨[], rfl, by omega, nil_view W, Nat.le_refl _⟩
    · simp [Value.cells] at hcs
      obtain ⟨rfl, rfl, rfl⟩ := hcs
      obtain ⟨bs, h1, h2⟩ := bytes_view (len := len0) (cap := cap0) (by simp at hz; omega) hcell hwz
      exact ⟨bs, h1, by have : maxLen = 9223372036854775807 := by decide
                        omega, h2, hl⟩
  subst hbl0
  obtain ⟨a1, len1, cap1, rfl⟩ := okWide_slice Tryz.underlying22 (hval 1 22 v1 rfl rfl)
  have k1 := h1
  have lt1 : ∀ x ∈ p1, x.block < W.heap.size := by obtain ⟨m, hm⟩ := k1; exact DataW.trod_lt m _ _ _ hm
  obtain ⟨bs1, hbl1, hbs1, hv1⟩ : ∃ bs : List UInt8, bs.length = len1 ∧ len1 ≤ 9223372036854775807 ∧ Vw (old W) (.slice a1 len1 cap1) len1 (bV bs) ∧ len1 ≤ cap1 := by
    obtain ⟨fuel, hf⟩ := h1
    rcases open_ints Tryz.underlying22 Tryz.underlying5 (by kernel_rfl) hf with ⟨hcs, _⟩ | ⟨x, l, c, zs, hcs, _, hl, hm, hz, _, hcell, hwz⟩
    · simp [Value.cells] at hcs
      obtain ⟨rfl, rfl, rfl⟩ := hcs
      exact ⟨[], rfl, by omega, nil_view W, Nat.le_refl _⟩
    · simp [Value.cells] at hcs
      obtain ⟨rfl, rfl, rfl⟩ := hcs
      obtain ⟨bs, h1, h2⟩ := bytes_view (len := len1) (cap := cap1) (by simp at hz; omega) hcell hwz
      exact ⟨bs, h1, by have : maxLen = 9223372036854775807 := by decide
                        omega, h2, hl⟩
  subst hbl1
  obtain ⟨a2, rfl, rfl, rfl, w2⟩ := open_int Tryz.underlying3 (hval 2 3 v2 rfl rfl) h2
  clear hA0 hval0
  refine (row_walk (Half_any (old W) (KAt_of_laid hL) _ _ bs0 bs1 ⟨hv0.1, _, _, rfl, hv0.2⟩ ⟨hv1.1, _, _, rfl, hv1.2⟩ hbs0 hbs1 a2)).mono fun e W' ⟨he, bel⟩ => ?_
  subst he
  exact ⟨_, rfl, _, _, _, [], _, [], hW', trodAll_mk1 (shut_bool Tryz.underlying4 _), (trodAll_cons_mk (Below.trod laidOut (by kernel_rfl) (of_decide_eq_true (by kernel_rfl)) k0 bel lt0) (trodAll_cons_mk (Below.trod laidOut (by kernel_rfl) (of_decide_eq_true (by kernel_rfl)) k1 bel lt1) (trodAll_cons_mk (shut_int Tryz.underlying3 w2) trodAll_mk0))), rfl, bel.frame _, fun h => by cases h⟩

theorem proved : Rows.BlobsHalfSaid :=
  OpenClaim.holds_of_wide 5 Tryz.f5 rfl rfl rfl rfl rfl rfl rfl ⟨rfl, rfl, rfl, rfl, rfl⟩ rfl rfl rfl rfl rfl (by kernel_rfl) Tryz.func5 (by kernel_rfl)
    (of_decide_eq_true (by kernel_rfl)) (by unfold Func.isWrapper; first | (rw [if_pos (by decide +kernel)]; kernel_rfl) | (rw [if_neg (by decide +kernel)]; exact ⟨rfl, rfl⟩))
    (fun os started H enc _ => lifted os started H enc)
#print axioms proved
end Go.Proofs.YtpecmnaikjbanaaGreatDoor.blobsHalf

