/- Texts of one claim, joined: Bn, Bo, Vr, EngS, EngW, Vh0, Vh, Ju0, Hk, Hl, Vs0, Br. -/
import Derived.Test.YtpecmnaikjbanaaGreatDoorQBL3
import Derived.Test.YtpecmnaikjbanaaGreatDoorQBL4
import Derived.Test.YtpecmnaikjbanaaGreatDoorQBL5
import Derived.Test.YtpecmnaikjbanaaGreatDoorQBL6
import Derived.Test.YtpecmnaikjbanaaGreatDoorQBL7
import Derived.Test.YtpecmnaikjbanaaGreatDoorQBL9
import Derived.Test.YtpecmnaikjbanaaGreatDoorQBL10
import Derived.Test.YtpecmnaikjbanaaGreatDoorQBL12
import Derived.OpenShut
import Derived.Deep.Slices
import Derived.DataElems
/- blobs, part n: Commit. -/
set_option linter.unusedVariables false
set_option linter.unusedSimpArgs false
namespace Go.Proofs.YtpecmnaikjbanaaGreatDoor
open Go Go.SL
def GW (A : Ab) (i : Nat) (x : Ab) : Prop := x.states.length ≤ A.states.length + 100 * i ∧ x.writes.length ≤ A.writes.length + 100 * i
theorem GW.zero (A : Ab) : GW A 0 A := ⟨Nat.le_refl _, Nat.le_refl _⟩
theorem GW.next {A x y : Ab} {i : Nat} (h : GW A i x) (g : Grow1 x y) : GW A (i + 1) y := ⟨by have := h.1; have := g.1; omega, by have := h.2; have := g.2; omega⟩
theorem All2.append {α β : Type} {q : α → β → Prop} {l l' : List α} {r r' : List β} (h : All2 q l r) (h' : All2 q l' r') : All2 q (l ++ l') (r ++ r') := by
 refine ⟨by rw [List.length_append, List.length_append, h.1, h'.1], fun i x y hx hy => ?_⟩
 rcases Nat.lt_or_ge i l.length with hi | hi
 ·rw [List.getElem?_append_left hi] at hx
  rw [List.getElem?_append_left (by rw [← h.1]; exact hi)] at hy
  exact h.2 i x y hx hy
 ·rw [List.getElem?_append_right hi] at hx
  rw [List.getElem?_append_right (by rw [← h.1]; exact hi), ← h.1] at hy
  exact h'.2 _ x y hx hy
def StpOk (Y : Ab → HP) (A : Ab) (fv : Value) (sp : Stp) : Prop := ∃ g fi cap, fv = .func (.func g) fi cap ∧ ∀ j, j ≤ 1000 → ∀ y, GW A j y → Ctr Tryz.prog g (fi.toList ++ cap.toList) [Y y] (fun r H => ∃ (e : Nat) (x' : Ab), r = .int .i64 (e : Int) ∧ H = [Y x'] ∧ sp y e x' ∧ (e = 0 → GW A (j + 1) x'))
theorem stpOk_of {Y : Ab → HP} {A : Ab} {g : FuncId} {fi cap : Array Value} {sp : Stp} (hst : A.states.length ≤ 900000000) (hwl : A.writes.length ≤ 900000000) (h : ∀ y : Ab, y.states.length ≤ 1000000000 → y.writes.length ≤ 1000000000 → Ctr Tryz.prog g (fi.toList ++ cap.toList) [Y y] (fun r H => ∃ (e : Nat) (x' : Ab), r = .int .i64 (e : Int) ∧ H = [Y x'] ∧ sp y e x')) (hg : ∀ A e B, sp A e B → Grow1 A B) : StpOk Y A (.func (.func g) fi cap) sp :=
  ⟨g, fi, cap, rfl, fun j hj y hy => (h y (by have := hy.1; omega) (by have := hy.2; omega)).post (by
    rintro r H ⟨e, B, rfl, rfl, h1⟩
    exact ⟨e, B, rfl, rfl, h1, fun _ => hy.next (hg _ _ _ h1)⟩)⟩
attribute [local irreducible] J K Ctr Ends pts slc mapR mapI sbRow stock arrS loopP CtrY Sha.chunks Sha.chunk Sha.rounds Sha.sched sumL taggedL GI leafL diskA
theorem changeA_any (bs bd : Nat) (q : Int) (mb : Nat) (brk : Bool) (Y : HP) (V : HP) (v : Value) (fvs : List Value) (hv : Vw V v fvs.length fvs) (hn : fvs.length ≤ 1000) (ss : List Stp) (A : Ab) (h : All2 (StpOk (stX bs bd q mb brk Y) A) fvs ss) :
  Ctr Tryz.prog 55 [ptr bs, v] [V, stX bs bd q mb brk Y A]
   (fun r H => ∃ (e : Nat) (B : Ab), r = .int .i64 (e : Int) ∧ H = [V, stX bs bd q mb (brk || decide (e ≠ 0)) Y B] ∧ Runs ss A e B) :=
 (changeS_any bs bd q mb brk Y V v fvs hv (by omega) ss h.1.symm (fun i x => i ≤ 1000 → GW A i x) (fun i fv s hi hs => by
  obtain ⟨g, fi, cap, rfl, hc⟩ := h.2 i fv s hi hs
  have hil := (List.getElem?_eq_some_iff.1 hi).1
  refine ⟨g, fi, cap, rfl, fun x hx => (hc i (by omega) x (hx (by omega))).post ?_⟩
  rintro r H ⟨e, B, rfl, rfl, h1, h2⟩
  exact ⟨e, B, rfl, rfl, h1, fun he _ => h2 he⟩) A (fun _ => GW.zero A)).post (by
  rintro r H ⟨e, B, rfl, rfl, h1, _⟩
  exact ⟨e, B, rfl, rfl, h1⟩)
theorem ctr_stXr {f : FuncId} {args : List Value} {bs bd : Nat} {q : Int} {mb : Nat} {brk : Bool} (Zs : List HP) {Xs : List HP} {A : Ab} {p : Nat → Ab → Prop}
  (h : Ctr Tryz.prog f args (pts bs (cl (stC bd q mb brk) 92) :: diskA bd A :: Xs) (fun r H => ∃ (e : Nat) (B : Ab), r = .int .i64 (e : Int) ∧ H = pts bs (cl (stC bd q mb brk) 92) :: diskA bd B :: Xs ∧ p e B)) :
  Ctr Tryz.prog f args [stX bs bd q mb brk (Sep (Xs ++ Zs)) A] (fun r H => ∃ (e : Nat) (B : Ab), r = .int .i64 (e : Int) ∧ H = [stX bs bd q mb brk (Sep (Xs ++ Zs)) B] ∧ p e B) :=
 ctr_stX ((ctr_frame Zs h).post (by
  rintro v H ⟨_, ⟨e, B, rfl, rfl, hp⟩, rfl⟩
  exact ⟨e, B, rfl, rfl, hp⟩))
theorem ctr_stXl {f : FuncId} {args : List Value} {bs bd : Nat} {q : Int} {mb : Nat} {brk : Bool} (Zs : List HP) {Xs : List HP} {A : Ab} {p : Nat → Ab → Prop}
  (h : Ctr Tryz.prog f args (pts bs (cl (stC bd q mb brk) 92) :: diskA bd A :: Xs) (fun r H => ∃ (e : Nat) (B : Ab), r = .int .i64 (e : Int) ∧ H = pts bs (cl (stC bd q mb brk) 92) :: diskA bd B :: Xs ∧ p e B)) :
  Ctr Tryz.prog f args [stX bs bd q mb brk (Sep (Zs ++ Xs)) A] (fun r H => ∃ (e : Nat) (B : Ab), r = .int .i64 (e : Int) ∧ H = [stX bs bd q mb brk (Sep (Zs ++ Xs)) B] ∧ p e B) := by
 have hE : ∀ B, Ent (pts bs (cl (stC bd q mb brk) 92) :: diskA bd B :: (Zs ++ Xs)) (pts bs (cl (stC bd q mb brk) 92) :: diskA bd B :: (Xs ++ Zs)) := fun B => Ent.perm ((List.perm_append_comm.cons _).cons _)
 have hE' : ∀ B, Ent (pts bs (cl (stC bd q mb brk) 92) :: diskA bd B :: (Xs ++ Zs)) (pts bs (cl (stC bd q mb brk) 92) :: diskA bd B :: (Zs ++ Xs)) := fun B => Ent.perm ((List.perm_append_comm.cons _).cons _)
 refine ctr_stX ((ctr_frame Zs h).conv (hE A) ?_)
 rintro v H ⟨_, ⟨e, B, rfl, rfl, hp⟩, rfl⟩
 exact ⟨_, ⟨e, B, rfl, rfl, hp⟩, hE' B⟩
theorem commit1_any (b2 bs bd : Nat) (q : Int) (mb : Nat) (brk : Bool) (A : Ab) (y : Bl) :
  Ctr Tryz.prog 72 [blV y, ptr b2] [Sep [pts b2 (cl [ptr bs] 35), pts bs (cl (stC bd q mb brk) 92), diskA bd A] ]
  (fun r H => r = .bool (!hasF A (fB y)) ∧ H = [Sep [pts b2 (cl [ptr bs] 35), pts bs (cl (stC bd q mb brk) 92), diskA bd A] ]) := by
 have hw := Has_any bs bd q mb brk A y.d
 unfold dV at hw
 unfold blV
 refine Ctr.enter Tryz.func72 (by kernel_rfl) rfl Tryz.ntmps72 rfl rfl ?_
 intro G F R hE
 refine K_regionA rfl ?_
 refine J_box rfl rfl (fun _ _ _ => trivial) ?_
 intro b0
 refine J_ent (Ent.trans (Ent.pick [1] rfl) (Ent.unsep [_, _, _] _)) ?_
 refine go ?_
 refine J_loadAgg (U := tab) 3 rfl rfl rfl rfl rfl rfl ?_
 ((try refine go ?_); first | refine J_callE rfl rfl rfl rfl (hw) entA ?_ (fun _ _ _ _ _ => trivial) | refine J_call0E rfl rfl rfl (hw) entA ?_ (fun _ _ _ _ _ => trivial))
 rintro _ _ ⟨rfl, rfl⟩
 refine go ?_
 refine K_ent (Ent.trans (Ent.pick [2, 0, 1] rfl) (Ent.resep [_, _, _] _)) ?_
 (first | refine K_return hE Tryz.func72 rfl _ rfl ⟨rfl, rfl⟩ entA | refine K_fallEnd hE Tryz.func72 rfl _ rfl ⟨rfl, rfl⟩ entA)
theorem commit2_any (bs bd b2 b7 : Nat) (q : Int) (mb : Nat) (brk : Bool) (n : ByteArray) (A : Ab) (hst : A.states.length ≤ 1000000000) :
  Ctr Tryz.prog 75 [ptr b2, ptr b7] (pts bs (cl (stC bd q mb brk) 92) :: diskA bd A :: [pts b2 (cl [ptr bs] 35), pts b7 (cl [.string n] 9)])
   (fun r H => ∃ (e : Nat) (B : Ab), r = .int .i64 (e : Int) ∧ H = pts bs (cl (stC bd q mb brk) 92) :: diskA bd B :: [pts b2 (cl [ptr bs] 35), pts b7 (cl [.string n] 9)] ∧ stRemove n A e B) := by
 refine Ctr.enter Tryz.func75 (by kernel_rfl) rfl Tryz.ntmps75 rfl rfl ?_
 intro G F R hE
 refine go ?_
 refine K_drawA (fun w => Sat G w ([pts bs (cl (stC bd q mb brk) 92), pts b2 (cl [ptr bs] 35), pts b7 (cl [.string n] 9)])) (.st 0 (.st 1 (.st 2 (.st 3 (.st 4 (.act 5 (.st 6 .nil))))))) rfl (by kernel_rfl) (by kernel_rfl) (by kernel_rfl) (fun w hw => hw.ent entA) ?_
 refine go ?_
 (first | refine J_callE rfl rfl rfl rfl (Remove_dA bd A n hst) entA ?_ (fun _ _ w hp hw => by obtain ⟨rfl, rfl⟩ := hp; exact hw.ent entA) | refine J_call0E rfl rfl rfl (Remove_dA bd A n hst) entA ?_ (fun _ _ w hp hw => by obtain ⟨rfl, rfl⟩ := hp; exact hw.ent entA))
 rintro _ _ ⟨rfl, rfl⟩
 refine go ?_
 (first | refine K_return hE Tryz.func75 rfl _ rfl ⟨_, _, rfl, rfl, rfl⟩ entA | refine K_fallEnd hE Tryz.func75 rfl _ rfl ⟨_, _, rfl, rfl, rfl⟩ entA)
theorem commit3_any (bs bd b2 b7 : Nat) (q : Int) (mb : Nat) (brk : Bool) (n : ByteArray) (A : Ab) (hst : A.states.length ≤ 1000000000) :
  Ctr Tryz.prog 76 [ptr b2, ptr b7] (pts bs (cl (stC bd q mb brk) 92) :: diskA bd A :: [pts b2 (cl [ptr bs] 35), pts b7 (cl [.string n] 9)])
   (fun r H => ∃ (e : Nat) (B : Ab), r = .int .i64 (e : Int) ∧ H = pts bs (cl (stC bd q mb brk) 92) :: diskA bd B :: [pts b2 (cl [ptr bs] 35), pts b7 (cl [.string n] 9)] ∧ stCreate n A e B) := by
 refine Ctr.enter Tryz.func76 (by kernel_rfl) rfl Tryz.ntmps76 rfl rfl ?_
 intro G F R hE
 refine go ?_
 refine K_drawA (fun w => Sat G w ([pts bs (cl (stC bd q mb brk) 92), pts b2 (cl [ptr bs] 35), pts b7 (cl [.string n] 9)])) (.st 0 (.st 1 (.st 2 (.st 3 (.st 4 (.act 5 (.st 6 .nil))))))) rfl (by kernel_rfl) (by kernel_rfl) (by kernel_rfl) (fun w hw => hw.ent entA) ?_
 refine go ?_
 (first | refine J_callE rfl rfl rfl rfl (Create_dA bd A n hst) entA ?_ (fun _ _ w hp hw => by obtain ⟨f, hf, rfl, rfl⟩ := hp; exact hw.ent entA) | refine J_call0E rfl rfl rfl (Create_dA bd A n hst) entA ?_ (fun _ _ w hp hw => by obtain ⟨f, hf, rfl, rfl⟩ := hp; exact hw.ent entA))
 rintro _ _ ⟨f, hf, rfl, rfl⟩
 refine go ?_
 (first | refine K_return hE Tryz.func76 rfl _ rfl ⟨_, _, rfl, rfl, ⟨f, hf, rfl⟩⟩ entA | refine K_fallEnd hE Tryz.func76 rfl _ rfl ⟨_, _, rfl, rfl, ⟨f, hf, rfl⟩⟩ entA)
theorem commit4_any (bs bd b2 b7 b9 : Nat) (q : Int) (mb : Nat) (brk : Bool) (n : ByteArray) (X : HP) (bv : Value) (b : List UInt8) (hv : Vw X bv b.length (bV b)) (A : Ab) (hwl : A.writes.length ≤ 1000000000) (hbl : b.length ≤ 1000000000) :
  Ctr Tryz.prog 77 [ptr b2, ptr b7, ptr b9] (pts bs (cl (stC bd q mb brk) 92) :: diskA bd A :: [pts b2 (cl [ptr bs] 35), pts b7 (cl [.string n] 9), pts b9 (cl [bv] 22), X])
   (fun r H => ∃ (e : Nat) (B : Ab), r = .int .i64 (e : Int) ∧ H = pts bs (cl (stC bd q mb brk) 92) :: diskA bd B :: [pts b2 (cl [ptr bs] 35), pts b7 (cl [.string n] 9), pts b9 (cl [bv] 22), X] ∧ stWrite n 0 b A e B) := by
 obtain ⟨a, c, rfl⟩ := hv.shape
 have hw := Write_dA bd A n 0 X _ b hv hwl hbl ⟨by omega, by omega⟩
 refine Ctr.enter Tryz.func77 (by kernel_rfl) rfl Tryz.ntmps77 rfl rfl ?_
 intro G F R hE
 refine go ?_
 refine K_drawA (fun w => Sat G w ([pts bs (cl (stC bd q mb brk) 92), pts b2 (cl [ptr bs] 35), pts b7 (cl [.string n] 9), pts b9 (cl [.slice a b.length c] 22)])) (.st 0 (.st 1 (.st 2 (.st 3 (.st 4 (.st 5 (.act 6 (.st 7 .nil)))))))) rfl (by kernel_rfl) (by kernel_rfl) (by kernel_rfl) (fun w hw => hw.ent entA) ?_
 refine go ?_
 refine J_loadH (U := tab) 3 rfl rfl rfl rfl rfl rfl ?_
 refine go ?_
 (first | refine J_callE rfl rfl rfl rfl (hw) entA ?_ (fun _ _ w hp hw => by obtain ⟨rfl, rfl⟩ := hp; exact hw.ent entA) | refine J_call0E rfl rfl rfl (hw) entA ?_ (fun _ _ w hp hw => by obtain ⟨rfl, rfl⟩ := hp; exact hw.ent entA))
 rintro _ _ ⟨rfl, rfl⟩
 refine go ?_
 (first | refine K_return hE Tryz.func77 rfl _ rfl ⟨_, _, rfl, rfl, rfl⟩ entA | refine K_fallEnd hE Tryz.func77 rfl _ rfl ⟨_, _, rfl, rfl, rfl⟩ entA)
def cmX (bs b2 b9 b11 c3 c4 c5 : Nat) (n o : ByteArray) (bv : Value) (b : List UInt8) : List HP := [pts b2 (cl [ptr bs] 35), pts b11 (cl [.string n] 9), pts b9 (cl [bv] 22), slc 5 1 bv b.length (bV b)] ++ mvX bs c3 c4 c5 n o
def cmF (has : Bool) (b2 b11 : Nat) : List Value := if has then [.func (.func 75) #[] #[ptr b2, ptr b11] ] else []
def cmG (b2 b9 b11 : Nat) : List Value := [.func (.func 76) #[] #[ptr b2, ptr b11], .func (.func 77) #[] #[ptr b2, ptr b11, ptr b9] ]
def cmS (has : Bool) (n : ByteArray) : List Stp := if has then [stRemove n] else []
theorem cm_steps (has : Bool) (bs bd : Nat) (q : Int) (mb : Nat) (brk : Bool) (b2 b9 b11 c3 c4 c5 : Nat) (n o : ByteArray) (bv : Value) (b : List UInt8) (hv : Vw (slc 5 1 bv b.length (bV b)) bv b.length (bV b)) (hbl : b.length ≤ 1000000000) (A : Ab) (hst : A.states.length ≤ 900000000) (hwl : A.writes.length ≤ 900000000) :
  All2 (StpOk (stX bs bd q mb brk (Sep (cmX bs b2 b9 b11 c3 c4 c5 n o bv b))) A) (cmF has b2 b11 ++ cmG b2 b9 b11 ++ mvF bd c3 c4 c5) (cmS has n ++ [stCreate n, stWrite n 0 b] ++ moveS n o) := by
 refine All2.append (All2.append ?_ ?_) ?_
 ·cases has with
  | false => exact All2.nil
  | true =>
   refine All2.one (stpOk_of hst hwl (fun y h1 h2 => ?_) (fun _ _ _ h => grow_stRemove h))
   exact ctr_stXr (Xs := [pts b2 (cl [ptr bs] 35), pts b11 (cl [.string n] 9)]) ([pts b9 (cl [bv] 22), slc 5 1 bv b.length (bV b)] ++ mvX bs c3 c4 c5 n o) (p := stRemove n y) (commit2_any bs bd b2 b11 q mb brk n y h1)
 ·refine All2.cons (All2.one ?_) ?_
  ·refine stpOk_of hst hwl (fun y h1 h2 => ?_) (fun _ _ _ h => grow_stWrite h)
   exact ctr_stXr (Xs := [pts b2 (cl [ptr bs] 35), pts b11 (cl [.string n] 9), pts b9 (cl [bv] 22), slc 5 1 bv b.length (bV b)]) (mvX bs c3 c4 c5 n o) (p := stWrite n 0 b y) (commit4_any bs bd b2 b11 b9 q mb brk n _ bv b hv y h2 hbl)
  ·refine stpOk_of hst hwl (fun y h1 h2 => ?_) (fun _ _ _ h => grow_stCreate h)
   exact ctr_stXr (Xs := [pts b2 (cl [ptr bs] 35), pts b11 (cl [.string n] 9)]) ([pts b9 (cl [bv] 22), slc 5 1 bv b.length (bV b)] ++ mvX bs c3 c4 c5 n o) (p := stCreate n y) (commit3_any bs bd b2 b11 q mb brk n y h1)
 ·refine All2.cons (All2.cons (All2.one ?_) ?_) ?_
  ·refine stpOk_of hst hwl (fun y h1 h2 => ?_) (fun _ _ _ h => grow_stSyncNames h)
   exact names_X bs bd q mb brk (cmX bs b2 b9 b11 c3 c4 c5 n o bv b) y
  ·refine stpOk_of hst hwl (fun y h1 h2 => ?_) (fun _ _ _ h => grow_stRename h)
   exact ctr_stXl [pts b2 (cl [ptr bs] 35), pts b11 (cl [.string n] 9), pts b9 (cl [bv] 22), slc 5 1 bv b.length (bV b)] (Xs := mvX bs c3 c4 c5 n o) (p := stRename n o y) (move2_any bs bd c3 c4 c5 q mb brk n o y h1)
  ·refine stpOk_of hst hwl (fun y h1 h2 => ?_) (fun _ _ _ h => grow_stSync h)
   have h0 := ctr_frame [pts c5 (cl [.string o] 9)] (move1_any bs bd c3 c4 q mb brk n y h2)
   refine ctr_stXl [pts b2 (cl [ptr bs] 35), pts b11 (cl [.string n] 9), pts b9 (cl [bv] 22), slc 5 1 bv b.length (bV b)] (Xs := mvX bs c3 c4 c5 n o) (p := stSync n y) (h0.post ?_)
   rintro r H ⟨_, ⟨e, B, rfl, rfl, h3⟩, rfl⟩
   exact ⟨e, B, rfl, rfl, h3⟩
end Go.Proofs.YtpecmnaikjbanaaGreatDoor
/- blobs, part o: Commit's walk. -/
namespace Go.Proofs.YtpecmnaikjbanaaGreatDoor
open Go Go.SL
attribute [local irreducible] J K Ctr Ends pts slc mapR mapI sbRow stock arrS loopP CtrY Sha.chunks Sha.chunk Sha.rounds Sha.sched sumL taggedL GI leafL diskA
theorem cmF_one (has : Bool) (b2 b11 : Nat) : ∀ v ∈ cmF has b2 b11, v.oneCell' = true := by
 cases has <;> simp [cmF, Value.oneCell']
theorem mvF_one (bd b3 b4 b5 : Nat) : ∀ v ∈ mvF bd b3 b4 b5, v.oneCell' = true := by simp [mvF, Value.oneCell']
theorem cmG_one (b2 b9 b11 : Nat) : ∀ v ∈ cmG b2 b9 b11, v.oneCell' = true := by simp [cmG, Value.oneCell']
theorem cmF_len (has : Bool) (b2 b11 : Nat) : (cmF has b2 b11).length ≤ 1 := by cases has <;> simp [cmF]
set_option maxRecDepth 20000 in
set_option maxHeartbeats 1000000 in
theorem Commit_bl (X : HP) (hK : KAt X) (lv : Value) (l : List Bl) (hv : Vw X lv l.length (l.flatMap blC)) (hll : l.length ≤ 1000000) (bs bd : Nat) (q : Int) (mb : Nat) (s : Sto) (hst : s.A.states.length ≤ 900000000) (hwl : s.A.writes.length ≤ 900000000) :
  Ctr Tryz.prog 24 [ptr bs, imV lv] (stoL bs bd q mb s ++ [X])
  (fun r H => ∃ (e : Nat) (t : Sto), r = .int .i64 (e : Int) ∧ H = stoL bs bd q mb t ++ [X] ∧ CommitS l s e t) := by
 obtain ⟨A, beg, brk⟩ := s
 simp only at hst hwl
 have him := Image_any X lv l hv hll
 have hnm := Name_any X hK lv l hv hll
 have henc := mEncode_any X lv l hv hll
 obtain ⟨la, lc, rfl⟩ := hv.shape
 unfold imV at him hnm henc ⊢
 refine Ctr.enter Tryz.func24 (by kernel_rfl) rfl Tryz.ntmps24 rfl rfl ?_
 intro G F R hE
 refine K_ent (H' := pts bs (cl (stC bd q mb brk) 92) :: mapR dV mb (begE beg) :: diskA bd A :: X :: F) (Ent.refl _) ?_
 refine K_regionA rfl ?_
 refine J_box rfl rfl (fun _ _ _ => trivial) ?_
 intro b2
 refine J_box rfl rfl (fun _ _ _ => trivial) ?_
 intro b3
 cases brk with
 | true =>
  refine go ?_
  refine K_ent (H' := stoL bs bd q mb ⟨A, beg, true⟩ ++ (X :: F)) entA ?_
  (first | refine K_return hE Tryz.func24 rfl _ rfl ⟨10, ⟨A, beg, true⟩, rfl, rfl, by unfold CommitS; rw [if_pos rfl]; exact ⟨rfl, rfl⟩⟩ entA | refine K_fallEnd hE Tryz.func24 rfl _ rfl ⟨10, ⟨A, beg, true⟩, rfl, rfl, by unfold CommitS; rw [if_pos rfl]; exact ⟨rfl, rfl⟩⟩ entA)
 | false =>
  have hC0 : ∀ e t, (if imageB l ≠ 0 then e = imageB l ∧ t = ⟨A, beg, false⟩
   else if hasF A (fileN kI (nameB l)) then e = 0 ∧ t = ⟨A, beg, false⟩
   else if l.any (fun y => !hasF A (fB y)) then e = 4 ∧ t = ⟨A, beg, false⟩
   else chgS (cmS (hasF A (fileN kN (nameB l))) (fileN kN (nameB l)) ++ [stCreate (fileN kN (nameB l)), stWrite (fileN kN (nameB l)) 0 (encB l)] ++ moveS (fileN kN (nameB l)) (fileN kI (nameB l))) ⟨A, beg, false⟩ e t) → CommitS l ⟨A, beg, false⟩ e t := fun e t h => by
   unfold CommitS; rw [if_neg (by simp)]; exact h
  refine go ?_
  refine J_loadArr (U := tab) (l := [.slice la l.length lc]) 0 rfl rfl rfl rfl rfl rfl ?_
  ((try refine go ?_); first | refine J_callE rfl rfl rfl rfl (him) entA ?_ (fun _ _ _ _ _ => trivial) | refine J_call0E rfl rfl rfl (him) entA ?_ (fun _ _ _ _ _ => trivial))
  rintro _ _ ⟨rfl, rfl⟩
  refine go ?_
  refine K_condP rfl rfl ?_ ?_
  ·intro hne
   have hne' : imageB l ≠ 0 := by omega
   refine go ?_
   refine K_ent (H' := stoL bs bd q mb ⟨A, beg, false⟩ ++ (X :: F)) entA ?_
   (first | refine K_return hE Tryz.func24 rfl _ rfl ⟨imageB l, ⟨A, beg, false⟩, rfl, rfl, hC0 _ _ (by rw [if_pos hne']; exact ⟨rfl, rfl⟩)⟩ entA | refine K_fallEnd hE Tryz.func24 rfl _ rfl ⟨imageB l, ⟨A, beg, false⟩, rfl, rfl, hC0 _ _ (by rw [if_pos hne']; exact ⟨rfl, rfl⟩)⟩ entA)
  intro heq
  have hi : imageB l = 0 := by omega
  have hi' : ¬ imageB l ≠ 0 := by omega
  rw [if_pos hi] at hnm
  refine K_ent (H' := pts b3 (cl [.slice la l.length lc] 55) :: pts b2 (cl [ptr bs] 35) :: pts bs (cl (stC bd q mb false) 92) :: mapR dV mb (begE beg) :: diskA bd A :: X :: F) entA ?_
  refine go ?_
  refine J_loadArr (U := tab) (l := [.slice la l.length lc]) 0 rfl rfl rfl rfl rfl rfl ?_
  ((try refine go ?_); first | refine J_callE rfl rfl rfl rfl (hnm) entA ?_ (fun _ _ _ _ _ => trivial) | refine J_call0E rfl rfl rfl (hnm) entA ?_ (fun _ _ _ _ _ => trivial))
  rintro _ _ ⟨rfl, rfl⟩
  unfold dV
  refine go ?_
  refine J_alloc (U := tab) rfl rfl rfl (fun _ _ _ => trivial) ?_
  intro b6
  refine go ?_
  have hfI := file_any kI (nameB l) (by decide)
  have hfN := file_any kN (nameB l) (by decide)
  unfold dV at hfI hfN
  refine K_ent (H' := pts b6 (cl (dC (nameB l)) 30) :: pts b3 (cl [.slice la l.length lc] 55) :: pts b2 (cl [ptr bs] 35) :: pts bs (cl (stC bd q mb false) 92) :: mapR dV mb (begE beg) :: diskA bd A :: X :: F) entA ?_
  refine K_drawA (fun w => Sat G w ([pts b6 (cl (dC (nameB l)) 30), pts b2 (cl [ptr bs] 35)])) (.st 0 (.st 1 (.act 2 (.act 3 (.st 4 .nil))))) rfl (by kernel_rfl) (by kernel_rfl) (by kernel_rfl) (fun w hw => hw.ent entA) ?_
  refine go ?_
  refine J_loadArrS (U := tab) (l := dC (nameB l)) 0 rfl rfl rfl rfl rfl rfl ?_
  refine go ?_
  (first | refine J_callE rfl rfl rfl rfl (hfI) entA ?_ (fun _ _ w hp hw => by obtain ⟨rfl, rfl⟩ := hp; exact hw.ent entA) | refine J_call0E rfl rfl rfl (hfI) entA ?_ (fun _ _ w hp hw => by obtain ⟨rfl, rfl⟩ := hp; exact hw.ent entA))
  rintro _ _ ⟨rfl, rfl⟩
  refine go ?_
  (first | refine J_callE rfl rfl rfl rfl (is_any bs bd q mb false A (fileN kI (nameB l))) entA ?_ (fun _ _ w hp hw => by obtain ⟨rfl, rfl⟩ := hp; exact hw.ent entA) | refine J_call0E rfl rfl rfl (is_any bs bd q mb false A (fileN kI (nameB l))) entA ?_ (fun _ _ w hp hw => by obtain ⟨rfl, rfl⟩ := hp; exact hw.ent entA))
  rintro _ _ ⟨rfl, rfl⟩
  refine go ?_
  cases hhi : hasF A (fileN kI (nameB l)) with
  | true =>
   refine go ?_
   refine K_ent (H' := stoL bs bd q mb ⟨A, beg, false⟩ ++ (X :: F)) entA ?_
   (first | refine K_return hE Tryz.func24 rfl _ rfl ⟨0, ⟨A, beg, false⟩, rfl, rfl, hC0 _ _ (by rw [if_neg hi', if_pos hhi]; exact ⟨rfl, rfl⟩)⟩ entA | refine K_fallEnd hE Tryz.func24 rfl _ rfl ⟨0, ⟨A, beg, false⟩, rfl, rfl, hC0 _ _ (by rw [if_neg hi', if_pos hhi]; exact ⟨rfl, rfl⟩)⟩ entA)
  | false =>
   have hhi' : ¬ hasF A (fileN kI (nameB l)) = true := by rw [hhi]; simp
   refine go ?_
   refine J_ent (H' := X :: Sep [pts b2 (cl [ptr bs] 35), pts bs (cl (stC bd q mb false) 92), diskA bd A] :: pts b6 (cl (dC (nameB l)) 30) :: pts b3 (cl [.slice la l.length lc] 55) :: mapR dV mb (begE beg) :: F) (Ent.trans (H2 := pts b2 (cl [ptr bs] 35) :: pts bs (cl (stC bd q mb false) 92) :: diskA bd A :: X :: pts b6 (cl (dC (nameB l)) 30) :: pts b3 (cl [.slice la l.length lc] 55) :: mapR dV mb (begE beg) :: F) entA (Ent.trans (Ent.resep [_, _, _] _) entA)) ?_
   ((try refine go ?_); first | refine J_callE rfl rfl rfl rfl (ContainsFunc_bl X (Sep [pts b2 (cl [ptr bs] 35), pts bs (cl (stC bd q mb false) 92), diskA bd A]) _ l hv hll 72 [ptr b2] (fun y => !hasF A (fB y)) (fun y _ => commit1_any b2 bs bd q mb false A y)) entA ?_ (fun _ _ _ _ _ => trivial) | refine J_call0E rfl rfl rfl (ContainsFunc_bl X (Sep [pts b2 (cl [ptr bs] 35), pts bs (cl (stC bd q mb false) 92), diskA bd A]) _ l hv hll 72 [ptr b2] (fun y => !hasF A (fB y)) (fun y _ => commit1_any b2 bs bd q mb false A y)) entA ?_ (fun _ _ _ _ _ => trivial))
   rintro _ _ ⟨rfl, rfl⟩
   refine J_ent (Ent.trans (Ent.pick [1] rfl) (Ent.unsep [_, _, _] _)) ?_
   cases hany : l.any (fun y => !hasF A (fB y)) with
   | true =>
    refine go ?_
    refine K_ent (H' := stoL bs bd q mb ⟨A, beg, false⟩ ++ (X :: F)) entA ?_
    (first | refine K_return hE Tryz.func24 rfl _ rfl ⟨4, ⟨A, beg, false⟩, rfl, rfl, hC0 _ _ (by rw [if_neg hi', if_neg hhi', if_pos hany]; exact ⟨rfl, rfl⟩)⟩ entA | refine K_fallEnd hE Tryz.func24 rfl _ rfl ⟨4, ⟨A, beg, false⟩, rfl, rfl, hC0 _ _ (by rw [if_neg hi', if_neg hhi', if_pos hany]; exact ⟨rfl, rfl⟩)⟩ entA)
   | false =>
    have hC1 : ∀ e t, chgS (cmS (hasF A (fileN kN (nameB l))) (fileN kN (nameB l)) ++ [stCreate (fileN kN (nameB l)), stWrite (fileN kN (nameB l)) 0 (encB l)] ++ moveS (fileN kN (nameB l)) (fileN kI (nameB l))) ⟨A, beg, false⟩ e t → CommitS l ⟨A, beg, false⟩ e t := fun e t h =>
     hC0 e t (by rw [if_neg hi', if_neg hhi', if_neg (by rw [hany]; simp)]; exact h)
    have hel := encB_len hi
    refine J_ent (H' := pts b3 (cl [.slice la l.length lc] 55) :: pts b6 (cl (dC (nameB l)) 30) :: pts b2 (cl [ptr bs] 35) :: pts bs (cl (stC bd q mb false) 92) :: mapR dV mb (begE beg) :: diskA bd A :: X :: F) entA ?_
    refine go ?_
    refine J_loadArr (U := tab) (l := [.slice la l.length lc]) 0 rfl rfl rfl rfl rfl rfl ?_
    ((try refine go ?_); first | refine J_callE rfl rfl rfl rfl (henc) entA ?_ (fun _ _ _ _ _ => trivial) | refine J_call0E rfl rfl rfl (henc) entA ?_ (fun _ _ _ _ _ => trivial))
    rintro _ _ (⟨hbad, _⟩ | ⟨rv, _, rfl, rfl⟩)
    ·exact absurd hi hbad
    (first | refine J_shape 0 rfl ?_ | refine K_shape 0 rfl ?_)
    rintro ra rc rfl
    refine J_slcVw 0 rfl ?_
    intro hbv
    refine go ?_
    refine J_alloc (U := tab) rfl rfl rfl (fun _ _ _ => trivial) ?_
    intro b9
    refine go ?_
    refine J_ent (H' := pts b6 (cl (dC (nameB l)) 30) :: pts b9 (cl [.slice ra (encB l).length rc] 22) :: slc 5 1 (.slice ra (encB l).length rc) (encB l).length (bV (encB l)) :: pts b2 (cl [ptr bs] 35) :: pts bs (cl (stC bd q mb false) 92) :: mapR dV mb (begE beg) :: diskA bd A :: X :: F) entA ?_
    refine go ?_
    refine J_loadArr (U := tab) (l := dC (nameB l)) 0 rfl rfl rfl rfl rfl rfl ?_
    ((try refine go ?_); first | refine J_callE rfl rfl rfl rfl (hfN) entA ?_ (fun _ _ _ _ _ => trivial) | refine J_call0E rfl rfl rfl (hfN) entA ?_ (fun _ _ _ _ _ => trivial))
    rintro _ _ ⟨rfl, rfl⟩
    refine J_alloc (U := tab) rfl rfl rfl (fun _ _ _ => trivial) ?_
    intro b11
    refine go ?_
    obtain ⟨nN, hnN⟩ : ∃ nN, nN = fileN kN (nameB l) := ⟨_, rfl⟩
    obtain ⟨nI, hnI⟩ : ∃ nI, nI = fileN kI (nameB l) := ⟨_, rfl⟩
    rw [← hnN, ← hnI] at hC1
    rw [← hnI] at hfI
    rw [← hnN]
    ((try refine go ?_); first | refine J_callE rfl rfl rfl rfl (is_any bs bd q mb false A nN) entA ?_ (fun _ _ _ _ _ => trivial) | refine J_call0E rfl rfl rfl (is_any bs bd q mb false A nN) entA ?_ (fun _ _ _ _ _ => trivial))
    rintro _ _ ⟨rfl, rfl⟩
    obtain ⟨has, hhas⟩ : ∃ has, has = hasF A nN := ⟨_, rfl⟩
    rw [← hhas] at hC1 ⊢
    refine J_midD 1 (fun g : Option Addr × Nat => True) (fun g => [(2, ptr b2), (6, ptr b6), (9, ptr b9), (11, ptr b11), (12, .slice g.1 (cmF has b2 b11).length g.2)])
     (fun g => slc 95 1 (.slice g.1 (cmF has b2 b11).length g.2) (cmF has b2 b11).length (cmF has b2 b11) :: pts b11 (cl [.string nN] 9) :: pts b6 (cl (dC (nameB l)) 30) :: pts b9 (cl [.slice ra (encB l).length rc] 22) :: slc 5 1 (.slice ra (encB l).length rc) (encB l).length (bV (encB l)) :: pts b2 (cl [ptr bs] 35) :: pts bs (cl (stC bd q mb false) 92) :: mapR dV mb (begE beg) :: diskA bd A :: X :: F) rfl ?_ ?_
    ·rintro ⟨ga, gc⟩ -
     have hfl := cmF_len has b2 b11
     refine go ?_
     refine J_buildSlice1 (U := tab) (cs := cmG b2 b9 b11) rfl rfl rfl rfl rfl rfl rfl rfl rfl (fun _ _ _ => trivial) ?_
     intro row2
     refine J_append (U := tab) (mm := 2) (news := cmG b2 b9 b11) 1 0 rfl rfl rfl rfl rfl rfl rfl rfl rfl rfl rfl rfl (Vw.pts rfl) rfl (cmG_one _ _ _) (by omega) (by show (_ + 2) * 8 ≤ _; omega) (fun _ => rfl) (fun _ _ _ => trivial) ?_
     intro v1
     rw [show (cmF has b2 b11).length + 2 = (cmF has b2 b11 ++ cmG b2 b9 b11).length from by rw [List.length_append]; rfl]
     (first | refine J_shape 1 rfl ?_ | refine K_shape 1 rfl ?_)
     rintro xa xc rfl
     refine go ?_
     refine K_ent (H' := pts b6 (cl (dC (nameB l)) 30) :: pts b2 (cl [ptr bs] 35) :: pts b11 (cl [.string nN] 9) :: slc 95 1 (.slice xa (cmF has b2 b11 ++ cmG b2 b9 b11).length xc) (cmF has b2 b11 ++ cmG b2 b9 b11).length (cmF has b2 b11 ++ cmG b2 b9 b11) :: pts b9 (cl [.slice ra (encB l).length rc] 22) :: slc 5 1 (.slice ra (encB l).length rc) (encB l).length (bV (encB l)) :: pts bs (cl (stC bd q mb false) 92) :: mapR dV mb (begE beg) :: diskA bd A :: X :: F) entA ?_
     refine K_drawA (fun w => Sat G w ([pts b6 (cl (dC (nameB l)) 30), pts b2 (cl [ptr bs] 35), pts b11 (cl [.string nN] 9)])) (.st 0 (.st 1 (.st 2 (.st 3 (.st 4 (.act 5 (.act 6 (.act 7 (.act 8 (.st 9 .nil)))))))))) rfl (by kernel_rfl) (by kernel_rfl) (by kernel_rfl) (fun w hw => hw.ent entA) ?_
     refine go ?_
     refine J_loadArrS (U := tab) (l := dC (nameB l)) 0 rfl rfl rfl rfl rfl rfl ?_
     refine go ?_
     (first | refine J_callE rfl rfl rfl rfl (hfI) entA ?_ (fun _ _ w hp hw => by obtain ⟨rfl, rfl⟩ := hp; exact hw.ent entA) | refine J_call0E rfl rfl rfl (hfI) entA ?_ (fun _ _ w hp hw => by obtain ⟨rfl, rfl⟩ := hp; exact hw.ent entA))
     rintro _ _ ⟨rfl, rfl⟩
     refine go ?_
     (first | refine J_callE rfl rfl rfl rfl (move_any bs bd q mb false nN nI) entA ?_ (fun _ _ w hp hw => by obtain ⟨row, c3, c4, c5, rfl, rfl⟩ := hp; exact hw.ent entA) | refine J_call0E rfl rfl rfl (move_any bs bd q mb false nN nI) entA ?_ (fun _ _ w hp hw => by obtain ⟨row, c3, c4, c5, rfl, rfl⟩ := hp; exact hw.ent entA))
     rintro _ _ ⟨row, c3, c4, c5, rfl, rfl⟩
     refine go ?_
     have hl2 : (cmF has b2 b11 ++ cmG b2 b9 b11).length ≤ 3 := by rw [List.length_append]; show _ + 2 ≤ 3; omega
     refine J_ent (H' := slc 95 1 (.slice xa (cmF has b2 b11 ++ cmG b2 b9 b11).length xc) (cmF has b2 b11 ++ cmG b2 b9 b11).length (cmF has b2 b11 ++ cmG b2 b9 b11) :: pts row (cl (mvF bd c3 c4 c5) 95) :: pts bs (cl (stC bd q mb false) 92) :: diskA bd A :: (cmX bs b2 b9 b11 c3 c4 c5 nN nI (.slice ra (encB l).length rc) (encB l) ++ (pts b6 (cl (dC (nameB l)) 30) :: mapR dV mb (begE beg) :: X :: F))) entA ?_
     refine J_append (U := tab) (mm := 3) (news := mvF bd c3 c4 c5) 0 1 rfl rfl rfl rfl rfl rfl rfl rfl rfl rfl rfl rfl (Vw.pts rfl) rfl (mvF_one _ _ _ _) (by omega) (by show (_ + 3) * 8 ≤ _; omega) (fun _ => rfl) (fun _ _ hw => hw.ent entA) ?_
     intro v2
     rw [show (cmF has b2 b11 ++ cmG b2 b9 b11).length + 3 = (cmF has b2 b11 ++ cmG b2 b9 b11 ++ mvF bd c3 c4 c5).length from (@List.length_append _ (cmF has b2 b11 ++ cmG b2 b9 b11) (mvF bd c3 c4 c5)).symm]
     (first | refine J_shape 0 rfl ?_ | refine K_shape 0 rfl ?_)
     rintro ya yc rfl
     refine J_slcVw 0 rfl ?_
     intro hvs
     have hch := changeA_any bs bd q mb false (Sep (cmX bs b2 b9 b11 c3 c4 c5 nN nI (.slice ra (encB l).length rc) (encB l))) _ _ _ hvs (by rw [List.length_append]; show _ + 3 ≤ 1000; omega) (cmS has nN ++ [stCreate nN, stWrite nN 0 (encB l)] ++ moveS nN nI) A (cm_steps has bs bd q mb false b2 b9 b11 c3 c4 c5 nN nI _ (encB l) hbv (by omega) A hst hwl)
     refine go ?_
     refine J_ent (H' := slc 95 1 (.slice ya (cmF has b2 b11 ++ cmG b2 b9 b11 ++ mvF bd c3 c4 c5).length yc) (cmF has b2 b11 ++ cmG b2 b9 b11 ++ mvF bd c3 c4 c5).length (cmF has b2 b11 ++ cmG b2 b9 b11 ++ mvF bd c3 c4 c5) :: stX bs bd q mb false (Sep (cmX bs b2 b9 b11 c3 c4 c5 nN nI (.slice ra (encB l).length rc) (encB l))) A :: pts b6 (cl (dC (nameB l)) 30) :: mapR dV mb (begE beg) :: X :: F) (Ent.trans (H2 := pts bs (cl (stC bd q mb false) 92) :: diskA bd A :: (cmX bs b2 b9 b11 c3 c4 c5 nN nI (.slice ra (encB l).length rc) (encB l) ++ (slc 95 1 (.slice ya (cmF has b2 b11 ++ cmG b2 b9 b11 ++ mvF bd c3 c4 c5).length yc) (cmF has b2 b11 ++ cmG b2 b9 b11 ++ mvF bd c3 c4 c5).length (cmF has b2 b11 ++ cmG b2 b9 b11 ++ mvF bd c3 c4 c5) :: pts b6 (cl (dC (nameB l)) 30) :: mapR dV mb (begE beg) :: X :: F))) entA (Ent.trans (stX_in bs bd q mb false _ A _) entA)) ?_
     refine J_callE rfl rfl rfl rfl hch entA ?_ (fun _ _ w hp hw => by
      obtain ⟨e, B, rfl, rfl, hruns⟩ := hp
      exact hw.ent (Ent.trans (Ent.pick [1] rfl) (Ent.trans (stX_out bs bd q mb (or false (decide (e ≠ 0))) _ B _) entA)))
     rintro _ _ ⟨e, B, rfl, rfl, hruns⟩
     refine J_ent (Ent.trans (Ent.pick [1] rfl) (stX_out bs bd q mb (or false (decide (e ≠ 0))) _ B _)) ?_
     refine go ?_
     refine K_ent (H' := stoL bs bd q mb ⟨B, beg, or false (decide (e ≠ 0))⟩ ++ (X :: F)) entA ?_
     (first | refine K_return hE Tryz.func24 rfl _ rfl ⟨e, ⟨B, beg, or false (decide (e ≠ 0))⟩, rfl, rfl, hC1 _ _ ⟨B, hruns, rfl⟩⟩ entA | refine K_fallEnd hE Tryz.func24 rfl _ rfl ⟨e, ⟨B, beg, or false (decide (e ≠ 0))⟩, rfl, rfl, hC1 _ _ ⟨B, hruns, rfl⟩⟩ entA)
    ·intro tail
     cases has with
     | false =>
      refine J_ent (slc_lift 95 1 none _) ?_
      (refine goR ?_)
      refine K_condF rfl rfl ?_
      refine K_to tail (none, 0) rfl trivial (by repeat (first | exact keep_nil | refine keep_cons rfl ?_)) entA
     | true =>
      refine go ?_
      refine J_buildSlice1 (U := tab) (cs := cmF true b2 b11) rfl rfl rfl rfl rfl rfl rfl rfl rfl (fun _ _ _ => trivial) ?_
      intro row1
      refine J_ent (slc_lift 95 1 none _) ?_
      refine J_append (U := tab) (mm := 1) (news := cmF true b2 b11) 0 1 rfl rfl rfl rfl rfl rfl rfl rfl rfl rfl rfl rfl (Vw.pts rfl) rfl (cmF_one _ _ _) (by omega) (by show (0 + 1) * 8 ≤ _; omega) (fun _ => rfl) (fun _ _ _ => trivial) ?_
      intro v1
      (first | refine J_shape 0 rfl ?_ | refine K_shape 0 rfl ?_)
      rintro xa xc rfl
      (refine goR ?_)
      refine K_to tail (xa, xc) rfl trivial (by repeat (first | exact keep_nil | refine keep_cons rfl ?_)) entA
end Go.Proofs.YtpecmnaikjbanaaGreatDoor
/- blobs, plain: a round of steps: how far a store has grown. -/
namespace Go.Proofs.YtpecmnaikjbanaaGreatDoor
open Go Go.SL
theorem CommitS_grow {l : List Bl} {s t : Sto} {e : Nat} (h : CommitS l s e t) : SGrow 10 s t := by
 unfold CommitS at h
 split at h
 ·exact h.2 ▸ SGrow.refl _ _
 split at h
 ·exact h.2 ▸ SGrow.refl _ _
 split at h
 ·exact h.2 ▸ SGrow.refl _ _
 split at h
 ·exact h.2 ▸ SGrow.refl _ _
 ·refine (grow_chgS (fun sp hsp A e B hh => ?_) h).mono ?_
  ·rcases List.mem_append.1 hsp with hsp | hsp
   ·rcases List.mem_append.1 hsp with hsp | hsp
    ·split at hsp
     ·rw [List.mem_singleton.1 hsp] at hh; exact grow_stRemove hh
     ·cases hsp
    ·simp only [List.mem_cons, List.not_mem_nil, or_false] at hsp
     rcases hsp with rfl | rfl
     ·exact grow_stCreate hh
     ·exact grow_stWrite hh
   ·simp only [moveS, List.mem_cons, List.not_mem_nil, or_false] at hsp
    rcases hsp with rfl | rfl | rfl
    ·exact grow_stSync hh
    ·exact grow_stRename hh
    ·exact grow_stSyncNames hh
  ·split <;> simp [moveS]
theorem SweepL_grow {kept : List Dg} : ∀ (l : List Bl) {A B : Ab} {e : Nat}, SweepL kept l A e B → B.states.length ≤ A.states.length + l.length ∧ B.writes.length ≤ A.writes.length + l.length
 | [], A, B, e, h => by
  obtain ⟨_, rfl⟩ := h
  exact ⟨Nat.le_refl _, Nat.le_refl _⟩
 | y :: l, A, B, e, h => by
  unfold SweepL at h
  simp only [List.length_cons]
  split at h
  ·have := SweepL_grow l h
   omega
  ·obtain ⟨e1, A1, h1, hc⟩ := h
   have g := grow_stRemove h1
   have g1 := g.1
   have g2 := g.2
   rcases hc with ⟨_, _, rfl⟩ | ⟨_, h2⟩
   ·omega
   ·have := SweepL_grow l h2
    omega
theorem DropS_grow {d : Dg} {s t : Sto} {e : Nat} (h : DropS d s e t) : SGrow 18 s t := by
 unfold DropS at h
 split at h
 ·exact h.2 ▸ SGrow.refl _ _
 split at h
 ·exact h.2 ▸ SGrow.refl _ _
 ·rename_i x hx
  obtain ⟨h16, _⟩ := imageB_right (imageF_ok hx)
  obtain ⟨B, ⟨e1, A1, h1, c1⟩, rfl⟩ := h
  have g1 := grow_stRemove h1
  have g11 := g1.1
  have g12 := g1.2
  rcases c1 with ⟨_, _, rfl⟩ | ⟨_, e2, A2, ⟨l, hp, h2⟩, c2⟩
  ·exact ⟨by show B.states.length ≤ _; omega, by show B.writes.length ≤ _; omega⟩
  have g2 := SweepL_grow l h2
  have hl := hp.length_eq
  rcases c2 with ⟨_, _, rfl⟩ | ⟨_, e3, A3, h3, c3⟩
  ·exact ⟨by show B.states.length ≤ _; omega, by show B.writes.length ≤ _; omega⟩
  have g3 := grow_stSyncNames h3
  have g31 := g3.1
  have g32 := g3.2
  rcases c3 with ⟨_, _, rfl⟩ | ⟨_, _, rfl⟩
  ·exact ⟨by show B.states.length ≤ _; omega, by show B.writes.length ≤ _; omega⟩
  ·exact ⟨by show B.states.length ≤ _; omega, by show B.writes.length ≤ _; omega⟩
end Go.Proofs.YtpecmnaikjbanaaGreatDoor
/- Engine, part S: rows and arrays of numbers that came in. Nothing here names a program. -/
namespace Go.SL
open Go Go.RowKit Go.ChangeShapes Go.WideShapes
abbrev i64 (x : Int) : Prop := -9223372036854775808 ≤ x ∧ x ≤ 9223372036854775807
end Go.SL
/- Engine, part W: rows of structs that came in, read off the given row's own reading. Nothing here names a program. -/
namespace Go.SL
open Go Go.RowKit Go.ChangeShapes Go.WideShapes
section
variable {P : Program} {H : Type} {enc : TypeId × Value → H} {W : World} {base : Nat} {spare : Nat → Bool} {held : Bool}
theorem open_bytesP {t e : TypeId} (ht : P.underlying t = some (.slice e)) (he : P.underlying e = some (.int .u8)) (hc : P.cellsOf e = 1) {fuel : Nat} {cs : List Value} {x : DataW H × List MemPlace} (h : DataW.trod enc P W base spare held fuel t cs = some x) :
  ∃ (a : Option Addr) (c : Nat) (bs : List UInt8), cs = [.slice a bs.length c] ∧ bs.length ≤ 9223372036854775807 ∧ Vw (old W) (.slice a bs.length c) bs.length (bV bs) := by
 have hmx : maxLen = 9223372036854775807 := by decide
 rcases open_ints ht he hc h with ⟨hcs, _⟩ | ⟨x, l, c, zs, hcs, _, hl, hm, hz, _, hcell, hwz⟩
 ·subst hcs
  exact ⟨none, 0, [], rfl, by simp, nil_view W⟩
 ·subst hcs
  obtain ⟨bs, h1, h2⟩ := bytes_view (len := l) (cap := c) (by split at hz <;> omega) hcell hwz
  subst h1
  exact ⟨some x, c, bs, rfl, by omega, h2⟩
theorem open_rows {α : Type} [Inhabited α] {t e : TypeId} (ht : P.underlying t = some (.slice e)) (g : α → List Value) (s : Nat) (hs0 : 0 < s) (hs : ∀ x, (g x).length = s) (hc : P.cellsOf e = s) (Q : α → Prop)
  (hopen : ∀ (fuel : Nat) (cs : List Value) (x : DataW H × List MemPlace), DataW.trod enc P W base spare held fuel e cs = some x → ∃ y, cs = g y ∧ Q y)
  {fuel : Nat} {cs : List Value} {x : DataW H × List MemPlace} (h : DataW.trod enc P W base spare held fuel t cs = some x) : ∃ (l : List α) (a : Option Addr) (c : Nat), cs = [.slice a l.length c] ∧ Vw (old W) (.slice a l.length c) l.length (l.flatMap g) ∧ (∀ x ∈ l, Q x) ∧ l.length ≤ 9223372036854775807 := by
 have hmx : maxLen = 9223372036854775807 := by decide
 rcases Go.Deep.open_slice ht h with ⟨hcs, _⟩ | ⟨a, len, cap, m, n, D, Pl, hcs, hb, hl, hm, hmm, _, hx⟩
 ·subst hcs
  exact ⟨[], none, 0, rfl, ⟨none, 0, rfl, .inl rfl⟩, by simp, by simp⟩
 ·subst hcs
  have hml : len ≤ m := by rw [hmm]; split <;> omega
  have hx2 : ∀ i, i < len → ∃ y : α, (∀ k, k < s → W.cell? (a.add (i * s + k)) = (g y)[k]?) ∧ Q y := fun i hi => by
   obtain ⟨cs', h1, h2⟩ := hx i (by omega)
   obtain ⟨y, rfl, hy⟩ := hopen _ _ _ h2
   rw [hc] at h1
   obtain ⟨_, _, h3⟩ := World.cells?_some h1
   refine ⟨y, fun k hk => ?_, hy⟩
   rw [← h3 k hk, Addr.add_add]
  obtain ⟨f, hfy⟩ := Go.Deep.choose_lt hx2
  refine ⟨(List.range len).map f, some a, cap, by simp, ⟨some a, cap, by simp, ?_⟩, ?_, by simp; omega⟩
  ·rcases Nat.eq_zero_or_pos len with h0 | h0
   ·left; subst h0; simp
   ·right
    obtain ⟨b, o, spot⟩ := a
    have hsp : spot = none := by
     have := (hfy 0 h0).1 0 hs0
     rw [Nat.zero_mul, Nat.zero_add, List.getElem?_eq_getElem (by rw [hs]; exact hs0)] at this
     simpa [Addr.add] using World.cell?_spot (this.trans rfl)
    subst hsp
    refine ⟨b, o, rfl, fun h ho j c hj => ?_⟩
    have hjl : j < len * s := by
     rcases Nat.lt_or_ge j (len * s) with h | h
     ·exact h
     ·rw [List.getElem?_eq_none (by rw [chunk_len hs]; simpa using h)] at hj; cases hj
    have hd : j / s < len := Nat.div_lt_of_lt_mul (by rw [Nat.mul_comm]; exact hjl)
    have hk : j % s < s := Nat.mod_lt _ hs0
    have hjj : j / s * s + j % s = j := by rw [Nat.mul_comm]; exact Nat.div_add_mod _ _
    have h1 := chunk_get hs (l := (List.range len).map f) (i := j / s) (x := f (j / s)) (by simp [hd]) (j % s) hk
    rw [hjj, hj] at h1
    have h2 := (hfy _ hd).1 _ hk
    rw [hjj, Addr.add_eq] at h2
    exact hcell_of_cell ho (h2.trans h1.symm)
  ·intro x hx
   obtain ⟨i, hi, rfl⟩ := List.mem_map.1 hx
   exact (hfy i (by simpa using hi)).2
inductive Parts (enc : TypeId × Value → H) (P : Program) (W : World) (base : Nat) (spare : Nat → Bool) (held : Bool) (n : Nat) : List TypeId → List Value → Prop where
 | nil : Parts enc P W base spare held n [] []
 | cons {t : TypeId} {ts : List TypeId} {cs rest : List Value} {x : DataW H × List MemPlace} (h : DataW.trod enc P W base spare held n t cs = some x) (hr : Parts enc P W base spare held n ts rest) : Parts enc P W base spare held n (t :: ts) (cs ++ rest)
def offs (P : Program) : Nat → List TypeId → List Nat
 | _, [] => []
 | o, t :: ts => o :: offs P (o + P.cellsOf t) ts
theorem open_struct {t : TypeId} {fs : Array Field} (ht : P.underlying t = some (.struct fs)) (ho : fs.toList.map Field.offset = offs P 0 (fs.toList.map Field.type)) (hn : P.cellsOf t = (fs.toList.map fun f : Field => P.cellsOf f.type).sum)
  {fuel : Nat} {cs : List Value} {x : DataW H × List MemPlace} (h : DataW.trod enc P W base spare held fuel t cs = some x) : ∃ n, Parts enc P W base spare held n (fs.toList.map Field.type) cs := by
 obtain ⟨xs, n, _, _, hlen, hxl, hf⟩ := DataW.trod_struct ht h
 refine ⟨n, ?_⟩
 have key : ∀ (l : List Field) (o k : Nat) (cs : List Value), cs.length = (l.map fun f : Field => P.cellsOf f.type).sum → l.map Field.offset = offs P o (l.map Field.type) →
   (∀ (j : Nat) (f : Field), l[j]? = some f → ∃ y, DataW.trod enc P W base spare held n f.type ((cs.drop (f.offset - o)).take (P.cellsOf f.type)) = some y) → Parts enc P W base spare held n (l.map Field.type) cs := by
  intro l
  induction l with
  | nil => intro o k cs hl _ _; simp at hl; subst hl; exact .nil
  | cons f l ih =>
   intro o k cs hl hoff hall
   simp only [List.map_cons, List.sum_cons] at hl
   simp only [List.map_cons, offs, List.cons.injEq] at hoff
   obtain ⟨h1, h2⟩ := hoff
   obtain ⟨y, hy⟩ := hall 0 f rfl
   rw [h1, Nat.sub_self, List.drop_zero] at hy
   have hsub := ih (o + P.cellsOf f.type) 0 (cs.drop (P.cellsOf f.type)) (by rw [List.length_drop]; omega) h2 (fun j f' hj => by
    obtain ⟨y', hy'⟩ := hall (j + 1) f' (by simpa using hj)
    have hge : o + P.cellsOf f.type ≤ f'.offset := by
     have hmem : f'.offset ∈ offs P (o + P.cellsOf f.type) (l.map Field.type) := by rw [← h2]; exact List.mem_map.2 ⟨f', List.mem_of_getElem? hj, rfl⟩
     have hmono : ∀ (ts : List TypeId) (p q : Nat), q ∈ offs P p ts → p ≤ q := by
      intro ts
      induction ts with
      | nil => intro p q hq; cases hq
      | cons t ts ih => intro p q hq; rcases List.mem_cons.1 hq with rfl | hq; exact Nat.le_refl _; have := ih _ _ hq; omega
     exact hmono _ _ _ hmem
    refine ⟨y', ?_⟩
    rw [List.drop_drop, show P.cellsOf f.type + (f'.offset - (o + P.cellsOf f.type)) = f'.offset - o from by omega]
    exact hy')
   have := Parts.cons hy hsub
   rw [List.take_append_drop] at this
   exact this
 refine key fs.toList 0 0 cs (by rw [hlen, hn]) ho fun j f hj => ?_
 have hj' : fs[j]? = some f := by simpa using hj
 have hjl : j < xs.length := by
  rw [hxl]
  rcases Nat.lt_or_ge j fs.size with h | h
  ·exact h
  ·rw [Array.getElem?_eq_none h] at hj'; cases hj'
 refine ⟨xs[j], ?_⟩
 rw [Nat.sub_zero]
 have := hf j f hj'
 rw [this]
 simp [hjl]
theorem Parts.inv {n : Nat} {t : TypeId} {ts : List TypeId} {cs : List Value} (h : Parts enc P W base spare held n (t :: ts) cs) : ∃ c0 rest x, cs = c0 ++ rest ∧ DataW.trod enc P W base spare held n t c0 = some x ∧ Parts enc P W base spare held n ts rest := by
 cases h with
 | cons h hr => exact ⟨_, _, _, rfl, h, hr⟩
theorem Parts.inv0 {n : Nat} {cs : List Value} (h : Parts enc P W base spare held n [] cs) : cs = [] := by cases h; rfl
theorem Parts.int {n : Nat} {t : TypeId} {ts : List TypeId} {cs : List Value} {k : IntKind} (h : Parts enc P W base spare held n (t :: ts) cs) (ht : P.underlying t = some (.int k)) : ∃ (z : Int) (rest : List Value), cs = .int k z :: rest ∧ (Lit.int k z).wf = true ∧ Parts enc P W base spare held n ts rest := by
 obtain ⟨c0, rest, x, rfl, h0, hr⟩ := h.inv
 obtain ⟨z, rfl, _, hw⟩ := DataW.trod_int ht h0
 exact ⟨z, rest, rfl, hw, hr⟩
theorem Parts.bytes {n : Nat} {t e : TypeId} {ts : List TypeId} {cs : List Value} (h : Parts enc P W base spare held n (t :: ts) cs) (ht : P.underlying t = some (.slice e)) (he : P.underlying e = some (.int .u8)) (hc : P.cellsOf e = 1) : ∃ (a : Option Addr) (c : Nat) (bs : List UInt8) (rest : List Value), cs = .slice a bs.length c :: rest ∧ bs.length ≤ 9223372036854775807 ∧ Vw (old W) (.slice a bs.length c) bs.length (bV bs) ∧ Parts enc P W base spare held n ts rest := by
 obtain ⟨c0, rest, x, rfl, h0, hr⟩ := h.inv
 obtain ⟨a, c, bs, rfl, h2, h3⟩ := open_bytesP ht he hc h0
 exact ⟨a, c, bs, rest, rfl, h2, h3, hr⟩
end
end Go.SL
/- hashes, blobs that came in. -/
namespace Go.Proofs.YtpecmnaikjbanaaGreatDoor
open Go Go.SL Go.RowKit Go.ChangeShapes Go.WideShapes
section
variable {H : Type} {enc : TypeId × Value → H} {W : World} {base : Nat} {spare : Nat → Bool} {held : Bool}
theorem dg_cells : Tryz.prog.cellsOf 30 = 32 := by kernel_rfl
theorem u8_cells : Tryz.prog.cellsOf 5 = 1 := by kernel_rfl
theorem open_dg (fuel : Nat) (cs : List Value) (x : DataW H × List MemPlace) (h : DataW.trod enc Tryz.prog W base spare held fuel 30 cs = some x) : ∃ d : Dg, cs = dC d := by
 obtain ⟨xs, m, _, _, hlen, hxl, hf⟩ := DataW.trod_array Tryz.underlying30 h
 rw [dg_cells] at hlen
 have key : ∀ i, i < 32 → ∃ t : UInt8, cs[i]? = some (u8 t) := fun i hi => by
  have h1 := hf i hi
  obtain ⟨y, hy⟩ : ∃ y, xs[i]? = some y := ⟨xs[i]'(by rw [hxl]; exact hi), by simp⟩
  rw [hy, u8_cells, Nat.mul_one] at h1
  obtain ⟨z, r, _, w⟩ := DataW.trod_int Tryz.underlying5 h1
  have hw : 0 ≤ z ∧ z < 256 := by
   have hw := w
   simp only [Lit.wf, Bool.and_eq_true, decide_eq_true_eq] at hw
   have e1 : IntKind.u8.min = 0 := by decide
   have e2 : IntKind.u8.max = 255 := by decide
   omega
  obtain ⟨t, ht⟩ := u8_of_int hw.1 hw.2
  refine ⟨t, ?_⟩
  rw [← ht]
  have h2 := congrArg (fun l : List Value => l[0]?) r
  simpa using h2
 obtain ⟨f, hfy⟩ := Go.Deep.choose_lt key
 refine ⟨⟨(List.range 32).map f, by simp⟩, ?_⟩
 rw [dC_bV]
 apply List.ext_getElem?
 intro i
 rcases Nat.lt_or_ge i 32 with hi | hi
 ·rw [hfy i hi]
  simp [bV, hi]
 ·rw [List.getElem?_eq_none (by omega), List.getElem?_eq_none (by simp [bV]; omega)]
theorem open_blob (fuel : Nat) (cs : List Value) (x : DataW H × List MemPlace) (h : DataW.trod enc Tryz.prog W base spare held fuel 32 cs = some x) : ∃ y : Bl, cs = blC y ∧ True := by
 obtain ⟨n, hp⟩ := open_struct (Tryz.underlying32 : _ = some (TypeDesc.struct _)) (by kernel_rfl) (by kernel_rfl) h
 obtain ⟨c0, r0, x0, rfl, h0, hp⟩ := hp.inv
 obtain ⟨z1, r1, rfl, w1, hp⟩ := hp.int Tryz.underlying3
 obtain ⟨z2, r2, rfl, w2, hp⟩ := hp.int Tryz.underlying3
 obtain ⟨c3, r3, x3, rfl, h3, hp⟩ := hp.inv
 have := hp.inv0
 subst this
 obtain ⟨d, rfl⟩ := open_dg _ _ _ h0
 obtain ⟨e, rfl⟩ := open_dg _ _ _ h3
 exact ⟨⟨d, z1, z2, e⟩, by simp [blC], trivial⟩
instance : Inhabited Bl := ⟨Bl.zero⟩
theorem open_blobs (fuel : Nat) (cs : List Value) (x : DataW H × List MemPlace) (h : DataW.trod enc Tryz.prog W base spare held fuel 50 cs = some x) : ∃ (l : List Bl) (a : Option Addr) (c : Nat), cs = [.slice a l.length c] ∧ Vw (old W) (.slice a l.length c) l.length (l.flatMap blC) ∧ l.length ≤ 9223372036854775807 := by
 obtain ⟨l, a, c, hcs, h1, h2, h3⟩ := open_rows Tryz.underlying50 blC 66 (by omega) blC_len (by kernel_rfl) (fun _ => True) open_blob h
 exact ⟨l, a, c, hcs, h1, h3⟩
theorem open_bytesC (fuel : Nat) (cs : List Value) (x : DataW H × List MemPlace) (h : DataW.trod enc Tryz.prog W base spare held fuel 22 cs = some x) : ∃ (bs : List UInt8) (a : Option Addr) (c : Nat), cs = [.slice a bs.length c] ∧ bs.length ≤ 9223372036854775807 ∧ BAt (old W) (.slice a bs.length c) bs := by
 have hmx : maxLen = 9223372036854775807 := by decide
 rcases open_ints Tryz.underlying22 Tryz.underlying5 (by kernel_rfl) h with ⟨hcs, _⟩ | ⟨x, l, c, zs, hcs, _, hl, hm, hz, _, hcell, hwz⟩
 ·subst hcs
  exact ⟨[], none, 0, rfl, by simp, nil_view W, none, 0, rfl, Nat.le_refl _⟩
 ·subst hcs
  obtain ⟨bs, h1, h2⟩ := bytes_view (len := l) (cap := c) (by split at hz <;> omega) hcell hwz
  subst h1
  exact ⟨bs, some x, c, rfl, by omega, h2, _, c, rfl, hl⟩
end
end Go.Proofs.YtpecmnaikjbanaaGreatDoor
/- blobs: steps that came in. -/
namespace Go.Proofs.YtpecmnaikjbanaaGreatDoor
open Go Go.SL Go.RowKit Go.ChangeShapes Go.WideShapes
structure ST8 where
 d : Int
 x : Bl
 la : Option Addr
 lc : Nat
 l : List Bl
 i : Int
 n : Int
 cut : Int
 ba : Option Addr
 bc : Nat
 b : List UInt8
instance : Inhabited ST8 := ⟨⟨0, Bl.zero, none, 0, [], 0, 0, 0, none, 0, []⟩⟩
def st8C (s : ST8) : List Value := .int .i64 s.d :: (blC s.x ++ [.slice s.la s.l.length s.lc, .int .i64 s.i, .int .i64 s.n, .int .i64 s.cut, .slice s.ba s.b.length s.bc])
theorem st8C_len (s : ST8) : (st8C s).length = 72 := rfl
structure ST8ok (X : HP) (s : ST8) : Prop where
 d : SL.i64 s.d
 i : SL.i64 s.i
 n : SL.i64 s.n
 cut : SL.i64 s.cut
 l : Vw X (.slice s.la s.l.length s.lc) s.l.length (s.l.flatMap blC)
 ll : s.l.length ≤ 9223372036854775807
 b : BAt X (.slice s.ba s.b.length s.bc) s.b
 bl : s.b.length ≤ 9223372036854775807
def Steps8 (X : HP) (v : Value) (l : List ST8) : Prop := Vw X v l.length (l.flatMap st8C) ∧ l.length ≤ 9223372036854775807 ∧ ∀ s ∈ l, ST8ok X s
section
variable {H : Type} {enc : TypeId × Value → H} {W : World} {base : Nat} {spare : Nat → Bool} {held : Bool}
theorem open_step8 (fuel : Nat) (cs : List Value) (x : DataW H × List MemPlace) (h : DataW.trod enc Tryz.prog W base spare held fuel 52 cs = some x) : ∃ y : ST8, cs = st8C y ∧ ST8ok (old W) y := by
 obtain ⟨n, hp⟩ := open_struct (Tryz.underlying52 : _ = some (TypeDesc.struct _)) (by kernel_rfl) (by kernel_rfl) h
 obtain ⟨z0, r0, rfl, w0, hp⟩ := hp.int Tryz.underlying3
 obtain ⟨c1, r1, x1, rfl, h1, hp⟩ := hp.inv
 obtain ⟨c2, r2, x2, rfl, h2, hp⟩ := hp.inv
 obtain ⟨z3, r3, rfl, w3, hp⟩ := hp.int Tryz.underlying3
 obtain ⟨z4, r4, rfl, w4, hp⟩ := hp.int Tryz.underlying3
 obtain ⟨z5, r5, rfl, w5, hp⟩ := hp.int Tryz.underlying3
 obtain ⟨c6, r6, x6, rfl, h6, hp⟩ := hp.inv
 have := hp.inv0
 subst this
 obtain ⟨y, rfl, -⟩ := open_blob _ _ _ h1
 obtain ⟨l, la, lc, rfl, hl1, hl2⟩ := open_blobs _ _ _ h2
 obtain ⟨b, ba, bc, rfl, hb1, hb2⟩ := open_bytesC _ _ _ h6
 exact ⟨⟨z0, y, la, lc, l, z3, z4, z5, ba, bc, b⟩, by simp [st8C], i64_range w0, i64_range w3, i64_range w4, i64_range w5, hl1, hl2, hb2, hb1⟩
theorem open_steps8 {fuel : Nat} {v : Value} {x : DataW H × List MemPlace} (h : DataW.trod enc Tryz.prog W base spare held fuel 48 [v] = some x) : ∃ l : List ST8, Steps8 (old W) v l := by
 obtain ⟨l, a, c, hcs, h1, h2, h3⟩ := open_rows Tryz.underlying48 st8C 72 (by omega) st8C_len (by kernel_rfl) (ST8ok (old W)) open_step8 h
 simp only [List.cons.injEq, and_true] at hcs
 subst hcs
 exact ⟨l, h1, h3, h2⟩
end
theorem st8_get {l : List ST8} {i : Nat} {s : ST8} (h : l[i]? = some s) (q : Nat) (hq : q < 72) : (l.flatMap st8C)[i * 72 + q]? = (st8C s)[q]? := chunk_get st8C_len h q hq
theorem st8E {l : List ST8} {i : Nat} {s : ST8} (h : l[i]? = some s) (q : Nat) (v : Value) (hq : (st8C s)[q]? = some v) : (l.flatMap st8C)[i * 72 + q]? = some v := by
 rw [st8_get h q (by rcases Nat.lt_or_ge q 72 with h | h; exact h; rw [List.getElem?_eq_none (by rw [st8C_len]; exact h)] at hq; cases hq)]
 exact hq
def Small8 (s : ST8) : Prop := s.b.length ≤ 2000 ∧ s.l.length ≤ 20
attribute [local irreducible] J K Ctr Ends pts slc mapR mapI sbRow stock arrS loopP CtrY
set_option maxRecDepth 20000 in
theorem much8_any (X : HP) (v : Value) (l : List ST8) (hv : Vw X v l.length (l.flatMap st8C)) (hl : l.length ≤ 9223372036854775807) (hs : ∀ s ∈ l, ST8ok X s) :
  Ctr Tryz.prog 22 [v] [X] (fun r H => ∃ b : Bool, r = .bool b ∧ H = [X] ∧ (b = false → ∀ (i : Nat) (s : ST8), i < 100 → l[i]? = some s → Small8 s)) := by
 obtain ⟨a, c, rfl⟩ := hv.shape
 refine Ctr.enter Tryz.func22 (by kernel_rfl) rfl Tryz.ntmps22 rfl rfl ?_
 intro G F R hE
 refine go ?_
 refine K_loop (fun y : Nat × Nat => y.1 ≤ l.length ∧ y.1 ≤ 100 ∧ y.2 ≤ 30000 ∧ ∀ (i : Nat) (s : ST8), i < y.1 → l[i]? = some s → Small8 s) (fun y => l.length - y.1)
  (fun y => [(0, .slice a l.length c), (3, .int .i64 (y.2 : Int)), (4, .int .i64 (y.1 : Int))]) (fun _ => X :: F) (0, 0) ⟨by omega, by omega, by omega, fun i s h => by simp at h⟩ rfl (by repeat (first | exact keep_nil | refine keep_cons rfl ?_)) entA ?_
 rintro ⟨i, n⟩ ⟨hi, hi2, hn, hsm⟩ ih
 simp only at hi hi2 hn hsm
 by_cases hend : i < l.length ∧ i < 100
 case neg =>
  have hfin : ∀ (j : Nat) (s : ST8), j < 100 → l[j]? = some s → Small8 s := fun j s hj hs => hsm j s (by
   rcases Nat.lt_or_ge j l.length with h | h
   ·omega
   ·rw [List.getElem?_eq_none h] at hs; cases hs) hs
  refine go ?_
  by_cases h1 : i < l.length
  ·(first | refine J_slot 9 ((.bool true)) rfl ((congrArg Value.bool (decide_eq_true (by omega)))) ?_ | refine K_slot 9 ((.bool true)) rfl ((congrArg Value.bool (decide_eq_true (by omega)))) ?_)
   refine go ?_
   (first | refine J_slot 12 ((.bool false)) rfl ((congrArg Value.bool (decide_eq_false (by simp only; omega)))) ?_ | refine K_slot 12 ((.bool false)) rfl ((congrArg Value.bool (decide_eq_false (by simp only; omega)))) ?_)
   refine go ?_
   (first | refine K_return hE Tryz.func22 rfl _ rfl ⟨false, rfl, rfl, fun _ => hfin⟩ entA | refine K_fallEnd hE Tryz.func22 rfl _ rfl ⟨false, rfl, rfl, fun _ => hfin⟩ entA)
  ·(first | refine J_slot 9 ((.bool false)) rfl ((congrArg Value.bool (decide_eq_false (by omega)))) ?_ | refine K_slot 9 ((.bool false)) rfl ((congrArg Value.bool (decide_eq_false (by omega)))) ?_)
   refine go ?_
   (first | refine K_return hE Tryz.func22 rfl _ rfl ⟨false, rfl, rfl, fun _ => hfin⟩ entA | refine K_fallEnd hE Tryz.func22 rfl _ rfl ⟨false, rfl, rfl, fun _ => hfin⟩ entA)
 obtain ⟨hi1, hi100⟩ := hend
 obtain ⟨⟨sd, sx, sla, slc', sl, si, sn, scut, sba, sbc, sb⟩, hx⟩ : ∃ s, l[i]? = some s := ⟨l[i], by simp⟩
 have hok := hs _ (List.mem_of_getElem? hx)
 have s0 : (l.flatMap st8C)[i * 72 + 0]? = some (.int .i64 sd) := st8_get hx 0 (by omega)
 have s2 : (l.flatMap st8C)[i * 72 + 67]? = some (.slice sla sl.length slc') := st8_get hx 67 (by omega)
 have s3 : (l.flatMap st8C)[i * 72 + 68]? = some (.int .i64 si) := st8_get hx 68 (by omega)
 have s6 : (l.flatMap st8C)[i * 72 + 71]? = some (.slice sba sb.length sbc) := st8_get hx 71 (by omega)
 obtain ⟨bb, oo, cc, hsl⟩ := hv.some (by rw [← List.length_pos_iff, chunk_len st8C_len]; omega)
 simp only [Value.slice.injEq, true_and] at hsl
 obtain ⟨rfl, rfl⟩ := hsl
 refine go ?_
 (first | refine J_slot 9 ((.bool true)) rfl ((congrArg Value.bool (decide_eq_true (by omega)))) ?_ | refine K_slot 9 ((.bool true)) rfl ((congrArg Value.bool (decide_eq_true (by omega)))) ?_)
 refine go ?_
 (first | refine J_slot 12 ((.bool true)) rfl ((congrArg Value.bool (decide_eq_true (by simp only; omega)))) ?_ | refine K_slot 12 ((.bool true)) rfl ((congrArg Value.bool (decide_eq_true (by simp only; omega)))) ?_)
 repeat' (first | (with_reducible intro _hh) | refine go1 ?_ | refine J_fork ?_ ?_ | refine J_gsP rfl rfl rfl rfl ?_ ?_ | refine K_condP rfl rfl ?_ ?_ | refine J_at (U := tab) i 72 rfl rfl rfl rfl rfl rfl rfl rfl hi1 ?_ | (refine J_isLoad ?_; first | refine J_loadAt (U := tab) 0 (i * 72 + 71) rfl rfl rfl hv (Nat.add_assoc _ _ _) s6 rfl rfl ?_ | refine J_loadAt (U := tab) 0 (i * 72 + 67) rfl rfl rfl hv (Nat.add_assoc _ _ _) s2 rfl rfl ?_ | refine J_loadAt (U := tab) 0 (i * 72 + 68) rfl rfl rfl hv (Nat.add_assoc _ _ _) s3 rfl rfl ?_ | refine J_loadAt (U := tab) 0 (i * 72 + 0) rfl rfl rfl hv (Nat.add_assoc _ _ _) s0 rfl rfl ?_))
 any_goals (first | refine K_return hE Tryz.func22 rfl _ rfl ⟨true, rfl, rfl, fun h => by cases h⟩ entA | refine K_fallEnd hE Tryz.func22 rfl _ rfl ⟨true, rfl, rfl, fun h => by cases h⟩ entA)
 all_goals (
  have hsmall : Small8 ⟨sd, sx, sla, slc', sl, si, sn, scut, sba, sbc, sb⟩ := ⟨by simp only; omega, by simp only; omega⟩
  refine K_again ih (i + 1, n + sb.length) rfl ⟨by simp only; omega, by simp only; omega, by simp only; omega, fun q z hq hz => ?_⟩ (by simp only; omega) (by repeat (first | exact keep_nil | refine keep_cons rfl ?_)) entA
  rcases Nat.lt_or_ge q i with h | h
  ·exact hsm q z h hz
  ·have : q = i := by simp only at hq; omega
   subst this
   rw [hx] at hz; cases hz; exact hsmall)
end Go.Proofs.YtpecmnaikjbanaaGreatDoor
/- of the reference: Uint. -/
namespace Go.Proofs.YtpecmnaikjbanaaGreatDoor
open Go Go.SL
attribute [local irreducible] J K Ctr Ends pts slc mapR mapI sbRow stock arrS loopP CtrY
theorem u8_ofInt (m : Nat) (z : Int) (h : z = ((m % 256 : Nat) : Int)) : Value.int .u8 z = u8 (UInt8.ofNat m) := by
 subst h; simp [u8, UInt8.toNat_ofNat']
set_option maxRecDepth 20000 in
theorem refUint_any (n : Nat) (hn : n ≤ 1000000000000) : Ctr Tryz.prog 119 [.int .u64 (n : Int)] [] (fun r H => H = [slc 5 1 r (uv n).length (bV (uv n))]) := by
 have hnl := uv_len10 (n := n) (by omega)
 refine Ctr.enter Tryz.func119 (by kernel_rfl) rfl Tryz.ntmps119 rfl rfl ?_
 intro G F R hE
 refine go ?_
 refine K_ent (slc_lift 5 1 none _) ?_
 refine K_loop (fun y : Value × List UInt8 × Nat => y.2.2 ≤ n ∧ y.2.1 ++ uv y.2.2 = uv n) (fun y => y.2.2)
  (fun y => [(0, .int .u64 (y.2.2 : Int)), (3, y.1)])
  (fun y => slc 5 1 y.1 y.2.1.length (bV y.2.1) :: F) (.slice none 0 0, [], n) ⟨Nat.le_refl _, rfl⟩ rfl (by repeat (first | exact keep_nil | refine keep_cons rfl ?_)) entA ?_
 rintro ⟨v, acc, m⟩ ⟨hm, hacc⟩ ih
 simp only at hm hacc
 have hal : acc.length + (uv m).length = (uv n).length := by rw [← hacc, List.length_append]
 have hpos := uv_pos m
 (first | refine J_shape 0 rfl ?_ | refine K_shape 0 rfl ?_)
 intro va vc hvv
 simp only at hvv
 subst hvv
 simp only
 refine go ?_
 refine K_condP rfl rfl ?_ ?_
 ·intro hbig
  have hm128 : ¬ m < 128 := by omega
  have huv := uv_big hm128
  have hul : (uv m).length = (uv (m / 128)).length + 1 := by rw [huv]; simp
  (repeat (first | refine go1 ?_ | refine J_fork ?_ ?_ | refine J_rem rfl rfl rfl (by omega) (by omega) ?_ | refine J_convW (U := tab) rfl rfl rfl rfl rfl rfl ?_))
  refine J_slot 10 (u8 (UInt8.ofNat (m % 128 + 128))) rfl (u8_ofInt (m % 128 + 128) _ (by omega)) ?_
  refine J_buildSlice1 (U := tab) (cs := bV [UInt8.ofNat (m % 128 + 128)]) rfl rfl rfl rfl rfl rfl rfl rfl rfl (fun _ _ _ => trivial) ?_
  intro b
  refine go ?_
  refine J_append (U := tab) (mm := 1) (news := bV [UInt8.ofNat (m % 128 + 128)]) 1 0 rfl rfl rfl rfl rfl rfl rfl rfl rfl rfl rfl rfl (Vw.pts rfl) rfl (bV_one _) (by omega) (by show (_ + _) * 1 ≤ _; omega) (fun _ => rfl) (fun _ _ _ => trivial) ?_
  intro v1
  rw [show bV acc ++ bV [UInt8.ofNat (m % 128 + 128)] = bV (acc ++ [UInt8.ofNat (m % 128 + 128)]) from by simp [bV], show acc.length + 1 = (acc ++ [UInt8.ofNat (m % 128 + 128)]).length from by simp]
  (first | refine J_shape 1 rfl ?_ | refine K_shape 1 rfl ?_)
  rintro va1 vc1 rfl
  (repeat (first | refine go1 ?_ | refine J_fork ?_ ?_ | refine J_quo rfl rfl rfl (by omega) (by omega) (by simp only [inK]; omega) ?_))
  (first | refine J_slot 0 ((.int .u64 ((m / 128 : Nat) : Int))) rfl ((congrArg (Value.int .u64) (by omega))) ?_ | refine K_slot 0 ((.int .u64 ((m / 128 : Nat) : Int))) rfl ((congrArg (Value.int .u64) (by omega))) ?_)
  refine K_again ih (.slice va1 (acc ++ [UInt8.ofNat (m % 128 + 128)]).length vc1, acc ++ [UInt8.ofNat (m % 128 + 128)], m / 128) rfl (⟨by simp only; omega, by simp only; rw [List.append_assoc, List.singleton_append, ← huv]; exact hacc⟩) (by simp only; omega) (by repeat (first | exact keep_nil | refine keep_cons rfl ?_)) entA
 intro hsm
 have hm128 : m < 128 := by omega
 have huv := uv_small hm128
 (repeat (first | refine go1 ?_ | refine J_fork ?_ ?_ | refine J_convW (U := tab) rfl rfl rfl rfl rfl rfl ?_))
 refine J_slot 17 (u8 (UInt8.ofNat m)) rfl (u8_ofInt m _ (by omega)) ?_
 refine J_buildSlice1 (U := tab) (cs := bV [UInt8.ofNat m]) rfl rfl rfl rfl rfl rfl rfl rfl rfl (fun _ _ _ => trivial) ?_
 intro b
 refine go ?_
 refine J_append (U := tab) (mm := 1) (news := bV [UInt8.ofNat m]) 1 0 rfl rfl rfl rfl rfl rfl rfl rfl rfl rfl rfl rfl (Vw.pts rfl) rfl (bV_one _) (by omega) (by show (_ + _) * 1 ≤ _; omega) (fun _ => rfl) (fun _ _ _ => trivial) ?_
 intro v1
 rw [show bV acc ++ bV [UInt8.ofNat m] = bV (uv n) from by rw [← hacc, huv]; simp [bV], show acc.length + 1 = (uv n).length from by rw [← hacc, huv]; simp]
 (first | refine J_shape 1 rfl ?_ | refine K_shape 1 rfl ?_)
 rintro va1 vc1 rfl
 refine go ?_
 (first | refine K_return hE Tryz.func119 rfl _ rfl rfl entA | refine K_fallEnd hE Tryz.func119 rfl _ rfl rfl entA)
end Go.Proofs.YtpecmnaikjbanaaGreatDoor
/- of the reference: Encode of items. -/
namespace Go.Proofs.YtpecmnaikjbanaaGreatDoor
open Go Go.SL
attribute [local irreducible] J K Ctr Ends pts slc mapR mapI sbRow stock arrS loopP CtrY
set_option maxRecDepth 20000 in
theorem refEncode_any (X : HP) (v : Value) (l : List It) (hv : ItemsAt X v l) (hl : l.length ≤ 63) (hr : riseOk 0 (l.map It.p) = true) (hs : (recL (l.map It.p)).length ≤ 65536) :
    Ctr Tryz.prog 118 [v] [X] (fun r H => ∃ rv, r = .tuple #[rv, .int .i64 0] ∧ H = [slc 5 1 rv (recL (l.map It.p)).length (bV (recL (l.map It.p))), X]) := by
  obtain ⟨hvw, hvb⟩ := hv
  obtain ⟨a, c, rfl⟩ := hvw.shape
  refine Ctr.enter Tryz.func118 (by kernel_rfl) rfl Tryz.ntmps118 rfl rfl ?_
  intro G F R hE
  refine go ?_
  refine K_condP rfl rfl ?_ ?_
  · intro h; exfalso; omega
  intro _
  refine go ?_
  refine K_ent (slc_lift 5 1 none _) ?_
  refine K_loop (fun y : Nat × List UInt8 × Option Addr × Nat => y.1 ≤ l.length ∧ y.2.1 = recL ((l.map It.p).take y.1)) (fun y => l.length - y.1)
    (fun y => [(0, .slice a l.length c), (4, .slice y.2.2.1 y.2.1.length y.2.2.2), (5, .int .i64 (lastN (l.map It.p) y.1)), (6, .int .i64 (y.1 : Int))])
    (fun y => slc 5 1 (.slice y.2.2.1 y.2.1.length y.2.2.2) y.2.1.length (bV y.2.1) :: X :: F) (0, [], none, 0) ⟨Nat.zero_le _, rfl⟩ rfl (by repeat (first | exact keep_nil | refine keep_cons rfl ?_)) entA ?_
  rintro ⟨i, acc, a1, c1⟩ ⟨hi, hacc⟩ ih
  simp only at hi hacc
  dsimp only
  have hal := recL_take (l.map It.p) i
  rw [← hacc] at hal
  refine go ?_
  refine K_condP rfl rfl ?_ ?_
  case' refine_2 =>
    intro hge
    have hend : acc = recL (l.map It.p) := by rw [hacc, List.take_of_length_le (by rw [List.length_map]; omega)]
    subst hend
    refine go ?_
    (first | refine K_return hE Tryz.func118 rfl _ rfl ⟨_, rfl, rfl⟩ entA | refine K_fallEnd hE Tryz.func118 rfl _ rfl ⟨_, rfl, rfl⟩ entA)
  intro hlt
  have hi' : i < l.length := by omega
  obtain ⟨x, hx⟩ : ∃ x, l[i]? = some x := ⟨l[i], by simp⟩
  have hxp : (l.map It.p)[i]? = some x.p := by rw [List.getElem?_map, hx]; rfl
  obtain ⟨hr1, hr2⟩ := rise_get _ 0 i x.p hr hxp
  have hr1 : lastN (l.map It.p) i < x.n := hr1
  have hr2 : x.n ≤ 63 := hr2
  have hl2 := lastN_succ hxp
  have hbx := hvb x (List.mem_of_getElem? hx)
  obtain ⟨xn, xv, xb⟩ := x
  simp only at hr1 hr2 hbx
  have hl2 : lastN (l.map It.p) (i + 1) = xn := hl2
  obtain ⟨xa, xc, rfl, hxc⟩ := hbx.2
  have ht : recL ((l.map It.p).take (i + 1)) = acc ++ itemL (xn, xb) := by
    rw [List.take_add_one, hxp, Option.toList_some, recL_app, ← hacc]; simp [recL, It.p]
  have hal1 := recL_take (l.map It.p) (i + 1)
  rw [ht, List.length_append] at hal1
  have hit : (itemL (xn, xb)).length = 1 + (uv xb.length).length + xb.length := by simp only [itemL, List.length_cons, List.length_append]; omega
  obtain ⟨b, o, c', he⟩ := hvw.some (by rw [← List.length_pos_iff, chunk_len itC_len]; omega)
  simp only [Value.slice.injEq, true_and] at he
  obtain ⟨rfl, rfl⟩ := he
  have e0 : (l.flatMap itC)[i * 2 + 0]? = some (.int .i64 xn) := chunk_get itC_len hx 0 (by omega)
  have e1 : (l.flatMap itC)[i * 2 + 1]? = some (.slice xa xb.length xc) := chunk_get itC_len hx 1 (by omega)
  obtain ⟨xm, rfl⟩ : ∃ m : Nat, xn = m := ⟨xn.toNat, by
    have : 0 < xn := rise_pos _ 0 hr (Int.le_refl _) _ (List.mem_of_getElem? hxp)
    omega⟩
  repeat' (first | (with_reducible intro _hh) | refine go1 ?_ | refine J_fork ?_ ?_ | refine J_gsP rfl rfl rfl rfl ?_ ?_ | refine K_condP rfl rfl ?_ ?_ | refine J_at (U := tab) i 2 rfl rfl rfl rfl rfl rfl rfl rfl hi' ?_ | (refine J_isLoad ?_; first | refine J_loadAt (U := tab) 1 (i * 2 + 0) rfl rfl rfl hvw (Nat.add_assoc _ _ _) e0 rfl rfl ?_ | refine J_loadAt (U := tab) 1 (i * 2 + 1) rfl rfl rfl hvw (Nat.add_assoc _ _ _) e1 rfl rfl ?_))
  any_goals (exfalso; omega)
  (repeat (first | refine go1 ?_ | refine J_fork ?_ ?_ | refine J_at (U := tab) i 2 rfl rfl rfl rfl rfl rfl rfl rfl hi' ?_ | (refine J_isLoad ?_; first | refine J_loadAt (U := tab) 1 (i * 2 + 0) rfl rfl rfl hvw (Nat.add_assoc _ _ _) e0 rfl rfl ?_ | refine J_loadAt (U := tab) 1 (i * 2 + 1) rfl rfl rfl hvw (Nat.add_assoc _ _ _) e1 rfl rfl ?_)))
  (first | refine J_slot 47 ((u8 (UInt8.ofNat xm))) rfl ((u8_ofInt xm _ (by omega))) ?_ | refine K_slot 47 ((u8 (UInt8.ofNat xm))) rfl ((u8_ofInt xm _ (by omega))) ?_)
  refine go ?_
  refine J_buildSlice1 (U := tab) (cs := bV [UInt8.ofNat xm]) rfl rfl rfl rfl rfl rfl rfl rfl rfl (fun _ _ _ => trivial) ?_
  intro row
  refine go ?_
  refine J_append (U := tab) (mm := 1) (news := bV [UInt8.ofNat xm]) 1 0 rfl rfl rfl rfl rfl rfl rfl rfl rfl rfl rfl rfl (Vw.pts rfl) rfl (bV_one _) (by omega) (by show (_ + _) * 1 ≤ _; omega) (fun _ => rfl) (fun _ _ _ => trivial) ?_
  intro v1
  rw [show bV acc ++ bV [UInt8.ofNat xm] = bV (acc ++ [UInt8.ofNat xm]) from by simp [bV], show acc.length + 1 = (acc ++ [UInt8.ofNat xm]).length from by simp]
  (first | refine J_shape 1 rfl ?_ | refine K_shape 1 rfl ?_)
  rintro a2 c2 rfl
  (first | refine K_ent (H' := slc 5 1 (.slice a2 (acc ++ [UInt8.ofNat xm]).length c2) (acc ++ [UInt8.ofNat xm]).length (bV (acc ++ [UInt8.ofNat xm])) :: X :: F) entA ?_ | refine J_ent (H' := slc 5 1 (.slice a2 (acc ++ [UInt8.ofNat xm]).length c2) (acc ++ [UInt8.ofNat xm]).length (bV (acc ++ [UInt8.ofNat xm])) :: X :: F) entA ?_)
  (repeat (first | refine go1 ?_ | refine J_fork ?_ ?_ | refine J_at (U := tab) i 2 rfl rfl rfl rfl rfl rfl rfl rfl hi' ?_ | (refine J_isLoad ?_; refine J_loadAt (U := tab) 1 (i * 2 + 1) rfl rfl rfl hvw (Nat.add_assoc _ _ _) e1 rfl rfl ?_)))
  ((try refine go ?_); first | refine J_callE rfl rfl rfl rfl (refUint_any xb.length (by omega)) entA ?_ (fun _ _ _ _ _ => trivial) | refine J_call0E rfl rfl rfl (refUint_any xb.length (by omega)) entA ?_ (fun _ _ _ _ _ => trivial))
  rintro r _ rfl
  (first | refine J_shape 0 rfl ?_ | refine K_shape 0 rfl ?_)
  rintro ra rc rfl
  refine J_slcVw 0 rfl ?_
  intro hbr
  refine go ?_
  refine J_append (U := tab) (mm := (uv xb.length).length) (news := bV (uv xb.length)) 1 0 rfl rfl rfl rfl rfl rfl rfl rfl rfl rfl rfl rfl hbr (by show _ = _ * 1; rw [bV_length]; omega) (bV_one _) (by simp only [List.length_append, List.length_singleton]; omega) (by show (_ + _) * 1 ≤ _; simp only [List.length_append, List.length_singleton]; omega) (fun _ => rfl) (fun _ _ _ => trivial) ?_
  intro v2
  rw [show bV (acc ++ [UInt8.ofNat xm]) ++ bV (uv xb.length) = bV (acc ++ [UInt8.ofNat xm] ++ uv xb.length) from by simp [bV], show (acc ++ [UInt8.ofNat xm]).length + (uv xb.length).length = (acc ++ [UInt8.ofNat xm] ++ uv xb.length).length from by simp; omega]
  (first | refine J_shape 1 rfl ?_ | refine K_shape 1 rfl ?_)
  rintro a3 c3 rfl
  (first | refine K_ent (H' := slc 5 1 (.slice a3 (acc ++ [UInt8.ofNat xm] ++ uv xb.length).length c3) (acc ++ [UInt8.ofNat xm] ++ uv xb.length).length (bV (acc ++ [UInt8.ofNat xm] ++ uv xb.length)) :: X :: F) entA ?_ | refine J_ent (H' := slc 5 1 (.slice a3 (acc ++ [UInt8.ofNat xm] ++ uv xb.length).length c3) (acc ++ [UInt8.ofNat xm] ++ uv xb.length).length (bV (acc ++ [UInt8.ofNat xm] ++ uv xb.length)) :: X :: F) entA ?_)
  (repeat (first | refine go1 ?_ | refine J_fork ?_ ?_ | refine J_at (U := tab) i 2 rfl rfl rfl rfl rfl rfl rfl rfl hi' ?_ | (refine J_isLoad ?_; refine J_loadAt (U := tab) 1 (i * 2 + 1) rfl rfl rfl hvw (Nat.add_assoc _ _ _) e1 rfl rfl ?_)))
  refine J_append (U := tab) (mm := xb.length) (news := bV xb) 0 1 rfl rfl rfl rfl rfl rfl rfl rfl rfl rfl rfl rfl hbx.1 (by show _ = _ * 1; rw [bV_length]; omega) (bV_one _) (by simp only [List.length_append, List.length_singleton]; omega) (by show (_ + _) * 1 ≤ _; simp only [List.length_append, List.length_singleton]; omega) (fun _ => rfl) (fun _ _ _ => trivial) ?_
  intro v3
  rw [show bV (acc ++ [UInt8.ofNat xm] ++ uv xb.length) ++ bV xb = bV (acc ++ itemL (xm, xb)) from by simp [bV, itemL], show (acc ++ [UInt8.ofNat xm] ++ uv xb.length).length + xb.length = (acc ++ itemL (xm, xb)).length from by simp [itemL]; omega]
  (first | refine J_shape 0 rfl ?_ | refine K_shape 0 rfl ?_)
  rintro a4 c4 rfl
  refine go ?_
  refine K_condP rfl rfl ?_ ?_
  · intro hbig; exfalso; simp only [List.length_append] at hbig; omega
  intro _
  refine go ?_
  (first | refine J_slot 5 ((.int .i64 (lastN (l.map It.p) (i + 1)))) rfl ((congrArg (Value.int .i64) hl2.symm)) ?_ | refine K_slot 5 ((.int .i64 (lastN (l.map It.p) (i + 1)))) rfl ((congrArg (Value.int .i64) hl2.symm)) ?_)
  refine K_again ih (i + 1, acc ++ itemL (xm, xb), a4, c4) rfl ⟨by simp only; omega, by simp only; rw [ht]⟩ (by simp only; omega) (by repeat (first | exact keep_nil | refine keep_cons rfl ?_)) entA
end Go.Proofs.YtpecmnaikjbanaaGreatDoor
/- of the reference: an image, as bytes, its name. -/
namespace Go.Proofs.YtpecmnaikjbanaaGreatDoor
open Go Go.SL
attribute [local irreducible] J K Ctr Ends pts slc mapR mapI sbRow stock arrS loopP CtrY Sha.chunks Sha.chunk Sha.rounds Sha.sched sumL taggedL GI leafL
theorem blp0g {x : Bl} {q : Nat} {w : Value} (h : (dC x.d)[q]? = some w) : (blC x)[q]? = some w := by
 have hq := (List.getElem?_eq_some_iff.1 h).1
 unfold blC
 rw [List.append_assoc, List.getElem?_append_left hq]
 exact h
theorem twiceB_snoc (l : List Bl) (x : Bl) : twiceB (l ++ [x]) = (twiceB l || l.any fun y => decide (y.d = x.d)) := by
 induction l with
 | nil => rfl
 | cons y l ih =>
  simp only [List.cons_append, twiceB, ih, List.any_append, List.any_cons, List.any_nil, Bool.or_false]
  by_cases h : x.d = y.d
  ·simp [h]
  ·have h2 : ¬ y.d = x.d := fun e => h e.symm
   simp only [h, h2, decide_false, Bool.or_false, Bool.false_or]
   rw [Bool.or_assoc]
set_option maxRecDepth 20000 in
set_option maxHeartbeats 1000000 in
theorem refImage_any (A : HP) (v : Value) (l : List Bl) (hv : Vw A v l.length (l.flatMap blC)) (hlen : l.length ≤ 9223372036854775807) :
  Ctr Tryz.prog 117 [imV v] [A] (fun r H => r = .int .i64 (imageB l : Int) ∧ H = [A]) := by
 obtain ⟨a, c, rfl⟩ := hv.shape
 have hrt := Right_ref
 unfold blV at hrt
 unfold imV
 refine Ctr.enter Tryz.func117 (by kernel_rfl) rfl Tryz.ntmps117 rfl rfl ?_
 intro G F R hE
 refine K_regionA rfl ?_
 refine J_box rfl rfl (fun _ _ _ => trivial) ?_
 intro b1
 by_cases hlo : l.length < 1 ∨ 16 < l.length
 ·have h1 : imageB l = 1 := by unfold imageB; rw [if_pos (by rcases hlo with h | h; exact .inl h; exact .inr (.inl h))]
  rw [h1] at hE
  repeat' (first | (with_reducible intro _hh) | refine go1 ?_ | refine J_fork ?_ ?_ | refine J_gsP rfl rfl rfl rfl ?_ ?_ | refine K_condP rfl rfl ?_ ?_)
  all_goals (first | (exfalso; omega) | skip)
  all_goals ((first | refine K_return hE Tryz.func117 rfl _ rfl ⟨rfl, rfl⟩ entA | refine K_fallEnd hE Tryz.func117 rfl _ rfl ⟨rfl, rfl⟩ entA))
 have hbad : ∀ (i : Nat) x, l[i]? = some x → rightB x = false → imageB l = 1 := fun i x hx hr => by
  unfold imageB
  rw [if_pos (.inr (.inr (List.any_eq_true.2 ⟨x, List.mem_of_getElem? hx, by rw [hr]; rfl⟩)))]
 repeat' (first | (with_reducible intro _hh) | refine go1 ?_ | refine J_fork ?_ ?_ | refine J_gsP rfl rfl rfl rfl ?_ ?_ | refine K_condP rfl rfl ?_ ?_)
 all_goals (first | (exfalso; omega) | skip)
 refine K_loop (fun y : Nat × Bool => y.1 ≤ l.length ∧ y.2 = twiceB (l.take y.1) ∧ ∀ x ∈ l.take y.1, rightB x = true) (fun y => l.length - y.1)
  (fun y => [(1, ptr b1), (3, .bool y.2), (4, .int .i64 (y.1 : Int))])
  (fun y => pts b1 (cl [.slice a l.length c] 55) :: A :: F) (0, false) ⟨Nat.zero_le _, rfl, by simp⟩ rfl (by repeat (first | exact keep_nil | refine keep_cons rfl ?_)) entA ?_
 rintro ⟨i, tw⟩ ⟨hi, htw, hrs⟩ ih
 simp only at hi htw hrs
 dsimp only
 refine go ?_
 refine K_condP rfl rfl ?_ ?_
 ·intro hlt
  have hi' : i < l.length := by omega
  obtain ⟨x, hx⟩ : ∃ x, l[i]? = some x := ⟨l[i], by simp⟩
  obtain ⟨b, o, cap', hsl⟩ := hv.some (blNe hi')
  simp only [Value.slice.injEq] at hsl
  obtain ⟨rfl, _, rfl⟩ := hsl
  refine go ?_
  refine J_at (U := tab) i 66 rfl rfl rfl rfl rfl rfl rfl rfl hi' ?_
  refine J_isLoad ?_
  refine J_loadElem (U := tab) (es := blC x) 1 (i * 66) rfl rfl rfl hv rfl (blE hx) rfl rfl rfl ?_
  ((try refine go ?_); first | refine J_callE rfl rfl rfl rfl (hrt x) entA ?_ (fun _ _ _ _ _ => trivial) | refine J_call0E rfl rfl rfl (hrt x) entA ?_ (fun _ _ _ _ _ => trivial))
  rintro _ _ ⟨rfl, rfl⟩
  cases hr : rightB x with
  | false =>
   rw [hbad i x hx hr] at hE
   refine go ?_
   (first | refine K_return hE Tryz.func117 rfl _ rfl ⟨rfl, rfl⟩ entA | refine K_fallEnd hE Tryz.func117 rfl _ rfl ⟨rfl, rfl⟩ entA)
  | true =>
   have hstep : twiceB (l.take (i + 1)) = (tw || (l.take i).any fun y => decide (y.d = x.d)) := by
    rw [List.take_add_one, hx, Option.toList_some, twiceB_snoc, ← htw]
   have hrs2 : ∀ y ∈ l.take (i + 1), rightB y = true := fun y hy => by
    rw [List.take_add_one, hx, Option.toList_some] at hy
    rcases List.mem_append.1 hy with h | h
    ·exact hrs y h
    ·rw [List.mem_singleton.1 h]; exact hr
   refine go ?_
   have ihO := ih
   clear ih
   refine K_loop (fun y : Nat × Bool => y.1 ≤ i ∧ y.2 = (tw || (l.take y.1).any fun z => decide (z.d = x.d))) (fun y => i - y.1)
    (fun y => [(1, ptr b1), (3, .bool y.2), (4, .int .i64 (i : Int)), (6, .int .i64 (y.1 : Int))])
    (fun y => pts b1 (cl [.slice (some ⟨b, o, none⟩) l.length c] 55) :: A :: F) (0, tw) ⟨Nat.zero_le _, by simp⟩ rfl (by repeat (first | exact keep_nil | refine keep_cons rfl ?_)) entA ?_
   rintro ⟨k, tk⟩ ⟨hk, htk⟩ ih
   simp only at hk htk
   dsimp only
   refine go ?_
   refine K_condP rfl rfl ?_ ?_
   ·intro hlt2
    have hk' : k < l.length := by omega
    have hki : k < i := by omega
    obtain ⟨y, hy⟩ : ∃ x, l[k]? = some x := ⟨l[k], by simp⟩
    have hks : (tw || (l.take (k + 1)).any fun z => decide (z.d = x.d)) = (tk || decide (y.d = x.d)) := by
     rw [List.take_add_one, hy, Option.toList_some, List.any_append, ← Bool.or_assoc, ← htk]; simp
    cases tk with
    | true =>
     rw [Bool.true_or] at hks
     refine K_drawA (fun w => Sat G w ([pts b1 (cl [.slice (some ⟨b, o, none⟩) l.length c] 55), A])) (.st 0 (.st 1 (.st 2 (.st 3 (.st 4 (.st 5 (.st 6 (.st 7 (.st 8 (.st 9 (.st 10 (.st 11 (.st 12 (.st 13 (.st 14 (.st 15 (.st 16 .nil))))))))))))))))) rfl (by kernel_rfl) (by kernel_rfl) (by kernel_rfl) (fun w hw => hw.ent entA) ?_
     refine go ?_
     refine K_again ih (k + 1, true) rfl ⟨by simp only; omega, hks.symm⟩ (by simp only; omega) (by repeat (first | exact keep_nil | refine keep_cons rfl ?_)) entA
    | false =>
     rw [Bool.false_or] at hks
     refine K_drawA (fun w => Sat G w ([pts b1 (cl [.slice (some ⟨b, o, none⟩) l.length c] 55), A])) (.st 0 (.st 1 (.st 2 (.st 3 (.st 4 (.st 5 (.st 6 (.st 7 (.st 8 (.st 9 (.st 10 (.st 11 (.st 12 (.st 13 (.st 14 (.st 15 (.st 16 .nil))))))))))))))))) rfl (by kernel_rfl) (by kernel_rfl) (by kernel_rfl) (fun w hw => hw.ent entA) ?_
     refine go ?_
     refine J_at (U := tab) k 66 rfl rfl rfl rfl rfl rfl rfl rfl hk' ?_
     refine go ?_
     refine J_isLoad ?_
     refine J_loadElemS (U := tab) (es := dC y.d) 1 (k * 66) rfl rfl rfl hv rfl (fun q w hq => blE hy q w (blp0g hq)) rfl rfl rfl ?_
     refine go ?_
     refine J_at (U := tab) i 66 rfl rfl rfl rfl rfl rfl rfl rfl hi' ?_
     refine go ?_
     refine J_isLoad ?_
     refine J_loadElemS (U := tab) (es := dC x.d) 1 (i * 66) rfl rfl rfl hv rfl (fun q w hq => blE hx q w (blp0g hq)) rfl rfl rfl ?_
     refine go ?_
     refine J_eqAgg (b := decide (y.d = x.d)) rfl rfl rfl guDg (fun w => eqDg y.d x.d w) ?_
     refine go ?_
     refine K_again ih (k + 1, decide (y.d = x.d)) rfl ⟨by simp only; omega, hks.symm⟩ (by simp only; omega) (by repeat (first | exact keep_nil | refine keep_cons rfl ?_)) entA
   ·intro hge2
    have hke : k = i := by omega
    rw [hke, ← hstep] at htk
    clear ih
    have ih := ihO
    refine go ?_
    refine K_again ih (i + 1, tk) rfl ⟨by simp only; omega, htk, hrs2⟩ (by simp only; omega) (by repeat (first | exact keep_nil | refine keep_cons rfl ?_)) entA
 ·intro hge
  have hie : i = l.length := by omega
  rw [hie, List.take_length] at htw hrs
  have hfin : imageB l = if tw then 5 else 0 := by
   unfold imageB
   rw [if_neg (by
    rintro (h | h | h)
    ·exact hlo (.inl h)
    ·exact hlo (.inr h)
    ·obtain ⟨z, hz, hz2⟩ := List.any_eq_true.1 h
     rw [hrs z hz] at hz2
     cases hz2), ← htw]
  clear ih
  cases tw with
  | true =>
   rw [hfin] at hE
   refine go ?_
   (first | refine K_return hE Tryz.func117 rfl _ rfl ⟨rfl, rfl⟩ entA | refine K_fallEnd hE Tryz.func117 rfl _ rfl ⟨rfl, rfl⟩ entA)
  | false =>
   rw [hfin] at hE
   refine go ?_
   (first | refine K_return hE Tryz.func117 rfl _ rfl ⟨rfl, rfl⟩ entA | refine K_fallEnd hE Tryz.func117 rfl _ rfl ⟨rfl, rfl⟩ entA)
set_option maxRecDepth 20000 in
set_option maxHeartbeats 1000000 in
theorem refEncodeI_any (A : HP) (v : Value) (l : List Bl) (hv : Vw A v l.length (l.flatMap blC)) (hlen : l.length ≤ 9223372036854775807) :
    Ctr Tryz.prog 79 [imV v] [A] (fun r H => (imageB l ≠ 0 ∧ r = .tuple #[.slice none 0 0, .int .i64 (imageB l : Int)] ∧ H = [A]) ∨
      ∃ rv, imageB l = 0 ∧ r = .tuple #[rv, .int .i64 0] ∧ H = [slc 5 1 rv (encB l).length (bV (encB l)), A]) := by
  have him := refImage_any A v l hv hlen
  obtain ⟨a, c, rfl⟩ := hv.shape
  unfold imV at him ⊢
  refine Ctr.enter Tryz.func79 (by kernel_rfl) rfl Tryz.ntmps79 rfl rfl ?_
  intro G F R hE
  refine K_regionA rfl ?_
  refine J_box rfl rfl (fun _ _ _ => trivial) ?_
  intro b1
  refine go ?_
  refine J_loadArr (U := tab) (l := [.slice a l.length c]) 0 rfl rfl rfl rfl rfl rfl ?_
  ((try refine go ?_); first | refine J_callE rfl rfl rfl rfl (him) entA ?_ (fun _ _ _ _ _ => trivial) | refine J_call0E rfl rfl rfl (him) entA ?_ (fun _ _ _ _ _ => trivial))
  rintro _ _ ⟨rfl, rfl⟩
  refine go ?_
  refine K_condP rfl rfl ?_ ?_
  · intro hne
    have hne' : imageB l ≠ 0 := by omega
    refine go ?_
    (first | refine K_return hE Tryz.func79 rfl _ rfl (.inl ⟨hne', rfl, rfl⟩) entA | refine K_fallEnd hE Tryz.func79 rfl _ rfl (.inl ⟨hne', rfl, rfl⟩) entA)
  intro heq
  have h0 : imageB l = 0 := by omega
  obtain ⟨hl16, hl1, hright⟩ := imageB_right h0
  refine go ?_
  refine K_ent (Ent.trans (Ent.resep [] _) (slc_lift 149 2 none _)) ?_
  refine K_loop (fun y : Nat × Its × Option Addr × Nat => y.1 ≤ l.length ∧ y.2.1.l.map It.p = itemsI 0 (l.take y.1) ∧ ∀ z ∈ y.2.1.l, BAt y.2.1.Z z.v z.b) (fun y => l.length - y.1)
    (fun y => [(1, ptr b1), (5, .slice y.2.2.1 y.2.1.l.length y.2.2.2), (6, .int .i64 (y.1 : Int))])
    (fun y => slc 149 2 (.slice y.2.2.1 y.2.1.l.length y.2.2.2) y.2.1.l.length (y.2.1.l.flatMap itC) :: y.2.1.Z :: A :: pts b1 (cl [.slice a l.length c] 55) :: F) (0, ⟨[], Sep []⟩, none, 0) ⟨Nat.zero_le _, rfl, by simp⟩ rfl (by repeat (first | exact keep_nil | refine keep_cons rfl ?_)) entA ?_
  rintro ⟨i, ⟨its, Z⟩, ia, ic⟩ ⟨hi, hip, hib⟩ ih
  simp only at hi hip hib
  dsimp only
  have hitl : its.length = i := by
    have := congrArg List.length hip
    rw [List.length_map, itemsI_length, List.length_take] at this; omega
  refine go ?_
  refine K_condP rfl rfl ?_ ?_
  · intro hlt
    have hi' : i < l.length := by omega
    obtain ⟨x, hx⟩ : ∃ x, l[i]? = some x := ⟨l[i], by simp⟩
    have hxr := hright x (List.mem_of_getElem? hx)
    have hxr' := hxr
    simp only [rightB, decide_eq_true_eq] at hxr'
    obtain ⟨sz, hsz⟩ : ∃ m : Nat, x.size = m := ⟨x.size.toNat, by omega⟩
    obtain ⟨pc, hpc⟩ : ∃ m : Nat, x.piece = m := ⟨x.piece.toNat, by omega⟩
    obtain ⟨b, o, cap', hsl⟩ := hv.some (blNe hi')
    simp only [Value.slice.injEq] at hsl
    obtain ⟨rfl, _, rfl⟩ := hsl
    refine go ?_
    refine J_at (U := tab) i 66 rfl rfl rfl rfl rfl rfl rfl rfl hi' ?_
    refine J_isLoad ?_
    refine J_loadElem (U := tab) (es := blC x) 2 (i * 66) rfl rfl rfl hv rfl (blE hx) rfl rfl rfl ?_
    refine J_alloc (U := tab) rfl rfl rfl (fun _ _ _ => trivial) ?_
    intro b7
    refine go ?_
    refine K_drawA (fun w => Sat G w ([pts b7 (cl (blC x) 32)])) (.st 0 (.st 1 (.st 2 (.st 3 (.st 4 (.st 5 (.st 8 (.st 9 (.st 10 (.st 13 (.st 14 (.st 15 (.act 6 (.st 7 (.act 11 (.st 12 (.act 16 (.act 17 (.st 18 (.st 19 (.st 20 (.st 21 (.st 22 .nil))))))))))))))))))))))) rfl (by kernel_rfl) (by kernel_rfl) (by kernel_rfl) (fun w hw => hw.ent entA) ?_
    (repeat (first | refine go1 ?_ | refine J_fork ?_ ?_ | refine J_sliceArr (U := tab) rfl rfl rfl rfl rfl ?_))
    (first | refine J_slot 33 ((.int .u64 (sz : Int))) rfl ((congrArg (Value.int .u64) hsz)) ?_ | refine K_slot 33 ((.int .u64 (sz : Int))) rfl ((congrArg (Value.int .u64) hsz)) ?_)
    (first | refine J_slot 38 ((.int .u64 (pc : Int))) rfl ((congrArg (Value.int .u64) hpc)) ?_ | refine K_slot 38 ((.int .u64 (pc : Int))) rfl ((congrArg (Value.int .u64) hpc)) ?_)
    (first | refine J_callE rfl rfl rfl rfl (refUint_any sz (by omega)) entA ?_ (fun _ _ w hp hw => by obtain rfl := hp; exact hw.ent entA) | refine J_call0E rfl rfl rfl (refUint_any sz (by omega)) entA ?_ (fun _ _ w hp hw => by obtain rfl := hp; exact hw.ent entA))
    rintro r8 _ rfl
    (first | refine J_shape 0 rfl ?_ | refine K_shape 0 rfl ?_)
    rintro a8 c8 rfl
    refine go ?_
    (first | refine J_callE rfl rfl rfl rfl (refUint_any pc (by omega)) entA ?_ (fun _ _ w hp hw => by obtain rfl := hp; exact hw.ent entA) | refine J_call0E rfl rfl rfl (refUint_any pc (by omega)) entA ?_ (fun _ _ w hp hw => by obtain rfl := hp; exact hw.ent entA))
    rintro r9 _ rfl
    (first | refine J_shape 0 rfl ?_ | refine K_shape 0 rfl ?_)
    rintro a9 c9 rfl
    refine J_slcB (bs := uv pc) 0 rfl ?_
    intro hb9
    refine J_slcB (bs := uv sz) 1 rfl ?_
    intro hb8
    refine go ?_
    obtain ⟨it4, hit4⟩ : ∃ it4 : List It, it4 = [⟨1, .slice (some ⟨b7, 0, none⟩) 32 32, x.d.bs⟩, ⟨2, .slice a8 (uv sz).length c8, uv sz⟩, ⟨3, .slice a9 (uv pc).length c9, uv pc⟩, ⟨4, .slice (some ⟨b7, 34, none⟩) 32 32, x.root.bs⟩] := ⟨_, rfl⟩
    have hp4 : it4.map It.p = itemsB x := by rw [hit4]; simp only [itemsB, List.map_cons, List.map_nil, It.p, hsz, hpc, Int.toNat_natCast]
    have hrl := itemsB_len x hxr
    refine J_buildSlice1 (U := tab) (cs := it4.flatMap itC) rfl rfl rfl rfl rfl rfl rfl rfl (by rw [hit4]; rfl) (fun _ _ hw => hw.ent entA) ?_
    intro row
    have h4 : it4.length = 4 := by rw [hit4]; rfl
    have hItA : ItemsAt (Sep [pts row (cl (it4.flatMap itC) 149), pts b7 (cl (blC x) 32), slc 5 1 (.slice a8 (uv sz).length c8) (uv sz).length (bV (uv sz)), slc 5 1 (.slice a9 (uv pc).length c9) (uv pc).length (bV (uv pc))]) (.slice (some ⟨row, 0, none⟩) 4 4) it4 := by
      refine ⟨?_, fun y hy => ?_⟩
      · rw [h4]
        exact (Vw.pts (by rw [List.drop_zero, List.take_length])).mono (Sep_get (i := 0) rfl)
      · rw [hit4] at hy
        simp only [List.mem_cons, List.not_mem_nil, or_false] at hy
        rcases hy with rfl | rfl | rfl | rfl
        · exact (BAt.ptsO x.d.len (by rw [← dC_bV]; exact blp0 x)).mono (Sep_get (i := 1) rfl)
        · exact hb8.mono (Sep_get (i := 2) rfl)
        · exact hb9.mono (Sep_get (i := 3) rfl)
        · exact (BAt.ptsO x.root.len (by rw [← dC_bV]; exact blp3 x)).mono (Sep_get (i := 1) rfl)
    have hrise : riseOk 0 (it4.map It.p) = true := by rw [hp4]; simp [itemsB, riseOk]
    have henc := refEncode_any _ _ it4 hItA (by omega) hrise (by rw [hp4]; omega)
    rw [hp4] at henc
    clear hrise hItA hp4 h4
    clear hit4
    refine J_ent (Ent.trans (H2 := pts row (cl (it4.flatMap itC) 149) :: pts b7 (cl (blC x) 32) :: slc 5 1 (.slice a8 (uv sz).length c8) (uv sz).length (bV (uv sz)) :: slc 5 1 (.slice a9 (uv pc).length c9) (uv pc).length (bV (uv pc)) :: slc 149 2 (.slice ia its.length ic) its.length (its.flatMap itC) :: Z :: A :: pts b1 (cl [.slice (some ⟨b, o, none⟩) l.length c] 55) :: F) entA (Ent.resep [pts row (cl (it4.flatMap itC) 149), pts b7 (cl (blC x) 32), slc 5 1 (.slice a8 (uv sz).length c8) (uv sz).length (bV (uv sz)), slc 5 1 (.slice a9 (uv pc).length c9) (uv pc).length (bV (uv pc))] _)) ?_
    refine J_callE rfl rfl rfl rfl henc entA ?_ (fun _ _ w hp hw => by obtain ⟨_, _, rfl⟩ := hp; exact hw.ent (Ent.trans (Ent.pick [1] rfl) (Ent.trans (Ent.unsep [pts row (cl (it4.flatMap itC) 149), pts b7 (cl (blC x) 32), slc 5 1 (.slice a8 (uv sz).length c8) (uv sz).length (bV (uv sz)), slc 5 1 (.slice a9 (uv pc).length c9) (uv pc).length (bV (uv pc))] _) entA)))
    rintro _ _ ⟨rr, rfl, rfl⟩
    (first | refine J_shape 0 rfl ?_ | refine K_shape 0 rfl ?_)
    rintro ra rc rfl
    refine J_slcB (bs := recL (itemsB x)) 0 rfl ?_
    intro hbr
    refine go ?_
    (first | refine K_ent (H' := slc 5 1 (.slice ra (recL (itemsB x)).length rc) (recL (itemsB x)).length (bV (recL (itemsB x))) :: slc 149 2 (.slice ia its.length ic) its.length (its.flatMap itC) :: Z :: A :: pts b1 (cl [.slice (some ⟨b, o, none⟩) l.length c] 55) :: F) entA ?_ | refine J_ent (H' := slc 5 1 (.slice ra (recL (itemsB x)).length rc) (recL (itemsB x)).length (bV (recL (itemsB x))) :: slc 149 2 (.slice ia its.length ic) its.length (its.flatMap itC) :: Z :: A :: pts b1 (cl [.slice (some ⟨b, o, none⟩) l.length c] 55) :: F) entA ?_)
    refine J_buildSlice1 (U := tab) (cs := itC ⟨(i : Int) + 1, .slice ra (recL (itemsB x)).length rc, recL (itemsB x)⟩) rfl rfl rfl rfl rfl rfl rfl rfl rfl (fun _ _ _ => trivial) ?_
    intro row2
    refine go ?_
    refine J_append (U := tab) (mm := 1) (news := itC ⟨(i : Int) + 1, .slice ra (recL (itemsB x)).length rc, recL (itemsB x)⟩) 2 0 rfl rfl rfl rfl rfl rfl rfl rfl rfl rfl rfl rfl (Vw.pts rfl) rfl (by intro v hv; simp [itC] at hv; rcases hv with rfl | rfl <;> rfl) (by omega) (by show (_ + _) * 32 ≤ _; omega) (fun _ => rfl) (fun _ _ _ => trivial) ?_
    intro v1
    rw [show its.flatMap itC ++ itC (⟨(i : Int) + 1, .slice ra (recL (itemsB x)).length rc, recL (itemsB x)⟩ : It) = (its ++ [(⟨(i : Int) + 1, .slice ra (recL (itemsB x)).length rc, recL (itemsB x)⟩ : It)]).flatMap itC from by simp, show its.length + 1 = (its ++ [(⟨(i : Int) + 1, .slice ra (recL (itemsB x)).length rc, recL (itemsB x)⟩ : It)]).length from by simp]
    (first | refine J_shape 2 rfl ?_ | refine K_shape 2 rfl ?_)
    rintro ja jc rfl
    refine go ?_
    have hip2 : (its ++ [(⟨(i : Int) + 1, .slice ra (recL (itemsB x)).length rc, recL (itemsB x)⟩ : It)]).map It.p = itemsI 0 (l.take (i + 1)) := by
      rw [List.take_add_one, hx, List.map_append, hip]
      simp only [Option.toList_some, itemsI_app, List.length_take, Nat.min_eq_left hi, Nat.zero_add, List.map_cons, List.map_nil, It.p]
    refine K_ent (Ent.trans (H2 := slc 5 1 (.slice ra (recL (itemsB x)).length rc) (recL (itemsB x)).length (bV (recL (itemsB x))) :: Z :: slc 149 2 (.slice ja (its ++ [(⟨(i : Int) + 1, .slice ra (recL (itemsB x)).length rc, recL (itemsB x)⟩ : It)]).length jc) (its ++ [(⟨(i : Int) + 1, .slice ra (recL (itemsB x)).length rc, recL (itemsB x)⟩ : It)]).length ((its ++ [(⟨(i : Int) + 1, .slice ra (recL (itemsB x)).length rc, recL (itemsB x)⟩ : It)]).flatMap itC) :: A :: pts b1 (cl [.slice (some ⟨b, o, none⟩) l.length c] 55) :: F) entA (Ent.resep [slc 5 1 (.slice ra (recL (itemsB x)).length rc) (recL (itemsB x)).length (bV (recL (itemsB x))), Z] _)) ?_
    refine K_again ih (i + 1, ⟨its ++ [(⟨(i : Int) + 1, .slice ra (recL (itemsB x)).length rc, recL (itemsB x)⟩ : It)], Sep [slc 5 1 (.slice ra (recL (itemsB x)).length rc) (recL (itemsB x)).length (bV (recL (itemsB x))), Z]⟩, ja, jc) rfl ⟨by simp only; omega, hip2, fun z hz => by
      rcases List.mem_append.1 hz with h | h
      · exact (hib z h).mono (Sep_get (i := 1) rfl)
      · rw [List.mem_singleton.1 h]; exact hbr.mono (Sep_get (i := 0) rfl)⟩ (by simp only; omega) (by repeat (first | exact keep_nil | refine keep_cons rfl ?_)) entA
  · intro hge
    have hie : i = l.length := by omega
    subst hie
    rw [List.take_length] at hip
    have hel := encB_len h0
    unfold encB at hel
    have hrise := itemsI_rise l 0 (by omega)
    rw [← hip] at hel hrise
    refine K_slcVw 0 rfl ?_
    intro hvw
    have hItA : ItemsAt (Sep [slc 149 2 (.slice ia its.length ic) its.length (its.flatMap itC), Z]) (.slice ia its.length ic) its := ⟨hvw.mono (Sep_get (i := 0) rfl), fun y hy => (hib y hy).mono (Sep_get (i := 1) rfl)⟩
    have henc := refEncode_any _ _ its hItA (by omega) hrise (by omega)
    have hee : recL (its.map It.p) = encB l := by rw [hip]; rfl
    rw [hee] at henc
    clear ih
    refine go ?_
    refine J_ent (Ent.resep [_, _] _) ?_
    ((try refine go ?_); first | refine J_callE rfl rfl rfl rfl (henc) entA ?_ (fun _ _ _ _ _ => trivial) | refine J_call0E rfl rfl rfl (henc) entA ?_ (fun _ _ _ _ _ => trivial))
    rintro _ _ ⟨rr, rfl, rfl⟩
    refine go ?_
    (first | refine K_return hE Tryz.func79 rfl _ rfl (.inr ⟨rr, h0, rfl, rfl⟩) entA | refine K_fallEnd hE Tryz.func79 rfl _ rfl (.inr ⟨rr, h0, rfl, rfl⟩) entA)
set_option maxRecDepth 20000 in
theorem refName_any (A : HP) (v : Value) (l : List Bl) (hv : Vw A v l.length (l.flatMap blC)) (hlen : l.length ≤ 9223372036854775807) :
  Ctr Tryz.prog 28 [imV v] [A] (fun r H => r = (if imageB l = 0 then .tuple #[dV (nameB l), .int .i64 0] else .tuple #[dV Dg.zero, .int .i64 (imageB l : Int)]) ∧ H = [A]) := by
 have him := refEncodeI_any A v l hv hlen
 obtain ⟨a, c, rfl⟩ := hv.shape
 unfold imV at him ⊢
 refine Ctr.enter Tryz.func28 (by kernel_rfl) rfl Tryz.ntmps28 rfl rfl ?_
 intro G F R hE
 refine K_regionA rfl ?_
 refine J_box rfl rfl (fun _ _ _ => trivial) ?_
 intro b1
 refine J_alloc (U := tab) rfl rfl rfl (fun _ _ _ => trivial) ?_
 intro b2
 refine go ?_
 refine J_loadArr (U := tab) (l := [.slice a l.length c]) 1 rfl rfl rfl rfl rfl rfl ?_
 ((try refine go ?_); first | refine J_callE rfl rfl rfl rfl (him) entA ?_ (fun _ _ _ _ _ => trivial) | refine J_call0E rfl rfl rfl (him) entA ?_ (fun _ _ _ _ _ => trivial))
 rintro _ _ (⟨h0, rfl, rfl⟩ | ⟨rv, h0, rfl, rfl⟩)
 ·rw [if_neg h0] at hE
  refine go ?_
  refine K_condP rfl rfl ?_ ?_
  case' refine_2 => (intro h; exfalso; omega)
  intro _
  refine go ?_
  refine J_build0 (U := tab) rfl rfl rfl rfl rfl ?_
  refine go ?_
  (refine K_noMarks hE ?_; apply K_returnV (U := tab) hE Tryz.func28 rfl (Ent.refl _); (repeat (first | exact ResOk.nil | apply ResOk.tmp rfl | apply ResOk.agg 0 rfl rfl rfl rfl rfl | apply ResOk.agg 1 rfl rfl rfl rfl rfl | apply ResOk.agg 2 rfl rfl rfl rfl rfl | apply ResOk.agg 3 rfl rfl rfl rfl rfl | apply ResOk.agg 4 rfl rfl rfl rfl rfl | apply ResOk.agg 5 rfl rfl rfl rfl rfl | apply ResOk.agg 6 rfl rfl rfl rfl rfl | apply ResOk.agg 7 rfl rfl rfl rfl rfl | apply ResOk.agg 8 rfl rfl rfl rfl rfl | apply ResOk.one 0 rfl rfl rfl rfl | apply ResOk.one 1 rfl rfl rfl rfl | apply ResOk.one 2 rfl rfl rfl rfl | apply ResOk.one 3 rfl rfl rfl rfl | apply ResOk.one 4 rfl rfl rfl rfl | apply ResOk.one 5 rfl rfl rfl rfl | apply ResOk.one 6 rfl rfl rfl rfl)); exact ⟨rfl, rfl⟩; exact entA)
 ·rw [if_pos h0] at hE
  have hel := encB_len h0
  refine J_slcB (bs := encB l) 0 rfl ?_
  intro hbe
  refine go ?_
  ((try refine go ?_); first | refine J_callE rfl rfl rfl rfl (Sum_ref _ rv (encB l) hbe (by omega)) entA ?_ (fun _ _ _ _ _ => trivial) | refine J_call0E rfl rfl rfl (Sum_ref _ rv (encB l) hbe (by omega)) entA ?_ (fun _ _ _ _ _ => trivial))
  rintro _ _ ⟨rfl, rfl⟩
  refine go ?_
  (refine K_noMarks hE ?_; apply K_returnV (U := tab) hE Tryz.func28 rfl (Ent.refl _); (repeat (first | exact ResOk.nil | apply ResOk.tmp rfl | apply ResOk.agg 0 rfl rfl rfl rfl rfl | apply ResOk.agg 1 rfl rfl rfl rfl rfl | apply ResOk.agg 2 rfl rfl rfl rfl rfl | apply ResOk.agg 3 rfl rfl rfl rfl rfl | apply ResOk.agg 4 rfl rfl rfl rfl rfl | apply ResOk.agg 5 rfl rfl rfl rfl rfl | apply ResOk.agg 6 rfl rfl rfl rfl rfl | apply ResOk.agg 7 rfl rfl rfl rfl rfl | apply ResOk.agg 8 rfl rfl rfl rfl rfl | apply ResOk.one 0 rfl rfl rfl rfl | apply ResOk.one 1 rfl rfl rfl rfl | apply ResOk.one 2 rfl rfl rfl rfl | apply ResOk.one 3 rfl rfl rfl rfl | apply ResOk.one 4 rfl rfl rfl rfl | apply ResOk.one 5 rfl rfl rfl rfl | apply ResOk.one 6 rfl rfl rfl rfl)); exact ⟨rfl, rfl⟩; exact entA)
end Go.Proofs.YtpecmnaikjbanaaGreatDoor
/- of the reference: an image's name, in one shape. -/
namespace Go.Proofs.YtpecmnaikjbanaaGreatDoor
open Go Go.SL
def nmB (l : List Bl) : Dg := if imageB l = 0 then nameB l else Dg.zero
theorem refName2 (A : HP) (v : Value) (l : List Bl) (hv : Vw A v l.length (l.flatMap blC)) (hlen : l.length ≤ 9223372036854775807) :
  Ctr Tryz.prog 28 [imV v] [A] (fun r H => r = .tuple #[dV (nmB l), .int .i64 (imageB l : Int)] ∧ H = [A]) := by
 refine (refName_any A v l hv hlen).post ?_
 rintro r H ⟨rfl, rfl⟩
 refine ⟨?_, rfl⟩
 unfold nmB
 by_cases h : imageB l = 0
 ·rw [if_pos h, if_pos h, h]; rfl
 ·rw [if_neg h, if_neg h]
end Go.Proofs.YtpecmnaikjbanaaGreatDoor
/- blobs, part r: what is kept. -/
namespace Go.Proofs.YtpecmnaikjbanaaGreatDoor
open Go Go.SL
theorem alook_aset {κ : Type} [DecidableEq κ] (es : List (κ × Value)) (k d : κ) (v : Value) : alook (aset es k v) d = if d = k then some v else alook es d := by
 unfold aset
 by_cases hk : k ∈ es.map (·.1)
 ·rw [if_pos hk]
  unfold alook
  rw [List.find?_map]
  have hf : ((fun x : κ × Value => decide (x.1 = d)) ∘ fun x : κ × Value => if x.1 = k then (k, v) else x) = fun x => decide (x.1 = d) := by
   funext x
   simp only [Function.comp]
   have he : (if x.1 = k then (k, v) else x).1 = x.1 := by
    split
    ·rename_i h; exact h.symm
    ·rfl
   exact decide_eq_decide.2 (by rw [he])
  rw [hf]
  by_cases hd : d = k
  ·subst hd
   rw [if_pos rfl]
   obtain ⟨y, hy, hyd⟩ := List.mem_map.1 hk
   cases hx : es.find? (fun x => decide (x.1 = d)) with
   | none => have := List.find?_eq_none.1 hx y hy; simp [hyd] at this
   | some x =>
    have : x.1 = d := by simpa using List.find?_some hx
    simp [this]
  ·rw [if_neg hd]
   cases hx : es.find? (fun x => decide (x.1 = d)) with
   | none => rfl
   | some x =>
    have : x.1 = d := by simpa using List.find?_some hx
    have hne : ¬ x.1 = k := fun e => hd (this.symm.trans e)
    simp [hne]
 ·rw [if_neg hk]
  unfold alook
  rw [List.find?_append]
  by_cases hd : d = k
  ·subst hd
   rw [if_pos rfl]
   cases hx : es.find? (fun x => decide (x.1 = d)) with
   | none => simp
   | some x => exact absurd (List.mem_map.2 ⟨x, List.mem_of_find?_eq_some hx, by simpa using List.find?_some hx⟩) hk
  ·rw [if_neg hd]
   have : ¬ k = d := fun e => hd e.symm
   cases hx : es.find? (fun x => decide (x.1 = d)) <;> simp [this]
def KM (es : List (Dg × Value)) (l : List Dg) : Prop := ∀ d, alook es d = if d ∈ l then some (.bool true) else none
theorem KM.nil : KM [] [] := fun d => by simp [alook]
theorem KM.add {es : List (Dg × Value)} {l : List Dg} (h : KM es l) (d : Dg) : KM (aset es d (.bool true)) (l ++ [d]) := fun e => by
 rw [alook_aset, h e]
 by_cases he : e = d
 ·simp [he]
 ·simp [he]
attribute [local irreducible] J K Ctr Ends pts slc mapR mapI sbRow stock arrS loopP CtrY Sha.chunks Sha.chunk Sha.rounds Sha.sched sumL taggedL GI leafL diskA
set_option maxRecDepth 20000 in
set_option maxHeartbeats 1000000 in
theorem kept_any (bs bd : Nat) (q : Int) (mb : Nat) (brk : Bool) (A : Ab) : Ctr Tryz.prog 120 [ptr bs] [pts bs (cl (stC bd q mb brk) 92), diskA bd A]
  (fun r H => ∃ mk es, r = .map (some mk) ∧ KM es (keptF A) ∧ H = [mapR dV mk es, pts bs (cl (stC bd q mb brk) 92), diskA bd A]) := by
 have himg := fun d => ImageS_any bs bd q mb brk A d
 unfold dV at himg
 refine Ctr.enter Tryz.func120 (by kernel_rfl) rfl Tryz.ntmps120 rfl rfl ?_
 intro G F R hE
 refine K_diskA (bd := bd) (A := A) 1 rfl ?_
 intro hdk
 have hil : (imagesF A).length ≤ 200 := by
  have h1 := List.length_filterMap_le (hashN kI) (namesF A)
  have h2 := namesF_len hdk
  unfold imagesF
  omega
 have hkf : keptF A = (imagesF A).flatMap fun d => ((imageF A d).getD []).map (·.d) := rfl
 have hims := Images_any bs bd q mb brk A
 generalize imagesF A = l at hil hkf hims
 have hok := fun d l (h : imageF A d = some l) => imageF_ok h
 refine go ?_
 refine J_makeMap rfl (fun _ _ _ => trivial) ?_
 intro mk
 refine J_ent (Ent.fold (B := [_]) (A := mapR dV mk []) (fun h hs => ⟨h, sub.refl h, mapR_new dV mk h (Sep_one hs)⟩)) ?_
 refine go ?_
 ((try refine go ?_); first | refine J_callE rfl rfl rfl rfl (hims) entA ?_ (fun _ _ _ _ _ => trivial) | refine J_call0E rfl rfl rfl (hims) entA ?_ (fun _ _ _ _ _ => trivial))
 rintro r _ rfl
 (first | refine J_shape 0 rfl ?_ | refine K_shape 0 rfl ?_)
 rintro ra rc rfl
 refine J_slcVw 0 rfl ?_
 intro hvw
 refine go ?_
 refine K_loop (fun y : Nat × List (Dg × Value) => y.1 ≤ l.length ∧ KM y.2 ((l.take y.1).flatMap fun d => ((imageF A d).getD []).map (·.d))) (fun y => l.length - y.1)
  (fun y => [(0, ptr bs), (3, .map (some mk)), (12, .slice ra l.length rc), (13, .int .i64 (l.length : Int)), (14, .int .i64 (y.1 : Int))])
  (fun y => slc 30 32 (.slice ra l.length rc) l.length (l.flatMap dC) :: mapR dV mk y.2 :: pts bs (cl (stC bd q mb brk) 92) :: diskA bd A :: F) (0, []) ⟨Nat.zero_le _, KM.nil⟩ rfl (by repeat (first | exact keep_nil | refine keep_cons rfl ?_)) entA ?_
 rintro ⟨i, es⟩ ⟨hi, hkm⟩ ih
 simp only at hi hkm
 dsimp only
 refine go ?_
 refine K_condP rfl rfl ?_ ?_
 ·intro hlt
  have hi' : i < l.length := by omega
  obtain ⟨d, hx⟩ : ∃ x, l[i]? = some x := ⟨l[i], by simp⟩
  have hstep : (l.take (i + 1)).flatMap (fun d => ((imageF A d).getD []).map (·.d)) = (l.take i).flatMap (fun d => ((imageF A d).getD []).map (·.d)) ++ ((imageF A d).getD []).map (·.d) := by
   rw [List.take_add_one, hx]; simp
  have hdE : ∀ (q : Nat) (v : Value), (dC d)[q]? = some v → (l.flatMap dC)[i * 32 + q]? = some v := fun q v hq => by
   rw [chunk_get dC_len hx q (by rcases Nat.lt_or_ge q 32 with h | h; exact h; rw [List.getElem?_eq_none (by rw [dC_len]; exact h)] at hq; cases hq)]
   exact hq
  obtain ⟨b, o, cap', hsl⟩ := hvw.some (by rw [← List.length_pos_iff, chunk_len dC_len]; omega)
  simp only [Value.slice.injEq] at hsl
  obtain ⟨rfl, _, rfl⟩ := hsl
  refine go ?_
  refine J_at (U := tab) i 32 rfl rfl rfl rfl rfl rfl rfl rfl hi' ?_
  refine J_loadElem (U := tab) (es := dC d) 0 (i * 32) rfl rfl rfl hvw rfl hdE rfl rfl rfl ?_
  refine J_alloc (U := tab) rfl rfl rfl (fun _ _ _ => trivial) ?_
  intro b5
  refine go ?_
  refine J_loadArr (U := tab) (l := dC d) 0 rfl rfl rfl rfl rfl rfl ?_
  ((try refine go ?_); first | refine J_callE rfl rfl rfl rfl (himg d) entA ?_ (fun _ _ _ _ _ => trivial) | refine J_call0E rfl rfl rfl (himg d) entA ?_ (fun _ _ _ _ _ => trivial))
  rintro _ _ ⟨rv, rfl, rfl⟩
  obtain ⟨m, hm⟩ : ∃ m, m = (imageF A d).getD [] := ⟨_, rfl⟩
  have hml : m.length ≤ 16 := by
   rw [hm]
   cases himf : imageF A d with
   | none => simp
   | some x => simpa using (imageB_right (hok d x himf)).1
  rw [← hm] at hstep ⊢
  unfold imV
  (first | refine J_shape 0 rfl ?_ | refine K_shape 0 rfl ?_)
  rintro va vc rfl
  refine J_slcVw 0 rfl ?_
  intro hvm
  refine go ?_
  refine J_alloc (U := tab) rfl rfl rfl (fun _ _ _ => trivial) ?_
  intro b6
  refine go ?_
  have ihO := ih
  clear ih
  refine K_loop (fun y : Nat × List (Dg × Value) => y.1 ≤ m.length ∧ KM y.2 ((l.take i).flatMap (fun d => ((imageF A d).getD []).map (·.d)) ++ (m.take y.1).map (·.d))) (fun y => m.length - y.1)
   (fun y => [(0, ptr bs), (3, .map (some mk)), (12, .slice (some ⟨b, o, none⟩) l.length rc), (13, .int .i64 (l.length : Int)), (14, .int .i64 (i : Int)), (25, .slice va m.length vc), (26, .int .i64 (m.length : Int)), (27, .int .i64 (y.1 : Int))])
   (fun y => slc 32 66 (.slice va m.length vc) m.length (m.flatMap blC) :: slc 30 32 (.slice (some ⟨b, o, none⟩) l.length rc) l.length (l.flatMap dC) :: mapR dV mk y.2 :: pts bs (cl (stC bd q mb brk) 92) :: diskA bd A :: F) (0, es) ⟨Nat.zero_le _, by simpa using hkm⟩ rfl (by repeat (first | exact keep_nil | refine keep_cons rfl ?_)) entA ?_
  rintro ⟨j, es2⟩ ⟨hj, hkm2⟩ ih
  simp only at hj hkm2
  dsimp only
  refine go ?_
  refine K_condP rfl rfl ?_ ?_
  ·intro hlt2
   have hj' : j < m.length := by omega
   obtain ⟨y, hy⟩ : ∃ x, m[j]? = some x := ⟨m[j], by simp⟩
   have hkm3 := hkm2.add y.d
   rw [List.append_assoc, show (m.take j).map (·.d) ++ [y.d] = (m.take (j + 1)).map (·.d) from by rw [List.take_add_one, hy]; simp] at hkm3
   obtain ⟨b2, o2, cap2, hsl2⟩ := hvm.some (blNe hj')
   simp only [Value.slice.injEq] at hsl2
   obtain ⟨rfl, _, rfl⟩ := hsl2
   refine go ?_
   refine J_at (U := tab) j 66 rfl rfl rfl rfl rfl rfl rfl rfl hj' ?_
   refine J_loadElem (U := tab) (es := blC y) 0 (j * 66) rfl rfl rfl hvm rfl (blE hy) rfl rfl rfl ?_
   refine J_alloc (U := tab) rfl rfl rfl (fun _ _ _ => trivial) ?_
   intro b9
   refine go ?_
   refine J_loadAgg (U := tab) 0 rfl rfl rfl rfl rfl rfl ?_
   refine J_mapUpdate (U := tab) (es := es2) (key := y.d) (v := .bool true) 3 kDg (fun _ _ => trivial) rfl rfl rfl rfl rfl rfl rfl rfl ?_
   refine go ?_
   refine K_again ih (j + 1, aset es2 y.d (.bool true)) rfl ⟨by simp only; omega, hkm3⟩ (by simp only; omega) (by repeat (first | exact keep_nil | refine keep_cons rfl ?_)) entA
  ·intro hge2
   have hje : j = m.length := by omega
   rw [hje, List.take_length, ← hstep] at hkm2
   clear ih
   have ih := ihO
   refine go ?_
   refine K_again ih (i + 1, es2) rfl ⟨by simp only; omega, hkm2⟩ (by simp only; omega) (by repeat (first | exact keep_nil | refine keep_cons rfl ?_)) entA
 ·intro hge
  have hie : i = l.length := by omega
  rw [hie, List.take_length, ← hkf] at hkm
  clear ih
  refine go ?_
  (first | refine K_return hE Tryz.func120 rfl _ rfl ⟨mk, es, rfl, hkm, rfl⟩ entA | refine K_fallEnd hE Tryz.func120 rfl _ rfl ⟨mk, es, rfl, hkm, rfl⟩ entA)
end Go.Proofs.YtpecmnaikjbanaaGreatDoor
