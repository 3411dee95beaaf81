/- journal, part f: all. -/
import Derived.Test.YtpdmbmnhgcnelaaJd
import Derived.Test.YtpdmbmnhgcnelaaEngY
import Derived.Test.YtpdmbmnhgcnelaaFs
import Derived.Test.YtpdmbmnhgcnelaaFr
import Derived.Test.YtpdmbmnhgcnelaaFq
import Derived.Test.YtpdmbmnhgcnelaaFj
import Derived.Test.YtpdmbmnhgcnelaaFf
import Derived.Test.YtpdmbmnhgcnelaaEngK
import Derived.Test.YtpdmbmnhgcnelaaEngU
set_option linter.unusedVariables false
set_option linter.unusedSimpArgs false
namespace Go.Proofs.Ytpdmbmnhgcnelaa
open Go Go.SL
attribute [local irreducible] J K Ctr Ends pts slc mapR mapI sbRow stock arrS loopP CtrY

/-- Steps, as long as they are OK. -/
def Runs {σ : Type} : List (σ → Nat → σ → Prop) → σ → Nat → σ → Prop
  | [], x, e, y => e = 0 ∧ y = x
  | s :: ss, x, e, y => ∃ e1 x1, s x e1 x1 ∧ ((e1 ≠ 0 ∧ e = e1 ∧ y = x1) ∨ (e1 = 0 ∧ Runs ss x1 e y))
theorem all_any {σ : Type} (I : σ → HP) (V : HP) (v : Value) (fvs : List Value) (hv : Vw V v fvs.length fvs) (hn : fvs.length ≤ 1000000000) (ss : List (σ → Nat → σ → Prop)) (hlen : ss.length = fvs.length) (Q : Nat → σ → Prop)
    (hst : ∀ (i : Nat) (fv : Value) (s : σ → Nat → σ → Prop), fvs[i]? = some fv → ss[i]? = some s → ∃ g fi cap, fv = .func (.func g) fi cap ∧ ∀ x, Q i x → Ctr Try.prog g (fi.toList ++ cap.toList) [I x] (fun r H => ∃ (e : Nat) (x' : σ), r = .int .i64 (e : Int) ∧ H = [I x'] ∧ s x e x' ∧ (e = 0 → Q (i + 1) x')))
    (x0 : σ) (hQ : Q 0 x0) :
    Ctr Try.prog 52 [v] [V, I x0] (fun r H => ∃ (e : Nat) (x' : σ), r = .int .i64 (e : Int) ∧ H = [V, I x'] ∧ Runs ss x0 e x') := by
  obtain ⟨a, c, rfl⟩ := hv.shape
  refine Ctr.enter Try.func52 (by kernel_rfl) rfl Try.ntmps52 rfl rfl ?_
  intro G F R hE
  (refine go ?_)
  refine K_loop (fun y : Nat × σ => y.1 ≤ fvs.length ∧ Q y.1 y.2 ∧ ∀ e x', Runs (ss.drop y.1) y.2 e x' → Runs ss x0 e x') (fun y => fvs.length - y.1)
    (fun y => [(0, .slice a fvs.length c), (6, .slice a fvs.length c), (7, .int .i64 (fvs.length : Int)), (8, .int .i64 (y.1 : Int))])
    (fun y => V :: I y.2 :: F) (0, x0) ⟨Nat.zero_le _, hQ, fun _ _ h => h⟩ rfl (by repeat (first | exact keep_nil | refine keep_cons rfl ?_)) entA ?_
  rintro ⟨i, x⟩ ⟨hi, hq, hr⟩ ih
  simp only at hi hq hr
  (refine go ?_)
  refine K_condP rfl rfl ?_ ?_
  · intro hlt
    simp only at hlt
    have hil : i < fvs.length := by omega
    obtain ⟨fv, hfv⟩ : ∃ fv, fvs[i]? = some fv := ⟨fvs[i], List.getElem?_eq_getElem hil⟩
    obtain ⟨s, hs⟩ : ∃ s, ss[i]? = some s := ⟨ss[i], List.getElem?_eq_getElem (by omega)⟩
    obtain ⟨g, fi, cap, rfl, hc⟩ := hst i fv s hfv hs
    have hdrop : ss.drop i = s :: ss.drop (i + 1) := by
      rw [List.drop_eq_getElem_cons (by omega)]
      congr 1
      have := List.getElem?_eq_some_iff.1 hs
      exact this.2
    obtain ⟨b0, o0, c0, he0⟩ := hv.some (by intro h; rw [h] at hil; simp at hil)
    simp only [Value.slice.injEq] at he0
    obtain ⟨rfl, -, rfl⟩ := he0
    (refine go ?_)
    refine J_at1 (U := tab) i rfl rfl rfl rfl rfl rfl rfl rfl hil ?_
    refine J_loadAt (U := tab) 0 i rfl rfl rfl hv rfl hfv rfl rfl ?_
    (refine go ?_)
    refine J_callF rfl rfl rfl (by simp) (hc x hq) entA ?_ (fun _ _ _ _ _ => trivial)
    rintro _ _ ⟨e, x', rfl, rfl, hsx, hq'⟩
    (refine go ?_)
    refine K_condP rfl rfl ?_ ?_
    · intro hne
      have he : e ≠ 0 := by omega
      (refine go ?_)
      (first | refine K_return hE Try.func52 rfl _ rfl ⟨e, x', rfl, rfl, hr e x' (by rw [hdrop]; exact ⟨e, x', hsx, .inl ⟨he, rfl, rfl⟩⟩)⟩ entA | refine K_fallEnd hE Try.func52 rfl _ rfl ⟨e, x', rfl, rfl, hr e x' (by rw [hdrop]; exact ⟨e, x', hsx, .inl ⟨he, rfl, rfl⟩⟩)⟩ entA)
    · intro heq
      have he : e = 0 := by omega
      (refine go ?_)
      refine K_again ih (i + 1, x') rfl (⟨by simp only; omega, hq' he, fun e2 x2 h2 => hr e2 x2 (by rw [hdrop]; exact ⟨e, x', hsx, .inr ⟨he, h2⟩⟩)⟩) (by simp only; omega) (by repeat (first | exact keep_nil | refine keep_cons rfl ?_)) entA
  · intro hge
    simp only at hge
    have hi' : i = fvs.length := by omega
    subst hi'
    (refine go ?_)
    (first | refine K_return hE Try.func52 rfl _ rfl ⟨0, x, rfl, rfl, hr 0 x (by rw [List.drop_eq_nil_of_le (by omega)]; exact ⟨rfl, rfl⟩)⟩ entA | refine K_fallEnd hE Try.func52 rfl _ rfl ⟨0, x, rfl, rfl, hr 0 x (by rw [List.drop_eq_nil_of_le (by omega)]; exact ⟨rfl, rfl⟩)⟩ entA)
end Go.Proofs.Ytpdmbmnhgcnelaa

/- journal, part g0: a disk as it is known, without its inner parts. -/
set_option linter.unusedVariables false
set_option linter.unusedSimpArgs false
namespace Go.Proofs.Ytpdmbmnhgcnelaa
open Go Go.SL
attribute [local irreducible] J K Ctr Ends pts slc mapR mapI sbRow stock arrS

def diskA (bd : Nat) (A : Ab) : HP := fun h => ∃ D, Rel D A ∧ disk bd D h
theorem diskA_in {bd : Nat} {D : Dk} {A : Ab} (h : Rel D A) (H : List HP) : Ent (disk bd D :: H) (diskA bd A :: H) := Ent.fold (B := [_]) fun h' hs => ⟨h', sub.refl h', D, h, Sep_one hs⟩
theorem sat_diskA {G : Glob} {w : World} {bd : Nat} {A : Ab} {H : List HP} (hs : Sat G w (diskA bd A :: H)) : ∃ D, Rel D A ∧ Sat G w (disk bd D :: H) := by
  obtain ⟨t, o, u, hp, hpw, h1, h2, ⟨D, hR, hA⟩, hH, hd, he⟩ := hs
  exact ⟨D, hR, t, o, u, hp, hpw, h1, h2, hA, hH, hd, he⟩
end Go.Proofs.Ytpdmbmnhgcnelaa
namespace Go.Proofs.Ytpdmbmnhgcnelaa
open Go Go.SL
theorem ctr_disk {P : Program} {f : FuncId} {args : List Value} {bd : Nat} {A : Ab} {Pre : List HP} {Post Post' : Value → List HP → Prop} (hc : P.funcs[f]?.map callable = some true)
    (h : ∀ D, Rel D A → Ctr P f args (disk bd D :: Pre) Post) (hp : ∀ v H, Post v H → ∃ H', Post' v H' ∧ Ent H H') : Ctr P f args (diskA bd A :: Pre) Post' :=
  ⟨hc, fun G w F hw => by
    obtain ⟨D, hR, hw1⟩ := sat_diskA hw
    exact ((h D hR).2 G w F hw1).mono fun e w' h' => let ⟨v, H, he, hpo, hs⟩ := h'; let ⟨H', hq, hE⟩ := hp v H hpo; ⟨v, H', he, hq, hs.ent (Ent.append F hE)⟩⟩
attribute [local irreducible] J K Ctr Ends pts slc mapR mapI sbRow stock arrS
theorem Off_dA (bd : Nat) (A : Ab) : Ctr Try.prog 39 [ptr bd] [diskA bd A] (fun v H => v = .bool A.off ∧ H = [diskA bd A]) := by
  refine ctr_disk (by kernel_rfl) (Post := fun v H => v = .bool A.off ∧ H = [diskA bd A]) (fun D hR => ?_) (fun v H h => ⟨H, h, Ent.refl _⟩)
  obtain ⟨room, bm, sts, wrs, pln, off, maps, arrs, files, stb, wl⟩ := D
  have hoff := hR.off
  simp only at hoff
  subst hoff
  refine Ctr.enter Try.func39 (by kernel_rfl) rfl Try.ntmps39 rfl rfl ?_
  intro G F R hE
  refine K_ent (disk_o _ _ _ _ _ _ _ _ _ _ _ _ _) ?_
  (refine go ?_)
  refine K_ent ((Ent.pick [0, 1, 2, 3, 4, 5] rfl).trans (disk_c _ _ _ _ _ _ _ _ _ _ _ _ _)) ?_
  refine K_ent (diskA_in hR _) ?_
  (first | refine K_return hE Try.func39 rfl _ rfl ⟨rfl, rfl⟩ entA | refine K_fallEnd hE Try.func39 rfl _ rfl ⟨rfl, rfl⟩ entA)
theorem New_dA (room : Nat) (h1 : 1 ≤ room) (h2 : room ≤ 1073741824) : Ctr Try.prog 7 [.int .i64 room] [] (fun v H => ∃ bd, v = .tuple #[ptr bd, .int .i64 0] ∧ H = [diskA bd (Ab.new room)]) :=
  (New_good room h1 h2).conv (Ent.refl _) (by rintro v H ⟨bd, D, hR, rfl, rfl⟩; exact ⟨_, ⟨bd, rfl, rfl⟩, diskA_in hR _⟩)
theorem Size_dA (bd : Nat) (A : Ab) (name : ByteArray) : Ctr Try.prog 40 [ptr bd, .string name] [diskA bd A] (fun v H => H = [diskA bd A] ∧ v = .tuple #[.int .i64 (A.size name).1, .int .i64 (A.size name).2]) :=
  ctr_disk (by kernel_rfl) (Post := fun v H => ∃ D, Rel D A ∧ H = [disk bd D] ∧ v = .tuple #[.int .i64 (A.size name).1, .int .i64 (A.size name).2]) (fun D hR => (Size_any bd D A hR name).conv (Ent.refl _) (by rintro v H ⟨rfl, rfl⟩; exact ⟨_, ⟨D, hR, rfl, rfl⟩, Ent.refl _⟩)) (by rintro v H ⟨D, hR, rfl, rfl⟩; exact ⟨_, ⟨rfl, rfl⟩, diskA_in hR _⟩)
theorem Read_dA (bd : Nat) (A : Ab) (name : ByteArray) (at_ n : Int) : Ctr Try.prog 41 [ptr bd, .string name, .int .i64 at_, .int .i64 n] [diskA bd A]
    (fun v H => ∃ r, H = [diskA bd A, slc 5 1 r (A.read name at_ n).1.length (bV (A.read name at_ n).1)] ∧ v = .tuple #[r, .int .i64 (A.read name at_ n).2]) :=
  ctr_disk (by kernel_rfl) (Post := fun v H => ∃ D r, Rel D A ∧ H = [slc 5 1 r (A.read name at_ n).1.length (bV (A.read name at_ n).1), disk bd D] ∧ v = .tuple #[r, .int .i64 (A.read name at_ n).2])
    (fun D hR => (Read_any bd D A hR name at_ n).conv (Ent.refl _) (by rintro v H ⟨r, rfl, rfl⟩; exact ⟨_, ⟨D, r, hR, rfl, rfl⟩, Ent.refl _⟩)) (by rintro v H ⟨D, r, hR, rfl, rfl⟩; exact ⟨_, ⟨r, rfl, rfl⟩, (Ent.pick [1, 0] rfl).trans (diskA_in hR _)⟩)
theorem Create_dA (bd : Nat) (A : Ab) (name : ByteArray) (hst : A.states.length ≤ 1000000000) : Ctr Try.prog 10 [ptr bd, .string name] [diskA bd A]
    (fun v H => ∃ f, f ∉ A.fs.map (·.1) ∧ H = [diskA bd (A.create (isName name) name f).2] ∧ v = .int .i64 (A.create (isName name) name f).1) :=
  ctr_disk (by kernel_rfl) (fun D hR => Create_any bd D A hR name hst) (by rintro v H ⟨f, D', hf, hR, rfl, rfl⟩; exact ⟨_, ⟨f, hf, rfl, rfl⟩, diskA_in hR _⟩)
theorem Remove_dA (bd : Nat) (A : Ab) (name : ByteArray) (hst : A.states.length ≤ 1000000000) : Ctr Try.prog 68 [ptr bd, .string name] [diskA bd A]
    (fun v H => H = [diskA bd (A.remove (isName name) name).2] ∧ v = .int .i64 (A.remove (isName name) name).1) :=
  ctr_disk (by kernel_rfl) (fun D hR => Remove_any bd D A hR name hst) (by rintro v H ⟨D', hR, rfl, rfl⟩; exact ⟨_, ⟨rfl, rfl⟩, diskA_in hR _⟩)
theorem Write_dA (bd : Nat) (A : Ab) (name : ByteArray) (at_ : Int) (X : HP) (bv : Value) (b : List UInt8) (hv : Vw X bv b.length (bV b)) (hwl : A.writes.length ≤ 1000000000) (hbl : b.length ≤ 1000000000) (hat : -9223372036854775808 ≤ at_ ∧ at_ ≤ 9223372036854775807) :
    Ctr Try.prog 12 [ptr bd, .string name, .int .i64 at_, bv] [diskA bd A, X]
      (fun v H => H = [diskA bd (A.write (mayW name at_ b) name at_.toNat b).2, X] ∧ v = .int .i64 (A.write (mayW name at_ b) name at_.toNat b).1) :=
  ctr_disk (by kernel_rfl) (fun D hR => Write_any bd D A hR name at_ X bv b hv hwl hbl hat) (by rintro v H ⟨D', hR, rfl, rfl⟩; exact ⟨_, ⟨rfl, rfl⟩, diskA_in hR _⟩)
theorem Sync_dA (bd : Nat) (A : Ab) (name : ByteArray) (hwl : A.writes.length ≤ 1000000000) : Ctr Try.prog 54 [ptr bd, .string name] [diskA bd A]
    (fun v H => H = [diskA bd (A.sync (isName name) name).2] ∧ v = .int .i64 (A.sync (isName name) name).1) :=
  ctr_disk (by kernel_rfl) (fun D hR => Sync_any bd D A hR name hwl) (by rintro v H ⟨D', hR, rfl, rfl⟩; exact ⟨_, ⟨rfl, rfl⟩, diskA_in hR _⟩)
theorem SyncNames_dA (bd : Nat) (A : Ab) : Ctr Try.prog 74 [ptr bd] [diskA bd A]
    (fun v H => H = [diskA bd A.syncNames.2] ∧ v = .int .i64 A.syncNames.1) :=
  ctr_disk (by kernel_rfl) (fun D hR => SyncNames_any bd D A hR) (by rintro v H ⟨D', hR, rfl, rfl⟩; exact ⟨_, ⟨rfl, rfl⟩, diskA_in hR _⟩)
theorem Rename_dA (bd : Nat) (A : Ab) (old name : ByteArray) (hst : A.states.length ≤ 1000000000) : Ctr Try.prog 73 [ptr bd, .string old, .string name] [diskA bd A]
    (fun v H => H = [diskA bd (A.rename ([old, name].all isName) old name).2] ∧ v = .int .i64 (A.rename ([old, name].all isName) old name).1) :=
  ctr_disk (by kernel_rfl) (fun D hR => Rename_any bd D A hR old name hst) (by rintro v H ⟨D', hR, rfl, rfl⟩; exact ⟨_, ⟨rfl, rfl⟩, diskA_in hR _⟩)
theorem Crash_dA (bd : Nat) (A : Ab) (last torn cut : Int) (X : HP) (bv : Value) (stay : List UInt8) (hv : Vw X bv stay.length (bV stay)) (hsl : stay.length ≤ 9223372036854775807) (hst : A.states.length ≤ 1000000000) (hwl : A.writes.length ≤ 1000000000)
    (h1 : -9223372036854775808 ≤ last ∧ last ≤ 9223372036854775807) (h2 : -9223372036854775808 ≤ torn ∧ torn ≤ 9223372036854775807) (h3 : -9223372036854775808 ≤ cut ∧ cut ≤ 9223372036854775807) :
    Ctr Try.prog 20 [ptr bd, .int .i64 last, bv, .int .i64 torn, .int .i64 cut] [diskA bd A, X] (fun v H => H = [diskA bd (A.crash last stay torn cut), X]) :=
  ctr_disk (by kernel_rfl) (fun D hR => Crash_any bd D A hR last torn cut X bv stay hv hsl hst hwl h1 h2 h3) (by rintro v H ⟨D', hR, rfl⟩; exact ⟨_, rfl, diskA_in hR _⟩)
end Go.Proofs.Ytpdmbmnhgcnelaa

/- journal, part g: the steps of put. -/
set_option linter.unusedVariables false
set_option linter.unusedSimpArgs false
namespace Go.Proofs.Ytpdmbmnhgcnelaa
open Go Go.SL
attribute [local irreducible] J K Ctr Ends pts slc mapR mapI sbRow stock arrS loopP CtrY diskA

theorem put1_any (bd jb xj xf xw xb : Nat) (name fresh : ByteArray) (wa ba : Option Addr) (wc bl bc : Nat) (whole : List UInt8) (br : Bool) (A : Ab) (n s c : Int) (hst : A.states.length ≤ 1000000000) :
    Ctr Try.prog 67 [ptr xj, ptr xf] ([diskA bd A, pts jb (cl [ptr bd, .string name, .int .i64 n, .int .i64 s, .int .i64 c, .bool br] 93), pts xj (cl [ptr jb] 36), pts xf (cl [.string fresh] 9), pts xw (cl [.slice wa whole.length wc] 22), pts xb (cl [.slice ba bl bc] 22), slc 5 1 (.slice wa whole.length wc) whole.length (bV whole)]) (fun r H => ∃ (e : Nat) (A1 : Ab), e = (A.remove (isName fresh) fresh).1 ∧ A1 = (A.remove (isName fresh) fresh).2 ∧ r = .int .i64 (e : Int) ∧ H = [diskA bd A1, pts jb (cl [ptr bd, .string name, .int .i64 n, .int .i64 s, .int .i64 c, .bool br] 93), pts xj (cl [ptr jb] 36), pts xf (cl [.string fresh] 9), pts xw (cl [.slice wa whole.length wc] 22), pts xb (cl [.slice ba bl bc] 22), slc 5 1 (.slice wa whole.length wc) whole.length (bV whole)]) := by
  refine Ctr.enter Try.func67 (by kernel_rfl) rfl Try.ntmps67 rfl rfl ?_
  intro G F R hE
  (refine go ?_)
  refine K_drawA (fun w => Sat G w ([pts jb (cl [ptr bd, .string name, .int .i64 n, .int .i64 s, .int .i64 c, .bool br] 93), pts xj (cl [ptr jb] 36), pts xf (cl [.string fresh] 9), pts xw (cl [.slice wa whole.length wc] 22), slc 5 1 (.slice wa whole.length wc) whole.length (bV whole)])) (.st 0 (.st 1 (.st 2 (.st 3 (.st 4 (.act 5 (.st 6 .nil))))))) rfl (by kernel_rfl) (by kernel_rfl) (by kernel_rfl) (fun w hw => hw.ent entA) ?_
  (refine go ?_)
  (first | refine J_callE rfl rfl rfl rfl (Remove_dA bd A fresh hst) entA ?_ (fun _ _ w hp hw => by obtain ⟨rfl, rfl⟩ := hp; exact hw.ent entA) | refine J_call0E rfl rfl rfl (Remove_dA bd A fresh hst) entA ?_ (fun _ _ w hp hw => by obtain ⟨rfl, rfl⟩ := hp; exact hw.ent entA))
  rintro _ _ ⟨rfl, rfl⟩
  (refine go ?_)
  (first | refine K_return hE Try.func67 rfl _ rfl ⟨_, _, rfl, rfl, rfl, rfl⟩ entA | refine K_fallEnd hE Try.func67 rfl _ rfl ⟨_, _, rfl, rfl, rfl, rfl⟩ entA)
theorem put2_any (bd jb xj xf xw xb : Nat) (name fresh : ByteArray) (wa ba : Option Addr) (wc bl bc : Nat) (whole : List UInt8) (br : Bool) (A : Ab) (n s c : Int) (hst : A.states.length ≤ 1000000000) :
    Ctr Try.prog 69 [ptr xj, ptr xf] ([diskA bd A, pts jb (cl [ptr bd, .string name, .int .i64 n, .int .i64 s, .int .i64 c, .bool br] 93), pts xj (cl [ptr jb] 36), pts xf (cl [.string fresh] 9), pts xw (cl [.slice wa whole.length wc] 22), pts xb (cl [.slice ba bl bc] 22), slc 5 1 (.slice wa whole.length wc) whole.length (bV whole)]) (fun r H => ∃ (e : Nat) (A1 : Ab), (∃ f, f ∉ A.fs.map (·.1) ∧ e = (A.create (isName fresh) fresh f).1 ∧ A1 = (A.create (isName fresh) fresh f).2) ∧ r = .int .i64 (e : Int) ∧ H = [diskA bd A1, pts jb (cl [ptr bd, .string name, .int .i64 n, .int .i64 s, .int .i64 c, .bool br] 93), pts xj (cl [ptr jb] 36), pts xf (cl [.string fresh] 9), pts xw (cl [.slice wa whole.length wc] 22), pts xb (cl [.slice ba bl bc] 22), slc 5 1 (.slice wa whole.length wc) whole.length (bV whole)]) := by
  refine Ctr.enter Try.func69 (by kernel_rfl) rfl Try.ntmps69 rfl rfl ?_
  intro G F R hE
  (refine go ?_)
  refine K_drawA (fun w => Sat G w ([pts jb (cl [ptr bd, .string name, .int .i64 n, .int .i64 s, .int .i64 c, .bool br] 93), pts xj (cl [ptr jb] 36), pts xf (cl [.string fresh] 9), pts xw (cl [.slice wa whole.length wc] 22), slc 5 1 (.slice wa whole.length wc) whole.length (bV whole)])) (.st 0 (.st 1 (.st 2 (.st 3 (.st 4 (.act 5 (.st 6 .nil))))))) rfl (by kernel_rfl) (by kernel_rfl) (by kernel_rfl) (fun w hw => hw.ent entA) ?_
  (refine go ?_)
  (first | refine J_callE rfl rfl rfl rfl (Create_dA bd A fresh hst) entA ?_ (fun _ _ w hp hw => by obtain ⟨_, _, rfl, _⟩ := hp; exact hw.ent entA) | refine J_call0E rfl rfl rfl (Create_dA bd A fresh hst) entA ?_ (fun _ _ w hp hw => by obtain ⟨_, _, rfl, _⟩ := hp; exact hw.ent entA))
  rintro _ _ ⟨f, hf, rfl, rfl⟩
  (refine go ?_)
  (first | refine K_return hE Try.func69 rfl _ rfl ⟨_, _, ⟨f, hf, rfl, rfl⟩, rfl, rfl⟩ entA | refine K_fallEnd hE Try.func69 rfl _ rfl ⟨_, _, ⟨f, hf, rfl, rfl⟩, rfl, rfl⟩ entA)
theorem put3_any (bd jb xj xf xw xb : Nat) (name fresh : ByteArray) (wa ba : Option Addr) (wc bl bc : Nat) (whole : List UInt8) (br : Bool) (A : Ab) (n s c : Int) (hwl : A.writes.length ≤ 1000000000) (hbl : whole.length ≤ 1000000000) :
    Ctr Try.prog 70 [ptr xj, ptr xf, ptr xw] ([diskA bd A, pts jb (cl [ptr bd, .string name, .int .i64 n, .int .i64 s, .int .i64 c, .bool br] 93), pts xj (cl [ptr jb] 36), pts xf (cl [.string fresh] 9), pts xw (cl [.slice wa whole.length wc] 22), pts xb (cl [.slice ba bl bc] 22), slc 5 1 (.slice wa whole.length wc) whole.length (bV whole)]) (fun r H => ∃ (e : Nat) (A1 : Ab), e = (A.write (mayW fresh 0 whole) fresh 0 whole).1 ∧ A1 = (A.write (mayW fresh 0 whole) fresh 0 whole).2 ∧ r = .int .i64 (e : Int) ∧ H = [diskA bd A1, pts jb (cl [ptr bd, .string name, .int .i64 n, .int .i64 s, .int .i64 c, .bool br] 93), pts xj (cl [ptr jb] 36), pts xf (cl [.string fresh] 9), pts xw (cl [.slice wa whole.length wc] 22), pts xb (cl [.slice ba bl bc] 22), slc 5 1 (.slice wa whole.length wc) whole.length (bV whole)]) := by
  refine Ctr.enter Try.func70 (by kernel_rfl) rfl Try.ntmps70 rfl rfl ?_
  intro G F R hE
  (refine go ?_)
  refine K_drawA (fun w => Sat G w ([pts jb (cl [ptr bd, .string name, .int .i64 n, .int .i64 s, .int .i64 c, .bool br] 93), pts xj (cl [ptr jb] 36), pts xf (cl [.string fresh] 9), pts xw (cl [.slice wa whole.length wc] 22), slc 5 1 (.slice wa whole.length wc) whole.length (bV whole)])) (.st 0 (.st 1 (.st 2 (.st 3 (.st 4 (.st 5 (.act 6 (.st 7 .nil)))))))) rfl (by kernel_rfl) (by kernel_rfl) (by kernel_rfl) (fun w hw => hw.ent entA) ?_
  (refine go ?_)
  refine J_slcVw 6 rfl ?_
  intro hvw
  (refine go ?_)
  refine J_isLoad ?_
  refine J_loadH (U := tab) 3 rfl rfl rfl rfl rfl rfl ?_
  (refine go ?_)
  (first | refine J_callE rfl rfl rfl rfl (Write_dA bd A fresh 0 _ _ whole hvw hwl hbl (by omega)) entA ?_ (fun _ _ w hp hw => by obtain ⟨rfl, rfl⟩ := hp; exact hw.ent entA) | refine J_call0E rfl rfl rfl (Write_dA bd A fresh 0 _ _ whole hvw hwl hbl (by omega)) entA ?_ (fun _ _ w hp hw => by obtain ⟨rfl, rfl⟩ := hp; exact hw.ent entA))
  rintro _ _ ⟨rfl, rfl⟩
  (refine go ?_)
  (first | refine K_return hE Try.func70 rfl _ rfl ⟨_, _, rfl, rfl, rfl, rfl⟩ entA | refine K_fallEnd hE Try.func70 rfl _ rfl ⟨_, _, rfl, rfl, rfl, rfl⟩ entA)
theorem put4_any (bd jb xj xf xw xb : Nat) (name fresh : ByteArray) (wa ba : Option Addr) (wc bl bc : Nat) (whole : List UInt8) (br : Bool) (A : Ab) (n s c : Int) (hwl : A.writes.length ≤ 1000000000) :
    Ctr Try.prog 71 [ptr xj, ptr xf] ([diskA bd A, pts jb (cl [ptr bd, .string name, .int .i64 n, .int .i64 s, .int .i64 c, .bool br] 93), pts xj (cl [ptr jb] 36), pts xf (cl [.string fresh] 9), pts xw (cl [.slice wa whole.length wc] 22), pts xb (cl [.slice ba bl bc] 22), slc 5 1 (.slice wa whole.length wc) whole.length (bV whole)]) (fun r H => ∃ (e : Nat) (A1 : Ab), e = (A.sync (isName fresh) fresh).1 ∧ A1 = (A.sync (isName fresh) fresh).2 ∧ r = .int .i64 (e : Int) ∧ H = [diskA bd A1, pts jb (cl [ptr bd, .string name, .int .i64 n, .int .i64 s, .int .i64 c, .bool br] 93), pts xj (cl [ptr jb] 36), pts xf (cl [.string fresh] 9), pts xw (cl [.slice wa whole.length wc] 22), pts xb (cl [.slice ba bl bc] 22), slc 5 1 (.slice wa whole.length wc) whole.length (bV whole)]) := by
  refine Ctr.enter Try.func71 (by kernel_rfl) rfl Try.ntmps71 rfl rfl ?_
  intro G F R hE
  (refine go ?_)
  refine K_drawA (fun w => Sat G w ([pts jb (cl [ptr bd, .string name, .int .i64 n, .int .i64 s, .int .i64 c, .bool br] 93), pts xj (cl [ptr jb] 36), pts xf (cl [.string fresh] 9), pts xw (cl [.slice wa whole.length wc] 22), slc 5 1 (.slice wa whole.length wc) whole.length (bV whole)])) (.st 0 (.st 1 (.st 2 (.st 3 (.st 4 (.act 5 (.st 6 .nil))))))) rfl (by kernel_rfl) (by kernel_rfl) (by kernel_rfl) (fun w hw => hw.ent entA) ?_
  (refine go ?_)
  (first | refine J_callE rfl rfl rfl rfl (Sync_dA bd A fresh hwl) entA ?_ (fun _ _ w hp hw => by obtain ⟨rfl, rfl⟩ := hp; exact hw.ent entA) | refine J_call0E rfl rfl rfl (Sync_dA bd A fresh hwl) entA ?_ (fun _ _ w hp hw => by obtain ⟨rfl, rfl⟩ := hp; exact hw.ent entA))
  rintro _ _ ⟨rfl, rfl⟩
  (refine go ?_)
  (first | refine K_return hE Try.func71 rfl _ rfl ⟨_, _, rfl, rfl, rfl, rfl⟩ entA | refine K_fallEnd hE Try.func71 rfl _ rfl ⟨_, _, rfl, rfl, rfl, rfl⟩ entA)
theorem put5_any (bd jb xj xf xw xb : Nat) (name fresh : ByteArray) (wa ba : Option Addr) (wc bl bc : Nat) (whole : List UInt8) (br : Bool) (A : Ab) (n s c : Int) (hst : A.states.length ≤ 1000000000) :
    Ctr Try.prog 72 [ptr xj, ptr xf] ([diskA bd A, pts jb (cl [ptr bd, .string name, .int .i64 n, .int .i64 s, .int .i64 c, .bool br] 93), pts xj (cl [ptr jb] 36), pts xf (cl [.string fresh] 9), pts xw (cl [.slice wa whole.length wc] 22), pts xb (cl [.slice ba bl bc] 22), slc 5 1 (.slice wa whole.length wc) whole.length (bV whole)]) (fun r H => ∃ (e : Nat) (A1 : Ab), e = (A.rename ([fresh, name].all isName) fresh name).1 ∧ A1 = (A.rename ([fresh, name].all isName) fresh name).2 ∧ r = .int .i64 (e : Int) ∧ H = [diskA bd A1, pts jb (cl [ptr bd, .string name, .int .i64 n, .int .i64 s, .int .i64 c, .bool br] 93), pts xj (cl [ptr jb] 36), pts xf (cl [.string fresh] 9), pts xw (cl [.slice wa whole.length wc] 22), pts xb (cl [.slice ba bl bc] 22), slc 5 1 (.slice wa whole.length wc) whole.length (bV whole)]) := by
  refine Ctr.enter Try.func72 (by kernel_rfl) rfl Try.ntmps72 rfl rfl ?_
  intro G F R hE
  (refine go ?_)
  refine K_drawA (fun w => Sat G w ([pts jb (cl [ptr bd, .string name, .int .i64 n, .int .i64 s, .int .i64 c, .bool br] 93), pts xj (cl [ptr jb] 36), pts xf (cl [.string fresh] 9), pts xw (cl [.slice wa whole.length wc] 22), slc 5 1 (.slice wa whole.length wc) whole.length (bV whole)])) (.st 0 (.st 1 (.st 2 (.st 3 (.st 4 (.st 5 (.st 6 (.st 7 (.st 8 (.act 9 (.st 10 .nil))))))))))) rfl (by kernel_rfl) (by kernel_rfl) (by kernel_rfl) (fun w hw => hw.ent entA) ?_
  (refine go ?_)
  (first | refine J_callE rfl rfl rfl rfl (Rename_dA bd A fresh name hst) entA ?_ (fun _ _ w hp hw => by obtain ⟨rfl, rfl⟩ := hp; exact hw.ent entA) | refine J_call0E rfl rfl rfl (Rename_dA bd A fresh name hst) entA ?_ (fun _ _ w hp hw => by obtain ⟨rfl, rfl⟩ := hp; exact hw.ent entA))
  rintro _ _ ⟨rfl, rfl⟩
  (refine go ?_)
  (first | refine K_return hE Try.func72 rfl _ rfl ⟨_, _, rfl, rfl, rfl, rfl⟩ entA | refine K_fallEnd hE Try.func72 rfl _ rfl ⟨_, _, rfl, rfl, rfl, rfl⟩ entA)
theorem put6_any (bd jb xj xf xw xb : Nat) (name fresh : ByteArray) (wa ba : Option Addr) (wc bl bc : Nat) (whole : List UInt8) (br : Bool) (A : Ab) (n s c : Int) :
    Ctr Try.prog 75 [ptr xb, ptr xj] ([diskA bd A, pts jb (cl [ptr bd, .string name, .int .i64 n, .int .i64 s, .int .i64 c, .bool br] 93), pts xj (cl [ptr jb] 36), pts xf (cl [.string fresh] 9), pts xw (cl [.slice wa whole.length wc] 22), pts xb (cl [.slice ba bl bc] 22), slc 5 1 (.slice wa whole.length wc) whole.length (bV whole)]) (fun r H => r = .int .i64 0 ∧ H = [diskA bd A, pts jb (cl [ptr bd, .string name, .int .i64 1, .int .i64 (bl : Int), .int .i64 (bl : Int), .bool br] 93), pts xj (cl [ptr jb] 36), pts xf (cl [.string fresh] 9), pts xw (cl [.slice wa whole.length wc] 22), pts xb (cl [.slice ba bl bc] 22), slc 5 1 (.slice wa whole.length wc) whole.length (bV whole)]) := by
  refine Ctr.enter Try.func75 (by kernel_rfl) rfl Try.ntmps75 rfl rfl ?_
  intro G F R hE
  (refine go ?_)
  refine K_drawA (fun w => Sat G w ([pts xj (cl [ptr jb] 36), pts xb (cl [.slice ba bl bc] 22)])) (.st 0 (.st 1 (.st 2 (.st 3 (.st 4 (.st 5 (.st 6 (.st 7 (.st 8 (.act 9 (.st 10 (.st 11 (.act 12 (.st 13 (.st 14 (.act 15 .nil)))))))))))))))) rfl (by kernel_rfl) (by kernel_rfl) (by kernel_rfl) (fun w hw => hw.ent entA) ?_
  (refine go ?_)
  refine J_isStore ?_
  refine J_store (U := tab) 1 (fun w hw => by exact hw.ent entA) rfl rfl rfl rfl rfl rfl rfl rfl rfl ?_
  (refine go ?_)
  refine J_isStore ?_
  refine J_store (U := tab) 1 (fun w hw => by exact hw.ent entA) rfl rfl rfl rfl rfl rfl rfl rfl rfl ?_
  (refine go ?_)
  (first | refine K_return hE Try.func75 rfl _ rfl ⟨rfl, rfl⟩ entA | refine K_fallEnd hE Try.func75 rfl _ rfl ⟨rfl, rfl⟩ entA)
end Go.Proofs.Ytpdmbmnhgcnelaa

/- journal, part h0 (plain): the steps of put as a relation; how a disk's lists grow. -/
set_option linter.unusedVariables false
set_option linter.unusedSimpArgs false
namespace Go.Proofs.Ytpdmbmnhgcnelaa
open Go Go.SL

theorem slc_BAt {e : TypeId} {v : Value} {bs : List UInt8} (h0 : ∃ h, slc e 1 v bs.length (bV bs) h) : BAt (slc e 1 v bs.length (bV bs)) v bs := by
  refine ⟨Vw.of_slc e 1 v bs.length (bV bs) h0, ?_⟩
  obtain ⟨h, hl, ⟨a, rfl, hn, _⟩ | ⟨b, o, cap, pre, junk, rfl, hp, hn, hc, _⟩⟩ := h0
  · exact ⟨a, 0, by rw [hn], by omega⟩
  · exact ⟨_, cap, rfl, hn⟩
section
variable {P : Program} {f : FuncId} {n : Nat} {R : Ending → World → Prop} {G : Glob} {k : List Item} {L : Lst} {H : List HP} {S : World → Prop} {all : Array Oper} {rest : Pl}
theorem J_slcB {e : TypeId} {v : Value} {bs : List UInt8} (i : Nat) (hi : getL H i = some (slc e 1 v bs.length (bV bs))) (h : BAt (slc e 1 v bs.length (bV bs)) v bs → J P f n R G S all rest k L H) : J P f n R G S all rest k L H :=
  J_sat fun w hw => by
    obtain ⟨h1, _, hA⟩ := hw.getA hi
    exact h (slc_BAt ⟨h1, hA⟩)
theorem K_slcB {e : TypeId} {v : Value} {bs : List UInt8} (i : Nat) (hi : getL H i = some (slc e 1 v bs.length (bV bs))) (h : BAt (slc e 1 v bs.length (bV bs)) v bs → K P f n R G k L H) : K P f n R G k L H :=
  K_sat fun ⟨w, hw⟩ => by
    obtain ⟨h1, _, hA⟩ := hw.getA hi
    exact h (slc_BAt ⟨h1, hA⟩)
end
theorem Sep_get {H : List HP} {i : Nat} {A : HP} (hi : getL H i = some A) : ∀ h, Sep H h → ∃ h', sub h' h ∧ A h' := fun h hs => by
  rw [getL_eq] at hi
  obtain ⟨h', hs', hA⟩ := Ent.perm (perm_of_get hi) h hs
  obtain ⟨h1, h2, ha, _, hd, hj⟩ := hA
  refine ⟨h1, fun b o hb => ?_, ha⟩
  refine hs' b o ?_
  rw [hj b, hb]; rfl

/-- A grew into B by one at most. -/
def Grow1 (A B : Ab) : Prop := B.states.length ≤ A.states.length + 1 ∧ B.writes.length ≤ A.writes.length + 1
theorem grow_find (A : Ab) (n : ByteArray) (ok : Bool) : (A.find n ok).2.2.states.length = A.states.length ∧ (A.find n ok).2.2.writes.length = A.writes.length := by
  have h := find_same A n ok
  rw [h.2.2.1, h.2.2.2.1]; exact ⟨rfl, rfl⟩
theorem grow_meet (A : Ab) (ok : Bool) : (A.meet ok).2.states.length = A.states.length ∧ (A.meet ok).2.writes.length = A.writes.length := by
  unfold Ab.meet
  split
  · exact ⟨rfl, rfl⟩
  split
  · exact ⟨rfl, rfl⟩
  split
  · exact ⟨rfl, rfl⟩
  · split
    · exact ⟨rfl, rfl⟩
    split <;> exact ⟨rfl, rfl⟩
theorem grow_remove (A : Ab) (ok : Bool) (n : ByteArray) : Grow1 A (A.remove ok n).2 := by
  have h := grow_find A n ok
  unfold Ab.remove
  split
  · rename_i f A1 he
    rw [he] at h
    simp only at h
    constructor <;> simp [Ab.chg] <;> omega
  · rename_i e o A1 _ he
    rw [he] at h
    simp only at h
    constructor <;> simp only <;> omega
theorem grow_rename (A : Ab) (ok : Bool) (o n : ByteArray) : Grow1 A (A.rename ok o n).2 := by
  have h := grow_find A o ok
  unfold Ab.rename
  split
  · rename_i f A1 he
    rw [he] at h
    simp only at h
    constructor <;> simp [Ab.chg] <;> omega
  · rename_i e o A1 _ he
    rw [he] at h
    simp only at h
    constructor <;> simp only <;> omega
theorem grow_create (A : Ab) (ok : Bool) (n : ByteArray) (f : Nat) : Grow1 A (A.create ok n f).2 := by
  have h := grow_meet A ok
  unfold Ab.create
  split
  · split
    · constructor <;> simp only <;> omega
    split
    · constructor <;> simp only <;> omega
    · constructor <;> simp [Ab.chg] <;> omega
  · constructor <;> simp only <;> omega
theorem grow_write (A : Ab) (ok : Bool) (n : ByteArray) (at_ : Nat) (b : List UInt8) : Grow1 A (A.write ok n at_ b).2 := by
  have h := grow_find A n ok
  unfold Ab.write
  split
  · split
    · split
      · constructor <;> simp only <;> omega
      · constructor <;> simp <;> omega
    · constructor <;> simp only <;> omega
  · constructor <;> simp only <;> omega
theorem grow_sync (A : Ab) (ok : Bool) (n : ByteArray) : Grow1 A (A.sync ok n).2 := by
  have h := grow_find A n ok
  unfold Ab.sync
  split
  · split
    · constructor
      · simp only; omega
      · simp only
        refine Nat.le_trans (List.length_filter_le _ _) ?_
        omega
    · constructor <;> simp only <;> omega
  · constructor <;> simp only <;> omega
theorem grow_syncNames (A : Ab) : Grow1 A A.syncNames.2 := by
  have h := grow_meet A true
  unfold Ab.syncNames
  split
  · constructor <;> simp only [List.length_singleton] <;> omega
  · constructor <;> simp only <;> omega
/-- The state that the steps of put change: the disk, the number, the size, what counts. -/
abbrev PS := Ab × Int × Int × Int
def onA (g : Ab → Nat → Ab → Prop) (x : PS) (e : Nat) (y : PS) : Prop := g x.1 e y.1 ∧ y.2 = x.2
def sRemove (fresh : ByteArray) := onA fun A e B => e = (A.remove (isName fresh) fresh).1 ∧ B = (A.remove (isName fresh) fresh).2
def sCreate (fresh : ByteArray) := onA fun A e B => ∃ f, f ∉ A.fs.map (·.1) ∧ e = (A.create (isName fresh) fresh f).1 ∧ B = (A.create (isName fresh) fresh f).2
def sWrite (fresh : ByteArray) (whole : List UInt8) := onA fun A e B => e = (A.write (mayW fresh 0 whole) fresh 0 whole).1 ∧ B = (A.write (mayW fresh 0 whole) fresh 0 whole).2
def sSync (fresh : ByteArray) := onA fun A e B => e = (A.sync (isName fresh) fresh).1 ∧ B = (A.sync (isName fresh) fresh).2
def sRename (fresh name : ByteArray) := onA fun A e B => e = (A.rename ([fresh, name].all isName) fresh name).1 ∧ B = (A.rename ([fresh, name].all isName) fresh name).2
def sNames := onA fun A e B => e = A.syncNames.1 ∧ B = A.syncNames.2
def sSet (bl : Nat) (x : PS) (e : Nat) (y : PS) : Prop := e = 0 ∧ y = (x.1, 1, (bl : Int), (bl : Int))
def freshOf (name : ByteArray) : ByteArray := name ++ ⟨#[46, 110, 101, 119]⟩
def wholeOf (ls : List (List UInt8)) : List UInt8 := List.replicate 16 0 ++ headL 1 (ls.flatMap encL).length ++ ls.flatMap encL
def putSteps (name : ByteArray) (ls : List (List UInt8)) (A : Ab) : List (PS → Nat → PS → Prop) :=
  (if (A.size (freshOf name)).2 = 0 then [sRemove (freshOf name)] else []) ++
  [sCreate (freshOf name), sWrite (freshOf name) (wholeOf ls), sSync (freshOf name), sRename (freshOf name) name, sNames, sSet (ls.flatMap encL).length]
/-- What put does. -/
def PutR (name : ByteArray) (ls : List (List UInt8)) (x : PS) (e : Nat) (y : PS) : Prop := Runs (putSteps name ls x.1) x e y
end Go.Proofs.Ytpdmbmnhgcnelaa

/- journal, part g2: the steps of put, as all does them. -/
set_option linter.unusedVariables false
set_option linter.unusedSimpArgs false
namespace Go.Proofs.Ytpdmbmnhgcnelaa
open Go Go.SL
attribute [local irreducible] J K Ctr Ends pts slc mapR mapI sbRow stock arrS loopP CtrY diskA

theorem _root_.Go.SL.Ent.unsep1 (l : List HP) : Ent [Sep l] l := by have := Ent.unsep l []; rwa [List.append_nil] at this
theorem _root_.Go.SL.Ent.resep1 (l : List HP) : Ent l [Sep l] := by have := Ent.resep l []; rwa [List.append_nil] at this
def PI (bd jb xj xf xw xb : Nat) (name fresh : ByteArray) (wa ba : Option Addr) (wc bl bc : Nat) (whole : List UInt8) (br : Bool) (x : PS) : HP := Sep [diskA bd x.1, pts jb (cl [ptr bd, .string name, .int .i64 x.2.1, .int .i64 x.2.2.1, .int .i64 x.2.2.2, .bool br] 93), pts xj (cl [ptr jb] 36), pts xf (cl [.string fresh] 9), pts xw (cl [.slice wa whole.length wc] 22), pts xb (cl [.slice ba bl bc] 22), slc 5 1 (.slice wa whole.length wc) whole.length (bV whole)]
def PQ (i : Nat) (x : PS) : Prop := x.1.states.length ≤ 900000000 + i ∧ x.1.writes.length ≤ 900000000 + i
theorem PQ.next {i : Nat} {x : PS} (h : PQ i x) {B : Ab} (g : Grow1 x.1 B) : PQ (i + 1) (B, x.2) := by
  obtain ⟨h1, h2⟩ := h
  obtain ⟨g1, g2⟩ := g
  exact ⟨by simp only; omega, by simp only; omega⟩
end Go.Proofs.Ytpdmbmnhgcnelaa
namespace Go.Proofs.Ytpdmbmnhgcnelaa
open Go Go.SL
theorem ctr_frame {P : Program} {f : FuncId} {args : List Value} {Pre : List HP} {Post : Value → List HP → Prop} (X : List HP) (c : Ctr P f args Pre Post) : Ctr P f args (Pre ++ X) (fun v H => ∃ H', Post v H' ∧ H = H' ++ X) :=
  ⟨c.1, fun G w F hw => (c.2 G w (X ++ F) (by rw [List.append_assoc] at hw; exact hw)).mono fun e w' h' => let ⟨v, H, he, hpo, hs⟩ := h'; ⟨v, H ++ X, he, ⟨H, hpo, rfl⟩, by rw [List.append_assoc]; exact hs⟩⟩
attribute [local irreducible] J K Ctr Ends pts slc mapR mapI sbRow stock arrS loopP CtrY diskA
theorem put1_I (bd jb xj xf xw xb : Nat) (name fresh : ByteArray) (wa ba : Option Addr) (wc bl bc : Nat) (whole : List UInt8) (br : Bool) (i : Nat) (hi : i ≤ 10) (x : PS) (hq : PQ i x) :
    Ctr Try.prog 67 [ptr xj, ptr xf] [PI bd jb xj xf xw xb name fresh wa ba wc bl bc whole br x] (fun r H => ∃ (e : Nat) (x' : PS), r = .int .i64 (e : Int) ∧ H = [PI bd jb xj xf xw xb name fresh wa ba wc bl bc whole br x'] ∧ sRemove fresh x e x' ∧ (e = 0 → PQ (i + 1) x')) :=
  (put1_any bd jb xj xf xw xb name fresh wa ba wc bl bc whole br x.1 x.2.1 x.2.2.1 x.2.2.2 (by have := hq.1; omega)).conv (Ent.unsep1 _) (by
    rintro v H ⟨e, A1, he, hA1, rfl, rfl⟩
    exact ⟨_, ⟨_, (A1, x.2), rfl, rfl, ⟨⟨he, hA1⟩, rfl⟩, fun _ => hq.next (hA1 ▸ grow_remove _ _ _)⟩, Ent.resep1 _⟩)
theorem put2_I (bd jb xj xf xw xb : Nat) (name fresh : ByteArray) (wa ba : Option Addr) (wc bl bc : Nat) (whole : List UInt8) (br : Bool) (i : Nat) (hi : i ≤ 10) (x : PS) (hq : PQ i x) :
    Ctr Try.prog 69 [ptr xj, ptr xf] [PI bd jb xj xf xw xb name fresh wa ba wc bl bc whole br x] (fun r H => ∃ (e : Nat) (x' : PS), r = .int .i64 (e : Int) ∧ H = [PI bd jb xj xf xw xb name fresh wa ba wc bl bc whole br x'] ∧ sCreate fresh x e x' ∧ (e = 0 → PQ (i + 1) x')) :=
  (put2_any bd jb xj xf xw xb name fresh wa ba wc bl bc whole br x.1 x.2.1 x.2.2.1 x.2.2.2 (by have := hq.1; omega)).conv (Ent.unsep1 _) (by
    rintro v H ⟨e, A1, ⟨f, hf, he, hA1⟩, rfl, rfl⟩
    exact ⟨_, ⟨_, (A1, x.2), rfl, rfl, ⟨⟨f, hf, he, hA1⟩, rfl⟩, fun _ => hq.next (hA1 ▸ grow_create _ _ _ _)⟩, Ent.resep1 _⟩)
theorem put3_I (bd jb xj xf xw xb : Nat) (name fresh : ByteArray) (wa ba : Option Addr) (wc bl bc : Nat) (whole : List UInt8) (br : Bool) (i : Nat) (hi : i ≤ 10) (hbl : whole.length ≤ 1000000000) (x : PS) (hq : PQ i x) :
    Ctr Try.prog 70 [ptr xj, ptr xf, ptr xw] [PI bd jb xj xf xw xb name fresh wa ba wc bl bc whole br x] (fun r H => ∃ (e : Nat) (x' : PS), r = .int .i64 (e : Int) ∧ H = [PI bd jb xj xf xw xb name fresh wa ba wc bl bc whole br x'] ∧ sWrite fresh whole x e x' ∧ (e = 0 → PQ (i + 1) x')) :=
  (put3_any bd jb xj xf xw xb name fresh wa ba wc bl bc whole br x.1 x.2.1 x.2.2.1 x.2.2.2 (by have := hq.2; omega) hbl).conv (Ent.unsep1 _) (by
    rintro v H ⟨e, A1, he, hA1, rfl, rfl⟩
    exact ⟨_, ⟨_, (A1, x.2), rfl, rfl, ⟨⟨he, hA1⟩, rfl⟩, fun _ => hq.next (hA1 ▸ grow_write _ _ _ _ _)⟩, Ent.resep1 _⟩)
theorem put4_I (bd jb xj xf xw xb : Nat) (name fresh : ByteArray) (wa ba : Option Addr) (wc bl bc : Nat) (whole : List UInt8) (br : Bool) (i : Nat) (hi : i ≤ 10) (x : PS) (hq : PQ i x) :
    Ctr Try.prog 71 [ptr xj, ptr xf] [PI bd jb xj xf xw xb name fresh wa ba wc bl bc whole br x] (fun r H => ∃ (e : Nat) (x' : PS), r = .int .i64 (e : Int) ∧ H = [PI bd jb xj xf xw xb name fresh wa ba wc bl bc whole br x'] ∧ sSync fresh x e x' ∧ (e = 0 → PQ (i + 1) x')) :=
  (put4_any bd jb xj xf xw xb name fresh wa ba wc bl bc whole br x.1 x.2.1 x.2.2.1 x.2.2.2 (by have := hq.2; omega)).conv (Ent.unsep1 _) (by
    rintro v H ⟨e, A1, he, hA1, rfl, rfl⟩
    exact ⟨_, ⟨_, (A1, x.2), rfl, rfl, ⟨⟨he, hA1⟩, rfl⟩, fun _ => hq.next (hA1 ▸ grow_sync _ _ _)⟩, Ent.resep1 _⟩)
theorem put5_I (bd jb xj xf xw xb : Nat) (name fresh : ByteArray) (wa ba : Option Addr) (wc bl bc : Nat) (whole : List UInt8) (br : Bool) (i : Nat) (hi : i ≤ 10) (x : PS) (hq : PQ i x) :
    Ctr Try.prog 72 [ptr xj, ptr xf] [PI bd jb xj xf xw xb name fresh wa ba wc bl bc whole br x] (fun r H => ∃ (e : Nat) (x' : PS), r = .int .i64 (e : Int) ∧ H = [PI bd jb xj xf xw xb name fresh wa ba wc bl bc whole br x'] ∧ sRename fresh name x e x' ∧ (e = 0 → PQ (i + 1) x')) :=
  (put5_any bd jb xj xf xw xb name fresh wa ba wc bl bc whole br x.1 x.2.1 x.2.2.1 x.2.2.2 (by have := hq.1; omega)).conv (Ent.unsep1 _) (by
    rintro v H ⟨e, A1, he, hA1, rfl, rfl⟩
    exact ⟨_, ⟨_, (A1, x.2), rfl, rfl, ⟨⟨he, hA1⟩, rfl⟩, fun _ => hq.next (hA1 ▸ grow_rename _ _ _ _)⟩, Ent.resep1 _⟩)
theorem putN_I (bd jb xj xf xw xb : Nat) (name fresh : ByteArray) (wa ba : Option Addr) (wc bl bc : Nat) (whole : List UInt8) (br : Bool) (i : Nat) (x : PS) (hq : PQ i x) :
    Ctr Try.prog 74 [ptr bd] [PI bd jb xj xf xw xb name fresh wa ba wc bl bc whole br x] (fun r H => ∃ (e : Nat) (x' : PS), r = .int .i64 (e : Int) ∧ H = [PI bd jb xj xf xw xb name fresh wa ba wc bl bc whole br x'] ∧ sNames x e x' ∧ (e = 0 → PQ (i + 1) x')) :=
  (ctr_frame ([diskA bd x.1, pts jb (cl [ptr bd, .string name, .int .i64 x.2.1, .int .i64 x.2.2.1, .int .i64 x.2.2.2, .bool br] 93), pts xj (cl [ptr jb] 36), pts xf (cl [.string fresh] 9), pts xw (cl [.slice wa whole.length wc] 22), pts xb (cl [.slice ba bl bc] 22), slc 5 1 (.slice wa whole.length wc) whole.length (bV whole)].drop 1) (SyncNames_dA bd x.1)).conv (Ent.unsep1 _) (by
    rintro v H ⟨_, ⟨rfl, rfl⟩, rfl⟩
    exact ⟨_, ⟨_, (x.1.syncNames.2, x.2), rfl, rfl, ⟨⟨rfl, rfl⟩, rfl⟩, fun _ => hq.next (grow_syncNames _)⟩, Ent.resep1 _⟩)
theorem put6_I (bd jb xj xf xw xb : Nat) (name fresh : ByteArray) (wa ba : Option Addr) (wc bl bc : Nat) (whole : List UInt8) (br : Bool) (i : Nat) (x : PS) (hq : PQ i x) :
    Ctr Try.prog 75 [ptr xb, ptr xj] [PI bd jb xj xf xw xb name fresh wa ba wc bl bc whole br x] (fun r H => ∃ (e : Nat) (x' : PS), r = .int .i64 (e : Int) ∧ H = [PI bd jb xj xf xw xb name fresh wa ba wc bl bc whole br x'] ∧ sSet bl x e x' ∧ (e = 0 → PQ (i + 1) x')) :=
  (put6_any bd jb xj xf xw xb name fresh wa ba wc bl bc whole br x.1 x.2.1 x.2.2.1 x.2.2.2).conv (Ent.unsep1 _) (by
    rintro v H ⟨rfl, rfl⟩
    exact ⟨_, ⟨0, (x.1, 1, (bl : Int), (bl : Int)), rfl, rfl, ⟨rfl, rfl⟩, fun _ => ⟨by have := hq.1; simp only; omega, by have := hq.2; simp only; omega⟩⟩, Ent.resep1 _⟩)
end Go.Proofs.Ytpdmbmnhgcnelaa
