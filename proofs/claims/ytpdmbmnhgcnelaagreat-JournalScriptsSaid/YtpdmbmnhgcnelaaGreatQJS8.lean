/- Texts of one claim, joined: Jg, Jh, Ji, Jj, Jk0, Jk. -/
import Derived.Test.YtpdmbmnhgcnelaaGreatQJS4
import Derived.Test.YtpdmbmnhgcnelaaGreatQJS5
import Derived.Test.YtpdmbmnhgcnelaaGreatQJS6
import Derived.Test.YtpdmbmnhgcnelaaGreatQJS7
/- journal, part f: all. -/
set_option linter.unusedVariables false
set_option linter.unusedSimpArgs false
namespace Go.Proofs.YtpdmbmnhgcnelaaGreat
open Go Go.SL
attribute [local irreducible] J K Ctr Ends pts slc mapR mapI sbRow stock arrS loopP CtrY

/-- Steps, as long as they are OK. -/
def Runs {σ : Type} : List (σ → Nat → σ → Prop) → σ → Nat → σ → Prop
  | [], x, e, y => e = 0 ∧ y = x
  | s :: ss, x, e, y => ∃ e1 x1, s x e1 x1 ∧ ((e1 ≠ 0 ∧ e = e1 ∧ y = x1) ∨ (e1 = 0 ∧ Runs ss x1 e y))
theorem all_any {σ : Type} (I : σ → HP) (V : HP) (v : Value) (fvs : List Value) (hv : Vw V v fvs.length fvs) (hn : fvs.length ≤ 1000000000) (ss : List (σ → Nat → σ → Prop)) (hlen : ss.length = fvs.length) (Q : Nat → σ → Prop)
    (hst : ∀ (i : Nat) (fv : Value) (s : σ → Nat → σ → Prop), fvs[i]? = some fv → ss[i]? = some s → ∃ g fi cap, fv = .func (.func g) fi cap ∧ ∀ x, Q i x → Ctr Tryz.prog g (fi.toList ++ cap.toList) [I x] (fun r H => ∃ (e : Nat) (x' : σ), r = .int .i64 (e : Int) ∧ H = [I x'] ∧ s x e x' ∧ (e = 0 → Q (i + 1) x')))
    (x0 : σ) (hQ : Q 0 x0) :
    Ctr Tryz.prog 58 [v] [V, I x0] (fun r H => ∃ (e : Nat) (x' : σ), r = .int .i64 (e : Int) ∧ H = [V, I x'] ∧ Runs ss x0 e x') := by
  obtain ⟨a, c, rfl⟩ := hv.shape
  refine Ctr.enter Tryz.func58 (by kernel_rfl) rfl Tryz.ntmps58 rfl rfl ?_
  intro G F R hE
  (refine go ?_)
  refine K_loop (fun y : Nat × σ => y.1 ≤ fvs.length ∧ Q y.1 y.2 ∧ ∀ e x', Runs (ss.drop y.1) y.2 e x' → Runs ss x0 e x') (fun y => fvs.length - y.1)
    (fun y => [(0, .slice a fvs.length c), (6, .slice a fvs.length c), (7, .int .i64 (fvs.length : Int)), (8, .int .i64 (y.1 : Int))])
    (fun y => V :: I y.2 :: F) (0, x0) ⟨Nat.zero_le _, hQ, fun _ _ h => h⟩ rfl (by repeat (first | exact keep_nil | refine keep_cons rfl ?_)) entA ?_
  rintro ⟨i, x⟩ ⟨hi, hq, hr⟩ ih
  simp only at hi hq hr
  (refine go ?_)
  refine K_condP rfl rfl ?_ ?_
  · intro hlt
    simp only at hlt
    have hil : i < fvs.length := by omega
    obtain ⟨fv, hfv⟩ : ∃ fv, fvs[i]? = some fv := ⟨fvs[i], List.getElem?_eq_getElem hil⟩
    obtain ⟨s, hs⟩ : ∃ s, ss[i]? = some s := ⟨ss[i], List.getElem?_eq_getElem (by omega)⟩
    obtain ⟨g, fi, cap, rfl, hc⟩ := hst i fv s hfv hs
    have hdrop : ss.drop i = s :: ss.drop (i + 1) := by
      rw [List.drop_eq_getElem_cons (by omega)]
      congr 1
      have := List.getElem?_eq_some_iff.1 hs
      exact this.2
    obtain ⟨b0, o0, c0, he0⟩ := hv.some (by intro h; rw [h] at hil; simp at hil)
    simp only [Value.slice.injEq] at he0
    obtain ⟨rfl, -, rfl⟩ := he0
    (refine go ?_)
    refine J_at1 (U := tab) i rfl rfl rfl rfl rfl rfl rfl rfl hil ?_
    refine J_loadAt (U := tab) 0 i rfl rfl rfl hv rfl hfv rfl rfl ?_
    (refine go ?_)
    refine J_callF rfl rfl rfl (by simp) (hc x hq) entA ?_ (fun _ _ _ _ _ => trivial)
    rintro _ _ ⟨e, x', rfl, rfl, hsx, hq'⟩
    (refine go ?_)
    refine K_condP rfl rfl ?_ ?_
    · intro hne
      have he : e ≠ 0 := by omega
      (refine go ?_)
      (first | refine K_return hE Tryz.func58 rfl _ rfl ⟨e, x', rfl, rfl, hr e x' (by rw [hdrop]; exact ⟨e, x', hsx, .inl ⟨he, rfl, rfl⟩⟩)⟩ entA | refine K_fallEnd hE Tryz.func58 rfl _ rfl ⟨e, x', rfl, rfl, hr e x' (by rw [hdrop]; exact ⟨e, x', hsx, .inl ⟨he, rfl, rfl⟩⟩)⟩ entA)
    · intro heq
      have he : e = 0 := by omega
      (refine go ?_)
      refine K_again ih (i + 1, x') rfl (⟨by simp only; omega, hq' he, fun e2 x2 h2 => hr e2 x2 (by rw [hdrop]; exact ⟨e, x', hsx, .inr ⟨he, h2⟩⟩)⟩) (by simp only; omega) (by repeat (first | exact keep_nil | refine keep_cons rfl ?_)) entA
  · intro hge
    simp only at hge
    have hi' : i = fvs.length := by omega
    subst hi'
    (refine go ?_)
    (first | refine K_return hE Tryz.func58 rfl _ rfl ⟨0, x, rfl, rfl, hr 0 x (by rw [List.drop_eq_nil_of_le (by omega)]; exact ⟨rfl, rfl⟩)⟩ entA | refine K_fallEnd hE Tryz.func58 rfl _ rfl ⟨0, x, rfl, rfl, hr 0 x (by rw [List.drop_eq_nil_of_le (by omega)]; exact ⟨rfl, rfl⟩)⟩ entA)
end Go.Proofs.YtpdmbmnhgcnelaaGreat

/- journal, part g0: a disk as it is known, without its inner parts. -/
set_option linter.unusedVariables false
set_option linter.unusedSimpArgs false
namespace Go.Proofs.YtpdmbmnhgcnelaaGreat
open Go Go.SL
attribute [local irreducible] J K Ctr Ends pts slc mapR mapI sbRow stock arrS

def diskA (bd : Nat) (A : Ab) : HP := fun h => ∃ D, Rel D A ∧ disk bd D h
theorem diskA_in {bd : Nat} {D : Dk} {A : Ab} (h : Rel D A) (H : List HP) : Ent (disk bd D :: H) (diskA bd A :: H) := Ent.fold (B := [_]) fun h' hs => ⟨h', sub.refl h', D, h, Sep_one hs⟩
theorem sat_diskA {G : Glob} {w : World} {bd : Nat} {A : Ab} {H : List HP} (hs : Sat G w (diskA bd A :: H)) : ∃ D, Rel D A ∧ Sat G w (disk bd D :: H) := by
  obtain ⟨t, o, u, hp, hpw, h1, h2, ⟨D, hR, hA⟩, hH, hd, he⟩ := hs
  exact ⟨D, hR, t, o, u, hp, hpw, h1, h2, hA, hH, hd, he⟩
end Go.Proofs.YtpdmbmnhgcnelaaGreat
namespace Go.Proofs.YtpdmbmnhgcnelaaGreat
open Go Go.SL
theorem ctr_disk {P : Program} {f : FuncId} {args : List Value} {bd : Nat} {A : Ab} {Pre : List HP} {Post Post' : Value → List HP → Prop} (hc : P.funcs[f]?.map callable = some true)
    (h : ∀ D, Rel D A → Ctr P f args (disk bd D :: Pre) Post) (hp : ∀ v H, Post v H → ∃ H', Post' v H' ∧ Ent H H') : Ctr P f args (diskA bd A :: Pre) Post' :=
  ⟨hc, fun G w F hw => by
    obtain ⟨D, hR, hw1⟩ := sat_diskA hw
    exact ((h D hR).2 G w F hw1).mono fun e w' h' => let ⟨v, H, he, hpo, hs⟩ := h'; let ⟨H', hq, hE⟩ := hp v H hpo; ⟨v, H', he, hq, hs.ent (Ent.append F hE)⟩⟩
attribute [local irreducible] J K Ctr Ends pts slc mapR mapI sbRow stock arrS
theorem Off_dA (bd : Nat) (A : Ab) : Ctr Tryz.prog 19 [ptr bd] [diskA bd A] (fun v H => v = .bool A.off ∧ H = [diskA bd A]) := by
  refine ctr_disk (by kernel_rfl) (Post := fun v H => v = .bool A.off ∧ H = [diskA bd A]) (fun D hR => ?_) (fun v H h => ⟨H, h, Ent.refl _⟩)
  obtain ⟨room, bm, sts, wrs, pln, off, maps, arrs, files, stb, wl⟩ := D
  have hoff := hR.off
  simp only at hoff
  subst hoff
  refine Ctr.enter Tryz.func19 (by kernel_rfl) rfl Tryz.ntmps19 rfl rfl ?_
  intro G F R hE
  refine K_ent (disk_o _ _ _ _ _ _ _ _ _ _ _ _ _) ?_
  (refine go ?_)
  refine K_ent ((Ent.pick [0, 1, 2, 3, 4, 5] rfl).trans (disk_c _ _ _ _ _ _ _ _ _ _ _ _ _)) ?_
  refine K_ent (diskA_in hR _) ?_
  (first | refine K_return hE Tryz.func19 rfl _ rfl ⟨rfl, rfl⟩ entA | refine K_fallEnd hE Tryz.func19 rfl _ rfl ⟨rfl, rfl⟩ entA)
theorem New_dA (room : Nat) (h1 : 1 ≤ room) (h2 : room ≤ 1073741824) : Ctr Tryz.prog 6 [.int .i64 room] [] (fun v H => ∃ bd, v = .tuple #[ptr bd, .int .i64 0] ∧ H = [diskA bd (Ab.new room)]) :=
  (New_good room h1 h2).conv (Ent.refl _) (by rintro v H ⟨bd, D, hR, rfl, rfl⟩; exact ⟨_, ⟨bd, rfl, rfl⟩, diskA_in hR _⟩)
theorem Size_dA (bd : Nat) (A : Ab) (name : ByteArray) : Ctr Tryz.prog 20 [ptr bd, .string name] [diskA bd A] (fun v H => H = [diskA bd A] ∧ v = .tuple #[.int .i64 (A.size name).1, .int .i64 (A.size name).2]) :=
  ctr_disk (by kernel_rfl) (Post := fun v H => ∃ D, Rel D A ∧ H = [disk bd D] ∧ v = .tuple #[.int .i64 (A.size name).1, .int .i64 (A.size name).2]) (fun D hR => (Size_any bd D A hR name).conv (Ent.refl _) (by rintro v H ⟨rfl, rfl⟩; exact ⟨_, ⟨D, hR, rfl, rfl⟩, Ent.refl _⟩)) (by rintro v H ⟨D, hR, rfl, rfl⟩; exact ⟨_, ⟨rfl, rfl⟩, diskA_in hR _⟩)
theorem Read_dA (bd : Nat) (A : Ab) (name : ByteArray) (at_ n : Int) : Ctr Tryz.prog 21 [ptr bd, .string name, .int .i64 at_, .int .i64 n] [diskA bd A]
    (fun v H => ∃ r, H = [diskA bd A, slc 5 1 r (A.read name at_ n).1.length (bV (A.read name at_ n).1)] ∧ v = .tuple #[r, .int .i64 (A.read name at_ n).2]) :=
  ctr_disk (by kernel_rfl) (Post := fun v H => ∃ D r, Rel D A ∧ H = [slc 5 1 r (A.read name at_ n).1.length (bV (A.read name at_ n).1), disk bd D] ∧ v = .tuple #[r, .int .i64 (A.read name at_ n).2])
    (fun D hR => (Read_any bd D A hR name at_ n).conv (Ent.refl _) (by rintro v H ⟨r, rfl, rfl⟩; exact ⟨_, ⟨D, r, hR, rfl, rfl⟩, Ent.refl _⟩)) (by rintro v H ⟨D, r, hR, rfl, rfl⟩; exact ⟨_, ⟨r, rfl, rfl⟩, (Ent.pick [1, 0] rfl).trans (diskA_in hR _)⟩)
theorem Create_dA (bd : Nat) (A : Ab) (name : ByteArray) (hst : A.states.length ≤ 1000000000) : Ctr Tryz.prog 48 [ptr bd, .string name] [diskA bd A]
    (fun v H => ∃ f, f ∉ A.fs.map (·.1) ∧ H = [diskA bd (A.create (isName name) name f).2] ∧ v = .int .i64 (A.create (isName name) name f).1) :=
  ctr_disk (by kernel_rfl) (fun D hR => Create_any bd D A hR name hst) (by rintro v H ⟨f, D', hf, hR, rfl, rfl⟩; exact ⟨_, ⟨f, hf, rfl, rfl⟩, diskA_in hR _⟩)
theorem Remove_dA (bd : Nat) (A : Ab) (name : ByteArray) (hst : A.states.length ≤ 1000000000) : Ctr Tryz.prog 57 [ptr bd, .string name] [diskA bd A]
    (fun v H => H = [diskA bd (A.remove (isName name) name).2] ∧ v = .int .i64 (A.remove (isName name) name).1) :=
  ctr_disk (by kernel_rfl) (fun D hR => Remove_any bd D A hR name hst) (by rintro v H ⟨D', hR, rfl, rfl⟩; exact ⟨_, ⟨rfl, rfl⟩, diskA_in hR _⟩)
theorem Write_dA (bd : Nat) (A : Ab) (name : ByteArray) (at_ : Int) (X : HP) (bv : Value) (b : List UInt8) (hv : Vw X bv b.length (bV b)) (hwl : A.writes.length ≤ 1000000000) (hbl : b.length ≤ 1000000000) (hat : -9223372036854775808 ≤ at_ ∧ at_ ≤ 9223372036854775807) :
    Ctr Tryz.prog 39 [ptr bd, .string name, .int .i64 at_, bv] [diskA bd A, X]
      (fun v H => H = [diskA bd (A.write (mayW name at_ b) name at_.toNat b).2, X] ∧ v = .int .i64 (A.write (mayW name at_ b) name at_.toNat b).1) :=
  ctr_disk (by kernel_rfl) (fun D hR => Write_any bd D A hR name at_ X bv b hv hwl hbl hat) (by rintro v H ⟨D', hR, rfl, rfl⟩; exact ⟨_, ⟨rfl, rfl⟩, diskA_in hR _⟩)
theorem Sync_dA (bd : Nat) (A : Ab) (name : ByteArray) (hwl : A.writes.length ≤ 1000000000) : Ctr Tryz.prog 41 [ptr bd, .string name] [diskA bd A]
    (fun v H => H = [diskA bd (A.sync (isName name) name).2] ∧ v = .int .i64 (A.sync (isName name) name).1) :=
  ctr_disk (by kernel_rfl) (fun D hR => Sync_any bd D A hR name hwl) (by rintro v H ⟨D', hR, rfl, rfl⟩; exact ⟨_, ⟨rfl, rfl⟩, diskA_in hR _⟩)
theorem SyncNames_dA (bd : Nat) (A : Ab) : Ctr Tryz.prog 64 [ptr bd] [diskA bd A]
    (fun v H => H = [diskA bd A.syncNames.2] ∧ v = .int .i64 A.syncNames.1) :=
  ctr_disk (by kernel_rfl) (fun D hR => SyncNames_any bd D A hR) (by rintro v H ⟨D', hR, rfl, rfl⟩; exact ⟨_, ⟨rfl, rfl⟩, diskA_in hR _⟩)
theorem Rename_dA (bd : Nat) (A : Ab) (old name : ByteArray) (hst : A.states.length ≤ 1000000000) : Ctr Tryz.prog 63 [ptr bd, .string old, .string name] [diskA bd A]
    (fun v H => H = [diskA bd (A.rename ([old, name].all isName) old name).2] ∧ v = .int .i64 (A.rename ([old, name].all isName) old name).1) :=
  ctr_disk (by kernel_rfl) (fun D hR => Rename_any bd D A hR old name hst) (by rintro v H ⟨D', hR, rfl, rfl⟩; exact ⟨_, ⟨rfl, rfl⟩, diskA_in hR _⟩)
theorem Crash_dA (bd : Nat) (A : Ab) (last torn cut : Int) (X : HP) (bv : Value) (stay : List UInt8) (hv : Vw X bv stay.length (bV stay)) (hsl : stay.length ≤ 9223372036854775807) (hst : A.states.length ≤ 1000000000) (hwl : A.writes.length ≤ 1000000000)
    (h1 : -9223372036854775808 ≤ last ∧ last ≤ 9223372036854775807) (h2 : -9223372036854775808 ≤ torn ∧ torn ≤ 9223372036854775807) (h3 : -9223372036854775808 ≤ cut ∧ cut ≤ 9223372036854775807) :
    Ctr Tryz.prog 11 [ptr bd, .int .i64 last, bv, .int .i64 torn, .int .i64 cut] [diskA bd A, X] (fun v H => H = [diskA bd (A.crash last stay torn cut), X]) :=
  ctr_disk (by kernel_rfl) (fun D hR => Crash_any bd D A hR last torn cut X bv stay hv hsl hst hwl h1 h2 h3) (by rintro v H ⟨D', hR, rfl⟩; exact ⟨_, rfl, diskA_in hR _⟩)
end Go.Proofs.YtpdmbmnhgcnelaaGreat

/- journal, part g: the steps of put. -/
set_option linter.unusedVariables false
set_option linter.unusedSimpArgs false
namespace Go.Proofs.YtpdmbmnhgcnelaaGreat
open Go Go.SL
attribute [local irreducible] J K Ctr Ends pts slc mapR mapI sbRow stock arrS loopP CtrY diskA

theorem put1_any (bd jb xj xf xw xb : Nat) (name fresh : ByteArray) (wa ba : Option Addr) (wc bl bc : Nat) (whole : List UInt8) (br : Bool) (A : Ab) (n s c : Int) (hst : A.states.length ≤ 1000000000) :
    Ctr Tryz.prog 56 [ptr xj, ptr xf] ([diskA bd A, pts jb (cl [ptr bd, .string name, .int .i64 n, .int .i64 s, .int .i64 c, .bool br] 72), pts xj (cl [ptr jb] 32), pts xf (cl [.string fresh] 9), pts xw (cl [.slice wa whole.length wc] 40), pts xb (cl [.slice ba bl bc] 40), slc 5 1 (.slice wa whole.length wc) whole.length (bV whole)]) (fun r H => ∃ (e : Nat) (A1 : Ab), e = (A.remove (isName fresh) fresh).1 ∧ A1 = (A.remove (isName fresh) fresh).2 ∧ r = .int .i64 (e : Int) ∧ H = [diskA bd A1, pts jb (cl [ptr bd, .string name, .int .i64 n, .int .i64 s, .int .i64 c, .bool br] 72), pts xj (cl [ptr jb] 32), pts xf (cl [.string fresh] 9), pts xw (cl [.slice wa whole.length wc] 40), pts xb (cl [.slice ba bl bc] 40), slc 5 1 (.slice wa whole.length wc) whole.length (bV whole)]) := by
  refine Ctr.enter Tryz.func56 (by kernel_rfl) rfl Tryz.ntmps56 rfl rfl ?_
  intro G F R hE
  (refine go ?_)
  refine K_drawA (fun w => Sat G w ([pts jb (cl [ptr bd, .string name, .int .i64 n, .int .i64 s, .int .i64 c, .bool br] 72), pts xj (cl [ptr jb] 32), pts xf (cl [.string fresh] 9), pts xw (cl [.slice wa whole.length wc] 40), slc 5 1 (.slice wa whole.length wc) whole.length (bV whole)])) (.st 0 (.st 1 (.st 2 (.st 3 (.st 4 (.act 5 (.st 6 .nil))))))) rfl (by kernel_rfl) (by kernel_rfl) (by kernel_rfl) (fun w hw => hw.ent entA) ?_
  (refine go ?_)
  (first | refine J_callE rfl rfl rfl rfl (Remove_dA bd A fresh hst) entA ?_ (fun _ _ w hp hw => by obtain ⟨rfl, rfl⟩ := hp; exact hw.ent entA) | refine J_call0E rfl rfl rfl (Remove_dA bd A fresh hst) entA ?_ (fun _ _ w hp hw => by obtain ⟨rfl, rfl⟩ := hp; exact hw.ent entA))
  rintro _ _ ⟨rfl, rfl⟩
  (refine go ?_)
  (first | refine K_return hE Tryz.func56 rfl _ rfl ⟨_, _, rfl, rfl, rfl, rfl⟩ entA | refine K_fallEnd hE Tryz.func56 rfl _ rfl ⟨_, _, rfl, rfl, rfl, rfl⟩ entA)
theorem put2_any (bd jb xj xf xw xb : Nat) (name fresh : ByteArray) (wa ba : Option Addr) (wc bl bc : Nat) (whole : List UInt8) (br : Bool) (A : Ab) (n s c : Int) (hst : A.states.length ≤ 1000000000) :
    Ctr Tryz.prog 59 [ptr xj, ptr xf] ([diskA bd A, pts jb (cl [ptr bd, .string name, .int .i64 n, .int .i64 s, .int .i64 c, .bool br] 72), pts xj (cl [ptr jb] 32), pts xf (cl [.string fresh] 9), pts xw (cl [.slice wa whole.length wc] 40), pts xb (cl [.slice ba bl bc] 40), slc 5 1 (.slice wa whole.length wc) whole.length (bV whole)]) (fun r H => ∃ (e : Nat) (A1 : Ab), (∃ f, f ∉ A.fs.map (·.1) ∧ e = (A.create (isName fresh) fresh f).1 ∧ A1 = (A.create (isName fresh) fresh f).2) ∧ r = .int .i64 (e : Int) ∧ H = [diskA bd A1, pts jb (cl [ptr bd, .string name, .int .i64 n, .int .i64 s, .int .i64 c, .bool br] 72), pts xj (cl [ptr jb] 32), pts xf (cl [.string fresh] 9), pts xw (cl [.slice wa whole.length wc] 40), pts xb (cl [.slice ba bl bc] 40), slc 5 1 (.slice wa whole.length wc) whole.length (bV whole)]) := by
  refine Ctr.enter Tryz.func59 (by kernel_rfl) rfl Tryz.ntmps59 rfl rfl ?_
  intro G F R hE
  (refine go ?_)
  refine K_drawA (fun w => Sat G w ([pts jb (cl [ptr bd, .string name, .int .i64 n, .int .i64 s, .int .i64 c, .bool br] 72), pts xj (cl [ptr jb] 32), pts xf (cl [.string fresh] 9), pts xw (cl [.slice wa whole.length wc] 40), slc 5 1 (.slice wa whole.length wc) whole.length (bV whole)])) (.st 0 (.st 1 (.st 2 (.st 3 (.st 4 (.act 5 (.st 6 .nil))))))) rfl (by kernel_rfl) (by kernel_rfl) (by kernel_rfl) (fun w hw => hw.ent entA) ?_
  (refine go ?_)
  (first | refine J_callE rfl rfl rfl rfl (Create_dA bd A fresh hst) entA ?_ (fun _ _ w hp hw => by obtain ⟨_, _, rfl, _⟩ := hp; exact hw.ent entA) | refine J_call0E rfl rfl rfl (Create_dA bd A fresh hst) entA ?_ (fun _ _ w hp hw => by obtain ⟨_, _, rfl, _⟩ := hp; exact hw.ent entA))
  rintro _ _ ⟨f, hf, rfl, rfl⟩
  (refine go ?_)
  (first | refine K_return hE Tryz.func59 rfl _ rfl ⟨_, _, ⟨f, hf, rfl, rfl⟩, rfl, rfl⟩ entA | refine K_fallEnd hE Tryz.func59 rfl _ rfl ⟨_, _, ⟨f, hf, rfl, rfl⟩, rfl, rfl⟩ entA)
theorem put3_any (bd jb xj xf xw xb : Nat) (name fresh : ByteArray) (wa ba : Option Addr) (wc bl bc : Nat) (whole : List UInt8) (br : Bool) (A : Ab) (n s c : Int) (hwl : A.writes.length ≤ 1000000000) (hbl : whole.length ≤ 1000000000) :
    Ctr Tryz.prog 60 [ptr xj, ptr xf, ptr xw] ([diskA bd A, pts jb (cl [ptr bd, .string name, .int .i64 n, .int .i64 s, .int .i64 c, .bool br] 72), pts xj (cl [ptr jb] 32), pts xf (cl [.string fresh] 9), pts xw (cl [.slice wa whole.length wc] 40), pts xb (cl [.slice ba bl bc] 40), slc 5 1 (.slice wa whole.length wc) whole.length (bV whole)]) (fun r H => ∃ (e : Nat) (A1 : Ab), e = (A.write (mayW fresh 0 whole) fresh 0 whole).1 ∧ A1 = (A.write (mayW fresh 0 whole) fresh 0 whole).2 ∧ r = .int .i64 (e : Int) ∧ H = [diskA bd A1, pts jb (cl [ptr bd, .string name, .int .i64 n, .int .i64 s, .int .i64 c, .bool br] 72), pts xj (cl [ptr jb] 32), pts xf (cl [.string fresh] 9), pts xw (cl [.slice wa whole.length wc] 40), pts xb (cl [.slice ba bl bc] 40), slc 5 1 (.slice wa whole.length wc) whole.length (bV whole)]) := by
  refine Ctr.enter Tryz.func60 (by kernel_rfl) rfl Tryz.ntmps60 rfl rfl ?_
  intro G F R hE
  (refine go ?_)
  refine K_drawA (fun w => Sat G w ([pts jb (cl [ptr bd, .string name, .int .i64 n, .int .i64 s, .int .i64 c, .bool br] 72), pts xj (cl [ptr jb] 32), pts xf (cl [.string fresh] 9), pts xw (cl [.slice wa whole.length wc] 40), slc 5 1 (.slice wa whole.length wc) whole.length (bV whole)])) (.st 0 (.st 1 (.st 2 (.st 3 (.st 4 (.st 5 (.act 6 (.st 7 .nil)))))))) rfl (by kernel_rfl) (by kernel_rfl) (by kernel_rfl) (fun w hw => hw.ent entA) ?_
  (refine go ?_)
  refine J_slcVw 6 rfl ?_
  intro hvw
  (refine go ?_)
  refine J_isLoad ?_
  refine J_loadH (U := tab) 3 rfl rfl rfl rfl rfl rfl ?_
  (refine go ?_)
  (first | refine J_callE rfl rfl rfl rfl (Write_dA bd A fresh 0 _ _ whole hvw hwl hbl (by omega)) entA ?_ (fun _ _ w hp hw => by obtain ⟨rfl, rfl⟩ := hp; exact hw.ent entA) | refine J_call0E rfl rfl rfl (Write_dA bd A fresh 0 _ _ whole hvw hwl hbl (by omega)) entA ?_ (fun _ _ w hp hw => by obtain ⟨rfl, rfl⟩ := hp; exact hw.ent entA))
  rintro _ _ ⟨rfl, rfl⟩
  (refine go ?_)
  (first | refine K_return hE Tryz.func60 rfl _ rfl ⟨_, _, rfl, rfl, rfl, rfl⟩ entA | refine K_fallEnd hE Tryz.func60 rfl _ rfl ⟨_, _, rfl, rfl, rfl, rfl⟩ entA)
theorem put4_any (bd jb xj xf xw xb : Nat) (name fresh : ByteArray) (wa ba : Option Addr) (wc bl bc : Nat) (whole : List UInt8) (br : Bool) (A : Ab) (n s c : Int) (hwl : A.writes.length ≤ 1000000000) :
    Ctr Tryz.prog 61 [ptr xj, ptr xf] ([diskA bd A, pts jb (cl [ptr bd, .string name, .int .i64 n, .int .i64 s, .int .i64 c, .bool br] 72), pts xj (cl [ptr jb] 32), pts xf (cl [.string fresh] 9), pts xw (cl [.slice wa whole.length wc] 40), pts xb (cl [.slice ba bl bc] 40), slc 5 1 (.slice wa whole.length wc) whole.length (bV whole)]) (fun r H => ∃ (e : Nat) (A1 : Ab), e = (A.sync (isName fresh) fresh).1 ∧ A1 = (A.sync (isName fresh) fresh).2 ∧ r = .int .i64 (e : Int) ∧ H = [diskA bd A1, pts jb (cl [ptr bd, .string name, .int .i64 n, .int .i64 s, .int .i64 c, .bool br] 72), pts xj (cl [ptr jb] 32), pts xf (cl [.string fresh] 9), pts xw (cl [.slice wa whole.length wc] 40), pts xb (cl [.slice ba bl bc] 40), slc 5 1 (.slice wa whole.length wc) whole.length (bV whole)]) := by
  refine Ctr.enter Tryz.func61 (by kernel_rfl) rfl Tryz.ntmps61 rfl rfl ?_
  intro G F R hE
  (refine go ?_)
  refine K_drawA (fun w => Sat G w ([pts jb (cl [ptr bd, .string name, .int .i64 n, .int .i64 s, .int .i64 c, .bool br] 72), pts xj (cl [ptr jb] 32), pts xf (cl [.string fresh] 9), pts xw (cl [.slice wa whole.length wc] 40), slc 5 1 (.slice wa whole.length wc) whole.length (bV whole)])) (.st 0 (.st 1 (.st 2 (.st 3 (.st 4 (.act 5 (.st 6 .nil))))))) rfl (by kernel_rfl) (by kernel_rfl) (by kernel_rfl) (fun w hw => hw.ent entA) ?_
  (refine go ?_)
  (first | refine J_callE rfl rfl rfl rfl (Sync_dA bd A fresh hwl) entA ?_ (fun _ _ w hp hw => by obtain ⟨rfl, rfl⟩ := hp; exact hw.ent entA) | refine J_call0E rfl rfl rfl (Sync_dA bd A fresh hwl) entA ?_ (fun _ _ w hp hw => by obtain ⟨rfl, rfl⟩ := hp; exact hw.ent entA))
  rintro _ _ ⟨rfl, rfl⟩
  (refine go ?_)
  (first | refine K_return hE Tryz.func61 rfl _ rfl ⟨_, _, rfl, rfl, rfl, rfl⟩ entA | refine K_fallEnd hE Tryz.func61 rfl _ rfl ⟨_, _, rfl, rfl, rfl, rfl⟩ entA)
theorem put5_any (bd jb xj xf xw xb : Nat) (name fresh : ByteArray) (wa ba : Option Addr) (wc bl bc : Nat) (whole : List UInt8) (br : Bool) (A : Ab) (n s c : Int) (hst : A.states.length ≤ 1000000000) :
    Ctr Tryz.prog 62 [ptr xj, ptr xf] ([diskA bd A, pts jb (cl [ptr bd, .string name, .int .i64 n, .int .i64 s, .int .i64 c, .bool br] 72), pts xj (cl [ptr jb] 32), pts xf (cl [.string fresh] 9), pts xw (cl [.slice wa whole.length wc] 40), pts xb (cl [.slice ba bl bc] 40), slc 5 1 (.slice wa whole.length wc) whole.length (bV whole)]) (fun r H => ∃ (e : Nat) (A1 : Ab), e = (A.rename ([fresh, name].all isName) fresh name).1 ∧ A1 = (A.rename ([fresh, name].all isName) fresh name).2 ∧ r = .int .i64 (e : Int) ∧ H = [diskA bd A1, pts jb (cl [ptr bd, .string name, .int .i64 n, .int .i64 s, .int .i64 c, .bool br] 72), pts xj (cl [ptr jb] 32), pts xf (cl [.string fresh] 9), pts xw (cl [.slice wa whole.length wc] 40), pts xb (cl [.slice ba bl bc] 40), slc 5 1 (.slice wa whole.length wc) whole.length (bV whole)]) := by
  refine Ctr.enter Tryz.func62 (by kernel_rfl) rfl Tryz.ntmps62 rfl rfl ?_
  intro G F R hE
  (refine go ?_)
  refine K_drawA (fun w => Sat G w ([pts jb (cl [ptr bd, .string name, .int .i64 n, .int .i64 s, .int .i64 c, .bool br] 72), pts xj (cl [ptr jb] 32), pts xf (cl [.string fresh] 9), pts xw (cl [.slice wa whole.length wc] 40), slc 5 1 (.slice wa whole.length wc) whole.length (bV whole)])) (.st 0 (.st 1 (.st 2 (.st 3 (.st 4 (.st 5 (.st 6 (.st 7 (.st 8 (.act 9 (.st 10 .nil))))))))))) rfl (by kernel_rfl) (by kernel_rfl) (by kernel_rfl) (fun w hw => hw.ent entA) ?_
  (refine go ?_)
  (first | refine J_callE rfl rfl rfl rfl (Rename_dA bd A fresh name hst) entA ?_ (fun _ _ w hp hw => by obtain ⟨rfl, rfl⟩ := hp; exact hw.ent entA) | refine J_call0E rfl rfl rfl (Rename_dA bd A fresh name hst) entA ?_ (fun _ _ w hp hw => by obtain ⟨rfl, rfl⟩ := hp; exact hw.ent entA))
  rintro _ _ ⟨rfl, rfl⟩
  (refine go ?_)
  (first | refine K_return hE Tryz.func62 rfl _ rfl ⟨_, _, rfl, rfl, rfl, rfl⟩ entA | refine K_fallEnd hE Tryz.func62 rfl _ rfl ⟨_, _, rfl, rfl, rfl, rfl⟩ entA)
theorem put6_any (bd jb xj xf xw xb : Nat) (name fresh : ByteArray) (wa ba : Option Addr) (wc bl bc : Nat) (whole : List UInt8) (br : Bool) (A : Ab) (n s c : Int) :
    Ctr Tryz.prog 65 [ptr xb, ptr xj] ([diskA bd A, pts jb (cl [ptr bd, .string name, .int .i64 n, .int .i64 s, .int .i64 c, .bool br] 72), pts xj (cl [ptr jb] 32), pts xf (cl [.string fresh] 9), pts xw (cl [.slice wa whole.length wc] 40), pts xb (cl [.slice ba bl bc] 40), slc 5 1 (.slice wa whole.length wc) whole.length (bV whole)]) (fun r H => r = .int .i64 0 ∧ H = [diskA bd A, pts jb (cl [ptr bd, .string name, .int .i64 1, .int .i64 (bl : Int), .int .i64 (bl : Int), .bool br] 72), pts xj (cl [ptr jb] 32), pts xf (cl [.string fresh] 9), pts xw (cl [.slice wa whole.length wc] 40), pts xb (cl [.slice ba bl bc] 40), slc 5 1 (.slice wa whole.length wc) whole.length (bV whole)]) := by
  refine Ctr.enter Tryz.func65 (by kernel_rfl) rfl Tryz.ntmps65 rfl rfl ?_
  intro G F R hE
  (refine go ?_)
  refine K_drawA (fun w => Sat G w ([pts xj (cl [ptr jb] 32), pts xb (cl [.slice ba bl bc] 40)])) (.st 0 (.st 1 (.st 2 (.st 3 (.st 4 (.st 5 (.st 6 (.st 7 (.st 8 (.act 9 (.st 10 (.st 11 (.act 12 (.st 13 (.st 14 (.act 15 .nil)))))))))))))))) rfl (by kernel_rfl) (by kernel_rfl) (by kernel_rfl) (fun w hw => hw.ent entA) ?_
  (refine go ?_)
  refine J_isStore ?_
  refine J_store (U := tab) 1 (fun w hw => by exact hw.ent entA) rfl rfl rfl rfl rfl rfl rfl rfl rfl ?_
  (refine go ?_)
  refine J_isStore ?_
  refine J_store (U := tab) 1 (fun w hw => by exact hw.ent entA) rfl rfl rfl rfl rfl rfl rfl rfl rfl ?_
  (refine go ?_)
  (first | refine K_return hE Tryz.func65 rfl _ rfl ⟨rfl, rfl⟩ entA | refine K_fallEnd hE Tryz.func65 rfl _ rfl ⟨rfl, rfl⟩ entA)
end Go.Proofs.YtpdmbmnhgcnelaaGreat

/- journal, part h0 (plain): the steps of put as a relation; how a disk's lists grow. -/
set_option linter.unusedVariables false
set_option linter.unusedSimpArgs false
namespace Go.Proofs.YtpdmbmnhgcnelaaGreat
open Go Go.SL

/-- A grew into B by one at most. -/
def Grow1 (A B : Ab) : Prop := B.states.length ≤ A.states.length + 1 ∧ B.writes.length ≤ A.writes.length + 1
theorem grow_find (A : Ab) (n : ByteArray) (ok : Bool) : (A.find n ok).2.2.states.length = A.states.length ∧ (A.find n ok).2.2.writes.length = A.writes.length := by
  have h := find_same A n ok
  rw [h.2.2.1, h.2.2.2.1]; exact ⟨rfl, rfl⟩
theorem grow_meet (A : Ab) (ok : Bool) : (A.meet ok).2.states.length = A.states.length ∧ (A.meet ok).2.writes.length = A.writes.length := by
  unfold Ab.meet
  split
  · exact ⟨rfl, rfl⟩
  split
  · exact ⟨rfl, rfl⟩
  split
  · exact ⟨rfl, rfl⟩
  · split
    · exact ⟨rfl, rfl⟩
    split <;> exact ⟨rfl, rfl⟩
theorem grow_remove (A : Ab) (ok : Bool) (n : ByteArray) : Grow1 A (A.remove ok n).2 := by
  have h := grow_find A n ok
  unfold Ab.remove
  split
  · rename_i f A1 he
    rw [he] at h
    simp only at h
    constructor <;> simp [Ab.chg] <;> omega
  · rename_i e o A1 _ he
    rw [he] at h
    simp only at h
    constructor <;> simp only <;> omega
theorem grow_rename (A : Ab) (ok : Bool) (o n : ByteArray) : Grow1 A (A.rename ok o n).2 := by
  have h := grow_find A o ok
  unfold Ab.rename
  split
  · rename_i f A1 he
    rw [he] at h
    simp only at h
    constructor <;> simp [Ab.chg] <;> omega
  · rename_i e o A1 _ he
    rw [he] at h
    simp only at h
    constructor <;> simp only <;> omega
theorem grow_create (A : Ab) (ok : Bool) (n : ByteArray) (f : Nat) : Grow1 A (A.create ok n f).2 := by
  have h := grow_meet A ok
  unfold Ab.create
  split
  · split
    · constructor <;> simp only <;> omega
    split
    · constructor <;> simp only <;> omega
    · constructor <;> simp [Ab.chg] <;> omega
  · constructor <;> simp only <;> omega
theorem grow_write (A : Ab) (ok : Bool) (n : ByteArray) (at_ : Nat) (b : List UInt8) : Grow1 A (A.write ok n at_ b).2 := by
  have h := grow_find A n ok
  unfold Ab.write
  split
  · split
    · split
      · constructor <;> simp only <;> omega
      · constructor <;> simp <;> omega
    · constructor <;> simp only <;> omega
  · constructor <;> simp only <;> omega
theorem grow_sync (A : Ab) (ok : Bool) (n : ByteArray) : Grow1 A (A.sync ok n).2 := by
  have h := grow_find A n ok
  unfold Ab.sync
  split
  · split
    · constructor
      · simp only; omega
      · simp only
        refine Nat.le_trans (List.length_filter_le _ _) ?_
        omega
    · constructor <;> simp only <;> omega
  · constructor <;> simp only <;> omega
theorem grow_syncNames (A : Ab) : Grow1 A A.syncNames.2 := by
  have h := grow_meet A true
  unfold Ab.syncNames
  split
  · constructor <;> simp only [List.length_singleton] <;> omega
  · constructor <;> simp only <;> omega
/-- The state that the steps of put change: the disk, the number, the size, what counts. -/
abbrev PS := Ab × Int × Int × Int
def onA (g : Ab → Nat → Ab → Prop) (x : PS) (e : Nat) (y : PS) : Prop := g x.1 e y.1 ∧ y.2 = x.2
def sRemove (fresh : ByteArray) := onA fun A e B => e = (A.remove (isName fresh) fresh).1 ∧ B = (A.remove (isName fresh) fresh).2
def sCreate (fresh : ByteArray) := onA fun A e B => ∃ f, f ∉ A.fs.map (·.1) ∧ e = (A.create (isName fresh) fresh f).1 ∧ B = (A.create (isName fresh) fresh f).2
def sWrite (fresh : ByteArray) (whole : List UInt8) := onA fun A e B => e = (A.write (mayW fresh 0 whole) fresh 0 whole).1 ∧ B = (A.write (mayW fresh 0 whole) fresh 0 whole).2
def sSync (fresh : ByteArray) := onA fun A e B => e = (A.sync (isName fresh) fresh).1 ∧ B = (A.sync (isName fresh) fresh).2
def sRename (fresh name : ByteArray) := onA fun A e B => e = (A.rename ([fresh, name].all isName) fresh name).1 ∧ B = (A.rename ([fresh, name].all isName) fresh name).2
def sNames := onA fun A e B => e = A.syncNames.1 ∧ B = A.syncNames.2
def sSet (bl : Nat) (x : PS) (e : Nat) (y : PS) : Prop := e = 0 ∧ y = (x.1, 1, (bl : Int), (bl : Int))
def freshOf (name : ByteArray) : ByteArray := name ++ ⟨#[46, 110, 101, 119]⟩
def wholeOf (ls : List (List UInt8)) : List UInt8 := List.replicate 16 0 ++ headL 1 (ls.flatMap encL).length ++ ls.flatMap encL
def putSteps (name : ByteArray) (ls : List (List UInt8)) (A : Ab) : List (PS → Nat → PS → Prop) :=
  (if (A.size (freshOf name)).2 = 0 then [sRemove (freshOf name)] else []) ++
  [sCreate (freshOf name), sWrite (freshOf name) (wholeOf ls), sSync (freshOf name), sRename (freshOf name) name, sNames, sSet (ls.flatMap encL).length]
/-- What put does. -/
def PutR (name : ByteArray) (ls : List (List UInt8)) (x : PS) (e : Nat) (y : PS) : Prop := Runs (putSteps name ls x.1) x e y
end Go.Proofs.YtpdmbmnhgcnelaaGreat

/- journal, part g2: the steps of put, as all does them. -/
set_option linter.unusedVariables false
set_option linter.unusedSimpArgs false
namespace Go.Proofs.YtpdmbmnhgcnelaaGreat
open Go Go.SL
attribute [local irreducible] J K Ctr Ends pts slc mapR mapI sbRow stock arrS loopP CtrY diskA

theorem _root_.Go.SL.Ent.unsep1 (l : List HP) : Ent [Sep l] l := by have := Ent.unsep l []; rwa [List.append_nil] at this
theorem _root_.Go.SL.Ent.resep1 (l : List HP) : Ent l [Sep l] := by have := Ent.resep l []; rwa [List.append_nil] at this
def PI (bd jb xj xf xw xb : Nat) (name fresh : ByteArray) (wa ba : Option Addr) (wc bl bc : Nat) (whole : List UInt8) (br : Bool) (x : PS) : HP := Sep [diskA bd x.1, pts jb (cl [ptr bd, .string name, .int .i64 x.2.1, .int .i64 x.2.2.1, .int .i64 x.2.2.2, .bool br] 72), pts xj (cl [ptr jb] 32), pts xf (cl [.string fresh] 9), pts xw (cl [.slice wa whole.length wc] 40), pts xb (cl [.slice ba bl bc] 40), slc 5 1 (.slice wa whole.length wc) whole.length (bV whole)]
def PQ (i : Nat) (x : PS) : Prop := x.1.states.length ≤ 900000000 + i ∧ x.1.writes.length ≤ 900000000 + i
theorem PQ.next {i : Nat} {x : PS} (h : PQ i x) {B : Ab} (g : Grow1 x.1 B) : PQ (i + 1) (B, x.2) := by
  obtain ⟨h1, h2⟩ := h
  obtain ⟨g1, g2⟩ := g
  exact ⟨by simp only; omega, by simp only; omega⟩
end Go.Proofs.YtpdmbmnhgcnelaaGreat
namespace Go.Proofs.YtpdmbmnhgcnelaaGreat
open Go Go.SL
theorem ctr_frame {P : Program} {f : FuncId} {args : List Value} {Pre : List HP} {Post : Value → List HP → Prop} (X : List HP) (c : Ctr P f args Pre Post) : Ctr P f args (Pre ++ X) (fun v H => ∃ H', Post v H' ∧ H = H' ++ X) :=
  ⟨c.1, fun G w F hw => (c.2 G w (X ++ F) (by rw [List.append_assoc] at hw; exact hw)).mono fun e w' h' => let ⟨v, H, he, hpo, hs⟩ := h'; ⟨v, H ++ X, he, ⟨H, hpo, rfl⟩, by rw [List.append_assoc]; exact hs⟩⟩
attribute [local irreducible] J K Ctr Ends pts slc mapR mapI sbRow stock arrS loopP CtrY diskA
theorem put1_I (bd jb xj xf xw xb : Nat) (name fresh : ByteArray) (wa ba : Option Addr) (wc bl bc : Nat) (whole : List UInt8) (br : Bool) (i : Nat) (hi : i ≤ 10) (x : PS) (hq : PQ i x) :
    Ctr Tryz.prog 56 [ptr xj, ptr xf] [PI bd jb xj xf xw xb name fresh wa ba wc bl bc whole br x] (fun r H => ∃ (e : Nat) (x' : PS), r = .int .i64 (e : Int) ∧ H = [PI bd jb xj xf xw xb name fresh wa ba wc bl bc whole br x'] ∧ sRemove fresh x e x' ∧ (e = 0 → PQ (i + 1) x')) :=
  (put1_any bd jb xj xf xw xb name fresh wa ba wc bl bc whole br x.1 x.2.1 x.2.2.1 x.2.2.2 (by have := hq.1; omega)).conv (Ent.unsep1 _) (by
    rintro v H ⟨e, A1, he, hA1, rfl, rfl⟩
    exact ⟨_, ⟨_, (A1, x.2), rfl, rfl, ⟨⟨he, hA1⟩, rfl⟩, fun _ => hq.next (hA1 ▸ grow_remove _ _ _)⟩, Ent.resep1 _⟩)
theorem put2_I (bd jb xj xf xw xb : Nat) (name fresh : ByteArray) (wa ba : Option Addr) (wc bl bc : Nat) (whole : List UInt8) (br : Bool) (i : Nat) (hi : i ≤ 10) (x : PS) (hq : PQ i x) :
    Ctr Tryz.prog 59 [ptr xj, ptr xf] [PI bd jb xj xf xw xb name fresh wa ba wc bl bc whole br x] (fun r H => ∃ (e : Nat) (x' : PS), r = .int .i64 (e : Int) ∧ H = [PI bd jb xj xf xw xb name fresh wa ba wc bl bc whole br x'] ∧ sCreate fresh x e x' ∧ (e = 0 → PQ (i + 1) x')) :=
  (put2_any bd jb xj xf xw xb name fresh wa ba wc bl bc whole br x.1 x.2.1 x.2.2.1 x.2.2.2 (by have := hq.1; omega)).conv (Ent.unsep1 _) (by
    rintro v H ⟨e, A1, ⟨f, hf, he, hA1⟩, rfl, rfl⟩
    exact ⟨_, ⟨_, (A1, x.2), rfl, rfl, ⟨⟨f, hf, he, hA1⟩, rfl⟩, fun _ => hq.next (hA1 ▸ grow_create _ _ _ _)⟩, Ent.resep1 _⟩)
theorem put3_I (bd jb xj xf xw xb : Nat) (name fresh : ByteArray) (wa ba : Option Addr) (wc bl bc : Nat) (whole : List UInt8) (br : Bool) (i : Nat) (hi : i ≤ 10) (hbl : whole.length ≤ 1000000000) (x : PS) (hq : PQ i x) :
    Ctr Tryz.prog 60 [ptr xj, ptr xf, ptr xw] [PI bd jb xj xf xw xb name fresh wa ba wc bl bc whole br x] (fun r H => ∃ (e : Nat) (x' : PS), r = .int .i64 (e : Int) ∧ H = [PI bd jb xj xf xw xb name fresh wa ba wc bl bc whole br x'] ∧ sWrite fresh whole x e x' ∧ (e = 0 → PQ (i + 1) x')) :=
  (put3_any bd jb xj xf xw xb name fresh wa ba wc bl bc whole br x.1 x.2.1 x.2.2.1 x.2.2.2 (by have := hq.2; omega) hbl).conv (Ent.unsep1 _) (by
    rintro v H ⟨e, A1, he, hA1, rfl, rfl⟩
    exact ⟨_, ⟨_, (A1, x.2), rfl, rfl, ⟨⟨he, hA1⟩, rfl⟩, fun _ => hq.next (hA1 ▸ grow_write _ _ _ _ _)⟩, Ent.resep1 _⟩)
theorem put4_I (bd jb xj xf xw xb : Nat) (name fresh : ByteArray) (wa ba : Option Addr) (wc bl bc : Nat) (whole : List UInt8) (br : Bool) (i : Nat) (hi : i ≤ 10) (x : PS) (hq : PQ i x) :
    Ctr Tryz.prog 61 [ptr xj, ptr xf] [PI bd jb xj xf xw xb name fresh wa ba wc bl bc whole br x] (fun r H => ∃ (e : Nat) (x' : PS), r = .int .i64 (e : Int) ∧ H = [PI bd jb xj xf xw xb name fresh wa ba wc bl bc whole br x'] ∧ sSync fresh x e x' ∧ (e = 0 → PQ (i + 1) x')) :=
  (put4_any bd jb xj xf xw xb name fresh wa ba wc bl bc whole br x.1 x.2.1 x.2.2.1 x.2.2.2 (by have := hq.2; omega)).conv (Ent.unsep1 _) (by
    rintro v H ⟨e, A1, he, hA1, rfl, rfl⟩
    exact ⟨_, ⟨_, (A1, x.2), rfl, rfl, ⟨⟨he, hA1⟩, rfl⟩, fun _ => hq.next (hA1 ▸ grow_sync _ _ _)⟩, Ent.resep1 _⟩)
theorem put5_I (bd jb xj xf xw xb : Nat) (name fresh : ByteArray) (wa ba : Option Addr) (wc bl bc : Nat) (whole : List UInt8) (br : Bool) (i : Nat) (hi : i ≤ 10) (x : PS) (hq : PQ i x) :
    Ctr Tryz.prog 62 [ptr xj, ptr xf] [PI bd jb xj xf xw xb name fresh wa ba wc bl bc whole br x] (fun r H => ∃ (e : Nat) (x' : PS), r = .int .i64 (e : Int) ∧ H = [PI bd jb xj xf xw xb name fresh wa ba wc bl bc whole br x'] ∧ sRename fresh name x e x' ∧ (e = 0 → PQ (i + 1) x')) :=
  (put5_any bd jb xj xf xw xb name fresh wa ba wc bl bc whole br x.1 x.2.1 x.2.2.1 x.2.2.2 (by have := hq.1; omega)).conv (Ent.unsep1 _) (by
    rintro v H ⟨e, A1, he, hA1, rfl, rfl⟩
    exact ⟨_, ⟨_, (A1, x.2), rfl, rfl, ⟨⟨he, hA1⟩, rfl⟩, fun _ => hq.next (hA1 ▸ grow_rename _ _ _ _)⟩, Ent.resep1 _⟩)
theorem putN_I (bd jb xj xf xw xb : Nat) (name fresh : ByteArray) (wa ba : Option Addr) (wc bl bc : Nat) (whole : List UInt8) (br : Bool) (i : Nat) (x : PS) (hq : PQ i x) :
    Ctr Tryz.prog 64 [ptr bd] [PI bd jb xj xf xw xb name fresh wa ba wc bl bc whole br x] (fun r H => ∃ (e : Nat) (x' : PS), r = .int .i64 (e : Int) ∧ H = [PI bd jb xj xf xw xb name fresh wa ba wc bl bc whole br x'] ∧ sNames x e x' ∧ (e = 0 → PQ (i + 1) x')) :=
  (ctr_frame ([diskA bd x.1, pts jb (cl [ptr bd, .string name, .int .i64 x.2.1, .int .i64 x.2.2.1, .int .i64 x.2.2.2, .bool br] 72), pts xj (cl [ptr jb] 32), pts xf (cl [.string fresh] 9), pts xw (cl [.slice wa whole.length wc] 40), pts xb (cl [.slice ba bl bc] 40), slc 5 1 (.slice wa whole.length wc) whole.length (bV whole)].drop 1) (SyncNames_dA bd x.1)).conv (Ent.unsep1 _) (by
    rintro v H ⟨_, ⟨rfl, rfl⟩, rfl⟩
    exact ⟨_, ⟨_, (x.1.syncNames.2, x.2), rfl, rfl, ⟨⟨rfl, rfl⟩, rfl⟩, fun _ => hq.next (grow_syncNames _)⟩, Ent.resep1 _⟩)
theorem put6_I (bd jb xj xf xw xb : Nat) (name fresh : ByteArray) (wa ba : Option Addr) (wc bl bc : Nat) (whole : List UInt8) (br : Bool) (i : Nat) (x : PS) (hq : PQ i x) :
    Ctr Tryz.prog 65 [ptr xb, ptr xj] [PI bd jb xj xf xw xb name fresh wa ba wc bl bc whole br x] (fun r H => ∃ (e : Nat) (x' : PS), r = .int .i64 (e : Int) ∧ H = [PI bd jb xj xf xw xb name fresh wa ba wc bl bc whole br x'] ∧ sSet bl x e x' ∧ (e = 0 → PQ (i + 1) x')) :=
  (put6_any bd jb xj xf xw xb name fresh wa ba wc bl bc whole br x.1 x.2.1 x.2.2.1 x.2.2.2).conv (Ent.unsep1 _) (by
    rintro v H ⟨rfl, rfl⟩
    exact ⟨_, ⟨0, (x.1, 1, (bl : Int), (bl : Int)), rfl, rfl, ⟨rfl, rfl⟩, fun _ => ⟨by have := hq.1; simp only; omega, by have := hq.2; simp only; omega⟩⟩, Ent.resep1 _⟩)
end Go.Proofs.YtpdmbmnhgcnelaaGreat

/- journal, part h: put. -/
set_option linter.unusedVariables false
set_option linter.unusedSimpArgs false
namespace Go.Proofs.YtpdmbmnhgcnelaaGreat
open Go Go.SL
attribute [local irreducible] J K Ctr Ends pts slc mapR mapI sbRow stock arrS loopP CtrY diskA

/-- The cells of a journal. -/
def jr (jb bd : Nat) (name : ByteArray) (n s c : Int) (br : Bool) : HP := pts jb (cl [ptr bd, .string name, .int .i64 n, .int .i64 s, .int .i64 c, .bool br] 72)
theorem flat_take {ls : List (List UInt8)} {i : Nat} {x : List UInt8} (h : ls[i]? = some x) : (ls.take (i + 1)).flatMap encL = (ls.take i).flatMap encL ++ encL x := by
  rw [List.take_add_one, h]; simp
theorem flat_le (ls : List (List UInt8)) (i : Nat) : ((ls.take i).flatMap encL).length ≤ (ls.flatMap encL).length := by
  conv => rhs; rw [← List.take_append_drop i ls, List.flatMap_append, List.length_append]
  omega
set_option maxRecDepth 20000 in
theorem put_any (jb bd : Nat) (name : ByteArray) (n s c : Int) (br : Bool) (A : Ab) (V : HP) (lv : Value) (ls : List (List UInt8)) (hv : LAt V lv ls) (hl : (ls.flatMap encL).length ≤ 500000000) (hln : ls.length ≤ 1000000000)
    (hname : name.size ≤ 1000000000) (hst : A.states.length ≤ 900000000) (hwr : A.writes.length ≤ 900000000) :
    Ctr Tryz.prog 24 [ptr jb, lv] [diskA bd A, jr jb bd name n s c br, V]
      (fun r H => ∃ (e : Nat) (y : PS), r = .int .i64 (e : Int) ∧ H = [diskA bd y.1, jr jb bd name y.2.1 y.2.2.1 y.2.2.2 br, V] ∧ PutR name ls (A, n, s, c) e y) := by
  obtain ⟨cs, hvw, hcl, ⟨a, cc, rfl, hc⟩, hel⟩ := hv
  unfold jr
  refine Ctr.enter Tryz.func24 (by kernel_rfl) rfl Tryz.ntmps24 rfl rfl ?_
  intro G F R hE
  (refine go ?_)
  refine J_box rfl rfl (fun _ _ _ => trivial) ?_
  intro xj
  (refine go ?_)
  refine J_strAdd rfl rfl rfl (by show name.size + 4 ≤ _; omega) ?_
  (refine go ?_)
  refine J_slot 17 (.string (freshOf name)) rfl rfl ?_
  generalize hfr : freshOf name = fresh
  refine J_alloc (U := tab) rfl rfl rfl (fun _ _ _ => trivial) ?_
  intro xf
  (refine go ?_)
  refine J_alloc (U := tab) rfl rfl rfl (fun _ _ _ => trivial) ?_
  intro xb
  (refine go ?_)
  refine K_ent (slc_lift 5 1 none _) ?_
  refine K_loop (fun y : Value × Nat => y.2 ≤ ls.length) (fun y => ls.length - y.2)
    (fun y => [(0, ptr jb), (2, ptr xj), (5, ptr xf), (6, ptr xb), (18, .slice a ls.length cc), (19, .int .i64 (ls.length : Int)), (20, .int .i64 (y.2 : Int))])
    (fun y => pts xb (cl [y.1] 40) :: slc 5 1 y.1 ((ls.take y.2).flatMap encL).length (bV ((ls.take y.2).flatMap encL)) :: pts xf (cl [.string fresh] 9) :: pts xj (cl [ptr jb] 32) :: diskA bd A :: pts jb (cl [ptr bd, .string name, .int .i64 n, .int .i64 s, .int .i64 c, .bool br] 72) :: V :: F) (.slice none 0 0, 0) (Nat.zero_le _) rfl (by repeat (first | exact keep_nil | refine keep_cons rfl ?_)) entA ?_
  rintro ⟨v, i⟩ hi ih
  simp only at hi
  (refine go ?_)
  refine K_condP rfl rfl ?_ ?_
  · intro hlt
    simp only at hlt
    have hil : i < ls.length := by omega
    obtain ⟨x, hx⟩ : ∃ x, ls[i]? = some x := ⟨ls[i], List.getElem?_eq_getElem hil⟩
    obtain ⟨cv, hcv, hb⟩ := hel i x hx
    obtain ⟨b0, o0, c0, he0⟩ := hvw.some (by intro h; rw [h] at hcv; simp at hcv)
    simp only [Value.slice.injEq] at he0
    obtain ⟨rfl, -, rfl⟩ := he0
    (refine go ?_)
    refine J_at1 (U := tab) i rfl rfl rfl rfl rfl rfl rfl rfl hil ?_
    obtain ⟨ax, cx, rfl, hcx⟩ := hb.2
    have hsum := flat_take hx
    have hsl : ((ls.take (i + 1)).flatMap encL).length = ((ls.take i).flatMap encL).length + (encL x).length := by rw [hsum, List.length_append]
    have hle := flat_le ls (i + 1)
    have hxl : x.length ≤ (encL x).length := by simp [encL]
    refine J_loadAt (U := tab) 6 i rfl rfl rfl hvw rfl hcv rfl rfl ?_
    (first | refine J_shape 1 rfl ?_ | refine K_shape 1 rfl ?_)
    intro av cv hvv
    simp only at hvv
    subst hvv
    (refine go ?_)
    refine K_drawA (fun w => Sat G w ([pts xb (cl [.slice av ((ls.take i).flatMap encL).length cv] 40)])) (.st 0 (.st 1 (.act 2 (.act 3 (.act 4 .nil))))) rfl (by kernel_rfl) (by kernel_rfl) (by kernel_rfl) (fun w hw => hw.ent entA) ?_
    (refine go ?_)
    (first | refine J_callE rfl rfl rfl rfl (encoded_any V _ x hb (by omega)) entA ?_ (fun _ _ w hp hw => by obtain rfl := hp; exact hw.ent entA) | refine J_call0E rfl rfl rfl (encoded_any V _ x hb (by omega)) entA ?_ (fun _ _ w hp hw => by obtain rfl := hp; exact hw.ent entA))
    rintro r _ rfl
    (first | refine J_shape 0 rfl ?_ | refine K_shape 0 rfl ?_)
    rintro ra rc rfl
    refine J_slcVw 0 rfl ?_
    intro hvr
    (refine go ?_)
    refine J_append (U := tab) (mm := (encL x).length) (news := bV (encL x)) 3 0 rfl rfl rfl rfl rfl rfl rfl rfl rfl rfl rfl rfl hvr (by show _ = _ * 1; rw [bV_length]; omega) (bV_one _) (by simp only; omega) (by show (_ + _) * 1 ≤ _; simp only; omega) (fun _ => rfl) (fun _ w hw => by exact hw.ent entA) ?_
    intro v1
    simp only
    rw [show bV ((ls.take i).flatMap encL) ++ bV (encL x) = bV ((ls.take (i + 1)).flatMap encL) from by rw [hsum]; simp [bV], ← hsl]
    (first | refine J_shape 3 rfl ?_ | refine K_shape 3 rfl ?_)
    rintro va vc rfl
    (refine go ?_)
    refine K_again ih (.slice va ((ls.take (i + 1)).flatMap encL).length vc, i + 1) rfl (by simp only; omega) (by simp only; omega) (by repeat (first | exact keep_nil | refine keep_cons rfl ?_)) entA
  intro hge
  simp only at hge
  have hi' : i = ls.length := by omega
  subst hi'
  rw [List.take_length]
  (first | refine J_shape 1 rfl ?_ | refine K_shape 1 rfl ?_)
  intro av cv hvv
  simp only at hvv
  subst hvv
  obtain ⟨B, hB⟩ : ∃ B, B = ls.flatMap encL := ⟨_, rfl⟩
  rw [← hB] at hl ⊢
  have hhl : (headL 1 B.length).length = 16 := headL_len _ _
  have hwl : (wholeOf ls) = List.replicate 16 0 ++ headL 1 B.length ++ B := by rw [hB]; rfl
  obtain ⟨W, hW⟩ : ∃ W, W = wholeOf ls := ⟨_, rfl⟩
  rw [← hW] at hwl
  have hWl : W.length = 32 + B.length := by rw [hwl]; simp only [List.length_append, List.length_replicate, hhl]
  have hcon : ∀ (m : Nat) (ra : Option Addr) (rc row : Nat), BAt (slc 5 1 (.slice ra (headL 1 B.length).length rc) (headL 1 B.length).length (bV (headL 1 B.length))) (.slice ra (headL 1 B.length).length rc) (headL 1 B.length) →
      BAt (slc 5 1 (.slice av B.length cv) B.length (bV B)) (.slice av B.length cv) B → Ctr Tryz.prog 55 [.slice (some ⟨row, 0, none⟩) 3 3]
      [Sep [pts row (cl [.slice (some ⟨m, 0, none⟩) 16 16, .slice ra (headL 1 B.length).length rc, .slice av B.length cv] 40), pts m (cl (bV (List.replicate 16 0)) 5), slc 5 1 (.slice ra (headL 1 B.length).length rc) (headL 1 B.length).length (bV (headL 1 B.length)), slc 5 1 (.slice av B.length cv) B.length (bV B)]]
      (fun r H => H = [slc 5 1 r W.length (bV W), Sep [pts row (cl [.slice (some ⟨m, 0, none⟩) 16 16, .slice ra (headL 1 B.length).length rc, .slice av B.length cv] 40), pts m (cl (bV (List.replicate 16 0)) 5), slc 5 1 (.slice ra (headL 1 B.length).length rc) (headL 1 B.length).length (bV (headL 1 B.length)), slc 5 1 (.slice av B.length cv) B.length (bV B)]]) := by
    intro m ra rc row hb1 hb2
    have hfl : [List.replicate 16 0, headL 1 B.length, B].flatten = W := by rw [hwl]; simp only [List.flatten_cons, List.flatten_nil, List.append_nil, List.append_assoc]
    have := Concat_any (Sep [pts row (cl [.slice (some ⟨m, 0, none⟩) 16 16, .slice ra (headL 1 B.length).length rc, .slice av B.length cv] 40), pts m (cl (bV (List.replicate 16 0)) 5), slc 5 1 (.slice ra (headL 1 B.length).length rc) (headL 1 B.length).length (bV (headL 1 B.length)), slc 5 1 (.slice av B.length cv) B.length (bV B)]) (.slice (some ⟨row, 0, none⟩) 3 3) [List.replicate 16 0, headL 1 B.length, B]
      ⟨[.slice (some ⟨m, 0, none⟩) 16 16, .slice ra (headL 1 B.length).length rc, .slice av B.length cv], (Vw.pts rfl).mono (Sep_get (i := 0) rfl), rfl, ⟨_, _, rfl, Nat.le_refl 3⟩, fun i x hx => by
        match i, hx with
        | 0, hx => cases hx; exact ⟨_, rfl, ⟨(Vw.pts (b := m) (l := bV (List.replicate 16 0)) (e := 5) rfl).mono (Sep_get (i := 1) rfl), _, _, rfl, by decide⟩⟩
        | 1, hx => cases hx; exact ⟨_, rfl, hb1.mono (Sep_get (i := 2) rfl)⟩
        | 2, hx => cases hx; exact ⟨_, rfl, hb2.mono (Sep_get (i := 3) rfl)⟩
        | k + 3, hx => simp at hx⟩ (by rw [hfl, hWl]; omega) (by show 3 ≤ _; omega)
    rw [hfl] at this
    exact this
  refine K_slcB (bs := B) 1 rfl ?_
  intro hb2
  refine K_adv1 rfl ?_
  refine K_mid 1 (fun y : Option Addr × Nat × Nat => True) (fun y => [(0, ptr jb), (2, ptr xj), (5, ptr xf), (6, ptr xb), (9, ptr y.2.2)]) (fun y => pts y.2.2 (cl [.slice y.1 W.length y.2.1] 40) :: slc 5 1 (.slice y.1 W.length y.2.1) W.length (bV W) :: pts xb (cl [.slice av B.length cv] 40) :: pts xf (cl [.string fresh] 9) :: pts xj (cl [ptr jb] 32) :: diskA bd A :: pts jb (cl [ptr bd, .string name, .int .i64 n, .int .i64 s, .int .i64 c, .bool br] 72) :: V :: F) rfl ?_ ?_
  rotate_left
  · intro tail
    refine K_drawA (fun w => Sat G w ([pts xb (cl [.slice av B.length cv] 40)])) (.st 1 (.st 2 (.st 4 (.fork (.fork (.act 0 (.fork (.act 3 (.fork (.act 5 (.fork (.act 6 (.act 7 (.act 8 .nil))) (.act 7 (.act 6 (.act 8 .nil))))) (.act 7 (.act 5 (.act 6 (.act 8 .nil)))))) (.act 7 (.act 3 (.act 5 (.act 6 (.act 8 .nil))))))) (.act 3 (.fork (.act 0 (.fork (.act 5 (.fork (.act 6 (.act 7 (.act 8 .nil))) (.act 7 (.act 6 (.act 8 .nil))))) (.act 7 (.act 5 (.act 6 (.act 8 .nil)))))) (.act 7 (.act 0 (.act 5 (.act 6 (.act 8 .nil)))))))) (.act 7 (.fork (.act 0 (.act 3 (.act 5 (.act 6 (.act 8 .nil))))) (.act 3 (.act 0 (.act 5 (.act 6 (.act 8 .nil))))))))))) rfl (by kernel_rfl) (by kernel_rfl) (by kernel_rfl) (fun w hw => hw.ent entA) ?_
    repeat' (first
      | refine J_fork ?_ ?_
      | (refine J_makeSlice (U := tab) (p := 16) (q := 16) rfl rfl rfl rfl rfl rfl rfl rfl rfl (by omega) (by omega) (by show 1 * 16 ≤ _; omega) (fun _ w hw => by exact hw.ent entA) ?_; intro m)
      | ((first | refine J_callE rfl rfl rfl rfl (head_any 1 B.length (by omega) (by omega)) entA ?_ (fun _ _ w hp hw => by obtain rfl := hp; exact hw.ent entA) | refine J_call0E rfl rfl rfl (head_any 1 B.length (by omega) (by omega)) entA ?_ (fun _ _ w hp hw => by obtain rfl := hp; exact hw.ent entA)); rintro _ _ rfl; (first | refine J_shape 0 rfl ?_ | refine K_shape 0 rfl ?_); rintro ra rc rfl; refine J_slcB (bs := headL 1 B.length) 0 rfl ?_; intro hb1)
      | (refine J_buildSlice1 (U := tab) rfl rfl rfl rfl rfl rfl rfl rfl rfl (fun _ w hw => by exact hw.ent entA) ?_; intro row)
      | (refine J_alloc (U := tab) rfl rfl rfl (fun _ w hw => by exact hw.ent entA) ?_; intro x9)
      | (refine J_callE rfl rfl rfl rfl (hcon m ra rc row hb1 hb2) (Ent.trans entA (Ent.resep [_, _, _, _] _)) ?_ (fun _ _ w hp hw => by obtain rfl := hp; exact hw.ent entA); rintro _ _ rfl; (first | refine J_shape 0 rfl ?_ | refine K_shape 0 rfl ?_); rintro wa wc rfl)
      | (refine J_isStore ?_; (first | refine J_store (U := tab) 0 (fun _ _ => trivial) rfl rfl rfl rfl rfl rfl rfl rfl rfl ?_ | refine J_store (U := tab) 1 (fun _ _ => trivial) rfl rfl rfl rfl rfl rfl rfl rfl rfl ?_ | refine J_store (U := tab) 2 (fun _ _ => trivial) rfl rfl rfl rfl rfl rfl rfl rfl rfl ?_ | refine J_store (U := tab) 3 (fun _ _ => trivial) rfl rfl rfl rfl rfl rfl rfl rfl rfl ?_); refine J_end ?_; refine K_to tail (wa, wc, x9) rfl trivial (by repeat (first | exact keep_nil | refine keep_cons rfl ?_)) entA)
      | (refine go1 ?_)
      | fail)
  rintro ⟨wa, wc, x9⟩ -
  simp only
  (refine go ?_)
  refine K_drawA (fun w => Sat G w ([pts jb (cl [ptr bd, .string name, .int .i64 n, .int .i64 s, .int .i64 c, .bool br] 72), pts xj (cl [ptr jb] 32), pts xf (cl [.string fresh] 9)])) (.st 0 (.st 1 (.st 2 (.st 3 (.st 4 (.act 5 (.st 6 (.st 7 (.st 8 (.st 9 (.st 10 .nil))))))))))) rfl (by kernel_rfl) (by kernel_rfl) (by kernel_rfl) (fun w hw => hw.ent entA) ?_
  (refine go ?_)
  (first | refine J_callE rfl rfl rfl rfl (Size_dA bd A fresh) entA ?_ (fun _ _ w hp hw => by obtain ⟨rfl, rfl⟩ := hp; exact hw.ent entA) | refine J_call0E rfl rfl rfl (Size_dA bd A fresh) entA ?_ (fun _ _ w hp hw => by obtain ⟨rfl, rfl⟩ := hp; exact hw.ent entA))
  rintro _ _ ⟨rfl, rfl⟩
  (refine go ?_)
  refine K_mid 1 (fun y : Value × List Value => y.2 = if (A.size fresh).2 = 0 then [.func (.func 56) #[] #[ptr xj, ptr xf] ] else []) (fun y => [(0, ptr jb), (2, ptr xj), (5, ptr xf), (6, ptr xb), (9, ptr x9), (10, y.1)]) (fun y => pts xj (cl [ptr jb] 32) :: pts jb (cl [ptr bd, .string name, .int .i64 n, .int .i64 s, .int .i64 c, .bool br] 72) :: slc 84 1 y.1 y.2.length y.2 :: pts x9 (cl [.slice wa W.length wc] 40) :: slc 5 1 (.slice wa W.length wc) W.length (bV W) :: pts xb (cl [.slice av B.length cv] 40) :: pts xf (cl [.string fresh] 9) :: diskA bd A :: V :: F) rfl ?_ ?_
  rotate_left
  · intro tail
    refine K_ent (slc_lift 84 1 none _) ?_
    refine K_condP rfl rfl ?_ ?_
    · intro he
      (refine go ?_)
      refine J_buildSlice1 (U := tab) rfl rfl rfl rfl rfl rfl rfl rfl rfl (fun _ _ _ => trivial) ?_
      intro row
      (refine go ?_)
      refine J_append (U := tab) (mm := 1) (news := [.func (.func 56) #[] #[ptr xj, ptr xf]]) 1 0 rfl rfl rfl rfl rfl rfl rfl rfl rfl rfl rfl rfl (Vw.pts rfl) rfl (by simp [Value.oneCell']) (by omega) (by show (0 + 1) * 8 ≤ _; omega) (fun _ => rfl) (fun _ _ _ => trivial) ?_
      intro v1
      (first | refine J_shape 1 rfl ?_ | refine K_shape 1 rfl ?_)
      rintro va vc rfl
      (refine goR ?_)
      refine K_to tail (.slice va (0 + 1) vc, [.func (.func 56) #[] #[ptr xj, ptr xf] ]) rfl (by rw [if_pos (by omega)]) (by repeat (first | exact keep_nil | refine keep_cons rfl ?_)) entA
    · intro he
      refine K_to tail (.slice none 0 0, []) rfl (by rw [if_neg (by omega)]) (by repeat (first | exact keep_nil | refine keep_cons rfl ?_)) entA
  rintro ⟨sv, fv⟩ hfv
  simp only at hfv ⊢
  (first | refine J_shape 2 rfl ?_ | refine K_shape 2 rfl ?_)
  rintro va vc rfl
  (refine go ?_)
  have hfl : fv.length ≤ 1 := by rw [hfv]; split <;> simp
  refine J_buildSlice1 (U := tab) (cs := [.func (.func 59) #[] #[ptr xj, ptr xf], .func (.func 60) #[] #[ptr xj, ptr xf, ptr x9], .func (.func 61) #[] #[ptr xj, ptr xf], .func (.func 62) #[] #[ptr xj, ptr xf], .func (.func 64) #[ptr bd] #[], .func (.func 65) #[] #[ptr xb, ptr xj] ]) rfl rfl rfl rfl rfl rfl rfl rfl rfl (fun _ _ _ => trivial) ?_
  intro row
  (refine go ?_)
  refine J_append (U := tab) (mm := 6) (news := [.func (.func 59) #[] #[ptr xj, ptr xf], .func (.func 60) #[] #[ptr xj, ptr xf, ptr x9], .func (.func 61) #[] #[ptr xj, ptr xf], .func (.func 62) #[] #[ptr xj, ptr xf], .func (.func 64) #[ptr bd] #[], .func (.func 65) #[] #[ptr xb, ptr xj] ]) 3 0 rfl rfl rfl rfl rfl rfl rfl rfl rfl rfl rfl rfl (Vw.pts rfl) rfl (by simp [Value.oneCell']) (by omega) (by show (_ + 6) * 8 ≤ _; omega) (fun _ => rfl) (fun _ _ _ => trivial) ?_
  intro v1
  refine J_slcVw 3 rfl ?_
  intro hv1
  obtain ⟨fs, hfs⟩ : ∃ fs, fs = fv ++ [.func (.func 59) #[] #[ptr xj, ptr xf], .func (.func 60) #[] #[ptr xj, ptr xf, ptr x9], .func (.func 61) #[] #[ptr xj, ptr xf], .func (.func 62) #[] #[ptr xj, ptr xf], .func (.func 64) #[ptr bd] #[], .func (.func 65) #[] #[ptr xb, ptr xj] ] := ⟨_, rfl⟩
  rw [← hfs] at hv1 ⊢
  have hfsl : fs.length = fv.length + 6 := by rw [hfs, List.length_append]; rfl
  rw [← hfsl] at hv1 ⊢
  have hpl : (putSteps name ls A).length = fs.length := by
    rw [hfsl, hfv]; unfold putSteps; rw [hfr]
    split <;> rfl
  have hWb : W.length ≤ 1000000000 := by omega
  have hst1 : ∀ (i : Nat) (fv : Value) (s : PS → Nat → PS → Prop), fs[i]? = some fv → (putSteps name ls A)[i]? = some s → ∃ g fi cap, fv = .func (.func g) fi cap ∧ ∀ x, PQ i x → Ctr Tryz.prog g (fi.toList ++ cap.toList) [PI bd jb xj xf x9 xb name fresh wa av wc B.length cv W br x] (fun r H => ∃ (e : Nat) (x' : PS), r = .int .i64 (e : Int) ∧ H = [PI bd jb xj xf x9 xb name fresh wa av wc B.length cv W br x'] ∧ s x e x' ∧ (e = 0 → PQ (i + 1) x')) := by
    intro i f1 s1 h1 h2
    have hi : i < fs.length := (List.getElem?_eq_some_iff.1 h1).1
    have hi10 : i ≤ 10 := by omega
    unfold putSteps at h2
    rw [hfr, ← hW, ← hB] at h2
    rw [hfs, hfv] at h1
    by_cases hz : (A.size fresh).2 = 0
    · rw [if_pos hz] at h1 h2
      match i, h1, h2 with
      | 0, h1, h2 => cases h1; cases h2; exact ⟨_, _, _, rfl, fun x hq => put1_I _ _ _ _ _ _ _ _ _ _ _ _ _ _ _ _ hi10 x hq⟩
      | 1, h1, h2 => cases h1; cases h2; exact ⟨_, _, _, rfl, fun x hq => put2_I _ _ _ _ _ _ _ _ _ _ _ _ _ _ _ _ hi10 x hq⟩
      | 2, h1, h2 => cases h1; cases h2; exact ⟨_, _, _, rfl, fun x hq => put3_I _ _ _ _ _ _ _ _ _ _ _ _ _ _ _ _ hi10 hWb x hq⟩
      | 3, h1, h2 => cases h1; cases h2; exact ⟨_, _, _, rfl, fun x hq => put4_I _ _ _ _ _ _ _ _ _ _ _ _ _ _ _ _ hi10 x hq⟩
      | 4, h1, h2 => cases h1; cases h2; exact ⟨_, _, _, rfl, fun x hq => put5_I _ _ _ _ _ _ _ _ _ _ _ _ _ _ _ _ hi10 x hq⟩
      | 5, h1, h2 => cases h1; cases h2; exact ⟨_, _, _, rfl, fun x hq => putN_I _ _ _ _ _ _ _ _ _ _ _ _ _ _ _ _ x hq⟩
      | 6, h1, h2 => cases h1; cases h2; exact ⟨_, _, _, rfl, fun x hq => put6_I _ _ _ _ _ _ _ _ _ _ _ _ _ _ _ _ x hq⟩
      | k + 7, h1, h2 => simp at h1
    · rw [if_neg hz] at h1 h2
      match i, h1, h2 with
      | 0, h1, h2 => cases h1; cases h2; exact ⟨_, _, _, rfl, fun x hq => put2_I _ _ _ _ _ _ _ _ _ _ _ _ _ _ _ _ hi10 x hq⟩
      | 1, h1, h2 => cases h1; cases h2; exact ⟨_, _, _, rfl, fun x hq => put3_I _ _ _ _ _ _ _ _ _ _ _ _ _ _ _ _ hi10 hWb x hq⟩
      | 2, h1, h2 => cases h1; cases h2; exact ⟨_, _, _, rfl, fun x hq => put4_I _ _ _ _ _ _ _ _ _ _ _ _ _ _ _ _ hi10 x hq⟩
      | 3, h1, h2 => cases h1; cases h2; exact ⟨_, _, _, rfl, fun x hq => put5_I _ _ _ _ _ _ _ _ _ _ _ _ _ _ _ _ hi10 x hq⟩
      | 4, h1, h2 => cases h1; cases h2; exact ⟨_, _, _, rfl, fun x hq => putN_I _ _ _ _ _ _ _ _ _ _ _ _ _ _ _ _ x hq⟩
      | 5, h1, h2 => cases h1; cases h2; exact ⟨_, _, _, rfl, fun x hq => put6_I _ _ _ _ _ _ _ _ _ _ _ _ _ _ _ _ x hq⟩
      | k + 6, h1, h2 => simp at h1
  have hall := all_any (PI bd jb xj xf x9 xb name fresh wa av wc B.length cv W br) (slc 84 1 v1 fs.length fs) v1 fs hv1 (by omega) (putSteps name ls A) hpl PQ hst1 (A, n, s, c) ⟨by simp only; omega, by simp only; omega⟩
  (first | refine J_shape 3 rfl ?_ | refine K_shape 3 rfl ?_)
  rintro va2 vc2 rfl
  (refine go ?_)
  refine J_callE rfl rfl rfl rfl hall (Ent.trans entA (Ent.cons _ (Ent.resep [diskA bd A, pts jb (cl [ptr bd, .string name, .int .i64 n, .int .i64 s, .int .i64 c, .bool br] 72), pts xj (cl [ptr jb] 32), pts xf (cl [.string fresh] 9), pts x9 (cl [.slice wa W.length wc] 40), pts xb (cl [.slice av B.length cv] 40), slc 5 1 (.slice wa W.length wc) W.length (bV W)] _))) ?_ (fun _ _ _ _ _ => trivial)
  rintro _ _ ⟨e, y, rfl, rfl, hr⟩
  refine J_ent (Ent.trans (Ent.pick [1] rfl) (Ent.unsep [diskA bd y.1, pts jb (cl [ptr bd, .string name, .int .i64 y.2.1, .int .i64 y.2.2.1, .int .i64 y.2.2.2, .bool br] 72), pts xj (cl [ptr jb] 32), pts xf (cl [.string fresh] 9), pts x9 (cl [.slice wa W.length wc] 40), pts xb (cl [.slice av B.length cv] 40), slc 5 1 (.slice wa W.length wc) W.length (bV W)] _)) ?_
  (refine go ?_)
  (first | refine K_return hE Tryz.func24 rfl _ rfl ⟨e, y, rfl, rfl, hr⟩ entA | refine K_fallEnd hE Tryz.func24 rfl _ rfl ⟨e, y, rfl, rfl, hr⟩ entA)
end Go.Proofs.YtpdmbmnhgcnelaaGreat

/- journal, part i: may, breaks, Size, Append. -/
set_option linter.unusedVariables false
set_option linter.unusedSimpArgs false
namespace Go.Proofs.YtpdmbmnhgcnelaaGreat
open Go Go.SL
attribute [local irreducible] J K Ctr Ends pts slc mapR mapI sbRow stock arrS loopP CtrY diskA

theorem may_new (name : ByteArray) (f : Nat) : ((Ab.new 1).create (isName name) name f).1 = if isName name then 0 else 1 := by
  cases h : isName name <;> simp [Ab.create, Ab.meet, Ab.new, Ab.look, Ab.lookIn]
theorem may_any (name : ByteArray) : Ctr Tryz.prog 18 [.string name] [] (fun r H => r = .bool (isName name) ∧ H = []) := by
  refine Ctr.enter Tryz.func18 (by kernel_rfl) rfl Tryz.ntmps18 rfl rfl ?_
  intro G F R hE
  (refine go ?_)
  (first | refine J_callE rfl rfl rfl rfl (New_dA 1 (by omega) (by omega)) entA ?_ (fun _ _ _ _ _ => trivial) | refine J_call0E rfl rfl rfl (New_dA 1 (by omega) (by omega)) entA ?_ (fun _ _ _ _ _ => trivial) | (refine go ?_; first | refine J_callE rfl rfl rfl rfl (New_dA 1 (by omega) (by omega)) entA ?_ (fun _ _ _ _ _ => trivial) | refine J_call0E rfl rfl rfl (New_dA 1 (by omega) (by omega)) entA ?_ (fun _ _ _ _ _ => trivial)))
  rintro _ _ ⟨bd, rfl, rfl⟩
  (refine go ?_)
  (first | refine J_callE rfl rfl rfl rfl (Create_dA bd (Ab.new 1) name (by simp [Ab.new])) entA ?_ (fun _ _ _ _ _ => trivial) | refine J_call0E rfl rfl rfl (Create_dA bd (Ab.new 1) name (by simp [Ab.new])) entA ?_ (fun _ _ _ _ _ => trivial) | (refine go ?_; first | refine J_callE rfl rfl rfl rfl (Create_dA bd (Ab.new 1) name (by simp [Ab.new])) entA ?_ (fun _ _ _ _ _ => trivial) | refine J_call0E rfl rfl rfl (Create_dA bd (Ab.new 1) name (by simp [Ab.new])) entA ?_ (fun _ _ _ _ _ => trivial)))
  rintro _ _ ⟨f, hf, rfl, rfl⟩
  rw [may_new]
  (refine go ?_)
  (first | refine J_slot 2 ((.bool (isName name))) rfl ((congrArg Value.bool (by cases isName name <;> rfl))) ?_ | refine K_slot 2 ((.bool (isName name))) rfl ((congrArg Value.bool (by cases isName name <;> rfl))) ?_)
  refine K_ent (Ent.drop _ _) ?_
  (first | refine K_return hE Tryz.func18 rfl _ rfl ⟨rfl, rfl⟩ entA | refine K_fallEnd hE Tryz.func18 rfl _ rfl ⟨rfl, rfl⟩ entA)
theorem breaks_any (jb bd : Nat) (name : ByteArray) (n s c : Int) (br : Bool) (e : Nat) : Ctr Tryz.prog 47 [ptr jb, .int .i64 (e : Int)] [jr jb bd name n s c br] (fun r H => r = .int .i64 (e : Int) ∧ H = [jr jb bd name n s c (br || decide (e ≠ 0))]) := by
  unfold jr
  refine Ctr.enter Tryz.func47 (by kernel_rfl) rfl Tryz.ntmps47 rfl rfl ?_
  intro G F R hE
  cases br
  · (refine go ?_)
    have hd : decide ((e : Int) ≠ 0) = (false || decide (e ≠ 0)) := by by_cases h : e = 0 <;> simp [h]
    simp only [hd]
    (first | refine K_return hE Tryz.func47 rfl _ rfl ⟨rfl, rfl⟩ entA | refine K_fallEnd hE Tryz.func47 rfl _ rfl ⟨rfl, rfl⟩ entA)
  · (refine go ?_)
    (first | refine K_return hE Tryz.func47 rfl _ rfl ⟨rfl, rfl⟩ entA | refine K_fallEnd hE Tryz.func47 rfl _ rfl ⟨rfl, rfl⟩ entA)
theorem JSize_any (jb bd : Nat) (name : ByteArray) (n s c : Int) (br : Bool) : Ctr Tryz.prog 15 [ptr jb] [jr jb bd name n s c br] (fun r H => r = .int .i64 s ∧ H = [jr jb bd name n s c br]) := by
  unfold jr
  refine Ctr.enter Tryz.func15 (by kernel_rfl) rfl Tryz.ntmps15 rfl rfl ?_
  intro G F R hE
  (refine go ?_)
  (first | refine K_return hE Tryz.func15 rfl _ rfl ⟨rfl, rfl⟩ entA | refine K_fallEnd hE Tryz.func15 rfl _ rfl ⟨rfl, rfl⟩ entA)
/-- A journal's numbers. -/
structure JN where
  n : Int
  s : Int
  c : Int
  br : Bool
def jrN (jb bd : Nat) (name : ByteArray) (x : JN) : HP := jr jb bd name x.n x.s x.c x.br
def appendA (name : ByteArray) (A : Ab) (x : JN) (b : List UInt8) : Nat × Ab × JN :=
  if x.br then (10, A, x) else if 4096 < b.length then (1, A, x) else if 524288 < x.s + (encL b).length then (3, A, x) else
  if (A.write (mayW name (32 + x.s) (encL b)) name (32 + x.s).toNat (encL b)).1 = 0 then (0, (A.write (mayW name (32 + x.s) (encL b)) name (32 + x.s).toNat (encL b)).2, { x with s := x.s + (encL b).length })
  else ((A.write (mayW name (32 + x.s) (encL b)) name (32 + x.s).toNat (encL b)).1, (A.write (mayW name (32 + x.s) (encL b)) name (32 + x.s).toNat (encL b)).2, { x with br := true })
theorem encL_len (b : List UInt8) (h : b.length ≤ 1000000000000) : (encL b).length ≤ b.length + 10 := by
  have := uv_len10 (n := b.length) (by omega)
  simp [encL]; omega
/-- A journal, broken or not. -/
def jrE (jb bd : Nat) (name : ByteArray) (n s c : Int) : HP := fun h => ∃ br, pts jb (cl [ptr bd, .string name, .int .i64 n, .int .i64 s, .int .i64 c, .bool br] 72) h
theorem jrE_in (jb bd : Nat) (name : ByteArray) (n s c : Int) (br : Bool) (H : List HP) : Ent (pts jb (cl [ptr bd, .string name, .int .i64 n, .int .i64 s, .int .i64 c, .bool br] 72) :: H) (jrE jb bd name n s c :: H) :=
  Ent.fold (B := [_]) fun h' hs => ⟨h', sub.refl h', br, Sep_one hs⟩
end Go.Proofs.YtpdmbmnhgcnelaaGreat
namespace Go.Proofs.YtpdmbmnhgcnelaaGreat
open Go Go.SL
theorem jrE_cell {G : Glob} {w : World} {jb bd : Nat} {name : ByteArray} {n s c : Int} (hw : Sat G w [jrE jb bd name n s c]) : w.cell? ⟨jb, 0, none⟩ = some (ptr bd) ∧ w.cell? ⟨jb, 1, none⟩ = some (.string name) ∧ w.cell? ⟨jb, 3, none⟩ = some (.int .i64 s) := by
  obtain ⟨h, hh, br, hA⟩ := hw.getA (i := 0) rfl
  have hb : h jb = some (cl [ptr bd, .string name, .int .i64 n, .int .i64 s, .int .i64 c, .bool br] 72) := by rw [hA jb, if_pos rfl]
  exact ⟨cell_of_hcell hh (by unfold hcell; rw [hb]; rfl), cell_of_hcell hh (by unfold hcell; rw [hb]; rfl), cell_of_hcell hh (by unfold hcell; rw [hb]; rfl)⟩
attribute [local irreducible] J K Ctr Ends pts slc mapR mapI sbRow stock arrS loopP CtrY diskA
set_option maxRecDepth 20000 in
theorem Append_any (jb bd : Nat) (name : ByteArray) (A : Ab) (x : JN) (X : HP) (bv : Value) (b : List UInt8) (hv : BAt X bv b) (hl : b.length ≤ 9223372036854775807) (hs : 0 ≤ x.s ∧ x.s ≤ 1000000000) (hwl : A.writes.length ≤ 1000000000) :
    Ctr Tryz.prog 17 [ptr jb, bv] [diskA bd A, jrN jb bd name x, X]
      (fun r H => r = .int .i64 ((appendA name A x b).1 : Int) ∧ H = [diskA bd (appendA name A x b).2.1, jrN jb bd name (appendA name A x b).2.2, X]) := by
  obtain ⟨n, s, c, br⟩ := x
  obtain ⟨a, cc, rfl, hc⟩ := hv.2
  simp only at hs
  dsimp only [jrN, jr]
  refine Ctr.enter Tryz.func17 (by kernel_rfl) rfl Tryz.ntmps17 rfl rfl ?_
  intro G F R hE
  dsimp only [appendA] at hE
  cases br with
  | true =>
    simp only [if_true] at hE
    (refine go ?_)
    (first | refine K_return hE Tryz.func17 rfl _ rfl ⟨rfl, rfl⟩ entA | refine K_fallEnd hE Tryz.func17 rfl _ rfl ⟨rfl, rfl⟩ entA)
  | false =>
    simp only [Bool.false_eq_true, if_false] at hE
    (refine go ?_)
    refine K_condP rfl rfl ?_ ?_
    · intro hbig
      rw [if_pos (by omega)] at hE
      (refine go ?_)
      (first | refine K_return hE Tryz.func17 rfl _ rfl ⟨rfl, rfl⟩ entA | refine K_fallEnd hE Tryz.func17 rfl _ rfl ⟨rfl, rfl⟩ entA)
    intro hsm
    have hb4 : b.length ≤ 4096 := by omega
    have hel := encL_len b (by omega)
    rw [if_neg (by omega)] at hE
    (refine go ?_)
    (first | refine J_callE rfl rfl rfl rfl (encoded_any X _ b hv (by omega)) entA ?_ (fun _ _ _ _ _ => trivial) | refine J_call0E rfl rfl rfl (encoded_any X _ b hv (by omega)) entA ?_ (fun _ _ _ _ _ => trivial) | (refine go ?_; first | refine J_callE rfl rfl rfl rfl (encoded_any X _ b hv (by omega)) entA ?_ (fun _ _ _ _ _ => trivial) | refine J_call0E rfl rfl rfl (encoded_any X _ b hv (by omega)) entA ?_ (fun _ _ _ _ _ => trivial)))
    rintro r _ rfl
    (first | refine J_shape 0 rfl ?_ | refine K_shape 0 rfl ?_)
    rintro ra rc rfl
    refine J_slcB (bs := encL b) 0 rfl ?_
    intro hbr
    (refine go ?_)
    refine K_condP rfl rfl ?_ ?_
    · intro hbig
      rw [if_pos (by omega)] at hE
      (refine go ?_)
      (first | refine K_return hE Tryz.func17 rfl _ rfl ⟨rfl, rfl⟩ entA | refine K_fallEnd hE Tryz.func17 rfl _ rfl ⟨rfl, rfl⟩ entA)
    intro hfit
    rw [if_neg (by omega)] at hE
    (refine go ?_)
    refine K_drawA (fun w => Sat G w [jrE jb bd name n s c]) (.st 0 (.st 1 (.st 2 (.st 3 (.st 4 (.st 5 (.st 6 (.st 7 (.st 8 (.st 9 (.st 10 (.st 11 (.st 12 (.st 13 (.st 14 (.act 15 (.act 16 (.st 17 .nil)))))))))))))))))) rfl (by kernel_rfl) (by kernel_rfl) (by kernel_rfl) (fun w hw => hw.ent (Ent.trans entA (jrE_in jb bd name n s c false []))) ?_
    (refine go ?_)
    refine J_isLoad ?_
    refine J_loadS (U := tab) rfl rfl (fun w hw => (jrE_cell hw).1) rfl rfl ?_
    (refine go ?_)
    refine J_isLoad ?_
    refine J_loadS (U := tab) rfl rfl (fun w hw => (jrE_cell hw).2.1) rfl rfl ?_
    (refine go ?_)
    refine J_isLoad ?_
    refine J_loadS (U := tab) rfl rfl (fun w hw => (jrE_cell hw).2.2) rfl rfl ?_
    (refine go ?_)
    obtain ⟨W, hW⟩ : ∃ W, W = A.write (mayW name (32 + s) (encL b)) name (32 + s).toNat (encL b) := ⟨_, rfl⟩
    have hwr := Write_dA bd A name (32 + s) (slc 5 1 (.slice ra (encL b).length rc) (encL b).length (bV (encL b))) (.slice ra (encL b).length rc) (encL b) hbr.1 hwl (by omega) (by omega)
    rw [← hW] at hE hwr
    refine J_callE rfl rfl rfl rfl hwr entA ?_ (fun _ _ w hp hw => by obtain ⟨rfl, rfl⟩ := hp; exact hw.ent (Ent.trans entA (jrE_in jb bd name n s c false [])))
    rintro _ _ ⟨rfl, rfl⟩
    refine J_callE rfl rfl rfl rfl (breaks_any jb bd name n s c false W.1) entA ?_ (fun _ _ w hp hw => by obtain ⟨rfl, rfl⟩ := hp; exact hw.ent (Ent.trans entA (jrE_in jb bd name n s c _ [])))
    rintro _ _ ⟨rfl, rfl⟩
    unfold jr
    (refine go ?_)
    refine K_condP rfl rfl ?_ ?_
    · intro hne
      have hne' : ¬ W.1 = 0 := by omega
      rw [if_neg hne'] at hE
      have hd : (false || decide (W.1 ≠ 0)) = true := by simp [hne']
      simp only [hd]
      (refine go ?_)
      (first | refine K_return hE Tryz.func17 rfl _ rfl ⟨rfl, rfl⟩ entA | refine K_fallEnd hE Tryz.func17 rfl _ rfl ⟨rfl, rfl⟩ entA)
    · intro heq
      have heq' : W.1 = 0 := by omega
      rw [if_pos heq'] at hE
      have hd : (false || decide (W.1 ≠ 0)) = false := by simp [heq']
      simp only [hd]
      (refine go ?_)
      (first | refine K_return hE Tryz.func17 rfl _ rfl ⟨rfl, rfl⟩ entA | refine K_fallEnd hE Tryz.func17 rfl _ rfl ⟨rfl, rfl⟩ entA)
end Go.Proofs.YtpdmbmnhgcnelaaGreat

/- journal, part j: Commit. -/
set_option linter.unusedVariables false
set_option linter.unusedSimpArgs false
namespace Go.Proofs.YtpdmbmnhgcnelaaGreat
open Go Go.SL
attribute [local irreducible] J K Ctr Ends pts slc mapR mapI sbRow stock arrS loopP CtrY diskA

def CI (bd jb x1 x3 : Nat) (name : ByteArray) (next sz : Nat) (x : PS) : HP := Sep [diskA bd x.1, pts jb (cl [ptr bd, .string name, .int .i64 x.2.1, .int .i64 x.2.2.1, .int .i64 x.2.2.2, .bool false] 72), pts x1 (cl [ptr jb] 32), pts x3 (cl [.int .i64 (next : Int)] 3)]
def CQ (sz : Nat) (i : Nat) (x : PS) : Prop := x.2.2.1 = (sz : Int) ∧ x.1.states.length ≤ 900000000 + i ∧ x.1.writes.length ≤ 900000000 + i
theorem CQ.next {sz i : Nat} {x : PS} (h : CQ sz i x) {B : Ab} (g : Grow1 x.1 B) : CQ sz (i + 1) (B, x.2) := by
  obtain ⟨h0, h1, h2⟩ := h
  obtain ⟨g1, g2⟩ := g
  exact ⟨h0, by simp only; omega, by simp only; omega⟩
def cSync (name : ByteArray) := onA fun A e B => e = (A.sync (isName name) name).1 ∧ B = (A.sync (isName name) name).2
def cHead (name : ByteArray) (next sz : Nat) := onA fun A e B => e = (A.write (mayW name ((next % 2 * 16 : Nat) : Int) (headL next sz)) name (next % 2 * 16) (headL next sz)).1 ∧ B = (A.write (mayW name ((next % 2 * 16 : Nat) : Int) (headL next sz)) name (next % 2 * 16) (headL next sz)).2
def cSet (next : Nat) (x : PS) (e : Nat) (y : PS) : Prop := e = 0 ∧ y = (x.1, (next : Int), x.2.2.1, x.2.2.1)
def commitSteps (name : ByteArray) (next sz : Nat) : List (PS → Nat → PS → Prop) := [cSync name, cHead name next sz, cSync name, cSet next]
/-- What Commit does. -/
def CommitR (name : ByteArray) (A : Ab) (x : JN) (e : Nat) (A' : Ab) (x' : JN) : Prop :=
  if x.br then e = 10 ∧ A' = A ∧ x' = x else if x.s = x.c then e = 0 ∧ A' = A ∧ x' = x else if 1073741824 ≤ x.n then e = 3 ∧ A' = A ∧ x' = x
  else ∃ y : PS, Runs (commitSteps name (x.n.toNat + 1) x.s.toNat) (A, x.n, x.s, x.c) e y ∧ A' = y.1 ∧ x' = ⟨y.2.1, y.2.2.1, y.2.2.2, decide (e ≠ 0)⟩
theorem Commit1_any (bd jb x1 x3 : Nat) (name : ByteArray) (next sz : Nat) (A : Ab) (n s c : Int) (hwl : A.writes.length ≤ 1000000000) :
    Ctr Tryz.prog 77 [ptr x1] ([diskA bd A, pts jb (cl [ptr bd, .string name, .int .i64 n, .int .i64 s, .int .i64 c, .bool false] 72), pts x1 (cl [ptr jb] 32), pts x3 (cl [.int .i64 (next : Int)] 3)]) (fun r H => ∃ (e : Nat) (A1 : Ab), e = (A.sync (isName name) name).1 ∧ A1 = (A.sync (isName name) name).2 ∧ r = .int .i64 (e : Int) ∧ H = [diskA bd A1, pts jb (cl [ptr bd, .string name, .int .i64 n, .int .i64 s, .int .i64 c, .bool false] 72), pts x1 (cl [ptr jb] 32), pts x3 (cl [.int .i64 (next : Int)] 3)]) := by
  refine Ctr.enter Tryz.func77 (by kernel_rfl) rfl Tryz.ntmps77 rfl rfl ?_
  intro G F R hE
  (refine go ?_)
  refine K_drawA (fun w => Sat G w ([pts jb (cl [ptr bd, .string name, .int .i64 n, .int .i64 s, .int .i64 c, .bool false] 72), pts x1 (cl [ptr jb] 32), pts x3 (cl [.int .i64 (next : Int)] 3)])) (.st 0 (.st 1 (.st 2 (.st 3 (.st 4 (.st 5 (.st 6 (.st 7 (.act 8 (.st 9 .nil)))))))))) rfl (by kernel_rfl) (by kernel_rfl) (by kernel_rfl) (fun w hw => hw.ent entA) ?_
  (refine go ?_)
  (first | refine J_callE rfl rfl rfl rfl (Sync_dA bd A name hwl) entA ?_ (fun _ _ w hp hw => by obtain ⟨rfl, rfl⟩ := hp; exact hw.ent entA) | refine J_call0E rfl rfl rfl (Sync_dA bd A name hwl) entA ?_ (fun _ _ w hp hw => by obtain ⟨rfl, rfl⟩ := hp; exact hw.ent entA))
  rintro _ _ ⟨rfl, rfl⟩
  (refine go ?_)
  (first | refine K_return hE Tryz.func77 rfl _ rfl ⟨_, _, rfl, rfl, rfl, rfl⟩ entA | refine K_fallEnd hE Tryz.func77 rfl _ rfl ⟨_, _, rfl, rfl, rfl, rfl⟩ entA)
theorem Commit3_any (bd jb x1 x3 : Nat) (name : ByteArray) (next sz : Nat) (A : Ab) (n s c : Int) (hwl : A.writes.length ≤ 1000000000) :
    Ctr Tryz.prog 79 [ptr x1] ([diskA bd A, pts jb (cl [ptr bd, .string name, .int .i64 n, .int .i64 s, .int .i64 c, .bool false] 72), pts x1 (cl [ptr jb] 32), pts x3 (cl [.int .i64 (next : Int)] 3)]) (fun r H => ∃ (e : Nat) (A1 : Ab), e = (A.sync (isName name) name).1 ∧ A1 = (A.sync (isName name) name).2 ∧ r = .int .i64 (e : Int) ∧ H = [diskA bd A1, pts jb (cl [ptr bd, .string name, .int .i64 n, .int .i64 s, .int .i64 c, .bool false] 72), pts x1 (cl [ptr jb] 32), pts x3 (cl [.int .i64 (next : Int)] 3)]) := by
  refine Ctr.enter Tryz.func79 (by kernel_rfl) rfl Tryz.ntmps79 rfl rfl ?_
  intro G F R hE
  (refine go ?_)
  refine K_drawA (fun w => Sat G w ([pts jb (cl [ptr bd, .string name, .int .i64 n, .int .i64 s, .int .i64 c, .bool false] 72), pts x1 (cl [ptr jb] 32), pts x3 (cl [.int .i64 (next : Int)] 3)])) (.st 0 (.st 1 (.st 2 (.st 3 (.st 4 (.st 5 (.st 6 (.st 7 (.act 8 (.st 9 .nil)))))))))) rfl (by kernel_rfl) (by kernel_rfl) (by kernel_rfl) (fun w hw => hw.ent entA) ?_
  (refine go ?_)
  (first | refine J_callE rfl rfl rfl rfl (Sync_dA bd A name hwl) entA ?_ (fun _ _ w hp hw => by obtain ⟨rfl, rfl⟩ := hp; exact hw.ent entA) | refine J_call0E rfl rfl rfl (Sync_dA bd A name hwl) entA ?_ (fun _ _ w hp hw => by obtain ⟨rfl, rfl⟩ := hp; exact hw.ent entA))
  rintro _ _ ⟨rfl, rfl⟩
  (refine go ?_)
  (first | refine K_return hE Tryz.func79 rfl _ rfl ⟨_, _, rfl, rfl, rfl, rfl⟩ entA | refine K_fallEnd hE Tryz.func79 rfl _ rfl ⟨_, _, rfl, rfl, rfl, rfl⟩ entA)
theorem Commit2_any (bd jb x1 x3 : Nat) (name : ByteArray) (next sz : Nat) (hnx : next ≤ 2000000000) (hsz : sz ≤ 2000000000) (A : Ab) (n c : Int) (hwl : A.writes.length ≤ 1000000000) :
    Ctr Tryz.prog 78 [ptr x1, ptr x3] ([diskA bd A, pts jb (cl [ptr bd, .string name, .int .i64 n, .int .i64 (sz : Int), .int .i64 c, .bool false] 72), pts x1 (cl [ptr jb] 32), pts x3 (cl [.int .i64 (next : Int)] 3)]) (fun r H => ∃ (e : Nat) (A1 : Ab), e = (A.write (mayW name ((next % 2 * 16 : Nat) : Int) (headL next sz)) name (next % 2 * 16) (headL next sz)).1 ∧ A1 = (A.write (mayW name ((next % 2 * 16 : Nat) : Int) (headL next sz)) name (next % 2 * 16) (headL next sz)).2 ∧ r = .int .i64 (e : Int) ∧ H = [diskA bd A1, pts jb (cl [ptr bd, .string name, .int .i64 n, .int .i64 (sz : Int), .int .i64 c, .bool false] 72), pts x1 (cl [ptr jb] 32), pts x3 (cl [.int .i64 (next : Int)] 3)]) := by
  refine Ctr.enter Tryz.func78 (by kernel_rfl) rfl Tryz.ntmps78 rfl rfl ?_
  intro G F R hE
  (refine go ?_)
  refine K_drawA (fun w => Sat G w ([pts jb (cl [ptr bd, .string name, .int .i64 n, .int .i64 (sz : Int), .int .i64 c, .bool false] 72), pts x1 (cl [ptr jb] 32), pts x3 (cl [.int .i64 (next : Int)] 3)])) (.st 0 (.st 1 (.st 2 (.st 3 (.st 4 (.st 5 (.st 6 (.st 7 (.st 8 (.st 9 (.st 10 (.st 11 (.st 12 (.st 13 (.st 14 (.st 15 (.act 16 (.act 17 (.st 18 .nil))))))))))))))))))) rfl (by kernel_rfl) (by kernel_rfl) (by kernel_rfl) (fun w hw => hw.ent entA) ?_
  (refine go ?_)
  refine J_rem rfl rfl rfl (by omega) (by omega) ?_
  refine J_slot 12 (.int .i64 ((next % 2 : Nat) : Int)) rfl (congrArg (Value.int .i64) (by omega)) ?_
  (refine go ?_)
  refine J_mul rfl rfl rfl (by simp only [inK]; omega) ?_
  refine J_slot 13 (.int .i64 ((next % 2 * 16 : Nat) : Int)) rfl (congrArg (Value.int .i64) (by omega)) ?_
  (refine go ?_)
  (first | refine J_callE rfl rfl rfl rfl (head_any next sz (by omega) (by omega)) entA ?_ (fun _ _ w hp hw => by obtain rfl := hp; exact hw.ent entA) | refine J_call0E rfl rfl rfl (head_any next sz (by omega) (by omega)) entA ?_ (fun _ _ w hp hw => by obtain rfl := hp; exact hw.ent entA))
  rintro _ _ rfl
  (first | refine J_shape 0 rfl ?_ | refine K_shape 0 rfl ?_)
  rintro ra rc rfl
  refine J_slcB (bs := headL next sz) 0 rfl ?_
  intro hbr
  have hwr := Write_dA bd A name ((next % 2 * 16 : Nat) : Int) _ _ (headL next sz) hbr.1 hwl (by rw [headL_len]; omega) (by omega)
  rw [Int.toNat_natCast] at hwr
  (first | refine J_callE rfl rfl rfl rfl (hwr) entA ?_ (fun _ _ w hp hw => by obtain ⟨rfl, rfl⟩ := hp; exact hw.ent entA) | refine J_call0E rfl rfl rfl (hwr) entA ?_ (fun _ _ w hp hw => by obtain ⟨rfl, rfl⟩ := hp; exact hw.ent entA))
  rintro _ _ ⟨rfl, rfl⟩
  (refine go ?_)
  (first | refine K_return hE Tryz.func78 rfl _ rfl ⟨_, _, rfl, rfl, rfl, rfl⟩ entA | refine K_fallEnd hE Tryz.func78 rfl _ rfl ⟨_, _, rfl, rfl, rfl, rfl⟩ entA)
/-- A journal of which the size alone is known. -/
def jrS (jb : Nat) (s : Int) : HP := fun h => ∃ bd name n c br, pts jb (cl [ptr bd, .string name, .int .i64 n, .int .i64 s, .int .i64 c, .bool br] 72) h
theorem jrS_in (jb bd : Nat) (name : ByteArray) (n s c : Int) (br : Bool) (H : List HP) : Ent (pts jb (cl [ptr bd, .string name, .int .i64 n, .int .i64 s, .int .i64 c, .bool br] 72) :: H) (jrS jb s :: H) :=
  Ent.fold (B := [_]) fun h' hs => ⟨h', sub.refl h', bd, name, n, c, br, Sep_one hs⟩
end Go.Proofs.YtpdmbmnhgcnelaaGreat
namespace Go.Proofs.YtpdmbmnhgcnelaaGreat
open Go Go.SL
theorem jrS_cell {G : Glob} {w : World} {jb : Nat} {s : Int} {H : List HP} (hw : Sat G w (jrS jb s :: H)) : w.cell? ⟨jb, 3, none⟩ = some (.int .i64 s) := by
  obtain ⟨h, hh, bd, name, n, c, br, hA⟩ := hw.getA (i := 0) rfl
  have hb : h jb = some (cl [ptr bd, .string name, .int .i64 n, .int .i64 s, .int .i64 c, .bool br] 72) := by rw [hA jb, if_pos rfl]
  exact cell_of_hcell hh (by unfold hcell; rw [hb]; rfl)
attribute [local irreducible] J K Ctr Ends pts slc mapR mapI sbRow stock arrS loopP CtrY diskA
theorem Commit4_any (bd jb x1 x3 : Nat) (name : ByteArray) (next sz : Nat) (A : Ab) (n s c : Int) :
    Ctr Tryz.prog 80 [ptr x3, ptr x1] ([diskA bd A, pts jb (cl [ptr bd, .string name, .int .i64 n, .int .i64 s, .int .i64 c, .bool false] 72), pts x1 (cl [ptr jb] 32), pts x3 (cl [.int .i64 (next : Int)] 3)]) (fun r H => r = .int .i64 0 ∧ H = [diskA bd A, pts jb (cl [ptr bd, .string name, .int .i64 (next : Int), .int .i64 s, .int .i64 s, .bool false] 72), pts x1 (cl [ptr jb] 32), pts x3 (cl [.int .i64 (next : Int)] 3)]) := by
  refine Ctr.enter Tryz.func80 (by kernel_rfl) rfl Tryz.ntmps80 rfl rfl ?_
  intro G F R hE
  (refine go ?_)
  refine K_drawA (fun w => Sat G w [jrS jb s, pts x1 (cl [ptr jb] 32), pts x3 (cl [.int .i64 (next : Int)] 3)]) (.st 0 (.st 1 (.st 2 (.st 3 (.st 4 (.st 5 (.st 6 (.st 7 (.st 8 (.act 9 (.st 10 (.st 11 (.act 12 .nil))))))))))))) rfl (by kernel_rfl) (by kernel_rfl) (by kernel_rfl) (fun w hw => hw.ent (Ent.trans entA (jrS_in jb bd name _ s _ _ _))) ?_
  (refine go ?_)
  refine J_isLoad ?_
  refine J_loadS (U := tab) rfl rfl (fun w hw => jrS_cell hw) rfl rfl ?_
  (refine go ?_)
  refine J_isStore ?_
  refine J_store (U := tab) 1 (fun w hw => by exact hw.ent (Ent.trans entA (jrS_in jb bd name _ s _ _ _))) rfl rfl rfl rfl rfl rfl rfl rfl rfl ?_
  (refine go ?_)
  (first | refine K_return hE Tryz.func80 rfl _ rfl ⟨rfl, rfl⟩ entA | refine K_fallEnd hE Tryz.func80 rfl _ rfl ⟨rfl, rfl⟩ entA)
theorem Commit1_I (bd jb x1 x3 : Nat) (name : ByteArray) (next sz : Nat) (i : Nat) (hi : i ≤ 10) (x : PS) (hq : CQ sz i x) :
    Ctr Tryz.prog 77 [ptr x1] [CI bd jb x1 x3 name next sz x] (fun r H => ∃ (e : Nat) (x' : PS), r = .int .i64 (e : Int) ∧ H = [CI bd jb x1 x3 name next sz x'] ∧ cSync name x e x' ∧ (e = 0 → CQ sz (i + 1) x')) := by
  obtain ⟨A, n, s, c⟩ := x
  have h0 := hq.1
  simp only at h0
  subst h0
  exact (Commit1_any bd jb x1 x3 name next sz A n (sz : Int) c (by have := hq.2.2; simp only at this; omega)).conv (Ent.unsep1 _) (by
    rintro v H ⟨e, A1, he, hA1, rfl, rfl⟩
    exact ⟨_, ⟨_, (A1, n, (sz : Int), c), rfl, rfl, ⟨⟨he, hA1⟩, rfl⟩, fun _ => hq.next (hA1 ▸ grow_sync _ _ _)⟩, Ent.resep1 _⟩)
theorem Commit3_I (bd jb x1 x3 : Nat) (name : ByteArray) (next sz : Nat) (i : Nat) (hi : i ≤ 10) (x : PS) (hq : CQ sz i x) :
    Ctr Tryz.prog 79 [ptr x1] [CI bd jb x1 x3 name next sz x] (fun r H => ∃ (e : Nat) (x' : PS), r = .int .i64 (e : Int) ∧ H = [CI bd jb x1 x3 name next sz x'] ∧ cSync name x e x' ∧ (e = 0 → CQ sz (i + 1) x')) := by
  obtain ⟨A, n, s, c⟩ := x
  have h0 := hq.1
  simp only at h0
  subst h0
  exact (Commit3_any bd jb x1 x3 name next sz A n (sz : Int) c (by have := hq.2.2; simp only at this; omega)).conv (Ent.unsep1 _) (by
    rintro v H ⟨e, A1, he, hA1, rfl, rfl⟩
    exact ⟨_, ⟨_, (A1, n, (sz : Int), c), rfl, rfl, ⟨⟨he, hA1⟩, rfl⟩, fun _ => hq.next (hA1 ▸ grow_sync _ _ _)⟩, Ent.resep1 _⟩)
theorem Commit2_I (bd jb x1 x3 : Nat) (name : ByteArray) (next sz : Nat) (i : Nat) (hi : i ≤ 10) (hnx : next ≤ 2000000000) (hsz : sz ≤ 2000000000) (x : PS) (hq : CQ sz i x) :
    Ctr Tryz.prog 78 [ptr x1, ptr x3] [CI bd jb x1 x3 name next sz x] (fun r H => ∃ (e : Nat) (x' : PS), r = .int .i64 (e : Int) ∧ H = [CI bd jb x1 x3 name next sz x'] ∧ cHead name next sz x e x' ∧ (e = 0 → CQ sz (i + 1) x')) := by
  obtain ⟨A, n, s, c⟩ := x
  have h0 := hq.1
  simp only at h0
  subst h0
  exact (Commit2_any bd jb x1 x3 name next sz hnx hsz A n c (by have := hq.2.2; simp only at this; omega)).conv (Ent.unsep1 _) (by
    rintro v H ⟨e, A1, he, hA1, rfl, rfl⟩
    exact ⟨_, ⟨_, (A1, n, (sz : Int), c), rfl, rfl, ⟨⟨he, hA1⟩, rfl⟩, fun _ => hq.next (hA1 ▸ grow_write _ _ _ _ _)⟩, Ent.resep1 _⟩)
theorem Commit4_I (bd jb x1 x3 : Nat) (name : ByteArray) (next sz : Nat) (i : Nat) (hi : i ≤ 10) (x : PS) (hq : CQ sz i x) :
    Ctr Tryz.prog 80 [ptr x3, ptr x1] [CI bd jb x1 x3 name next sz x] (fun r H => ∃ (e : Nat) (x' : PS), r = .int .i64 (e : Int) ∧ H = [CI bd jb x1 x3 name next sz x'] ∧ cSet next x e x' ∧ (e = 0 → CQ sz (i + 1) x')) := by
  obtain ⟨A, n, s, c⟩ := x
  have h0 := hq.1
  simp only at h0
  subst h0
  exact (Commit4_any bd jb x1 x3 name next sz A n (sz : Int) c).conv (Ent.unsep1 _) (by
    rintro v H ⟨rfl, rfl⟩
    exact ⟨_, ⟨_, (A, (next : Int), (sz : Int), (sz : Int)), (by exact (congrArg (Value.int .i64) (show (0 : Int) = ((0 : Nat) : Int) from rfl))), rfl, ⟨rfl, rfl⟩, fun _ => ⟨rfl, by have := hq.2.1; simp only at this ⊢; omega, by have := hq.2.2; simp only at this ⊢; omega⟩⟩, Ent.resep1 _⟩)
set_option maxRecDepth 20000 in
theorem Commit_any (jb bd : Nat) (name : ByteArray) (A : Ab) (x : JN) (hn : 0 ≤ x.n) (hs : 0 ≤ x.s ∧ x.s ≤ 1000000000) (hst : A.states.length ≤ 900000000) (hwr : A.writes.length ≤ 900000000) :
    Ctr Tryz.prog 33 [ptr jb] [diskA bd A, jrN jb bd name x]
      (fun r H => ∃ (e : Nat) (A' : Ab) (x' : JN), r = .int .i64 (e : Int) ∧ H = [diskA bd A', jrN jb bd name x'] ∧ CommitR name A x e A' x') := by
  obtain ⟨n, s, c, br⟩ := x
  simp only at hs hn
  dsimp only [jrN, jr]
  refine Ctr.enter Tryz.func33 (by kernel_rfl) rfl Tryz.ntmps33 rfl rfl ?_
  intro G F R hE
  (refine go ?_)
  refine J_box rfl rfl (fun _ _ _ => trivial) ?_
  intro x1
  cases br with
  | true =>
    (refine go ?_)
    (first | refine K_return hE Tryz.func33 rfl _ rfl ⟨10, A, ⟨n, s, c, true⟩, rfl, rfl, (by unfold CommitR; rw [if_pos rfl]; exact ⟨rfl, rfl, rfl⟩)⟩ entA | refine K_fallEnd hE Tryz.func33 rfl _ rfl ⟨10, A, ⟨n, s, c, true⟩, rfl, rfl, (by unfold CommitR; rw [if_pos rfl]; exact ⟨rfl, rfl, rfl⟩)⟩ entA)
  | false =>
    (refine go ?_)
    refine K_drawA (fun w => Sat G w ([pts x1 (cl [ptr jb] 32), pts jb (cl [ptr bd, .string name, .int .i64 n, .int .i64 s, .int .i64 c, .bool false] 72)])) (.st 0 (.st 1 (.st 2 (.st 3 (.st 4 (.st 5 (.st 6 (.st 7 (.st 8 (.st 9 .nil)))))))))) rfl (by kernel_rfl) (by kernel_rfl) (by kernel_rfl) (fun w hw => hw.ent entA) ?_
    (refine go ?_)
    refine K_condP rfl rfl ?_ ?_
    · intro heq
      (refine go ?_)
      (first | refine K_return hE Tryz.func33 rfl _ rfl ⟨0, A, ⟨n, s, c, false⟩, rfl, rfl, (by unfold CommitR; rw [if_neg (by simp), if_pos heq]; exact ⟨rfl, rfl, rfl⟩)⟩ entA | refine K_fallEnd hE Tryz.func33 rfl _ rfl ⟨0, A, ⟨n, s, c, false⟩, rfl, rfl, (by unfold CommitR; rw [if_neg (by simp), if_pos heq]; exact ⟨rfl, rfl, rfl⟩)⟩ entA)
    intro hne
    (refine go ?_)
    refine K_condP rfl rfl ?_ ?_
    · intro hbig
      (refine go ?_)
      (first | refine K_return hE Tryz.func33 rfl _ rfl ⟨3, A, ⟨n, s, c, false⟩, rfl, rfl, (by unfold CommitR; rw [if_neg (by simp), if_neg hne, if_pos hbig]; exact ⟨rfl, rfl, rfl⟩)⟩ entA | refine K_fallEnd hE Tryz.func33 rfl _ rfl ⟨3, A, ⟨n, s, c, false⟩, rfl, rfl, (by unfold CommitR; rw [if_neg (by simp), if_neg hne, if_pos hbig]; exact ⟨rfl, rfl, rfl⟩)⟩ entA)
    intro hsm
    obtain ⟨sz, rfl⟩ : ∃ sz : Nat, s = (sz : Int) := ⟨s.toNat, by omega⟩
    obtain ⟨nx, hnx⟩ : ∃ nx : Nat, n + 1 = (nx : Int) := ⟨n.toNat + 1, by omega⟩
    (refine go ?_)
    refine J_slot 29 (.int .i64 (nx : Int)) rfl (congrArg (Value.int .i64) hnx) ?_
    refine J_alloc (U := tab) rfl rfl rfl (fun _ _ _ => trivial) ?_
    intro x3
    (refine go ?_)
    refine K_drawA (fun w => Sat G w ([pts x1 (cl [ptr jb] 32)])) (.st 0 (.st 1 (.st 2 (.st 3 (.st 4 (.act 5 (.act 6 (.act 7 (.st 8 .nil))))))))) rfl (by kernel_rfl) (by kernel_rfl) (by kernel_rfl) (fun w hw => hw.ent entA) ?_
    (refine go ?_)
    have hst1 : ∀ (i : Nat) (fv : Value) (s : PS → Nat → PS → Prop), ([.func (.func 77) #[] #[ptr x1], .func (.func 78) #[] #[ptr x1, ptr x3], .func (.func 79) #[] #[ptr x1], .func (.func 80) #[] #[ptr x3, ptr x1] ] : List Value)[i]? = some fv → (commitSteps name nx sz)[i]? = some s → ∃ g fi cap, fv = .func (.func g) fi cap ∧ ∀ x, CQ sz i x → Ctr Tryz.prog g (fi.toList ++ cap.toList) [CI bd jb x1 x3 name nx sz x] (fun r H => ∃ (e : Nat) (x' : PS), r = .int .i64 (e : Int) ∧ H = [CI bd jb x1 x3 name nx sz x'] ∧ s x e x' ∧ (e = 0 → CQ sz (i + 1) x')) := by
      intro i f1 s1 h1 h2
      match i, h1, h2 with
      | 0, h1, h2 => cases h1; cases h2; exact ⟨_, _, _, rfl, fun x hq => Commit1_I bd jb x1 x3 name nx sz 0 (by omega) x hq⟩
      | 1, h1, h2 => cases h1; cases h2; exact ⟨_, _, _, rfl, fun x hq => Commit2_I bd jb x1 x3 name nx sz 1 (by omega) (by omega) (by omega) x hq⟩
      | 2, h1, h2 => cases h1; cases h2; exact ⟨_, _, _, rfl, fun x hq => Commit3_I bd jb x1 x3 name nx sz 2 (by omega) x hq⟩
      | 3, h1, h2 => cases h1; cases h2; exact ⟨_, _, _, rfl, fun x hq => Commit4_I bd jb x1 x3 name nx sz 3 (by omega) x hq⟩
      | k + 4, h1, h2 => simp at h1
    refine J_buildSlice1 (U := tab) (cs := [.func (.func 77) #[] #[ptr x1], .func (.func 78) #[] #[ptr x1, ptr x3], .func (.func 79) #[] #[ptr x1], .func (.func 80) #[] #[ptr x3, ptr x1] ]) rfl rfl rfl rfl rfl rfl rfl rfl rfl (fun _ w hw => by exact hw.ent entA) ?_
    intro row
    have hall := all_any (CI bd jb x1 x3 name nx sz) (pts row (cl ([.func (.func 77) #[] #[ptr x1], .func (.func 78) #[] #[ptr x1, ptr x3], .func (.func 79) #[] #[ptr x1], .func (.func 80) #[] #[ptr x3, ptr x1] ]) 84)) (.slice (some ⟨row, 0, none⟩) 4 4) ([.func (.func 77) #[] #[ptr x1], .func (.func 78) #[] #[ptr x1, ptr x3], .func (.func 79) #[] #[ptr x1], .func (.func 80) #[] #[ptr x3, ptr x1] ]) (Vw.pts rfl) (by show 4 ≤ _; omega) (commitSteps name nx sz) rfl (CQ sz) hst1 (A, n, (sz : Int), c) ⟨rfl, by simp only; omega, by simp only; omega⟩
    refine J_callE rfl rfl rfl rfl hall (Ent.trans entA (Ent.cons _ (Ent.resep ([diskA bd A, pts jb (cl [ptr bd, .string name, .int .i64 n, .int .i64 (sz : Int), .int .i64 c, .bool false] 72), pts x1 (cl [ptr jb] 32), pts x3 (cl [.int .i64 (nx : Int)] 3)]) _))) ?_ (fun _ _ w hp hw => by
      obtain ⟨e, y, rfl, rfl, hr⟩ := hp
      exact hw.ent (Ent.trans (Ent.trans (Ent.pick [1] rfl) (Ent.unsep ([diskA bd y.1, pts jb (cl [ptr bd, .string name, .int .i64 y.2.1, .int .i64 y.2.2.1, .int .i64 y.2.2.2, .bool false] 72), pts x1 (cl [ptr jb] 32), pts x3 (cl [.int .i64 (nx : Int)] 3)]) _)) entA))
    rintro _ _ ⟨e, y, rfl, rfl, hr⟩
    refine J_ent (Ent.trans (Ent.pick [1] rfl) (Ent.unsep ([diskA bd y.1, pts jb (cl [ptr bd, .string name, .int .i64 y.2.1, .int .i64 y.2.2.1, .int .i64 y.2.2.2, .bool false] 72), pts x1 (cl [ptr jb] 32), pts x3 (cl [.int .i64 (nx : Int)] 3)]) _)) ?_
    refine J_callE rfl rfl rfl rfl (breaks_any jb bd name y.2.1 y.2.2.1 y.2.2.2 false e) entA ?_ (fun _ _ w hp hw => by obtain ⟨rfl, rfl⟩ := hp; exact hw.ent entA)
    rintro _ _ ⟨rfl, rfl⟩
    unfold jr
    (refine go ?_)
    (first | refine K_return hE Tryz.func33 rfl _ rfl ⟨e, y.1, ⟨y.2.1, y.2.2.1, y.2.2.2, decide (e ≠ 0)⟩, rfl, rfl, (by unfold CommitR; rw [if_neg (by simp), if_neg hne, if_neg hsm]; exact ⟨y, (by simp only [Int.toNat_natCast]; rw [show n.toNat + 1 = nx from by omega]; exact hr), rfl, rfl⟩)⟩ entA | refine K_fallEnd hE Tryz.func33 rfl _ rfl ⟨e, y.1, ⟨y.2.1, y.2.2.1, y.2.2.2, decide (e ≠ 0)⟩, rfl, rfl, (by unfold CommitR; rw [if_neg (by simp), if_neg hne, if_neg hsm]; exact ⟨y, (by simp only [Int.toNat_natCast]; rw [show n.toNat + 1 = nx from by omega]; exact hr), rfl, rfl⟩)⟩ entA)
end Go.Proofs.YtpdmbmnhgcnelaaGreat

/- journal, part k0: what Open holds while it ranges; bounds of records. -/
set_option linter.unusedVariables false
set_option linter.unusedSimpArgs false
namespace Go.Proofs.YtpdmbmnhgcnelaaGreat
open Go Go.SL

theorem recordsL_bound : ∀ (f : Nat) (bs : List UInt8), ((recordsL f bs).flatMap encL).length ≤ 2 * bs.length ∧ (recordsL f bs).length ≤ bs.length ∧ ∀ x ∈ recordsL f bs, x.length ≤ 4096
  | 0, bs => by simp [recordsL]
  | f + 1, bs => by
    unfold recordsL
    split
    · simp
    · rename_i k n hl
      have hp := longA_pos hl
      split
      · rename_i hb
        obtain ⟨h1, h2, h3⟩ := recordsL_bound f (bs.drop (k + n))
        have hx : ((bs.drop k).take n).length = n := by rw [List.length_take, List.length_drop]; omega
        have he : (encL ((bs.drop k).take n)).length ≤ n + 2 := by
          have := uv_len 1 n (by have := hp.2.2.2; omega)
          simp only [encL, List.length_append, hx]; omega
        rw [List.length_drop] at h1 h2
        simp only [List.flatMap_cons, List.length_append, List.length_cons]
        refine ⟨by omega, by omega, fun x hm => ?_⟩
        rcases List.mem_cons.1 hm with rfl | hm
        · rw [hx]; omega
        · exact h3 x hm
      · simp
theorem recordsA_bound (bs : List UInt8) : ((recordsA bs).flatMap encL).length ≤ 2 * bs.length ∧ (recordsA bs).length ≤ bs.length ∧ ∀ x ∈ recordsA bs, x.length ≤ 4096 := recordsL_bound _ bs
/-- Slices of bytes in rows. -/
def RowsR (M : Arrs) (cs : List Value) (ls : List (List UInt8)) : Prop := cs.length = ls.length ∧ ∀ (j : Nat) (y : List UInt8), ls[j]? = some y → ∃ cv, cs[j]? = some cv ∧ RIn M 1 cv y.length (bV y)
def LI (lb : Nat) (ls : List (List UInt8)) : HP := fun h => ∃ x : Value × List Value × Arrs, RowsR x.2.2 x.2.1 ls ∧ Sep [pts lb (cl [x.1] 33), slc 40 1 x.1 ls.length x.2.1, arrS 5 x.2.2] h
theorem arrS_nil (e : TypeId) (H : List HP) : Ent H (arrS e [] :: H) := Ent.addEmp H
theorem LI_start (lb : Nat) (a : Option Addr) (H : List HP) : Ent (pts lb (cl [.slice a 0 0] 33) :: H) (LI lb [] :: H) := by
  have h1 : Ent (pts lb (cl [.slice a 0 0] 33) :: H) ([pts lb (cl [.slice a 0 0] 33), slc 40 1 (.slice a 0 0) 0 [], arrS 5 [] ] ++ H) :=
    Ent.cons _ ((slc_lift 40 1 a H).trans (Ent.cons _ (arrS_nil 5 H)))
  exact h1.trans (Ent.fold fun h hs => ⟨h, sub.refl h, (.slice a 0 0, [], []), ⟨rfl, fun j y hj => by simp at hj⟩, hs⟩)
theorem LI_next (lb : Nat) (ls : List (List UInt8)) (x : List UInt8) (v rv : Value) (cs : List Value) (M M' : Arrs) (hR : RowsR M cs ls) (hr : RIn M' 1 rv x.length (bV x)) (hs : ∀ y ∈ M, y ∈ M') (H : List HP) :
    Ent (pts lb (cl [v] 33) :: slc 40 1 v (ls.length + 1) (cs ++ [rv]) :: arrS 5 M' :: H) (LI lb (ls ++ [x]) :: H) := by
  refine Ent.fold (B := [pts lb (cl [v] 33), slc 40 1 v (ls.length + 1) (cs ++ [rv]), arrS 5 M']) fun h hp => ⟨h, sub.refl h, (v, cs ++ [rv], M'), ⟨by simp [hR.1], fun j y hj => ?_⟩, by simp only [List.length_append, List.length_singleton]; exact hp⟩
  simp only
  rw [List.getElem?_append] at hj ⊢
  rw [hR.1]
  split at hj
  · rename_i hlt
    obtain ⟨cv, h1, h2⟩ := hR.2 j y hj
    rw [if_pos hlt]
    exact ⟨cv, h1, h2.mono hs⟩
  · rename_i hge
    rw [if_neg hge]
    have h0 : j - ls.length = 0 := by
      rcases Nat.eq_zero_or_pos (j - ls.length) with h | h
      · exact h
      · rw [List.getElem?_eq_none (by simp; omega)] at hj; cases hj
    rw [h0] at hj ⊢
    cases hj
    exact ⟨rv, rfl, hr⟩
theorem LI_open (lb : Nat) (ls : List (List UInt8)) : ∀ h, LI lb ls h → ∃ x : Value × List Value × Arrs, RowsR x.2.2 x.2.1 ls ∧ Sep [pts lb (cl [x.1] 33), slc 40 1 x.1 ls.length x.2.1, arrS 5 x.2.2] h := fun h hs => hs
/-- A list of texts that is handed out. -/
def listH (v : Value) (ls : List (List UInt8)) : HP := fun h => ∃ x : List Value × Arrs, RowsR x.2 x.1 ls ∧ Sep [slc 40 1 v ls.length x.1, arrS 5 x.2] h
theorem listH_in {v : Value} {ls : List (List UInt8)} {cs : List Value} {M : Arrs} (hR : RowsR M cs ls) (H : List HP) : Ent (slc 40 1 v ls.length cs :: arrS 5 M :: H) (listH v ls :: H) :=
  Ent.fold (B := [slc 40 1 v ls.length cs, arrS 5 M]) fun h hp => ⟨h, sub.refl h, (cs, M), hR, hp⟩
theorem listH_open (v : Value) (ls : List (List UInt8)) : ∀ h, listH v ls h → ∃ x : List Value × Arrs, RowsR x.2 x.1 ls ∧ Sep [slc 40 1 v ls.length x.1, arrS 5 x.2] h := fun h hs => hs
theorem RowsR.lat {v : Value} {ls : List (List UInt8)} {cs : List Value} {M : Arrs} (hR : RowsR M cs ls) (h0 : ∃ h, slc 40 1 v ls.length cs h) : LAt (Sep [slc 40 1 v ls.length cs, arrS 5 M]) v ls := by
  have hv := Vw.of_slc 40 1 v ls.length cs h0
  refine ⟨cs, hv.mono (Sep_get (i := 0) rfl), hR.1, ?_, fun i x hx => ?_⟩
  · obtain ⟨h, hl, ⟨a, rfl, hn, _⟩ | ⟨b, o, cap, pre, junk, rfl, hp, hn, hc, _⟩⟩ := h0
    · exact ⟨a, 0, by rw [hn], by omega⟩
    · exact ⟨_, cap, rfl, hn⟩
  · obtain ⟨cv, h1, h2⟩ := hR.2 i x hx
    obtain ⟨a, c, hv2, hc⟩ := h2.shape
    exact ⟨cv, h1, (h2.view 5).mono (Sep_get (i := 1) rfl), a, c, hv2, hc⟩
section
variable {P : Program} {f : FuncId} {n : Nat} {R : Ending → World → Prop} {G : Glob} {k : List Item} {L : Lst} {H : List HP}
theorem K_lat {v : Value} {ls : List (List UInt8)} {cs : List Value} {M : Arrs} (i : Nat) (hR : RowsR M cs ls) (hi : getL H i = some (slc 40 1 v ls.length cs)) (h : LAt (Sep [slc 40 1 v ls.length cs, arrS 5 M]) v ls → K P f n R G k L H) : K P f n R G k L H :=
  K_sat fun ⟨w, hw⟩ => by
    obtain ⟨h1, _, hA⟩ := hw.getA hi
    exact h (hR.lat ⟨h1, hA⟩)
theorem K_dA {bd : Nat} {A : Ab} (i : Nat) (hi : getL H i = some (diskA bd A)) (h : (∃ D, Rel D A) → K P f n R G k L H) : K P f n R G k L H :=
  K_sat fun ⟨w, hw⟩ => by
    obtain ⟨h1, _, D, hR, _⟩ := hw.getA hi
    exact h ⟨D, hR⟩
end
theorem read_len (A : Ab) (hR : ∃ D, Rel D A) (name : ByteArray) (at_ n : Int) : (A.read name at_ n).1.length ≤ 1048576 := by
  obtain ⟨D, hR⟩ := hR
  unfold Ab.read
  split
  · simp
  split
  · simp
  · rename_i f hf
    split
    · simp
    · have h1 : (A.now f).length ≤ 1048576 := by
        unfold Ab.now Ab.file
        cases h : A.fs.find? (fun x => decide (x.1 = f)) with
        | none => simp
        | some x =>
          have := hR.smallF x (List.mem_of_find?_eq_some h)
          simpa using this.1
      rw [List.length_take, List.length_drop]; omega
end Go.Proofs.YtpdmbmnhgcnelaaGreat

/- journal, part k: Open. -/
set_option linter.unusedVariables false
set_option linter.unusedSimpArgs false
namespace Go.Proofs.YtpdmbmnhgcnelaaGreat
open Go Go.SL
attribute [local irreducible] J K Ctr Ends pts slc mapR mapI sbRow stock arrS loopP CtrY diskA LI listH

/-- The records that a file has. -/
def fileL (A : Ab) (name : ByteArray) : List (List UInt8) := recordsA (foundL (A.read name 0 (A.size name).1).1)
/-- What Open does: its error, and the disk behind it; the journal, if it is OK. -/
def OpenR (A : Ab) (name : ByteArray) (e : Nat) (A' : Ab) (x : JN) : Prop :=
  if ¬ (isName name = true ∧ isName (freshOf name) = true) then e = 1 ∧ A' = A else if A.off then e = 7 ∧ A' = A
  else ∃ y : PS, PutR name (fileL A name) (A, 0, 0, 0) e y ∧ A' = y.1 ∧ x = ⟨y.2.1, y.2.2.1, y.2.2.2, false⟩
set_option maxRecDepth 20000 in
theorem Open_any (bd : Nat) (name : ByteArray) (A : Ab) (hname : name.size ≤ 1000000000) (hst : A.states.length ≤ 900000000) (hwr : A.writes.length ≤ 900000000) :
    Ctr Tryz.prog 8 [ptr bd, .string name] [diskA bd A]
      (fun r H => ∃ (e : Nat) (A' : Ab) (x : JN), OpenR A name e A' x ∧ ((e ≠ 0 ∧ r = .tuple #[.pointer none, .slice none 0 0, .int .i64 (e : Int)] ∧ H = [diskA bd A']) ∨
        (e = 0 ∧ ∃ jb lv, r = .tuple #[ptr jb, lv, .int .i64 0] ∧ H = [diskA bd A', jrN jb bd name x, listH lv (fileL A name)]))) := by
  refine Ctr.enter Tryz.func8 (by kernel_rfl) rfl Tryz.ntmps8 rfl rfl ?_
  intro G F R hE
  refine K_dA 0 rfl ?_
  intro hRel
  (refine go ?_)
  (first | refine J_callE rfl rfl rfl rfl (may_any name) entA ?_ (fun _ _ _ _ _ => trivial) | refine J_call0E rfl rfl rfl (may_any name) entA ?_ (fun _ _ _ _ _ => trivial) | (refine go ?_; first | refine J_callE rfl rfl rfl rfl (may_any name) entA ?_ (fun _ _ _ _ _ => trivial) | refine J_call0E rfl rfl rfl (may_any name) entA ?_ (fun _ _ _ _ _ => trivial)))
  rintro _ _ ⟨rfl, rfl⟩
  cases h1 : isName name with
  | false =>
    (refine go ?_)
    (first | refine K_return hE Tryz.func8 rfl _ rfl ⟨1, A, ⟨0, 0, 0, false⟩, (by unfold OpenR; rw [if_pos (by simp [h1])]; exact ⟨rfl, rfl⟩), .inl ⟨by omega, rfl, rfl⟩⟩ entA | refine K_fallEnd hE Tryz.func8 rfl _ rfl ⟨1, A, ⟨0, 0, 0, false⟩, (by unfold OpenR; rw [if_pos (by simp [h1])]; exact ⟨rfl, rfl⟩), .inl ⟨by omega, rfl, rfl⟩⟩ entA)
  | true =>
  (refine go ?_)
  refine J_strAdd rfl rfl rfl (by show name.size + 4 ≤ _; omega) ?_
  refine J_slot 25 (.string (freshOf name)) rfl rfl ?_
  (first | refine J_callE rfl rfl rfl rfl (may_any (freshOf name)) entA ?_ (fun _ _ _ _ _ => trivial) | refine J_call0E rfl rfl rfl (may_any (freshOf name)) entA ?_ (fun _ _ _ _ _ => trivial) | (refine go ?_; first | refine J_callE rfl rfl rfl rfl (may_any (freshOf name)) entA ?_ (fun _ _ _ _ _ => trivial) | refine J_call0E rfl rfl rfl (may_any (freshOf name)) entA ?_ (fun _ _ _ _ _ => trivial)))
  rintro _ _ ⟨rfl, rfl⟩
  cases h2 : isName (freshOf name) with
  | false =>
    (refine go ?_)
    (first | refine K_return hE Tryz.func8 rfl _ rfl ⟨1, A, ⟨0, 0, 0, false⟩, (by unfold OpenR; rw [if_pos (by simp [h2])]; exact ⟨rfl, rfl⟩), .inl ⟨by omega, rfl, rfl⟩⟩ entA | refine K_fallEnd hE Tryz.func8 rfl _ rfl ⟨1, A, ⟨0, 0, 0, false⟩, (by unfold OpenR; rw [if_pos (by simp [h2])]; exact ⟨rfl, rfl⟩), .inl ⟨by omega, rfl, rfl⟩⟩ entA)
  | true =>
  (refine go ?_)
  (first | refine J_callE rfl rfl rfl rfl (Off_dA bd A) entA ?_ (fun _ _ _ _ _ => trivial) | refine J_call0E rfl rfl rfl (Off_dA bd A) entA ?_ (fun _ _ _ _ _ => trivial) | (refine go ?_; first | refine J_callE rfl rfl rfl rfl (Off_dA bd A) entA ?_ (fun _ _ _ _ _ => trivial) | refine J_call0E rfl rfl rfl (Off_dA bd A) entA ?_ (fun _ _ _ _ _ => trivial)))
  rintro _ _ ⟨rfl, rfl⟩
  cases h3 : A.off with
  | true =>
    (refine go ?_)
    (first | refine K_return hE Tryz.func8 rfl _ rfl ⟨7, A, ⟨0, 0, 0, false⟩, (by unfold OpenR; rw [if_neg (by simp [h1, h2]), if_pos h3]; exact ⟨rfl, rfl⟩), .inl ⟨by omega, rfl, rfl⟩⟩ entA | refine K_fallEnd hE Tryz.func8 rfl _ rfl ⟨7, A, ⟨0, 0, 0, false⟩, (by unfold OpenR; rw [if_neg (by simp [h1, h2]), if_pos h3]; exact ⟨rfl, rfl⟩), .inl ⟨by omega, rfl, rfl⟩⟩ entA)
  | false =>
  (refine go ?_)
  (first | refine J_callE rfl rfl rfl rfl (Size_dA bd A name) entA ?_ (fun _ _ _ _ _ => trivial) | refine J_call0E rfl rfl rfl (Size_dA bd A name) entA ?_ (fun _ _ _ _ _ => trivial) | (refine go ?_; first | refine J_callE rfl rfl rfl rfl (Size_dA bd A name) entA ?_ (fun _ _ _ _ _ => trivial) | refine J_call0E rfl rfl rfl (Size_dA bd A name) entA ?_ (fun _ _ _ _ _ => trivial)))
  rintro _ _ ⟨rfl, rfl⟩
  (refine go ?_)
  (first | refine J_callE rfl rfl rfl rfl (Read_dA bd A name 0 (A.size name).1) entA ?_ (fun _ _ _ _ _ => trivial) | refine J_call0E rfl rfl rfl (Read_dA bd A name 0 (A.size name).1) entA ?_ (fun _ _ _ _ _ => trivial) | (refine go ?_; first | refine J_callE rfl rfl rfl rfl (Read_dA bd A name 0 (A.size name).1) entA ?_ (fun _ _ _ _ _ => trivial) | refine J_call0E rfl rfl rfl (Read_dA bd A name 0 (A.size name).1) entA ?_ (fun _ _ _ _ _ => trivial)))
  rintro _ _ ⟨rb, rfl, rfl⟩
  have hrl := read_len A hRel name 0 (A.size name).1
  obtain ⟨B, hB⟩ : ∃ B, B = (A.read name 0 (A.size name).1).1 := ⟨_, rfl⟩
  rw [← hB] at hrl ⊢
  (refine go ?_)
  (first | refine J_shape 1 rfl ?_ | refine K_shape 1 rfl ?_)
  rintro ra rc rfl
  refine J_slcB (bs := B) 1 rfl ?_
  intro hbr
  refine J_alloc (U := tab) rfl rfl rfl (fun _ _ _ => trivial) ?_
  intro lb
  (refine go ?_)
  (first | refine J_callE rfl rfl rfl rfl (found_any _ _ B hbr (by omega)) entA ?_ (fun _ _ _ _ _ => trivial) | refine J_call0E rfl rfl rfl (found_any _ _ B hbr (by omega)) entA ?_ (fun _ _ _ _ _ => trivial) | (refine go ?_; first | refine J_callE rfl rfl rfl rfl (found_any _ _ B hbr (by omega)) entA ?_ (fun _ _ _ _ _ => trivial) | refine J_call0E rfl rfl rfl (found_any _ _ B hbr (by omega)) entA ?_ (fun _ _ _ _ _ => trivial)))
  rintro fv _ ⟨hbf, rfl⟩
  obtain ⟨fa, fc, rfl, hfc⟩ := hbf.2
  (first | refine J_callE rfl rfl rfl rfl (records_any fa (foundL B).length fc) entA ?_ (fun _ _ _ _ _ => trivial) | refine J_call0E rfl rfl rfl (records_any fa (foundL B).length fc) entA ?_ (fun _ _ _ _ _ => trivial) | (refine go ?_; first | refine J_callE rfl rfl rfl rfl (records_any fa (foundL B).length fc) entA ?_ (fun _ _ _ _ _ => trivial) | refine J_call0E rfl rfl rfl (records_any fa (foundL B).length fc) entA ?_ (fun _ _ _ _ _ => trivial)))
  rintro _ _ ⟨bx, rfl, rfl⟩
  have hfl : (foundL B).length ≤ 1048576 := by
    unfold foundL
    split
    · simp
    · rw [List.length_take, List.length_drop]; omega
  (refine go ?_)
  obtain ⟨rs, hrs⟩ : ∃ rs, rs = recordsA (foundL B) := ⟨_, rfl⟩
  have hbd := recordsA_bound (foundL B)
  rw [← hrs] at hbd
  refine K_adv1 rfl ?_
  refine K_ent (Ent.trans (Ent.pick [2] rfl) (LI_start lb none _)) ?_
  refine K_range (Fr := diskA bd A :: F) (Pre := fun _ _ => [pts bx (cl [.slice fa (foundL B).length fc] 40), slc 5 1 (.slice ra B.length rc) B.length (bV B), LI lb [] ]) (Post := ?Po) rfl hE.1.1 rfl ?c (fun l r => entA) ?hend
  case c =>
    intro l r
    refine records1_any (slc 5 1 (.slice ra B.length rc) B.length (bV B)) l bx _ (foundL B) hbf (by omega) _ (fun i => LI lb ((recordsA (foundL B)).take i)) ?_
    intro i x hx rv
    refine CtrY.of_K rfl rfl ?_
    intro G2 F2 R2 hY
    have hil : i < (recordsA (foundL B)).length := (List.getElem?_eq_some_iff.1 hx).1
    have hbx := (recordsA_bound (foundL B)).2.1
    have htk : (recordsA (foundL B)).take (i + 1) = (recordsA (foundL B)).take i ++ [x] := by rw [List.take_add_one, hx]; rfl
    have htl : ((recordsA (foundL B)).take i).length ≤ (foundL B).length := by rw [List.length_take]; omega
    simp only [htk] at hY
    generalize (recordsA (foundL B)).take i = ts at htl hY ⊢
    (refine go ?_)
    refine K_beginRound rfl hY ?_
    refine K_ent (Ent.pick [1] rfl) ?_
    refine K_open (LI_open lb ts) ?_
    rintro ⟨lv, cs, M⟩ hR
    refine K_ent (Ent.trans (Ent.pick [4, 2] rfl) (Ent.join _ _ _)) ?_
    refine K_open (row_slcO 5 1 x.length rv (bV x) M) ?_
    rintro M' ⟨hrv, hsub⟩
    obtain ⟨xa, xc, rfl, hxc⟩ := hrv.shape
    refine K_shape 2 rfl ?_
    intro la lc hlv
    simp only at hlv
    subst hlv
    (refine go ?_)
    refine J_buildSlice1 (U := tab) rfl rfl rfl rfl rfl rfl rfl rfl rfl (fun _ _ _ => trivial) ?_
    intro row
    (refine go ?_)
    refine J_append (U := tab) (mm := 1) (news := [.slice xa x.length xc]) 3 0 rfl rfl rfl rfl rfl rfl rfl rfl rfl rfl rfl rfl (Vw.pts rfl) rfl (by simp [Value.oneCell']) (by omega) (by show (_ + 1) * 24 ≤ _; omega) (fun _ => rfl) (fun _ _ _ => trivial) ?_
    intro v1
    (first | refine J_shape 3 rfl ?_ | refine K_shape 3 rfl ?_)
    rintro va vc rfl
    (refine go ?_)
    refine K_ent (Ent.trans entA (LI_next lb ts x _ (.slice xa x.length xc) cs M M' hR hrv hsub _)) ?_
    refine K_roundEnd hY rfl entA ⟨rfl, rfl⟩
  intro l r v H hpost
  obtain ⟨v', rfl⟩ := hpost
  refine ⟨_, _, _, rfl, by decide, ?_⟩
  rw [hE.1.2, List.take_length, ← hrs]
  refine K_ent (Ent.pick [2] rfl) ?_
  refine K_open (LI_open lb rs) ?_
  rintro ⟨lv, cs, M⟩ hR
  refine K_shape 1 rfl ?_
  intro la lc hlv
  simp only at hlv
  subst hlv
  simp only at hR
  refine K_lat 1 hR rfl ?_
  intro hlat
  (refine go ?_)
  refine J_box rfl rfl (fun _ _ _ => trivial) ?_
  intro jb
  (refine go ?_)
  have hput := put_any jb bd name 0 0 0 false A (Sep [slc 40 1 (.slice la rs.length lc) rs.length cs, arrS 5 M]) (.slice la rs.length lc) rs hlat (by omega) (by omega) hname hst hwr
  refine J_callE rfl rfl rfl rfl hput (Ent.trans entA (Ent.cons (diskA bd A) (Ent.cons (jr jb bd name 0 0 0 false) (Ent.resep [slc 40 1 (.slice la rs.length lc) rs.length cs, arrS 5 M] _)))) ?_ (fun _ _ _ _ _ => trivial)
  rintro _ _ ⟨e, y, rfl, rfl, hpr⟩
  have hfile : fileL A name = rs := by rw [hrs, hB]; rfl
  have hopen : OpenR A name e y.1 ⟨y.2.1, y.2.2.1, y.2.2.2, false⟩ := by
    unfold OpenR
    rw [if_neg (by simp [h1, h2]), if_neg (by rw [h3]; simp), hfile]
    exact ⟨y, hpr, rfl, rfl⟩
  rw [hfile] at hE
  (refine go ?_)
  refine K_condP rfl rfl ?_ ?_
  · intro hne
    have hne' : e ≠ 0 := by omega
    (refine go ?_)
    refine K_returnM hE Tryz.func8 rfl _ rfl ⟨e, _, _, hopen, .inl ⟨hne', rfl, rfl⟩⟩ entA
  · intro heq
    have heq' : e = 0 := by omega
    subst heq'
    (refine go ?_)
    refine K_drawA (fun w => Sat G w ([pts lb (cl [.slice la rs.length lc] 33)])) (.st 0 (.st 1 (.st 2 (.st 3 (.st 4 .nil))))) rfl (by kernel_rfl) (by kernel_rfl) (by kernel_rfl) (fun w hw => hw.ent entA) ?_
    (refine go ?_)
    refine K_ent (Ent.trans (Ent.pick [2] rfl) (Ent.unsep [slc 40 1 (.slice la rs.length lc) rs.length cs, arrS 5 M] _)) ?_
    refine K_ent (listH_in hR _) ?_
    refine K_returnM hE Tryz.func8 rfl _ rfl ⟨0, _, _, hopen, .inr ⟨rfl, jb, _, rfl, rfl⟩⟩ entA
end Go.Proofs.YtpdmbmnhgcnelaaGreat

