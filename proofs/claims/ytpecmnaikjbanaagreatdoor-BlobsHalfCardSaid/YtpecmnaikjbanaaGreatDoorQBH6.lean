/- Texts of one claim, joined: Fa, Fb, Fc, Fd, Fe, Ff, Fg, Fj, Fp, Fq. -/
import Derived.Test.YtpecmnaikjbanaaGreatDoorQBH3
import Derived.Test.YtpecmnaikjbanaaGreatDoorQBH4
import Derived.Test.YtpecmnaikjbanaaGreatDoorQBH5
/- files, part a: small functions of package files, without the disk's own predicate. -/
set_option linter.unusedVariables false
set_option linter.unusedSimpArgs false
namespace Go.Proofs.YtpecmnaikjbanaaGreatDoor
open Go Go.SL
attribute [local irreducible] J K Ctr Ends pts slc mapR mapI sbRow

/-- New. -/
theorem files_New_bad (room : Int) (h : room < 1 ∨ 1073741824 < room) : Ctr Tryz.prog 11 [.int .i64 room] [] (fun v H => v = .tuple #[.pointer none, .int .i64 1] ∧ H = []) := by
  refine Ctr.enter Tryz.func11 (by kernel_rfl) rfl Tryz.ntmps11 rfl rfl ?_
  intro G F R hR
  (refine go ?_)
  refine J_gsP rfl rfl rfl rfl ?_ ?_
  · intro h1
    (refine go ?_)
    refine K_return hR Tryz.func11 rfl _ rfl ⟨rfl, rfl⟩ (Ent.fin [] 0 rfl rfl)
  · intro h1
    (refine go ?_)
    refine K_condP rfl rfl ?_ ?_
    · intro h2
      (refine go ?_)
      refine K_return hR Tryz.func11 rfl _ rfl ⟨rfl, rfl⟩ (Ent.fin [] 0 rfl rfl)
    · intro h2; exfalso; omega

/-- slices.IndexFunc at bytes. -/
theorem IndexFunc_bytes (A X : HP) (v : Value) (bs : List UInt8) (hv : Vw A v bs.length (bV bs)) (hlen : bs.length ≤ 9223372036854775807) (g : FuncId) (cap : List Value) (p : UInt8 → Bool)
    (hf : ∀ x ∈ bs, Ctr Tryz.prog g (u8 x :: cap) [X] (fun v H => v = .bool (p x) ∧ H = [X])) :
    Ctr Tryz.prog 158 [v, .func (.func g) #[] cap.toArray] [A, X] (fun r H => r = .int .i64 (idxI p bs) ∧ H = [A, X]) := by
  obtain ⟨a, c0, rfl⟩ := hv.shape
  refine Ctr.enter Tryz.func158 (by kernel_rfl) rfl Tryz.ntmps158 rfl rfl ?_
  intro G F R hR
  (refine go ?_)
  refine K_loop (fun i : Nat => i ≤ bs.length ∧ ∀ y ∈ bs.take i, p y = false) (fun i => bs.length - i) (fun i => [(0, .slice a bs.length c0), (1, .func (.func g) #[] cap.toArray), (7, .int .i64 bs.length), (8, .int .i64 i)]) (fun _ => [A, X] ++ F) 0 ⟨by simp, by simp⟩ rfl (by repeat (first | exact keep_nil | refine keep_cons rfl ?_)) (Ent.refl _) ?_
  rintro i ⟨hi, hb⟩ ih
  (refine go ?_)
  refine K_condP rfl rfl ?_ ?_
  · intro hlt
    (refine go ?_)
    have hi' : i < bs.length := by omega
    obtain ⟨b, o, cap', hsl⟩ := hv.some (by rw [← List.length_pos_iff, bV_length]; omega)
    simp only [Value.slice.injEq] at hsl
    obtain ⟨rfl, _, rfl⟩ := hsl
    refine J_at1 (U := tab) i rfl rfl rfl rfl rfl rfl rfl rfl hi' ?_
    have hx : bs[i]? = some bs[i] := by simp [hi']
    refine J_loadV (U := tab) 0 rfl rfl rfl (hv.cell (bV_get hx)) rfl rfl ?_
    refine J_call [1] rfl rfl rfl rfl (hf bs[i] (List.getElem_mem hi')) rfl (fun _ _ _ _ _ => trivial) ?_
    rintro _ _ ⟨rfl, rfl⟩
    (refine go ?_)
    refine K_condA rfl rfl ?_ ?_
    · intro hp
      (refine go ?_)
      refine K_return hR Tryz.func158 rfl _ rfl ⟨by rw [idxI_some hx hp hb]; rfl, rfl⟩ (Ent.fin [1, 0] 0 rfl rfl)
    · intro hp
      (refine go ?_)
      refine K_again ih (i + 1) rfl ⟨by omega, allTake hb hx hp⟩ (by omega) (by repeat (first | exact keep_nil | refine keep_cons rfl ?_)) (Ent.pick [1, 0] rfl)
  · intro hge
    (refine go ?_)
    have : i = bs.length := by omega
    subst this
    refine K_return hR Tryz.func158 rfl _ rfl ⟨by rw [idxI_none (fun x hx => hb x (by simpa using hx))]; rfl, rfl⟩ (Ent.fin [0, 1] 0 rfl rfl)
/-- A sign that a name may have. -/
def okc (x : UInt8) : Bool := decide (97 ≤ x.toNat ∧ x.toNat ≤ 122 ∨ 48 ≤ x.toNat ∧ x.toNat ≤ 57 ∨ x.toNat = 45 ∨ x.toNat = 46)
theorem okc_of {x : UInt8} {p : Prop} [Decidable p] (h : p ↔ ¬ (97 ≤ x.toNat ∧ x.toNat ≤ 122 ∨ 48 ≤ x.toNat ∧ x.toNat ≤ 57 ∨ x.toNat = 45 ∨ x.toNat = 46)) : decide p = !okc x := by
  unfold okc; rw [← decide_not]; exact decide_eq_decide.2 h
theorem right_odd (X : HP) (x : UInt8) : Ctr Tryz.prog 140 [u8 x] [X] (fun v H => v = .bool (!okc x) ∧ H = [X]) := by
  refine Ctr.enter Tryz.func140 (by kernel_rfl) rfl Tryz.ntmps140 rfl rfl ?_
  intro G F R hR
  have hx := u8_lt x
  repeat' (first | (with_reducible intro _hh) | refine go1 ?_ | refine J_fork ?_ ?_ | refine J_gsP rfl rfl rfl rfl ?_ ?_ | refine K_condP rfl rfl ?_ ?_)
  all_goals refine K_return hR Tryz.func140 rfl _ rfl ⟨congrArg Value.bool (by rw [Bool.eq_iff_iff]; simp [okc]; omega), rfl⟩ (Ent.fin [0] 0 rfl rfl)

theorem ContainsFunc_bytes (A X : HP) (v : Value) (bs : List UInt8) (hv : Vw A v bs.length (bV bs)) (hlen : bs.length ≤ 9223372036854775807) (g : FuncId) (cap : List Value) (p : UInt8 → Bool)
    (hf : ∀ x ∈ bs, Ctr Tryz.prog g (u8 x :: cap) [X] (fun v H => v = .bool (p x) ∧ H = [X])) :
    Ctr Tryz.prog 141 [v, .func (.func g) #[] cap.toArray] [A, X] (fun r H => r = .bool (bs.any p) ∧ H = [A, X]) := by
  refine Ctr.enter Tryz.func141 (by kernel_rfl) rfl Tryz.ntmps141 rfl rfl ?_
  intro G F R hR
  (refine go ?_)
  refine J_call [0, 1] rfl rfl rfl rfl (IndexFunc_bytes A X v bs hv hlen g cap p hf) rfl (fun _ _ _ _ _ => trivial) ?_
  rintro _ _ ⟨rfl, rfl⟩
  (refine go ?_)
  have hb : decide (0 ≤ idxI p bs) = bs.any p := by
    have := @idxI_neg _ p bs
    cases h : bs.any p with
    | false => rw [h] at this; exact decide_eq_false (by have := this.2 rfl; omega)
    | true =>
      rw [h] at this
      have h2 : ¬ idxI p bs < 0 := fun h3 => by cases this.1 h3
      exact decide_eq_true (by omega)
  refine K_return hR Tryz.func141 rfl _ rfl ⟨congrArg Value.bool hb, rfl⟩ (Ent.fin [0, 1] 0 rfl rfl)
def isName (s : ByteArray) : Bool := decide (1 ≤ s.size ∧ s.size ≤ 80) && s.data.toList.all okc
theorem isName_of {s : ByteArray} (h1 : 1 ≤ s.size) (h2 : s.size ≤ 80) : isName s = !(s.data.toList.any fun x => !okc x) := by
  simp [isName, h1, h2, List.all_eq_not_any_not]
theorem isName_short {s : ByteArray} (h1 : s.size < 1) : isName s = false := by simp [isName]; omega
theorem isName_long {s : ByteArray} (h1 : 80 < s.size) : isName s = false := by simp [isName]; omega

theorem right_any (A : HP) (v : Value) (l : List ByteArray) (hv : Vw A v l.length (l.map Value.string)) (hlen : l.length ≤ 1000000) :
    Ctr Tryz.prog 99 [v] [A] (fun r H => r = .bool (l.all isName) ∧ H = [A]) := by
  obtain ⟨a, c0, rfl⟩ := hv.shape
  refine Ctr.enter Tryz.func99 (by kernel_rfl) rfl Tryz.ntmps99 rfl rfl ?_
  intro G F R hR
  refine K_ent (Ent.addEmp _) ?_
  (refine go ?_)
  refine K_loop (fun i : Nat => i ≤ l.length ∧ ∀ y ∈ l.take i, isName y = true) (fun i => l.length - i) (fun i => [(3, .func (.func 140) #[] #[]), (6, .slice a l.length c0), (7, .int .i64 l.length), (8, .int .i64 i)]) (fun _ => emp :: ([A] ++ F)) 0 ⟨by simp, by simp⟩ rfl (by repeat (first | exact keep_nil | refine keep_cons rfl ?_)) (Ent.refl _) ?_
  rintro i ⟨hi, hb⟩ ih
  (refine go ?_)
  refine K_condP rfl rfl ?_ ?_
  · intro hlt
    (refine go ?_)
    have hi' : i < l.length := by omega
    obtain ⟨b, o, cap', hsl⟩ := hv.some (by rw [← List.length_pos_iff, List.length_map]; omega)
    simp only [Value.slice.injEq] at hsl
    obtain ⟨rfl, _, rfl⟩ := hsl
    refine J_at1 (U := tab) i rfl rfl rfl rfl rfl rfl rfl rfl hi' ?_
    obtain ⟨s, hs⟩ : ∃ s, l[i]? = some s := ⟨l[i], by simp [hi']⟩
    refine J_loadV (U := tab) 1 rfl rfl rfl (hv.cell (c := .string s) (by simp [hs])) rfl rfl ?_
    have hmem : s ∈ l := List.mem_of_getElem? hs
    repeat' (first | (with_reducible intro _hh) | refine go1 ?_ | refine J_fork ?_ ?_ | refine J_gsP rfl rfl rfl rfl ?_ ?_ | refine K_condP rfl rfl ?_ ?_)
    · have hn : l.all isName = false := by
        rw [← Bool.not_eq_true, List.all_eq_true]; intro h
        have h1 := h s hmem; rw [isName_short (by omega)] at h1; cases h1
      refine K_return hR Tryz.func99 rfl _ rfl ⟨congrArg Value.bool hn.symm, rfl⟩ (Ent.fin [1] 1 rfl rfl)
    · have hn : l.all isName = false := by
        rw [← Bool.not_eq_true, List.all_eq_true]; intro h
        have h1 := h s hmem; rw [isName_long (by omega)] at h1; cases h1
      refine K_return hR Tryz.func99 rfl _ rfl ⟨congrArg Value.bool hn.symm, rfl⟩ (Ent.fin [1] 1 rfl rfl)
    · have hnm := isName_of (s := s) (by omega) (by omega)
      refine J_toBytes (U := tab) rfl rfl rfl rfl rfl rfl rfl rfl (fun _ _ _ _ => trivial) ?_
      intro bb cc
      (refine go ?_)
      refine J_call [0, 1] rfl rfl rfl rfl (ContainsFunc_bytes (sbRow bb s _ cc) emp _ s.data.toList (by simpa using sbRow_view bb s _ cc cc) (by simp; omega) _ [] _ (fun x _ => right_odd emp x)) rfl (fun _ _ _ _ _ => trivial) ?_
      rintro _ _ ⟨rfl, rfl⟩
      (refine go ?_)
      refine K_condA rfl rfl ?_ ?_
      · intro ht
        (refine go ?_)
        have hn : l.all isName = false := by
          rw [← Bool.not_eq_true, List.all_eq_true]; intro h
          have h1 := h s hmem; rw [hnm, ht] at h1; cases h1
        refine K_return hR Tryz.func99 rfl _ rfl ⟨congrArg Value.bool hn.symm, rfl⟩ (Ent.fin [2] 2 rfl rfl)
      · intro hf
        (refine go ?_)
        refine K_again ih (i + 1) rfl ⟨by omega, allTake hb hs (by rw [hnm, hf]; rfl)⟩ (by omega) (by repeat (first | exact keep_nil | refine keep_cons rfl ?_)) (Ent.to [1, 2] 1 rfl rfl rfl)
  · intro hge
    (refine go ?_)
    have : i = l.length := by omega
    subst this
    refine K_return hR Tryz.func99 rfl _ rfl ⟨congrArg Value.bool (by rw [eq_comm, List.all_eq_true]; intro x hx; exact hb x (by simpa using hx)), rfl⟩ (Ent.fin [1] 1 rfl rfl)

/-- wrote: bytes with others at a place. -/
theorem wrote_any (A : HP) (v1 v2 : Value) (old b : List UInt8) (at_ : Nat) (h1 : Vw A v1 old.length (bV old)) (h2 : Vw A v2 b.length (bV b)) (hb : old.length + at_ + b.length ≤ 1000000000) :
    Ctr Tryz.prog 85 [v1, .int .i64 at_, v2] [A] (fun r H => ∃ bl cap, r = .slice (some ⟨bl, 0, none⟩) (wroteL old at_ b).length cap ∧ (wroteL old at_ b).length ≤ cap ∧ H = [pts bl (cl (bV (wroteL old at_ b)) 5), A]) := by
  obtain ⟨a1, c1, rfl⟩ := h1.shape
  obtain ⟨a2, c2, rfl⟩ := h2.shape
  refine Ctr.enter Tryz.func85 (by kernel_rfl) rfl Tryz.ntmps85 rfl rfl ?_
  intro G F R hR
  (refine go ?_)
  have hN : (max old.length (at_ + b.length) : Nat) = max old.length (at_ + b.length) := rfl
  generalize hM : max old.length (at_ + b.length) = M at *
  refine J_slot 14 (.int .i64 (M : Int)) rfl (congrArg (Value.int .i64) (by omega)) ?_
  refine J_makeSlice (U := tab) (p := M) (q := M) rfl rfl rfl rfl rfl rfl rfl rfl rfl (Nat.le_refl _) (by omega) (by show 1 * M ≤ _; omega) (fun _ _ _ => trivial) ?_
  intro bl
  (refine go ?_)
  refine J_copy (U := tab) (src := bV old) (mm := old.length) (l' := bV (old ++ List.replicate (M - old.length) 0)) 0 1 rfl rfl rfl rfl rfl rfl rfl rfl h1 (by show _ = _ * 1; rw [bV_length]; omega) (bV_one old) (by show 0 + _ * 1 ≤ _; simp; omega) ?_ rfl (fun _ _ => trivial) ?_
  · show bV (old ++ List.replicate (M - old.length) 0) = List.take 0 (List.replicate M (Value.int .u8 0)) ++ List.take (min old.length M * 1) (bV old) ++ List.drop (0 + min old.length M * 1) (List.replicate M (Value.int .u8 0))
    have e : min old.length M * 1 = old.length := by omega
    rw [e, List.take_of_length_le (l := bV old) (by rw [bV_length]; omega)]
    simp [bV, u8]
  (refine go ?_)
  refine J_slice (U := tab) rfl rfl rfl rfl rfl rfl rfl (by omega) (by omega) (.inl rfl) ?_
  intro o' ho1 ho2
  have hA : at_ ≠ M → o' = at_ := fun h => by have := ho1 (by simpa using h); rw [this]; show 0 + (at_ : Int).toNat * 1 = at_; simp
  have hB : at_ = M → o' = 0 := fun h => ho2 (by simpa using h)
  clear ho1 ho2
  have hmin : (min b.length ((M : Int).toNat - (at_ : Int).toNat)) * 1 = b.length := by simp; omega
  (refine go ?_)
  refine J_copy (U := tab) (src := bV b) (mm := b.length) (l' := bV (wroteL old at_ b)) 0 1 rfl rfl rfl rfl rfl rfl rfl rfl h2 (by show _ = _ * 1; rw [bV_length]; omega) (bV_one b) ?_ ?_ rfl (fun _ _ => trivial) ?_
  · show o' + (min b.length ((M : Int).toNat - (at_ : Int).toNat)) * 1 ≤ _
    rw [hmin]; simp only [bV_length, List.length_append, List.length_replicate]
    by_cases h : at_ = M
    · have := hB h; omega
    · have := hA h; omega
  · show bV (wroteL old at_ b) = List.take o' _ ++ List.take (min b.length ((M : Int).toNat - (at_ : Int).toNat) * 1) (bV b) ++ List.drop (o' + min b.length ((M : Int).toNat - (at_ : Int).toNat) * 1) _
    rw [hmin, List.take_of_length_le (l := bV b) (by rw [bV_length]; omega)]
    have hrep : at_ + b.length - old.length = M - old.length := by omega
    unfold wroteL
    rw [hrep]
    by_cases h : at_ = M
    · have h3 := hB h
      have h4 : b = [] := List.eq_nil_of_length_eq_zero (by omega)
      subst h4; subst h3
      simp [bV, h]
    · rw [hA h]
      simp [bV]
  · have hl : (wroteL old at_ b).length = M := by unfold wroteL; simp; omega
    rw [← hl]
    (refine go ?_)
    refine K_return hR Tryz.func85 rfl _ rfl ⟨bl, _, rfl, Nat.le_refl _, rfl⟩ (Ent.fin [0, 1] 0 rfl rfl)
end Go.Proofs.YtpecmnaikjbanaaGreatDoor

/- files, part b: how a disk lies in memory; meet, find. -/
set_option linter.unusedVariables false
set_option linter.unusedSimpArgs false
namespace Go.Proofs.YtpecmnaikjbanaaGreatDoor
open Go Go.SL
attribute [local irreducible] J K Ctr Ends pts slc mapR mapI sbRow stock arrS

def ptrs (l : List (ByteArray × Nat)) : List (ByteArray × Value) := l.map fun x => (x.1, ptr x.2)
structure Dk where
  room : Nat
  bm : Nat
  sts : Value
  wrs : Value
  pln : Value
  off : Bool
  maps : List (Nat × List (ByteArray × Value))
  arrs : Arrs
  files : List (Nat × Value × Value)
  stb : List Nat
  wl : List (Nat × Nat × Value)
def mapG (x : Nat × List (ByteArray × Value)) : HP := mapR Value.string x.1 x.2
def fileG (x : Nat × Value × Value) : HP := pts x.1 (cl [x.2.1, x.2.2] 123)
def wcells (l : List (Nat × Nat × Value)) : List Value := l.flatMap fun x => [ptr x.1, .int .i64 x.2.1, x.2.2]
def diskL (bd : Nat) (D : Dk) : List HP :=
  [pts bd (cl [.int .i64 D.room, .map (some D.bm), D.sts, D.wrs, D.pln, .bool D.off] 85), stock mapG D.maps, arrS 5 D.arrs, stock fileG D.files,
   slc 81 1 D.sts D.stb.length (D.stb.map fun b => .map (some b)), slc 119 3 D.wrs D.wl.length (wcells D.wl)]
def disk (bd : Nat) (D : Dk) : HP := Sep (diskL bd D)
theorem disk_open (bd : Nat) (D : Dk) (H : List HP) : Ent (disk bd D :: H) (diskL bd D ++ H) := Ent.unsep _ _
theorem disk_close (bd : Nat) (D : Dk) (H : List HP) : Ent (diskL bd D ++ H) (disk bd D :: H) := Ent.resep _ _

theorem disk_o (bd room bm : Nat) (sts wrs pln : Value) (off : Bool) (maps : List (Nat × List (ByteArray × Value))) (arrs : Arrs) (files : List (Nat × Value × Value)) (stb : List Nat) (wl : List (Nat × Nat × Value)) (H : List HP) :
    Ent (disk bd ⟨room, bm, sts, wrs, pln, off, maps, arrs, files, stb, wl⟩ :: H)
      (pts bd (cl [.int .i64 room, .map (some bm), sts, wrs, pln, .bool off] 85) :: stock mapG maps :: arrS 5 arrs :: stock fileG files :: slc 81 1 sts stb.length (stb.map fun b => .map (some b)) :: slc 119 3 wrs wl.length (wcells wl) :: H) := Ent.unsep _ _
theorem disk_c (bd room bm : Nat) (sts wrs pln : Value) (off : Bool) (maps : List (Nat × List (ByteArray × Value))) (arrs : Arrs) (files : List (Nat × Value × Value)) (stb : List Nat) (wl : List (Nat × Nat × Value)) (H : List HP) :
    Ent (pts bd (cl [.int .i64 room, .map (some bm), sts, wrs, pln, .bool off] 85) :: stock mapG maps :: arrS 5 arrs :: stock fileG files :: slc 81 1 sts stb.length (stb.map fun b => .map (some b)) :: slc 119 3 wrs wl.length (wcells wl) :: H)
      (disk bd ⟨room, bm, sts, wrs, pln, off, maps, arrs, files, stb, wl⟩ :: H) := Ent.resep (diskL bd ⟨room, bm, sts, wrs, pln, off, maps, arrs, files, stb, wl⟩) H

structure Rel (D : Dk) (A : Ab) : Prop where
  room : D.room = A.room
  off : D.off = A.off
  names : (D.bm, ptrs A.names) ∈ D.maps
  states : All2 (fun b es => (b, ptrs es) ∈ D.maps) D.stb A.states
  fs : All2 (fun x y => x.1 = y.1 ∧ BIn D.arrs x.2.1 y.2.1 ∧ BIn D.arrs x.2.2 y.2.2) D.files A.fs
  writes : All2 (fun x y => x.1 = y.1 ∧ x.2.1 = y.2.1 ∧ BIn D.arrs x.2.2 y.2.2) D.wl A.writes
  plan : BIn D.arrs D.pln A.plan
  ids : (A.fs.map (·.1)).Nodup
  known : ∀ st ∈ A.names :: A.states, ∀ x ∈ st, x.2 ∈ A.fs.map (·.1)
  knownW : ∀ x ∈ A.writes, x.1 ∈ A.fs.map (·.1)
  nodup : ∀ st ∈ A.names :: A.states, (st.map (·.1)).Nodup
  smallF : ∀ x ∈ A.fs, x.2.1.length ≤ 1048576 ∧ x.2.2.length ≤ 1048576
  smallW : ∀ x ∈ A.writes, x.2.1 + x.2.2.length ≤ 1048576
  smallN : ∀ st ∈ A.names :: A.states, st.length ≤ 200
  smallR : A.room ≤ 1073741824
  smallP : A.plan.length ≤ 1000000000
  full : A.states ≠ []

theorem Rel.setPlan {D : Dk} {A : Ab} (h : Rel D A) {v : Value} {p : List UInt8} (o : Bool) (hp : BIn D.arrs v p) (hl : p.length ≤ 1000000000) : Rel { D with pln := v, off := o } { A with plan := p, off := o } :=
  ⟨h.room, rfl, h.names, h.states, h.fs, h.writes, hp, h.ids, h.known, h.knownW, h.nodup, h.smallF, h.smallW, h.smallN, h.smallR, hl, h.full⟩
theorem Rel.setPlan' {D : Dk} {A : Ab} (h : Rel D A) {v : Value} {p : List UInt8} (hp : BIn D.arrs v p) (hl : p.length ≤ 1000000000) : Rel { D with pln := v } { A with plan := p } :=
  ⟨h.room, h.off, h.names, h.states, h.fs, h.writes, hp, h.ids, h.known, h.knownW, h.nodup, h.smallF, h.smallW, h.smallN, h.smallR, hl, h.full⟩

theorem meet_any (bd : Nat) (D : Dk) (A : Ab) (hR : Rel D A) (may : Bool) :
    Ctr Tryz.prog 96 [ptr bd, .bool may] [disk bd D] (fun v H => ∃ D', Rel D' (A.meet may).2 ∧ H = [disk bd D'] ∧ v = .int .i64 (A.meet may).1) := by
  obtain ⟨room, bm, sts, wrs, pln, off, maps, arrs, files, stb, wl⟩ := D
  obtain ⟨a, cap, hpl, hcap⟩ := hR.plan.shape
  simp only at hpl
  subst hpl
  have hoff := hR.off
  simp only at hoff
  refine Ctr.enter Tryz.func96 (by kernel_rfl) rfl Tryz.ntmps96 rfl rfl ?_
  intro G F R hE
  refine K_ent (disk_o _ _ _ _ _ _ _ _ _ _ _ _ _) ?_
  cases may with
  | false =>
    (refine go ?_)
    refine K_return hE Tryz.func96 rfl _ rfl ⟨_, hR, rfl, rfl⟩ ((Ent.pick [0, 1, 2, 3, 4, 5] rfl).trans (disk_c _ _ _ _ _ _ _ _ _ _ _ _ _))
  | true =>
    cases off with
    | true =>
      have hm : A.meet true = (7, A) := by simp [Ab.meet, ← hoff]
      rw [hm] at hE
      (refine go ?_)
      refine K_return hE Tryz.func96 rfl _ rfl ⟨_, hR, rfl, rfl⟩ ((Ent.pick [0, 1, 2, 3, 4, 5] rfl).trans (disk_c _ _ _ _ _ _ _ _ _ _ _ _ _))
    | false =>
      (refine go ?_)
      refine K_condA rfl rfl ?_ ?_
      · intro h0
        have h0' : A.plan = [] := List.eq_nil_of_length_eq_zero (by have := of_decide_eq_true h0; omega)
        have hm : A.meet true = (0, A) := by simp [Ab.meet, ← hoff, h0']
        rw [hm] at hE
        (refine go ?_)
        refine K_return hE Tryz.func96 rfl _ rfl ⟨_, hR, rfl, rfl⟩ ((Ent.pick [0, 1, 2, 3, 4, 5] rfl).trans (disk_c _ _ _ _ _ _ _ _ _ _ _ _ _))
      · intro h0
        obtain ⟨x, p, hxp⟩ : ∃ x p, A.plan = x :: p := by
          cases h : A.plan with
          | nil => rw [h] at h0; simp at h0
          | cons x p => exact ⟨x, p, rfl⟩
        have hm : A.meet true = if x = 1 then (6, { A with plan := p }) else if x = 2 then (7, { A with plan := p, off := true }) else (0, { A with plan := p }) := by simp [Ab.meet, ← hoff, hxp]
        have hbin : BIn arrs (.slice a A.plan.length cap) (x :: p) := by have := hR.plan; rw [hxp] at this; rw [hxp]; exact this
        have hlen : A.plan.length = p.length + 1 := by rw [hxp]; rfl
        have hsm := hR.smallP
        obtain ⟨b, o, cap', hsl⟩ := (hbin.view 5).some (by simp [bV])
        simp only [Value.slice.injEq] at hsl
        obtain ⟨rfl, _, rfl⟩ := hsl
        (refine go ?_)
        refine J_at1 (U := tab) 0 rfl rfl rfl rfl rfl rfl rfl rfl (by omega) ?_
        refine J_loadV (U := tab) 2 rfl rfl rfl (Vw.cell (cap := cap) (n := (x :: p).length) (cs := bV (x :: p)) (by rw [← hxp]; exact hR.plan.view _) (c := u8 x) (by simp [bV])) rfl rfl ?_
        (refine go ?_)
        refine J_slice (U := tab) rfl rfl rfl rfl rfl rfl rfl (by omega) (by omega) (.inl rfl) ?_
        intro o' ho1 _
        have hn : (A.plan.length : Int).toNat - (1 : Int).toNat = p.length := by omega
        rw [hn]
        have hp : BIn arrs (.slice (some ⟨b, o', none⟩) p.length (cap - (1 : Int).toNat)) p := hbin.tail o' _ (fun hne => ho1 (by
          have : 0 < p.length := List.length_pos_iff.2 hne
          omega)) (by omega)
        have hoA : A.off = false := hoff.symm
        have hR1 := hR.setPlan' hp (by omega)
        have hR2 := hR.setPlan true hp (by omega)
        clear hbin hp ho1
        (refine go ?_)
        refine K_condP rfl rfl ?_ ?_
        · intro hx
          have hx1 : x = 1 := u8_inj hx
          rw [hm, if_pos hx1] at hE
          (refine go ?_)
          refine K_return hE Tryz.func96 rfl _ rfl ⟨_, hR1, rfl, rfl⟩ ((Ent.pick [0, 1, 2, 3, 4, 5] rfl).trans (disk_c _ _ _ _ _ _ _ _ _ _ _ _ _))
        · intro hx
          have hx1 : x ≠ 1 := fun h => hx (by rw [h]; rfl)
          (refine go ?_)
          refine K_condP rfl rfl ?_ ?_
          · intro hy
            have hx2 : x = 2 := u8_inj hy
            rw [hm, if_neg hx1, if_pos hx2] at hE
            (refine go ?_)
            refine K_return hE Tryz.func96 rfl _ rfl ⟨_, hR2, rfl, rfl⟩ ((Ent.pick [0, 1, 2, 3, 4, 5] rfl).trans (disk_c _ _ _ _ _ _ _ _ _ _ _ _ _))
          · intro hy
            have hx2 : x ≠ 2 := fun h => hy (by rw [h]; rfl)
            rw [hm, if_neg hx1, if_neg hx2] at hE
            (refine go ?_)
            refine K_return hE Tryz.func96 rfl _ rfl ⟨_, hR1, rfl, rfl⟩ ((Ent.pick [0, 1, 2, 3, 4, 5] rfl).trans (disk_c _ _ _ _ _ _ _ _ _ _ _ _ _))

theorem alook_ptrs (l : List (ByteArray × Nat)) (name : ByteArray) : alook (ptrs l) name = (Ab.lookIn l name).map ptr := by
  unfold alook Ab.lookIn ptrs
  induction l with
  | nil => rfl
  | cons x l ih =>
    simp only [List.map_cons, List.find?_cons]
    by_cases h : x.1 = name
    · simp [h]
    · simp only [h, decide_false]; exact ih
theorem map_of_stock {G : Glob} {w : World} {H : List HP} {maps : List (Nat × List (ByteArray × Value))} {b : Nat} {es : List (ByteArray × Value)} {i : Nat} (hs : Sat G w H) (hi : getL H i = some (stock mapG maps)) (hm : (b, es) ∈ maps) :
    ∃ o, mapW Value.string o es ∧ w.heap[b]? = some o := by
  obtain ⟨h, hh, hA⟩ := hs.getA hi
  obtain ⟨h', s, hb⟩ := stock_mem hm hA
  unfold mapG mapR at hb
  obtain ⟨o, ho, hp⟩ := hb
  unfold pts at hp
  exact ⟨o, ho, hh b o (s b o (by rw [hp b]; simp))⟩
theorem kStr : KeyOk Tryz.prog 9 Value.string := keyStr Tryz.underlying9
def optPtr : Option Nat → Value
  | none => .pointer none
  | some f => ptr f

theorem find_any (bd : Nat) (D : Dk) (A : Ab) (hR : Rel D A) (name : ByteArray) (may : Bool) :
    Ctr Tryz.prog 104 [ptr bd, .string name, .bool may] [disk bd D] (fun v H => ∃ D', Rel D' (A.find name may).2.2 ∧ H = [disk bd D'] ∧ v = .tuple #[optPtr (A.find name may).2.1, .int .i64 (A.find name may).1]) := by
  refine Ctr.enter Tryz.func104 (by kernel_rfl) rfl Tryz.ntmps104 rfl rfl ?_
  intro G F R hE
  (refine go ?_)
  refine J_call [0] rfl rfl rfl rfl (meet_any bd D A hR may) rfl (fun _ _ _ _ _ => trivial) ?_
  rintro _ _ ⟨D', hR', rfl, rfl⟩
  (refine go ?_)
  refine K_condA rfl rfl ?_ ?_
  · intro h0
    have h0' : ¬ (A.meet may).1 = 0 := by have := of_decide_eq_true h0; omega
    have hf : A.find name may = ((A.meet may).1, none, (A.meet may).2) := by simp [Ab.find, h0']
    rw [hf] at hE
    (refine go ?_)
    refine K_return hE Tryz.func104 rfl _ rfl ⟨D', hR', rfl, rfl⟩ (Ent.pick [0] rfl)
  · intro h0
    have h0' : (A.meet may).1 = 0 := by have := of_decide_eq_false h0; omega
    obtain ⟨room, bm, sts, wrs, pln, off, maps, arrs, files, stb, wl⟩ := D'
    refine K_ent (disk_o _ _ _ _ _ _ _ _ _ _ _ _ _) ?_
    (refine go ?_)
    refine J_lookupOkC (U := tab) rfl kStr rfl rfl rfl rfl rfl rfl rfl (fun w hw => map_of_stock (i := 1) hw rfl hR'.names) ?_
    rw [alook_ptrs]
    cases hl : Ab.lookIn (A.meet may).2.names name with
    | none =>
      have hf : A.find name may = (4, none, (A.meet may).2) := by simp [Ab.find, h0', Ab.look, hl]
      rw [hf] at hE
      (refine go ?_)
      refine K_return hE Tryz.func104 rfl _ rfl ⟨_, hR', rfl, rfl⟩ ((Ent.pick [0, 1, 2, 3, 4, 5] rfl).trans (disk_c _ _ _ _ _ _ _ _ _ _ _ _ _))
    | some fl =>
      have hf : A.find name may = (0, some fl, (A.meet may).2) := by simp [Ab.find, h0', Ab.look, hl]
      rw [hf] at hE
      (refine go ?_)
      refine K_return hE Tryz.func104 rfl _ rfl ⟨_, hR', rfl, rfl⟩ ((Ent.pick [0, 1, 2, 3, 4, 5] rfl).trans (disk_c _ _ _ _ _ _ _ _ _ _ _ _ _))
theorem find_nodup {α : Type} {l : List (Nat × α)} (hn : (l.map (·.1)).Nodup) {i f : Nat} {x : α} (hi : l[i]? = some (f, x)) : (l.find? fun x => decide (x.1 = f)) = some (f, x) := by
  induction l generalizing i with
  | nil => simp at hi
  | cons y l ih =>
    simp only [List.map_cons, List.nodup_cons] at hn
    cases i with
    | zero => simp at hi; subst hi; simp
    | succ i =>
      simp at hi
      have hne : y.1 ≠ f := fun e => hn.1 (List.mem_map.2 ⟨_, List.mem_of_getElem? hi, e.symm⟩)
      simp only [List.find?_cons, hne, decide_false]
      exact ih hn.2 hi
theorem Rel.file {D : Dk} {A : Ab} (h : Rel D A) {f : Nat} (hf : f ∈ A.fs.map (·.1)) : ∃ (i : Nat) (v1 v2 : Value), D.files[i]? = some (f, v1, v2) ∧ A.fs[i]? = some (f, A.now f, A.sure f) ∧ BIn D.arrs v1 (A.now f) ∧ BIn D.arrs v2 (A.sure f) := by
  obtain ⟨⟨f', n, s⟩, hm, rfl⟩ := List.mem_map.1 hf
  obtain ⟨i, hi⟩ := List.getElem?_of_mem hm
  obtain ⟨⟨f2, v1, v2⟩, hx, h1, h2, h3⟩ := h.fs.right hi
  simp only at h1 h2 h3
  subst h1
  have hfile : A.file f2 = (n, s) := by unfold Ab.file; rw [find_nodup h.ids hi]; rfl
  refine ⟨i, v1, v2, hx, ?_, ?_, ?_⟩
  · rw [hi]; simp [Ab.now, Ab.sure, hfile]
  · simpa [Ab.now, hfile] using h2
  · simpa [Ab.sure, hfile] using h3
theorem Rel.small {D : Dk} {A : Ab} (h : Rel D A) (f : Nat) : (A.now f).length ≤ 1048576 ∧ (A.sure f).length ≤ 1048576 := by
  unfold Ab.now Ab.sure Ab.file
  cases hf : A.fs.find? fun x => decide (x.1 = f) with
  | none => simp
  | some x => simpa using h.smallF x (List.mem_of_find?_eq_some hf)
theorem file_cells {G : Glob} {w : World} {H : List HP} {files : List (Nat × Value × Value)} {f : Nat} {v1 v2 : Value} {i j : Nat} (hs : Sat G w H) (hi : getL H i = some (stock fileG files)) (hm : files[j]? = some (f, v1, v2)) :
    w.heap[f]? = some (cl [v1, v2] 123) := by
  obtain ⟨h, hh, hA⟩ := hs.getA hi
  obtain ⟨h', s, hb⟩ := stock_mem (List.mem_of_getElem? hm) hA
  unfold fileG pts at hb
  exact hh f _ (s f _ (by rw [hb f]; simp))
theorem file_now {G : Glob} {w : World} {H : List HP} {files : List (Nat × Value × Value)} {f : Nat} {v1 v2 : Value} {i j : Nat} (hs : Sat G w H) (hi : getL H i = some (stock fileG files)) (hm : files[j]? = some (f, v1, v2)) :
    w.cell? ⟨f, 0, none⟩ = some v1 := by rw [cell_of_block (file_cells hs hi hm)]; rfl
theorem file_sure {G : Glob} {w : World} {H : List HP} {files : List (Nat × Value × Value)} {f : Nat} {v1 v2 : Value} {i j : Nat} (hs : Sat G w H) (hi : getL H i = some (stock fileG files)) (hm : files[j]? = some (f, v1, v2)) :
    w.cell? ⟨f, 1, none⟩ = some v2 := by rw [cell_of_block (file_cells hs hi hm)]; rfl
theorem lookIn_mem {l : List (ByteArray × Nat)} {k : ByteArray} {f : Nat} (hn : (l.map (·.1)).Nodup) (h : (k, f) ∈ l) : Ab.lookIn l k = some f := by
  obtain ⟨i, hi⟩ := List.getElem?_of_mem h
  have : alook (l.map fun x => (x.1, Value.int .i64 x.2)) k = some (.int .i64 f) := alook_get (i := i) (by simp [hi]) (fun j hj he => by
    rw [List.map_map] at he
    have h1 : (l.map (·.1))[j]? = (l.map (·.1))[i]? := by
      have e : (List.map ((fun x => x.1) ∘ fun x => (x.1, Value.int IntKind.i64 (x.2 : Nat))) l) = l.map (·.1) := rfl
      rw [e] at he
      rw [he]; simp [hi]
    have := (List.getElem?_inj (by
      rcases Nat.lt_or_ge j (l.map (·.1)).length with h | h
      · exact h
      · rw [List.getElem?_eq_none h] at h1; simp [hi] at h1) hn).1 h1
    omega)
  unfold alook at this
  unfold Ab.lookIn
  rw [List.find?_map] at this
  simp only [Option.map_map] at this
  cases hx : l.find? fun x => decide (x.1 = k) with
  | none => have e : (l.find? ((fun x => decide (x.1 = k)) ∘ fun x => (x.1, Value.int IntKind.i64 (x.2 : Nat)))) = none := hx
            rw [e] at this; cases this
  | some y => 
    have e : (l.find? ((fun x => decide (x.1 = k)) ∘ fun x => (x.1, Value.int IntKind.i64 (x.2 : Nat)))) = some y := hx
    rw [e] at this
    have h2 : ((y.2 : Nat) : Int) = f := by simpa using this
    rw [Option.map_some, show y.2 = f by omega]
theorem lookIn_some {l : List (ByteArray × Nat)} {k : ByteArray} {f : Nat} (h : Ab.lookIn l k = some f) : (k, f) ∈ l := by
  unfold Ab.lookIn at h
  cases hx : l.find? fun x => decide (x.1 = k) with
  | none => rw [hx] at h; cases h
  | some y =>
    rw [hx] at h
    have h1 := List.find?_some hx
    simp only [decide_eq_true_eq] at h1
    simp only [Option.map_some, Option.some.injEq] at h
    have := List.mem_of_find?_eq_some hx
    rwa [← h1, ← h]
end Go.Proofs.YtpecmnaikjbanaaGreatDoor

/- files, part c: Used. -/
set_option linter.unusedVariables false
set_option linter.unusedSimpArgs false
namespace Go.Proofs.YtpecmnaikjbanaaGreatDoor
open Go Go.SL
attribute [local irreducible] J K Ctr Ends pts slc mapR mapI sbRow stock arrS

def lenOf (A : Ab) (k : ByteArray) : Nat := (A.look k).elim 0 fun f => (A.now f).length
def sumOf (A : Ab) (l : List ByteArray) : Nat := (l.map (lenOf A)).sum
theorem sumOf_le {A : Ab} (h : ∀ f, (A.now f).length ≤ 1048576) (l : List ByteArray) : sumOf A l ≤ l.length * 1048576 := by
  induction l with
  | nil => simp [sumOf]
  | cons k l ih =>
    have h1 : lenOf A k ≤ 1048576 := by unfold lenOf; cases A.look k with | none => simp | some f => exact h f
    simp only [sumOf, List.map_cons, List.sum_cons, List.length_cons] at ih ⊢
    omega
theorem nodup_perm {α : Type} [DecidableEq α] {l r : List α} (h1 : l.Nodup) (h2 : r.Nodup) (h : ∀ x, x ∈ l ↔ x ∈ r) : l.Perm r := (List.perm_ext_iff_of_nodup h1 h2).2 h
theorem nodup_len {α : Type} [DecidableEq α] {l r : List α} (h1 : l.Nodup) (h : ∀ x ∈ l, x ∈ r) : l.length ≤ r.length := by
  induction l generalizing r with
  | nil => simp
  | cons x l ih =>
    simp only [List.nodup_cons] at h1
    have := ih (r := r.erase x) h1.2 (fun y hy => (List.mem_erase_of_ne (by rintro rfl; exact h1.1 hy)).2 (h y (by simp [hy])))
    rw [List.length_erase_of_mem (h x (by simp))] at this
    have h3 : 0 < r.length := List.length_pos_of_mem (h x (by simp))
    simp only [List.length_cons]
    omega
theorem sumOf_used {A : Ab} (hn : (A.names.map (·.1)).Nodup) : sumOf A (A.names.map (·.1)) = A.used := by
  unfold sumOf Ab.used
  rw [List.map_map]
  congr 1
  apply List.map_congr_left
  rintro ⟨k, f⟩ hx
  have : A.look k = some f := lookIn_mem hn hx
  simp [lenOf, this]

theorem Used_any (bd : Nat) (D : Dk) (A : Ab) (hR : Rel D A) :
    Ctr Tryz.prog 105 [ptr bd] [disk bd D] (fun v H => H = [disk bd D] ∧ v = .int .i64 A.used) := by
  obtain ⟨room, bm, sts, wrs, pln, off, maps, arrs, files, stb, wl⟩ := D
  refine Ctr.enter Tryz.func105 (by kernel_rfl) rfl Tryz.ntmps105 rfl rfl ?_
  intro G F R hE
  refine K_ent (disk_o _ _ _ _ _ _ _ _ _ _ _ _ _) ?_
  (refine go ?_)
  obtain ⟨j, hj⟩ := List.getElem?_of_mem hR.names
  simp only at hj
  refine J_ent (Ent.pick [1] rfl) ?_
  refine J_ent (stock_out mapG hj _) ?_
  refine J_range (kv := Value.string) (es := ptrs A.names) (U := tab) 0 rfl rfl rfl rfl rfl (fun _ => rfl) (fun _ _ _ => trivial) ?_
  intro it
  (refine go ?_)
  have hnd := hR.nodup _ (List.mem_cons_self ..)
  have hkeys : (ptrs A.names).map (·.1) = A.names.map (·.1) := by simp [ptrs, Function.comp_def]
  refine K_loop (fun dn : List ByteArray => dn.Nodup ∧ ∀ x ∈ dn, x ∈ A.names.map (·.1)) (fun dn => A.names.length - dn.length)
    (fun dn => [(3, .int .i64 (sumOf A dn)), (10, .pointer (some ⟨it, 0, none⟩))])
    (fun dn => mapI Value.string bm it (ptrs A.names) dn :: stock mapG (maps.eraseIdx j) :: pts bd (cl [.int .i64 room, .map (some bm), sts, wrs, pln, .bool off] 85) :: arrS 5 arrs :: stock fileG files :: slc 81 1 sts stb.length (stb.map fun b => .map (some b)) :: slc 119 3 wrs wl.length (wcells wl) :: F)
    [] ⟨List.nodup_nil, by simp⟩ rfl (by repeat (first | exact keep_nil | refine keep_cons rfl ?_)) (Ent.refl _) ?_
  rintro dn ⟨hdn, hsub⟩ ih
  have hlen := nodup_len hdn hsub
  have hb := sumOf_le (fun f => (hR.small f).1) dn
  have hN := hR.smallN _ (List.mem_cons_self ..)
  rw [List.length_map] at hlen
  (refine go ?_)
  refine J_next (kv := Value.string) (es := ptrs A.names) 0 rfl kStr.inj rfl rfl (fun _ => rfl) (fun _ _ => trivial) (fun _ _ _ => trivial) ?_ ?_
  · intro hall
    (refine go ?_)
    have hp : sumOf A dn = A.used := by
      rw [← sumOf_used hnd]
      refine List.Perm.sum_nat ((nodup_perm hdn hnd fun x => ⟨hsub x, fun hx => ?_⟩).map _)
      rw [← hkeys] at hx
      obtain ⟨y, hy, rfl⟩ := List.mem_map.1 hx
      exact hall y hy
    refine K_ent ((Ent.head (B := [mapG (bm, ptrs A.names)]) (fun h hs => by obtain ⟨h', s, hm⟩ := mapI_mapR h hs; exact ⟨h', s, Sep_one' hm⟩)).trans (stock_in mapG hj _)) ?_
    rw [hp]
    refine K_return hE Tryz.func105 rfl _ rfl ⟨rfl, rfl⟩ ((Ent.pick [1, 0] rfl).trans ((Ent.pick [0, 1, 2, 3, 4, 5] rfl).trans (disk_c _ _ _ _ _ _ _ _ _ _ _ _ _)))
  · intro key v hmem hnot
    obtain ⟨⟨k', f⟩, hx, hxe⟩ := List.mem_map.1 hmem
    simp only [Prod.mk.injEq] at hxe
    obtain ⟨rfl, rfl⟩ := hxe
    (refine go ?_)
    refine J_entry (kv := Value.string) (es := ptrs A.names) 0 rfl kStr.inj rfl rfl hmem ?_
    (refine go ?_)
    obtain ⟨i, v1, v2, hi, hfs, hv1, hv2⟩ := hR.file (hR.known _ (List.mem_cons_self ..) _ hx)
    obtain ⟨a, cap, rfl, hcap⟩ := hv1.shape
    refine J_loadC (U := tab) rfl rfl (fun w hw => file_now (i := 4) hw rfl hi) rfl rfl ?_
    have hlk : A.look k' = some f := lookIn_mem hnd hx
    have hl : lenOf A k' = (A.now f).length := by simp [lenOf, hlk]
    have hsm := (hR.small f).1
    have hmk : k' ∈ A.names.map (·.1) := List.mem_map.2 ⟨_, hx, rfl⟩
    have hd2 : (k' :: dn).Nodup := List.nodup_cons.2 ⟨hnot, hdn⟩
    have hs2 : ∀ x ∈ k' :: dn, x ∈ A.names.map (·.1) := fun x hx => by
      rcases List.mem_cons.1 hx with rfl | h
      · exact hmk
      · exact hsub x h
    have hlen2 := nodup_len hd2 hs2
    rw [List.length_map, List.length_cons] at hlen2
    (refine go ?_)
    refine K_slot 3 (.int .i64 (sumOf A (k' :: dn))) rfl (congrArg (Value.int .i64) (by simp only [sumOf, List.map_cons, List.sum_cons, hl]; omega)) ?_
    refine K_again ih (k' :: dn) rfl ⟨hd2, hs2⟩ (by show _ - (_ + 1) < _; omega) (by repeat (first | exact keep_nil | refine keep_cons rfl ?_)) (Ent.refl _)
end Go.Proofs.YtpecmnaikjbanaaGreatDoor

/- files, part d: maps.Clone, change, the makers. -/
set_option linter.unusedVariables false
set_option linter.unusedSimpArgs false
namespace Go.Proofs.YtpecmnaikjbanaaGreatDoor
open Go Go.SL
attribute [local irreducible] J K Ctr Ends pts slc mapR mapI sbRow stock arrS

theorem mapsClone_any (b : Nat) (es : List (ByteArray × Value)) :
    Ctr Tryz.prog 142 [.map (some b)] [mapR Value.string b es] (fun v H => ∃ b', v = .map (some b') ∧ H = [mapR Value.string b' es, mapR Value.string b es]) := by
  refine Ctr.enter Tryz.func142 (by kernel_rfl) rfl Tryz.ntmps142 rfl rfl ?_
  intro G F R hR
  (refine go ?_)
  refine J_mkIface (U := tab) rfl rfl rfl rfl ?_
  refine J_mapsClone (kv := Value.string) (es := es) 0 rfl Tryz.func159 (by kernel_rfl) (by kernel_rfl) (by kernel_rfl) (by kernel_rfl) rfl rfl (fun _ _ _ => trivial) ?_
  intro b'
  refine J_assert (U := tab) rfl rfl rfl rfl ?_
  (refine go ?_)
  refine K_return hR Tryz.func142 rfl _ rfl ⟨b', rfl, rfl⟩ (Ent.fin [0, 1] 0 rfl rfl)

/-- change: does what the function value does to the names. -/
theorem change_any {α : Type} (bd : Nat) (D : Dk) (nm : List (ByteArray × Nat)) (hm : (D.bm, ptrs nm) ∈ D.maps) (g : FuncId) (cap : Array Value) (E : HP) (nm' : α → List (ByteArray × Nat)) (E' : α → HP) (q : α → Prop)
    (hc : ∀ b', Ctr Tryz.prog g (.map (some b') :: cap.toList) [mapR Value.string b' (ptrs nm), E] (fun _ H => ∃ x, q x ∧ H = [mapR Value.string b' (ptrs (nm' x)), E' x])) (hlen : D.stb.length ≤ 1000000000) :
    Ctr Tryz.prog 100 [ptr bd, .func (.func g) #[] cap] [disk bd D, E]
      (fun _ H => ∃ x b' v, q x ∧ H = [disk bd { D with bm := b', maps := (b', ptrs (nm' x)) :: D.maps, sts := v, stb := D.stb ++ [b'] }, E' x]) := by
  obtain ⟨room, bm, sts, wrs, pln, off, maps, arrs, files, stb, wl⟩ := D
  simp only at hm hlen ⊢
  refine Ctr.enter Tryz.func100 (by kernel_rfl) rfl Tryz.ntmps100 rfl rfl ?_
  intro G F R hE
  refine K_ent (disk_o _ _ _ _ _ _ _ _ _ _ _ _ _) ?_
  (refine go ?_)
  obtain ⟨j, hj⟩ := List.getElem?_of_mem hm
  refine J_ent (Ent.pick [1] rfl) ?_
  refine J_ent (stock_out mapG hj _) ?_
  refine J_call [0] rfl rfl rfl rfl (mapsClone_any bm (ptrs nm)) rfl (fun _ _ _ _ _ => trivial) ?_
  rintro _ _ ⟨b', rfl, rfl⟩
  refine J_ent (Ent.pick [1, 2] rfl) ?_
  refine J_ent (stock_in mapG hj _) ?_
  (refine go ?_)
  refine J_call [1, 7] rfl rfl rfl rfl (hc b') rfl (fun _ _ _ _ _ => trivial) ?_
  rintro _ _ ⟨x, hq, rfl⟩
  refine J_ent (Ent.pick [0, 2] rfl) ?_
  refine J_ent (stock_add mapG (b', ptrs (nm' x)) maps _) ?_
  (refine go ?_)
  refine K_drawA (fun w => Sat G w ([pts bd (cl [.int .i64 room, .map (some b'), sts, wrs, pln, .bool off] 85)])) (.st 0 (.st 1 (.st 2 (.st 3 (.st 4 (.st 5 (.st 6 (.st 7 (.st 8 (.act 9 (.act 10 (.st 11 (.st 12 (.act 13 .nil)))))))))))))) rfl (by kernel_rfl) (by kernel_rfl) (by kernel_rfl) (fun w hw => hw.ent (Ent.pickOnly ([2]) rfl)) ?_
  (refine go ?_)
  refine J_buildSlice1 (U := tab) rfl rfl rfl rfl rfl rfl rfl rfl rfl (fun _ w hw => hw.ent (Ent.pickOnly ([3]) rfl)) ?_
  intro b0
  refine J_append (U := tab) (mm := 1) (news := [.map (some b')]) 6 0 rfl rfl rfl rfl rfl rfl rfl rfl rfl rfl rfl rfl (Vw.pts rfl) rfl (by simp [Value.oneCell']) (by omega) (by show _ * 8 ≤ _; omega) (fun _ => rfl) (fun _ w hw => hw.ent (Ent.pickOnly ([3]) rfl)) ?_
  intro v'
  have e1 : (stb.map fun b => Value.map (some b)) ++ [.map (some b')] = (stb ++ [b']).map fun b => Value.map (some b) := by simp
  have e2 : stb.length + 1 = (stb ++ [b']).length := by simp
  rw [e1, e2]
  refine J_shape 6 rfl ?_
  rintro av cv rfl
  (refine go ?_)
  refine K_ent (Ent.pick [3, 1, 4, 5, 6, 7, 2] rfl) ?_
  refine K_ent (disk_c bd room b' _ wrs pln off _ arrs files (stb ++ [b']) wl _) ?_
  refine K_fallEnd hE Tryz.func100 rfl _ rfl ⟨x, b', _, hq, rfl⟩ (Ent.fin [0, 1] 1 rfl rfl)

theorem Rel.new (room bm bm2 : Nat) (v : Value) (h : room ≤ 1073741824) : Rel ⟨room, bm, v, .slice none 0 0, .slice none 0 0, false, [(bm2, []), (bm, [])], [], [], [bm2], []⟩ (Ab.new room) where
  room := rfl
  off := rfl
  names := by simp [Ab.new, ptrs]
  states := All2.one (by simp [ptrs])
  fs := All2.nil
  writes := All2.nil
  plan := BIn.nil _ _ _
  ids := by simp [Ab.new]
  known := by simp [Ab.new]
  knownW := by simp [Ab.new]
  nodup := by simp [Ab.new]
  smallF := by simp [Ab.new]
  smallW := by simp [Ab.new]
  smallN := by simp [Ab.new]
  smallR := h
  smallP := by simp [Ab.new]
  full := by simp [Ab.new]
theorem New_good (room : Nat) (h1 : 1 ≤ room) (h2 : room ≤ 1073741824) :
    Ctr Tryz.prog 11 [.int .i64 room] [] (fun v H => ∃ bd D, Rel D (Ab.new room) ∧ v = .tuple #[ptr bd, .int .i64 0] ∧ H = [disk bd D]) := by
  refine Ctr.enter Tryz.func11 (by kernel_rfl) rfl Tryz.ntmps11 rfl rfl ?_
  intro G F R hE
  repeat' (first | (with_reducible intro _hh) | refine go1 ?_ | refine J_fork ?_ ?_ | refine J_gsP rfl rfl rfl rfl ?_ ?_ | refine K_condP rfl rfl ?_ ?_)
  · omega
  · omega
  refine J_makeMap rfl (fun _ _ _ => trivial) ?_
  intro bm
  refine J_ent (Ent.head (B := [mapG (bm, [])]) (fun h hs => ⟨h, sub.refl h, Sep_one' (mapR_new _ _ h hs)⟩)) ?_
  refine J_makeMap rfl (fun _ _ _ => trivial) ?_
  intro bm2
  refine J_ent (Ent.head (B := [mapG (bm2, [])]) (fun h hs => ⟨h, sub.refl h, Sep_one' (mapR_new _ _ h hs)⟩)) ?_
  refine J_buildSlice1 (U := tab) rfl rfl rfl rfl rfl rfl rfl rfl rfl (fun _ _ _ => trivial) ?_
  intro b0
  (refine go ?_)
  refine J_box rfl rfl (fun _ _ _ => trivial) ?_
  intro bd
  (refine go ?_)
  refine K_ent (stock_nil mapG _) ?_
  refine K_ent (Ent.pick [4, 0] rfl) ?_
  refine K_ent (stock_add mapG (bm, []) [] _) ?_
  refine K_ent (Ent.pick [3, 0] rfl) ?_
  refine K_ent (stock_add mapG (bm2, []) [(bm, [])] _) ?_
  refine K_ent (Ent.pick [2] rfl) ?_
  refine K_ent (slc_row 81 1 b0 1 1 [.map (some bm2)] [] _ rfl (Nat.le_refl _) (by simp)) ?_
  refine K_ent (slc_lift 119 3 none _) ?_
  refine K_ent (arrS_nil 5 _) ?_
  refine K_ent (stock_nil fileG _) ?_
  refine K_ent (Ent.pick [5, 4, 1, 0, 3, 2] rfl) ?_
  refine K_ent (disk_c bd room bm (.slice (some ⟨b0, 0, none⟩) 1 1) (.slice none 0 0) (.slice none 0 0) false [(bm2, []), (bm, [])] [] [] [bm2] [] _) ?_
  refine K_return hE Tryz.func11 rfl _ rfl ⟨bd, _, Rel.new room bm bm2 _ h2, rfl, rfl⟩ (Ent.fin [0] 0 rfl rfl)

/-! ## the closures that change names -/
theorem lookIn_key {l : List (ByteArray × Nat)} {k : ByteArray} : (Ab.lookIn l k).isSome = true ↔ k ∈ l.map (·.1) := by
  unfold Ab.lookIn
  rw [Option.isSome_map, List.find?_isSome]
  simp only [decide_eq_true_eq, List.mem_map]
theorem adel_ptrs (l : List (ByteArray × Nat)) (k : ByteArray) : adel (ptrs l) k = ptrs (Ab.delN l k) := by
  unfold adel ptrs Ab.delN
  rw [List.filter_map]
  rfl
theorem aset_ptrs (l : List (ByteArray × Nat)) (k : ByteArray) (f : Nat) : aset (ptrs l) k (ptr f) = ptrs (Ab.setN l k f) := by
  have hk : (ptrs l).map (·.1) = l.map (·.1) := by simp [ptrs, Function.comp_def]
  unfold aset Ab.setN
  rw [hk]
  by_cases h : (Ab.lookIn l k).isSome = true
  · rw [if_pos (lookIn_key.1 h), if_pos h]
    simp only [ptrs, List.map_map]
    apply List.map_congr_left
    intro x _
    simp only [Function.comp]
    split <;> rfl
  · rw [if_neg (fun h' => h (lookIn_key.2 h')), if_neg h]
    simp [ptrs]

theorem Remove1_any (b box : Nat) (l : List (ByteArray × Nat)) (k : ByteArray) :
    Ctr Tryz.prog 112 [.map (some b), ptr box] [mapR Value.string b (ptrs l), pts box (cl [.string k] 9)] (fun _ H => H = [mapR Value.string b (ptrs (Ab.delN l k)), pts box (cl [.string k] 9)]) := by
  refine Ctr.enter Tryz.func112 (by kernel_rfl) rfl Tryz.ntmps112 rfl rfl ?_
  intro G F R hE
  (refine go ?_)
  refine J_delete (U := tab) 0 kStr (fun _ _ => trivial) rfl rfl rfl rfl rfl rfl rfl ?_
  rw [adel_ptrs]
  (refine go ?_)
  refine K_fallEnd hE Tryz.func112 rfl _ rfl rfl (Ent.fin [0, 1] 0 rfl rfl)
theorem Rename1_any (b box1 box2 box3 f : Nat) (l : List (ByteArray × Nat)) (k k2 : ByteArray) :
    Ctr Tryz.prog 147 [.map (some b), ptr box1, ptr box2, ptr box3] [mapR Value.string b (ptrs l), Sep [pts box1 (cl [.string k] 9), pts box2 (cl [ptr f] 117), pts box3 (cl [.string k2] 9)]]
      (fun _ H => H = [mapR Value.string b (ptrs (Ab.setN (Ab.delN l k) k2 f)), emp]) := by
  refine Ctr.enter Tryz.func147 (by kernel_rfl) rfl Tryz.ntmps147 rfl rfl ?_
  intro G F R hE
  refine K_ent (Ent.pick [1] rfl) ?_
  refine K_ent (Ent.unsep _ _) ?_
  (refine go ?_)
  refine J_delete (U := tab) 3 kStr (fun _ _ => trivial) rfl rfl rfl rfl rfl rfl rfl ?_
  rw [adel_ptrs]
  (refine go ?_)
  refine J_mapUpdate (U := tab) 3 kStr (fun _ _ => trivial) rfl rfl rfl rfl rfl rfl rfl rfl ?_
  rw [aset_ptrs]
  (refine go ?_)
  refine K_ent (Ent.addEmp _) ?_
  refine K_fallEnd hE Tryz.func147 rfl _ rfl rfl (Ent.fin [4, 0] 3 rfl rfl)
theorem Create1_any (b box : Nat) (l : List (ByteArray × Nat)) (k : ByteArray) :
    Ctr Tryz.prog 101 [.map (some b), ptr box] [mapR Value.string b (ptrs l), pts box (cl [.string k] 9)]
      (fun _ H => ∃ f, True ∧ H = [mapR Value.string b (ptrs (Ab.setN l k f)), fileG (f, .slice none 0 0, .slice none 0 0)]) := by
  refine Ctr.enter Tryz.func101 (by kernel_rfl) rfl Tryz.ntmps101 rfl rfl ?_
  intro G F R hE
  (refine go ?_)
  refine J_box rfl rfl (fun _ _ _ => trivial) ?_
  intro f
  (refine go ?_)
  refine J_mapUpdate (U := tab) (v := ptr f) 1 kStr (fun _ _ => trivial) rfl rfl rfl rfl rfl rfl rfl rfl ?_
  rw [aset_ptrs]
  (refine go ?_)
  refine K_fallEnd hE Tryz.func101 rfl _ rfl ⟨f, trivial, rfl⟩ (Ent.fin [1, 0] 1 rfl rfl)
end Go.Proofs.YtpecmnaikjbanaaGreatDoor

/- files, part e: Create, Remove, Rename. -/
set_option linter.unusedVariables false
set_option linter.unusedSimpArgs false
namespace Go.Proofs.YtpecmnaikjbanaaGreatDoor
open Go Go.SL
attribute [local irreducible] J K Ctr Ends pts slc mapR mapI sbRow stock arrS

theorem fresh (l : List Nat) : ∃ n, n ∉ l := by
  suffices h : ∃ n, ∀ x ∈ l, x < n from let ⟨n, hn⟩ := h; ⟨n, fun hx => Nat.lt_irrefl _ (hn n hx)⟩
  induction l with
  | nil => exact ⟨0, by simp⟩
  | cons a l ih =>
    obtain ⟨n, hn⟩ := ih
    exact ⟨max n (a + 1), fun x hx => by
      rcases List.mem_cons.1 hx with rfl | h
      · omega
      · have := hn x h; omega⟩
theorem file_fresh {G : Glob} {w : World} {H : List HP} {files : List (Nat × Value × Value)} {x : Nat × Value × Value} (hs : Sat G w (fileG x :: stock fileG files :: H)) : x.1 ∉ files.map (·.1) := by
  intro hx
  obtain ⟨y, hy, he⟩ := List.mem_map.1 hx
  obtain ⟨i, hi⟩ := List.getElem?_of_mem hy
  have h1 := hs.ent ((Ent.perm (List.Perm.swap _ _ _)).trans ((stock_out fileG hi _).trans (Ent.pick [2, 0] rfl)))
  unfold fileG at h1
  exact h1.ne he.symm
theorem meet_fs (A : Ab) (may : Bool) : (A.meet may).2.fs = A.fs ∧ (A.meet may).2.names = A.names ∧ (A.meet may).2.states = A.states ∧ (A.meet may).2.writes = A.writes ∧ (A.meet may).2.room = A.room := by
  unfold Ab.meet
  split
  · simp
  split
  · simp
  split
  · simp
  split
  · simp
  split <;> simp
theorem Rel.chg {D : Dk} {A : Ab} (h : Rel D A) {b' : Nat} {v : Value} {nm : List (ByteArray × Nat)} (hk : ∀ x ∈ nm, x.2 ∈ A.fs.map (·.1)) (hn : (nm.map (·.1)).Nodup) (hl : nm.length ≤ 200) :
    Rel { D with bm := b', maps := (b', ptrs nm) :: D.maps, sts := v, stb := D.stb ++ [b'] } (A.chg nm) where
  room := h.room
  off := h.off
  names := by simp [Ab.chg]
  states := All2.snoc (h.states.mono fun b es hb => List.mem_cons_of_mem _ hb) (by simp)
  fs := h.fs
  writes := h.writes
  plan := h.plan
  ids := h.ids
  known := by
    intro st hst
    simp only [Ab.chg, List.mem_cons, List.mem_append, List.not_mem_nil, or_false] at hst
    rcases hst with rfl | hst | rfl
    · exact hk
    · exact h.known _ (List.mem_cons_of_mem _ hst)
    · exact hk
  knownW := h.knownW
  nodup := by
    intro st hst
    simp only [Ab.chg, List.mem_cons, List.mem_append, List.not_mem_nil, or_false] at hst
    rcases hst with rfl | hst | rfl
    · exact hn
    · exact h.nodup _ (List.mem_cons_of_mem _ hst)
    · exact hn
  smallF := h.smallF
  smallW := h.smallW
  smallN := by
    intro st hst
    simp only [Ab.chg, List.mem_cons, List.mem_append, List.not_mem_nil, or_false] at hst
    rcases hst with rfl | hst | rfl
    · exact hl
    · exact h.smallN _ (List.mem_cons_of_mem _ hst)
    · exact hl
  smallR := h.smallR
  smallP := h.smallP
  full := by simp [Ab.chg]
theorem Rel.addFile {D : Dk} {A : Ab} (h : Rel D A) {f : Nat} (hf : f ∉ A.fs.map (·.1)) : Rel { D with files := (f, .slice none 0 0, .slice none 0 0) :: D.files } { A with fs := (f, [], []) :: A.fs } where
  room := h.room
  off := h.off
  names := h.names
  states := h.states
  fs := h.fs.cons ⟨rfl, BIn.nil _ _ _, BIn.nil _ _ _⟩
  writes := h.writes
  plan := h.plan
  ids := by simp only [List.map_cons, List.nodup_cons]; exact ⟨hf, h.ids⟩
  known := fun st hst x hx => List.mem_cons_of_mem _ (h.known st hst x hx)
  knownW := fun x hx => List.mem_cons_of_mem _ (h.knownW x hx)
  nodup := h.nodup
  smallF := fun x hx => by
    rcases List.mem_cons.1 hx with rfl | hx
    · simp
    · exact h.smallF x hx
  smallW := h.smallW
  smallN := h.smallN
  smallR := h.smallR
  smallP := h.smallP
  full := h.full
theorem All2.ids {q : Nat × Value × Value → Nat × List UInt8 × List UInt8 → Prop} {l : List (Nat × Value × Value)} {r : List (Nat × List UInt8 × List UInt8)} (h : All2 q l r) (hq : ∀ x y, q x y → x.1 = y.1) : l.map (·.1) = r.map (·.1) := by
  apply List.ext_getElem?
  intro i
  simp only [List.getElem?_map]
  cases hx : l[i]? with
  | none =>
    have : r[i]? = none := by rw [List.getElem?_eq_none_iff] at hx ⊢; rw [← h.1]; exact hx
    rw [this]; rfl
  | some x =>
    obtain ⟨y, hy, hxy⟩ := h.left hx
    rw [hy]
    simp [hq x y hxy]
theorem Rel.fids {D : Dk} {A : Ab} (h : Rel D A) : D.files.map (·.1) = A.fs.map (·.1) := All2.ids h.fs fun x y hxy => hxy.1
theorem setN_new {l : List (ByteArray × Nat)} {k : ByteArray} {f : Nat} (h : Ab.lookIn l k = none) : Ab.setN l k f = l ++ [(k, f)] := by simp [Ab.setN, h]

theorem Create_any (bd : Nat) (D : Dk) (A : Ab) (hR : Rel D A) (name : ByteArray) (hst : A.states.length ≤ 1000000000) :
    Ctr Tryz.prog 57 [ptr bd, .string name] [disk bd D]
      (fun v H => ∃ f D', f ∉ A.fs.map (·.1) ∧ Rel D' (A.create (isName name) name f).2 ∧ H = [disk bd D'] ∧ v = .int .i64 (A.create (isName name) name f).1) := by
  refine Ctr.enter Tryz.func57 (by kernel_rfl) rfl Tryz.ntmps57 rfl rfl ?_
  intro G F R hE
  (refine go ?_)
  refine J_box rfl rfl (fun _ _ _ => trivial) ?_
  intro box
  (refine go ?_)
  refine J_buildSlice1 (U := tab) rfl rfl rfl rfl rfl rfl rfl rfl rfl (fun _ _ _ => trivial) ?_
  intro b0
  (refine go ?_)
  refine J_call [0] rfl rfl rfl rfl (right_any _ _ [name] (Vw.pts rfl) (by simp)) rfl (fun _ _ _ _ _ => trivial) ?_
  rintro _ _ ⟨rfl, rfl⟩
  have e1 : [name].all isName = isName name := by simp
  rw [e1]
  (refine go ?_)
  refine J_call [2] rfl rfl rfl rfl (meet_any bd D A hR (isName name)) rfl (fun _ _ _ _ _ => trivial) ?_
  rintro _ _ ⟨D', hR', rfl, rfl⟩
  obtain ⟨f0, hf0⟩ := fresh (A.fs.map (·.1))
  have hmf := meet_fs A (isName name)
  (refine go ?_)
  refine K_condA rfl rfl ?_ ?_
  · intro h0
    have h0' : ¬ (A.meet (isName name)).1 = 0 := by have := of_decide_eq_true h0; omega
    have hf : A.create (isName name) name f0 = ((A.meet (isName name)).1, (A.meet (isName name)).2) := by simp [Ab.create, h0']
    (refine go ?_)
    refine K_return hE Tryz.func57 rfl _ rfl ⟨f0, D', hf0, by rw [hf]; exact hR', rfl, by rw [hf]; rfl⟩ (Ent.fin [0] 2 rfl rfl)
  · intro h0
    have h0' : (A.meet (isName name)).1 = 0 := by have := of_decide_eq_false h0; omega
    obtain ⟨room, bm, sts, wrs, pln, off, maps, arrs, files, stb, wl⟩ := D'
    have hst' : stb.length ≤ 1000000000 := by have := hR'.states.1; simp only at this; rw [this, hmf.2.2.1]; exact hst
    refine K_ent (disk_o _ _ _ _ _ _ _ _ _ _ _ _ _) ?_
    refine K_drawA (fun w => Sat G w ([pts bd (cl [.int .i64 room, .map (some bm), sts, wrs, pln, .bool off] 85), stock mapG maps, pts box (cl [.string name] 9)])) (.st 0 (.st 1 (.st 2 (.st 3 (.st 4 (.st 5 (.st 6 (.st 7 (.st 8 (.st 9 (.st 10 .nil))))))))))) rfl (by kernel_rfl) (by kernel_rfl) (by kernel_rfl) (fun w hw => hw.ent (Ent.pickOnly ([0, 1, 7]) rfl)) ?_
    (refine go ?_)
    refine J_lookupOkS (U := tab) rfl kStr rfl rfl rfl rfl rfl rfl rfl (fun w hw => map_of_stock (i := 1) hw rfl hR'.names) ?_
    rw [alook_ptrs]
    cases hl : Ab.lookIn (A.meet (isName name)).2.names name with
    | some fl =>
      have hf : A.create (isName name) name f0 = (5, (A.meet (isName name)).2) := by simp [Ab.create, h0', Ab.look, hl]
      (refine go ?_)
      refine K_ent ((Ent.pick [0, 1, 2, 3, 4, 5] rfl).trans (disk_c _ _ _ _ _ _ _ _ _ _ _ _ _)) ?_
      refine K_return hE Tryz.func57 rfl _ rfl ⟨f0, _, hf0, by rw [hf]; exact hR', rfl, by rw [hf]; rfl⟩ (Ent.fin [0] 2 rfl rfl)
    | none =>
      (refine go ?_)
      refine J_lenMapC (kv := Value.string) (U := tab) rfl rfl rfl rfl (fun w hw => map_of_stock (i := 1) hw rfl hR'.names) ?_
      have hpl : (ptrs (A.meet (isName name)).2.names).length = (A.meet (isName name)).2.names.length := by simp [ptrs]
      rw [hpl]
      (refine go ?_)
      refine K_condP rfl rfl ?_ ?_
      · intro hfull
        have hf : A.create (isName name) name f0 = (3, (A.meet (isName name)).2) := by simp [Ab.create, h0', Ab.look, hl]; omega
        (refine go ?_)
        refine K_ent ((Ent.pick [0, 1, 2, 3, 4, 5] rfl).trans (disk_c _ _ _ _ _ _ _ _ _ _ _ _ _)) ?_
        refine K_return hE Tryz.func57 rfl _ rfl ⟨f0, _, hf0, by rw [hf]; exact hR', rfl, by rw [hf]; rfl⟩ (Ent.fin [0] 2 rfl rfl)
      · intro hfull
        (refine go ?_)
        refine J_ent ((Ent.pick [0, 1, 2, 3, 4, 5] rfl).trans (disk_c _ _ _ _ _ _ _ _ _ _ _ _ _)) ?_
        refine J_call [0, 2] rfl rfl rfl rfl (change_any (α := Nat) bd _ _ hR'.names 101 #[ptr box] (pts box (cl [.string name] 9)) (fun f => Ab.setN (A.meet (isName name)).2.names name f) (fun f => fileG (f, .slice none 0 0, .slice none 0 0)) (fun _ => True) (fun b' => Create1_any b' box _ name) hst') rfl (fun _ _ _ _ _ => trivial) ?_
        rintro _ _ ⟨f, b', v, _, rfl⟩
        (refine go ?_)
        refine K_ent (disk_o _ _ _ _ _ _ _ _ _ _ _ _ _) ?_
        refine K_ent (Ent.pick [6, 3] rfl) ?_
        refine K_sat fun ⟨w, hw⟩ => ?_
        have hff : f ∉ A.fs.map (·.1) := by have := file_fresh hw; have h2 := hR'.fids; simp only at h2; rw [h2, hmf.1] at this; exact this
        clear hw
        refine K_ent (stock_add fileG (f, .slice none 0 0, .slice none 0 0) files _) ?_
        have hlk : (A.meet (isName name)).2.look name = none := hl
        have hf : A.create (isName name) name f = (0, { (A.meet (isName name)).2.chg ((A.meet (isName name)).2.names ++ [(name, f)]) with fs := (f, [], []) :: (A.meet (isName name)).2.fs }) := by
          simp only [Ab.create, h0', if_true, hlk, Option.isSome_none, Bool.false_eq_true, if_false]
          rw [if_neg (by omega)]
        have hset : Ab.setN (A.meet (isName name)).2.names name f = (A.meet (isName name)).2.names ++ [(name, f)] := setN_new hl
        have hnin : name ∉ (A.meet (isName name)).2.names.map (·.1) := fun h => by have := lookIn_key.2 h; rw [hl] at this; cases this
        have hR2 := (hR'.addFile (f := f) (by rw [hmf.1]; exact hff)).chg (b' := b') (v := v) (nm := (A.meet (isName name)).2.names ++ [(name, f)])
          (fun x hx => by
            rcases List.mem_append.1 hx with hx | hx
            · exact List.mem_cons_of_mem _ (hR'.known _ (List.mem_cons_self ..) x hx)
            · simp only [List.mem_singleton] at hx; subst hx; exact List.mem_cons_self ..)
          (by
            rw [List.map_append, List.nodup_append]
            exact ⟨hR'.nodup _ (List.mem_cons_self ..), by simp, fun a ha b hb => by simp at hb; subst hb; rintro rfl; exact hnin ha⟩)
          (by rw [List.length_append]; simp only [List.length_singleton]; omega)
        rw [hset]
        refine K_ent (Ent.pick [1, 2, 3, 0, 4, 5] rfl) ?_
        refine K_ent (disk_c bd room b' _ wrs pln off _ arrs _ (stb ++ [b']) wl _) ?_
        refine K_return hE Tryz.func57 rfl _ rfl ⟨f, _, hff, by rw [hf]; exact hR2, rfl, by rw [hf]; rfl⟩ (Ent.fin [0] 1 rfl rfl)
end Go.Proofs.YtpecmnaikjbanaaGreatDoor

/- files, part f: Size, Read. -/
set_option linter.unusedVariables false
set_option linter.unusedSimpArgs false
namespace Go.Proofs.YtpecmnaikjbanaaGreatDoor
open Go Go.SL
attribute [local irreducible] J K Ctr Ends pts slc mapR mapI sbRow stock arrS

theorem Size_any (bd : Nat) (D : Dk) (A : Ab) (hR : Rel D A) (name : ByteArray) :
    Ctr Tryz.prog 67 [ptr bd, .string name] [disk bd D] (fun v H => H = [disk bd D] ∧ v = .tuple #[.int .i64 (A.size name).1, .int .i64 (A.size name).2]) := by
  obtain ⟨room, bm, sts, wrs, pln, off, maps, arrs, files, stb, wl⟩ := D
  refine Ctr.enter Tryz.func67 (by kernel_rfl) rfl Tryz.ntmps67 rfl rfl ?_
  intro G F R hE
  refine K_ent (disk_o _ _ _ _ _ _ _ _ _ _ _ _ _) ?_
  (refine go ?_)
  refine J_lookupOkC (U := tab) rfl kStr rfl rfl rfl rfl rfl rfl rfl (fun w hw => map_of_stock (i := 1) hw rfl hR.names) ?_
  rw [alook_ptrs]
  cases hl : Ab.lookIn A.names name with
  | none =>
    have hs : A.size name = (0, 4) := by simp [Ab.size, Ab.look, hl]
    rw [hs] at hE
    (refine go ?_)
    refine K_ent ((Ent.pick [0, 1, 2, 3, 4, 5] rfl).trans (disk_c _ _ _ _ _ _ _ _ _ _ _ _ _)) ?_
    refine K_return hE Tryz.func67 rfl _ rfl ⟨rfl, rfl⟩ (Ent.fin [0] 0 rfl rfl)
  | some fl =>
    have hs : A.size name = ((A.now fl).length, 0) := by simp [Ab.size, Ab.look, hl]
    rw [hs] at hE
    obtain ⟨i, v1, v2, hi, hfs, hv1, hv2⟩ := hR.file (f := fl) (hR.known _ (List.mem_cons_self ..) _ (lookIn_some hl))
    obtain ⟨a, cap, rfl, hcap⟩ := hv1.shape
    (refine go ?_)
    refine J_loadC (U := tab) rfl rfl (fun w hw => file_now (i := 3) hw rfl hi) rfl rfl ?_
    (refine go ?_)
    refine K_ent ((Ent.pick [0, 1, 2, 3, 4, 5] rfl).trans (disk_c _ _ _ _ _ _ _ _ _ _ _ _ _)) ?_
    refine K_return hE Tryz.func67 rfl _ rfl ⟨rfl, rfl⟩ (Ent.fin [0] 0 rfl rfl)

theorem Read_any (bd : Nat) (D : Dk) (A : Ab) (hR : Rel D A) (name : ByteArray) (at_ n : Int) :
    Ctr Tryz.prog 78 [ptr bd, .string name, .int .i64 at_, .int .i64 n] [disk bd D]
      (fun v H => ∃ r, H = [slc 5 1 r (A.read name at_ n).1.length (bV (A.read name at_ n).1), disk bd D] ∧ v = .tuple #[r, .int .i64 (A.read name at_ n).2]) := by
  obtain ⟨room, bm, sts, wrs, pln, off, maps, arrs, files, stb, wl⟩ := D
  have hoff := hR.off
  simp only at hoff
  refine Ctr.enter Tryz.func78 (by kernel_rfl) rfl Tryz.ntmps78 rfl rfl ?_
  intro G F R hE
  refine K_ent (disk_o _ _ _ _ _ _ _ _ _ _ _ _ _) ?_
  cases off with
  | true =>
    have hs : A.read name at_ n = ([], 7) := by simp [Ab.read, ← hoff]
    rw [hs] at hE
    (refine go ?_)
    refine K_ent ((Ent.pick [0, 1, 2, 3, 4, 5] rfl).trans (disk_c _ _ _ _ _ _ _ _ _ _ _ _ _)) ?_
    refine K_ent (slc_lift 5 1 none _) ?_
    refine K_return hE Tryz.func78 rfl _ rfl ⟨_, rfl, rfl⟩ (Ent.fin [0, 1] 0 rfl rfl)
  | false =>
    (refine go ?_)
    refine J_lookupOkC (U := tab) rfl kStr rfl rfl rfl rfl rfl rfl rfl (fun w hw => map_of_stock (i := 1) hw rfl hR.names) ?_
    rw [alook_ptrs]
    cases hl : Ab.lookIn A.names name with
    | none =>
      have hs : A.read name at_ n = ([], 4) := by simp [Ab.read, Ab.look, hl, ← hoff]
      rw [hs] at hE
      (refine go ?_)
      refine K_ent ((Ent.pick [0, 1, 2, 3, 4, 5] rfl).trans (disk_c _ _ _ _ _ _ _ _ _ _ _ _ _)) ?_
      refine K_ent (slc_lift 5 1 none _) ?_
      refine K_return hE Tryz.func78 rfl _ rfl ⟨_, rfl, rfl⟩ (Ent.fin [0, 1] 0 rfl rfl)
    | some fl =>
      have hs : A.read name at_ n = if at_ < 0 ∨ n < 0 ∨ ((A.now fl).length : Int) < at_ ∨ ((A.now fl).length : Int) - at_ < n then ([], 1) else (((A.now fl).drop at_.toNat).take n.toNat, 0) := by simp [Ab.read, Ab.look, hl, ← hoff]
      obtain ⟨i, v1, v2, hi, hfs, hv1, hv2⟩ := hR.file (f := fl) (hR.known _ (List.mem_cons_self ..) _ (lookIn_some hl))
      obtain ⟨a, cap, rfl, hcap⟩ := hv1.shape
      have hsm := (hR.small fl).1
      have hbad : ∀ (h : at_ < 0 ∨ n < 0 ∨ ((A.now fl).length : Int) < at_ ∨ ((A.now fl).length : Int) - at_ < n), A.read name at_ n = ([], 1) := fun h => by rw [hs, if_pos h]
      repeat' (first | (with_reducible intro _hh) | refine go1 ?_ | refine J_fork ?_ ?_ | refine J_gsP rfl rfl rfl rfl ?_ ?_ | refine K_condP rfl rfl ?_ ?_ | refine J_loadC (U := tab) rfl rfl (fun w hw => file_now (i := 3) hw rfl hi) rfl rfl ?_)
      any_goals (
        have hs2 := hbad (by omega)
        rw [hs2] at hE
        refine K_ent ((Ent.pick [0, 1, 2, 3, 4, 5] rfl).trans (disk_c _ _ _ _ _ _ _ _ _ _ _ _ _)) ?_
        refine K_ent (slc_lift 5 1 none _) ?_
        refine K_return hE Tryz.func78 rfl _ rfl ⟨_, rfl, rfl⟩ (Ent.fin [0, 1] 0 rfl rfl))
      refine J_sliceAny (U := tab) rfl rfl rfl rfl rfl rfl rfl (by omega) (by omega) (.inr (by omega)) ?_
      have hr : A.read name at_ n = (((A.now fl).drop at_.toNat).take n.toNat, 0) := by rw [hs, if_neg (by omega)]
      have hcut := hv1.cut at_.toNat n.toNat (by omega)
      have hlen : (((A.now fl).drop at_.toNat).take n.toNat).length = n.toNat := by rw [List.length_take, List.length_drop]; omega
      refine J_slot 61 (.slice (sliceAt a cap at_.toNat 1) (((A.now fl).drop at_.toNat).take n.toNat).length (cap - at_.toNat)) rfl (by rw [hlen]; congr 1; omega) ?_
      have hcut2 : BIn arrs (.slice (sliceAt a cap at_.toNat 1) (((A.now fl).drop at_.toNat).take n.toNat).length (cap - at_.toNat)) (((A.now fl).drop at_.toNat).take n.toNat) := by rw [hlen]; exact hcut
      rw [hr] at hE
      clear hcut hr hs hbad
      generalize hbs : ((A.now fl).drop at_.toNat).take n.toNat = bs at hE hcut2 hlen ⊢
      (refine go ?_)
      refine J_call [2] rfl rfl rfl rfl (Clone_bytes _ _ bs (hcut2.view _) (by omega)) rfl (fun _ _ _ _ _ => trivial) ?_
      rintro r _ rfl
      (refine go ?_)
      refine K_ent (Ent.pick [2, 3, 1, 4, 5, 6] rfl) ?_
      refine K_ent (disk_c bd room bm sts wrs pln false maps arrs files stb wl _) ?_
      refine K_return hE Tryz.func78 rfl _ rfl ⟨r, rfl, rfl⟩ (Ent.fin [1, 0] 0 rfl rfl)
end Go.Proofs.YtpecmnaikjbanaaGreatDoor

/- files, part g: Write. -/
set_option linter.unusedVariables false
set_option linter.unusedSimpArgs false
namespace Go.Proofs.YtpecmnaikjbanaaGreatDoor
open Go Go.SL
attribute [local irreducible] J K Ctr Ends pts slc mapR mapI sbRow stock arrS

def mayW (name : ByteArray) (at_ : Int) (b : List UInt8) : Bool := isName name && decide (0 ≤ at_) && decide (at_ ≤ 1048576) && decide ((b.length : Int) ≤ 1048576 - at_)
theorem find_bad (A : Ab) (name : ByteArray) : A.find name false = (1, none, A) := by simp [Ab.find, Ab.meet]
theorem write_bad (A : Ab) (name : ByteArray) (at_ : Nat) (b : List UInt8) : A.write false name at_ b = (1, A) := by simp [Ab.write, find_bad]

theorem upd_set {fs : List (Nat × List UInt8 × List UInt8)} (hn : (fs.map (·.1)).Nodup) {i f : Nat} {x : List UInt8 × List UInt8} (hi : fs[i]? = some (f, x)) (n : List UInt8) : Ab.upd fs f n = fs.set i (f, n, x.2) := by
  induction fs generalizing i with
  | nil => simp at hi
  | cons y l ih =>
    simp only [List.map_cons, List.nodup_cons] at hn
    cases i with
    | zero =>
      simp at hi
      subst hi
      simp only [Ab.upd, List.map_cons, if_true, List.set_cons_zero, List.cons.injEq, true_and]
      rw [List.map_congr_left (g := id) (fun z hz => ?_), List.map_id]
      have : z.1 ≠ f := fun e => hn.1 (List.mem_map.2 ⟨z, hz, e⟩)
      simp [this]
    | succ i =>
      simp at hi
      have hne : y.1 ≠ f := fun e => hn.1 (List.mem_map.2 ⟨_, List.mem_of_getElem? hi, e.symm⟩)
      have := ih hn.2 hi
      simp only [Ab.upd] at this
      simp only [Ab.upd, List.map_cons, hne, if_false, List.set_cons_succ, this]
theorem upd_ids (fs : List (Nat × List UInt8 × List UInt8)) (f : Nat) (n : List UInt8) : (Ab.upd fs f n).map (·.1) = fs.map (·.1) := by
  simp only [Ab.upd, List.map_map]
  apply List.map_congr_left
  intro x _
  simp only [Function.comp]
  split <;> rfl
theorem Rel.wrote {D : Dk} {A : Ab} (h : Rel D A) {i f at_ : Nat} {v1 v2 v3 v4 : Value} {n b : List UInt8} {arrs' : Arrs} {w : Value} (hi : D.files[i]? = some (f, v1, v2)) (ha : A.fs[i]? = some (f, A.now f, A.sure f))
    (hsub : ∀ x ∈ D.arrs, x ∈ arrs') (hn : BIn arrs' v3 n) (hb : BIn arrs' v4 b) (hnl : n.length ≤ 1048576) (hbl : at_ + b.length ≤ 1048576) :
    Rel { D with files := D.files.set i (f, v3, v2), arrs := arrs', wrs := w, wl := D.wl ++ [(f, at_, v4)] } { A with fs := Ab.upd A.fs f n, writes := A.writes ++ [(f, at_, b)] } where
  room := h.room
  off := h.off
  names := h.names
  states := h.states
  fs := by
    rw [upd_set h.ids ha]
    have h2 := h.fs.2 i _ _ hi ha
    exact All2.set (h.fs.mono fun x y hxy => ⟨hxy.1, hxy.2.1.mono hsub, hxy.2.2.mono hsub⟩) i ⟨rfl, hn, h2.2.2.mono hsub⟩
  writes := All2.snoc (h.writes.mono fun x y hxy => ⟨hxy.1, hxy.2.1, hxy.2.2.mono hsub⟩) ⟨rfl, rfl, hb⟩
  plan := h.plan.mono hsub
  ids := by simp only [upd_ids]; exact h.ids
  known := by simp only [upd_ids]; exact h.known
  knownW := by
    simp only [upd_ids]
    intro x hx
    rcases List.mem_append.1 hx with hx | hx
    · exact h.knownW x hx
    · simp only [List.mem_singleton] at hx; subst hx; exact List.mem_map.2 ⟨_, List.mem_of_getElem? ha, rfl⟩
  nodup := h.nodup
  smallF := by
    intro x hx
    simp only [Ab.upd, List.mem_map] at hx
    obtain ⟨y, hy, rfl⟩ := hx
    have := h.smallF y hy
    split
    · exact ⟨hnl, this.2⟩
    · exact this
  smallW := by
    intro x hx
    rcases List.mem_append.1 hx with hx | hx
    · exact h.smallW x hx
    · simp only [List.mem_singleton] at hx; subst hx; exact hbl
  smallN := h.smallN
  smallR := h.smallR
  smallP := h.smallP
  full := h.full
theorem wroteL_len (old : List UInt8) (at_ : Nat) (b : List UInt8) : (wroteL old at_ b).length = max old.length (at_ + b.length) := by
  unfold wroteL; simp; omega
theorem find_same (A : Ab) (name : ByteArray) (ok : Bool) : (A.find name ok).2.2.fs = A.fs ∧ (A.find name ok).2.2.names = A.names ∧ (A.find name ok).2.2.states = A.states ∧ (A.find name ok).2.2.writes = A.writes ∧ (A.find name ok).2.2.room = A.room := by
  have := meet_fs A ok
  unfold Ab.find
  split
  · cases (A.meet ok).2.look name <;> exact this
  · exact this
theorem Rel.used_le {D : Dk} {A : Ab} (h : Rel D A) : A.used ≤ 209715200 := by
  rw [← sumOf_used (h.nodup _ (List.mem_cons_self ..))]
  have := sumOf_le (fun f => (h.small f).1) (A.names.map (·.1))
  have h2 := h.smallN _ (List.mem_cons_self ..)
  rw [List.length_map] at this
  omega
theorem arrS_slcO (e : TypeId) (v : Value) (bs : List UInt8) (M : Arrs) : ∀ h, star (slc e 1 v bs.length (bV bs)) (arrS e M) h → ∃ M', (BIn M' v bs ∧ ∀ x ∈ M, x ∈ M') ∧ Sep [arrS e M'] h := fun h hs => by
  obtain ⟨M', h1, h2, h3⟩ := arrS_slc e v bs M h hs
  exact ⟨M', ⟨h1, h2⟩, Sep_one' h3⟩
theorem find_parts {A : Ab} {name : ByteArray} {ok : Bool} (h : (A.find name ok).1 = 0) : ok = true ∧ ∃ fl, (A.find name ok).2.1 = some fl ∧ (name, fl) ∈ (A.find name ok).2.2.names := by
  unfold Ab.find at h ⊢
  split
  · rename_i h0
    rw [if_pos h0] at h
    cases hl : (A.meet ok).2.look name with
    | none => rw [hl] at h; cases h
    | some f =>
      refine ⟨?_, f, rfl, lookIn_some hl⟩
      cases ok with
      | true => rfl
      | false => simp [Ab.meet] at h0
  · rename_i h0
    rw [if_neg h0] at h
    exact absurd h h0

theorem Write_any (bd : Nat) (D : Dk) (A : Ab) (hR : Rel D A) (name : ByteArray) (at_ : Int) (X : HP) (bv : Value) (b : List UInt8) (hv : Vw X bv b.length (bV b)) (hwl : A.writes.length ≤ 1000000000) (hbl : b.length ≤ 1000000000) (hat : -9223372036854775808 ≤ at_ ∧ at_ ≤ 9223372036854775807) :
    Ctr Tryz.prog 62 [ptr bd, .string name, .int .i64 at_, bv] [disk bd D, X]
      (fun v H => ∃ D', Rel D' (A.write (mayW name at_ b) name at_.toNat b).2 ∧ H = [disk bd D', X] ∧ v = .int .i64 (A.write (mayW name at_ b) name at_.toNat b).1) := by
  obtain ⟨a0, c0, rfl⟩ := hv.shape
  refine Ctr.enter Tryz.func62 (by kernel_rfl) rfl Tryz.ntmps62 rfl rfl ?_
  intro G F R hE
  (refine go ?_)
  refine J_buildSlice1 (U := tab) rfl rfl rfl rfl rfl rfl rfl rfl rfl (fun _ _ _ => trivial) ?_
  intro b0
  (refine go ?_)
  refine J_call [0] rfl rfl rfl rfl (right_any _ _ [name] (Vw.pts rfl) (by simp)) rfl (fun _ _ _ _ _ => trivial) ?_
  rintro _ _ ⟨rfl, rfl⟩
  have e1 : [name].all isName = isName name := by simp
  rw [e1]
  cases hnm : isName name with
  | false =>
    have hm : mayW name at_ b = false := by simp [mayW, hnm]
    rw [hm, write_bad] at hE
    (refine go ?_)
    refine J_call [1] rfl rfl rfl rfl (find_any bd D A hR name false) rfl (fun _ _ _ _ _ => trivial) ?_
    rw [find_bad]
    rintro _ _ ⟨D', hR', rfl, rfl⟩
    (refine go ?_)
    refine K_return hE Tryz.func62 rfl _ rfl ⟨D', hR', rfl, rfl⟩ (Ent.fin [0, 2] 1 rfl rfl)
  | true =>
    repeat' (first | (with_reducible intro _hh) | refine go1 ?_ | refine J_fork ?_ ?_ | refine J_gsP rfl rfl rfl rfl ?_ ?_ | refine K_condP rfl rfl ?_ ?_)
    any_goals (
      have hm : mayW name at_ b = false := by simp [mayW, hnm, *]
      rw [hm, write_bad] at hE
      refine J_call [1] rfl rfl rfl rfl (find_any bd D A hR name false) rfl (fun _ _ _ _ _ => trivial) ?_
      rw [find_bad]
      rintro _ _ ⟨D', hR', rfl, rfl⟩
      (refine go ?_)
      refine K_return hE Tryz.func62 rfl _ rfl ⟨D', hR', rfl, rfl⟩ (Ent.fin [0, 2] 1 rfl rfl))
    rename_i h2
    obtain ⟨at_, rfl⟩ := Int.eq_ofNat_of_zero_le h2
    simp only [Int.toNat_natCast] at hE
    have hm : mayW name at_ b = decide ((b.length : Int) ≤ 1048576 - at_) := by simp [mayW, hnm, *]
    refine J_slot 31 (.bool (mayW name at_ b)) rfl (congrArg Value.bool hm.symm) ?_
    refine J_call [1] rfl rfl rfl rfl (find_any bd D A hR name (mayW name at_ b)) rfl (fun _ _ _ _ _ => trivial) ?_
    generalize hok : mayW name at_ b = ok at hE hm ⊢
    rintro _ _ ⟨D', hR', rfl, rfl⟩
    (refine go ?_)
    refine K_condA rfl rfl ?_ ?_
    · intro h0
      have h0' : ¬ (A.find name ok).1 = 0 := by have := of_decide_eq_true h0; omega
      have hw : A.write ok name at_ b = ((A.find name ok).1, (A.find name ok).2.2) := by simp [Ab.write, h0']
      rw [hw] at hE
      (refine go ?_)
      refine K_return hE Tryz.func62 rfl _ rfl ⟨D', hR', rfl, rfl⟩ (Ent.fin [0, 2] 1 rfl rfl)
    · intro h0
      have h0' : (A.find name ok).1 = 0 := by have := of_decide_eq_false h0; omega
      obtain ⟨hokt, fl, hfl, hmem⟩ := find_parts h0'
      rw [hokt] at hm
      have hlen := of_decide_eq_true hm.symm
      have hw : A.write ok name at_ b = if (A.find name ok).2.2.room < (A.find name ok).2.2.used + (at_ + b.length - ((A.find name ok).2.2.now fl).length) then (3, (A.find name ok).2.2)
        else (0, { (A.find name ok).2.2 with fs := Ab.upd (A.find name ok).2.2.fs fl (wroteL ((A.find name ok).2.2.now fl) at_ b), writes := (A.find name ok).2.2.writes ++ [(fl, at_, b)] }) := by simp [Ab.write, h0', hfl]
      rw [hfl]
      have hwl' : (A.find name ok).2.2.writes.length ≤ 1000000000 := by rw [(find_same A name ok).2.2.2.1]; exact hwl
      generalize (A.find name ok).2.2 = A1 at *
      obtain ⟨room, bm, sts, wrs, pln, off, maps, arrs, files, stb, wl⟩ := D'
      obtain ⟨i, v1, v2, hi, hfs, hv1, hv2⟩ := hR'.file (f := fl) (hR'.known _ (List.mem_cons_self ..) _ hmem)
      obtain ⟨a, cap, rfl, hcap⟩ := hv1.shape
      have hsm := (hR'.small fl).1
      have hroom := hR'.room
      have hrs := hR'.smallR
      simp only at hroom
      refine K_ent (disk_o _ _ _ _ _ _ _ _ _ _ _ _ _) ?_
      refine K_drawA (fun w => Sat G w ([pts bd (cl [.int .i64 room, .map (some bm), sts, wrs, pln, .bool off] 85), stock fileG files])) (.st 0 (.st 2 (.st 3 (.st 4 (.st 5 (.st 6 (.st 7 (.st 8 (.st 9 (.st 10 (.st 11 (.st 12 (.st 14 (.st 15 (.st 16 (.st 17 (.act 1 (.st 13 (.st 18 .nil))))))))))))))))))) rfl (by kernel_rfl) (by kernel_rfl) (by kernel_rfl) (fun w hw => hw.ent (Ent.pickOnly ([0, 3]) rfl)) ?_
      (refine go ?_)
      refine J_loadS (U := tab) rfl rfl (fun w hw => file_now (i := 1) hw rfl hi) rfl rfl ?_
      (refine go ?_)
      refine J_ent ((Ent.pick [0, 1, 2, 3, 4, 5] rfl).trans (disk_c _ _ _ _ _ _ _ _ _ _ _ _ _)) ?_
      have hul := hR'.used_le
      refine J_call [0] rfl rfl rfl rfl (Used_any bd _ A1 hR') rfl (fun _ _ w hp hw => by obtain ⟨rfl, _⟩ := hp; exact hw.ent ((disk_o _ _ _ _ _ _ _ _ _ _ _ _ _).trans (Ent.pickOnly [0, 3] rfl))) ?_
      rintro _ _ ⟨rfl, rfl⟩
      (refine go ?_)
      refine K_condP rfl rfl ?_ ?_
      · intro hfull
        rw [if_pos (by omega)] at hw
        rw [hw] at hE
        (refine go ?_)
        refine K_return hE Tryz.func62 rfl _ rfl ⟨_, hR', rfl, rfl⟩ (Ent.fin [0, 2] 1 rfl rfl)
      · intro hfull
        rw [if_neg (by omega)] at hw
        rw [hw] at hE
        (refine go ?_)
        refine J_ent (disk_o _ _ _ _ _ _ _ _ _ _ _ _ _) ?_
        (refine go ?_)
        refine J_ent (Ent.pick [3] rfl) ?_
        refine J_ent (stock_out fileG hi _) ?_
        (refine go ?_)
        refine J_ent (Ent.pick [4, 8] rfl) ?_
        refine J_ent (Ent.join _ _ _) ?_
        refine J_call [0] rfl rfl rfl rfl (wrote_any (star (arrS 5 arrs) X) _ _ (A1.now fl) b at_ (hv1.view _).left hv.right (by omega)) rfl (fun _ _ _ _ _ => trivial) ?_
        rintro _ _ ⟨bl, cap2, rfl, hcap2, rfl⟩
        refine J_ent (Ent.pick [1] rfl) ?_
        refine J_ent (Ent.part _ _ _) ?_
        refine J_ent (Ent.pick [2, 0] rfl) ?_
        refine J_ent (arrS_add 5 bl _ arrs _) ?_
        (refine go ?_)
        refine K_ent (Ent.pick [2, 3] rfl) ?_
        refine K_ent (stock_set fileG (y := (fl, .slice (some ⟨bl, 0, none⟩) (wroteL (A1.now fl) at_ b).length cap2, v2)) hi _) ?_
        refine K_drawA (fun w => Sat G w ([pts bd (cl [.int .i64 room, .map (some bm), sts, wrs, pln, .bool off] 85)])) (.st 0 (.st 1 (.st 2 (.st 3 (.st 4 (.st 5 (.st 6 (.st 7 (.act 8 (.st 9 (.act 10 (.act 11 (.st 12 (.st 13 (.act 14 .nil))))))))))))))) rfl (by kernel_rfl) (by kernel_rfl) (by kernel_rfl) (fun w hw => hw.ent (Ent.pickOnly ([3]) rfl)) ?_
        (refine go ?_)
        refine J_call [2] rfl rfl rfl rfl (Clone_bytes X _ b hv hbl) rfl (fun _ _ w hp hw => by subst hp; exact hw.ent (Ent.pickOnly [4] rfl)) ?_
        rintro r _ rfl
        refine J_shape 0 rfl ?_
        rintro ar cr rfl
        (refine go ?_)
        refine J_buildSlice1 (U := tab) rfl rfl rfl rfl rfl rfl rfl rfl rfl (fun _ w hw => hw.ent (Ent.pickOnly ([5]) rfl)) ?_
        intro b1
        refine J_append (U := tab) (mm := 1) (news := [ptr fl, .int .i64 at_, .slice ar b.length cr]) 8 0 rfl rfl rfl rfl rfl rfl rfl rfl rfl rfl rfl rfl (Vw.pts rfl) rfl (by simp [Value.oneCell', ptr]) (by have := hR'.writes.1; simp only at this; omega) (by have := hR'.writes.1; simp only at this; show _ * 40 ≤ _; omega) (fun _ => rfl) (fun _ w hw => hw.ent (Ent.pickOnly ([5]) rfl)) ?_
        intro v'
        have e2 : wcells wl ++ [ptr fl, .int .i64 at_, .slice ar b.length cr] = wcells (wl ++ [(fl, at_, .slice ar b.length cr)]) := by simp [wcells]
        have e3 : wl.length + 1 = (wl ++ [(fl, at_, Value.slice ar b.length cr)]).length := by simp
        rw [e2, e3]
        refine J_shape 8 rfl ?_
        rintro av cv rfl
        (refine go ?_)
        refine J_isStore ?_; refine J_store (U := tab) 5 (fun _ _ => trivial) rfl rfl rfl rfl rfl rfl rfl rfl rfl ?_
        (refine go ?_)
        refine K_ent (Ent.pick [1, 4] rfl) ?_
        refine K_ent (Ent.join _ _ _) ?_
        refine K_open (arrS_slcO 5 _ b _) ?_
        rintro arrs' ⟨hb', hsub⟩
        have hR2 := hR'.wrote (w := .slice av (wl ++ [(fl, at_, Value.slice ar b.length cr)]).length cv) hi hfs (fun x hx => hsub x (List.mem_cons_of_mem _ hx)) ((BIn.row (cap := cap2) hcap2).mono hsub) hb' (by rw [wroteL_len]; omega) (by omega : at_ + b.length ≤ 1048576)
        refine K_ent (Ent.pick [4, 5, 0, 3, 6, 7] rfl) ?_
        refine K_ent (disk_c bd room bm sts _ pln off maps arrs' _ stb _ _) ?_
        refine K_return hE Tryz.func62 rfl _ rfl ⟨_, hR2, rfl, rfl⟩ (Ent.fin [0, 2] 2 rfl rfl)
end Go.Proofs.YtpecmnaikjbanaaGreatDoor

/- files, part j: Remove, Rename, SyncNames. -/
set_option linter.unusedVariables false
set_option linter.unusedSimpArgs false
namespace Go.Proofs.YtpecmnaikjbanaaGreatDoor
open Go Go.SL
attribute [local irreducible] J K Ctr Ends pts slc mapR mapI sbRow stock arrS

theorem delN_sub {l : List (ByteArray × Nat)} {k : ByteArray} {x : ByteArray × Nat} (h : x ∈ Ab.delN l k) : x ∈ l ∧ x.1 ≠ k := by
  simpa [Ab.delN] using h
theorem delN_len (l : List (ByteArray × Nat)) (k : ByteArray) : (Ab.delN l k).length ≤ l.length := List.length_filter_le _ _
theorem delN_nodup {l : List (ByteArray × Nat)} (h : (l.map (·.1)).Nodup) (k : ByteArray) : ((Ab.delN l k).map (·.1)).Nodup := (List.filter_sublist.map _).nodup h
theorem delN_lt {l : List (ByteArray × Nat)} {k : ByteArray} {f : Nat} (h : (k, f) ∈ l) : (Ab.delN l k).length + 1 ≤ l.length := by
  have : (Ab.delN l k).length < l.length := by
    unfold Ab.delN
    rw [List.length_filter_lt_length_iff_exists]
    exact ⟨_, h, by simp⟩
  omega
theorem setN_len (l : List (ByteArray × Nat)) (k : ByteArray) (f : Nat) : (Ab.setN l k f).length ≤ l.length + 1 := by
  unfold Ab.setN
  split <;> simp
theorem setN_mem {l : List (ByteArray × Nat)} {k : ByteArray} {f : Nat} {x : ByteArray × Nat} (h : x ∈ Ab.setN l k f) : x = (k, f) ∨ x ∈ l := by
  unfold Ab.setN at h
  split at h
  · obtain ⟨y, hy, rfl⟩ := List.mem_map.1 h
    split
    · exact .inl rfl
    · exact .inr hy
  · rcases List.mem_append.1 h with h | h
    · exact .inr h
    · exact .inl (by simpa using h)
theorem setN_nodup {l : List (ByteArray × Nat)} (h : (l.map (·.1)).Nodup) (k : ByteArray) (f : Nat) : ((Ab.setN l k f).map (·.1)).Nodup := by
  unfold Ab.setN
  split
  · have : (l.map fun x => if x.1 = k then (k, f) else x).map (·.1) = l.map (·.1) := by
      rw [List.map_map]
      apply List.map_congr_left
      intro x _
      simp only [Function.comp]
      split
      · rename_i e; exact e.symm
      · rfl
    rw [this]; exact h
  · rename_i hk
    rw [List.map_append, List.nodup_append]
    exact ⟨h, by simp, fun a ha b hb => by simp at hb; subst hb; rintro rfl; exact hk (lookIn_key.2 ha)⟩

theorem Remove_any (bd : Nat) (D : Dk) (A : Ab) (hR : Rel D A) (name : ByteArray) (hst : A.states.length ≤ 1000000000) :
    Ctr Tryz.prog 69 [ptr bd, .string name] [disk bd D]
      (fun v H => ∃ D', Rel D' (A.remove (isName name) name).2 ∧ H = [disk bd D'] ∧ v = .int .i64 (A.remove (isName name) name).1) := by
  refine Ctr.enter Tryz.func69 (by kernel_rfl) rfl Tryz.ntmps69 rfl rfl ?_
  intro G F R hE
  (refine go ?_)
  refine J_box rfl rfl (fun _ _ _ => trivial) ?_
  intro box
  (refine go ?_)
  refine K_drawA (fun w => Sat G w ([pts box (cl [.string name] 9)])) (.st 0 (.st 1 (.st 2 (.act 3 (.act 4 (.act 5 (.st 6 (.st 7 (.st 8 (.st 9 (.st 10 .nil))))))))))) rfl (by kernel_rfl) (by kernel_rfl) (by kernel_rfl) (fun w hw => hw.ent (Ent.pickOnly ([0]) rfl)) ?_
  (refine go ?_)
  refine J_buildSlice1 (U := tab) rfl rfl rfl rfl rfl rfl rfl rfl rfl (fun _ w hw => hw.ent (Ent.pickOnly ([1]) rfl)) ?_
  intro b0
  refine J_call [0] rfl rfl rfl rfl (right_any _ _ [name] (Vw.pts rfl) (by simp)) rfl (fun _ _ w hp hw => by obtain ⟨_, rfl⟩ := hp; exact hw.ent (Ent.pickOnly [1] rfl)) ?_
  rintro _ _ ⟨rfl, rfl⟩
  have e1 : [name].all isName = isName name := by simp
  rw [e1]
  refine J_call [2] rfl rfl rfl rfl (find_any bd D A hR name (isName name)) rfl (fun _ _ w hp hw => by obtain ⟨_, _, rfl, _⟩ := hp; exact hw.ent (Ent.pickOnly [2] rfl)) ?_
  generalize hok : isName name = ok at hE ⊢
  rintro _ _ ⟨D', hR', rfl, rfl⟩
  (refine go ?_)
  refine K_condA rfl rfl ?_ ?_
  · intro h0
    have h0' : ¬ (A.find name ok).1 = 0 := by have := of_decide_eq_true h0; omega
    have hw : A.remove ok name = ((A.find name ok).1, (A.find name ok).2.2) := by
      unfold Ab.remove
      generalize A.find name ok = z at h0' ⊢
      obtain ⟨e, fo, A1⟩ := z
      cases fo with
      | none => cases e <;> rfl
      | some fl => cases e with
        | zero => exact absurd rfl h0'
        | succ e => rfl
    rw [hw] at hE
    (refine go ?_)
    refine K_return hE Tryz.func69 rfl _ rfl ⟨D', hR', rfl, rfl⟩ (Ent.fin [0] 2 rfl rfl)
  · intro h0
    have h0' : (A.find name ok).1 = 0 := by have := of_decide_eq_false h0; omega
    obtain ⟨hokt, fl, hfl, hmem⟩ := find_parts h0'
    have hw : A.remove ok name = (0, (A.find name ok).2.2.chg (Ab.delN (A.find name ok).2.2.names name)) := by
      unfold Ab.remove
      generalize A.find name ok = z at h0' hfl ⊢
      obtain ⟨e, fo, A1⟩ := z
      simp only at h0' hfl
      subst h0' hfl
      rfl
    have hst' : (A.find name ok).2.2.states.length ≤ 1000000000 := by rw [(find_same A name ok).2.2.1]; exact hst
    rw [hw] at hE
    generalize (A.find name ok).2.2 = A1 at *
    have hst2 : D'.stb.length ≤ 1000000000 := by rw [hR'.states.1]; exact hst'
    (refine go ?_)
    refine J_call [0, 2] rfl rfl rfl rfl (change_any (α := Unit) bd D' A1.names hR'.names 112 #[ptr box] (pts box (cl [.string name] 9)) (fun _ => Ab.delN A1.names name) (fun _ => pts box (cl [.string name] 9)) (fun _ => True) (fun b' => Ctr.post (Remove1_any b' box A1.names name) (fun v H h => ⟨(), trivial, h⟩)) hst2) rfl (fun _ _ _ _ _ => trivial) ?_
    rintro _ _ ⟨_, b', v, _, rfl⟩
    have hR2 := hR'.chg (b' := b') (v := v) (nm := Ab.delN A1.names name) (fun x hx => hR'.known _ (List.mem_cons_self ..) x (delN_sub hx).1) (delN_nodup (hR'.nodup _ (List.mem_cons_self ..)) name) (Nat.le_trans (delN_len _ _) (hR'.smallN _ (List.mem_cons_self ..)))
    (refine go ?_)
    refine K_return hE Tryz.func69 rfl _ rfl ⟨_, hR2, rfl, rfl⟩ (Ent.fin [0] 2 rfl rfl)
end Go.Proofs.YtpecmnaikjbanaaGreatDoor

/- files, part p: SyncNames, the closures and slices' functions of Sync. -/
set_option linter.unusedVariables false
set_option linter.unusedSimpArgs false
namespace Go.Proofs.YtpecmnaikjbanaaGreatDoor
open Go Go.SL
attribute [local irreducible] J K Ctr Ends pts slc mapR mapI sbRow stock arrS

abbrev Late := Nat × Nat × Value
def lateC (x : Late) : List Value := [ptr x.1, .int .i64 x.2.1, x.2.2]
theorem wcells_eq (l : List Late) : wcells l = l.flatMap lateC := rfl
theorem lateC_len (x : Late) : (lateC x).length = 3 := rfl

theorem IndexFunc_late (A X : HP) (v : Value) (l : List Late) (hv : Vw A v l.length (wcells l)) (hlen : l.length ≤ 1000000000) (g : FuncId) (cap : List Value) (p : Late → Bool)
    (hf : ∀ x ∈ l, Ctr Tryz.prog g (.agg #[ptr x.1, .int .i64 x.2.1, x.2.2] :: cap) [X] (fun v H => v = .bool (p x) ∧ H = [X])) :
    Ctr Tryz.prog 164 [v, .func (.func g) #[] cap.toArray] [A, X] (fun r H => r = .int .i64 (idxI p l) ∧ H = [A, X]) := by
  obtain ⟨a, c0, rfl⟩ := hv.shape
  refine Ctr.enter Tryz.func164 (by kernel_rfl) rfl Tryz.ntmps164 rfl rfl ?_
  intro G F R hR
  (refine go ?_)
  refine K_loop (fun i : Nat => i ≤ l.length ∧ ∀ y ∈ l.take i, p y = false) (fun i => l.length - i) (fun i => [(0, .slice a l.length c0), (1, .func (.func g) #[] cap.toArray), (7, .int .i64 l.length), (8, .int .i64 i)]) (fun _ => [A, X] ++ F) 0 ⟨by simp, by simp⟩ rfl (by repeat (first | exact keep_nil | refine keep_cons rfl ?_)) (Ent.refl _) ?_
  rintro i ⟨hi, hb⟩ ih
  (refine go ?_)
  refine K_condP rfl rfl ?_ ?_
  · intro hlt
    (refine go ?_)
    have hi' : i < l.length := by omega
    have hx : l[i]? = some l[i] := by simp [hi']
    generalize hxx : l[i] = x at hx
    obtain ⟨b, o, cap', hsl⟩ := hv.some (by rw [← List.length_pos_iff, wcells_eq, chunk_len lateC_len]; omega)
    simp only [Value.slice.injEq] at hsl
    obtain ⟨rfl, _, rfl⟩ := hsl
    refine J_at (U := tab) i 3 rfl rfl rfl rfl rfl rfl rfl rfl hi' ?_
    refine J_loadElem (U := tab) (es := lateC x) 0 (i * 3) rfl rfl rfl hv rfl (fun j v hj => ?_) rfl rfl rfl ?_
    · have hj3 : j < 3 := by
        rcases Nat.lt_or_ge j 3 with h | h
        · exact h
        · rw [List.getElem?_eq_none (by rw [lateC_len]; exact h)] at hj; cases hj
      rw [wcells_eq, chunk_get lateC_len hx j hj3]; exact hj
    refine J_call [1] rfl rfl rfl rfl (hf x (List.mem_of_getElem? hx)) rfl (fun _ _ _ _ _ => trivial) ?_
    rintro _ _ ⟨rfl, rfl⟩
    (refine go ?_)
    refine K_condA rfl rfl ?_ ?_
    · intro hp
      (refine go ?_)
      refine K_return hR Tryz.func164 rfl _ rfl ⟨by rw [idxI_some hx hp hb]; rfl, rfl⟩ (Ent.fin [1, 0] 0 rfl rfl)
    · intro hp
      (refine go ?_)
      refine K_again ih (i + 1) rfl ⟨by omega, allTake hb hx hp⟩ (by omega) (by repeat (first | exact keep_nil | refine keep_cons rfl ?_)) (Ent.pick [1, 0] rfl)
  · intro hge
    (refine go ?_)
    have : i = l.length := by omega
    subst this
    refine K_return hR Tryz.func164 rfl _ rfl ⟨by rw [idxI_none (fun x hx => hb x (by simpa using hx))]; rfl, rfl⟩ (Ent.fin [0, 1] 0 rfl rfl)

/-- Is it that file's write? -/
theorem Sync1_any (c5 f g at_ : Nat) (bv : Value) (files : List (Nat × Value × Value)) (hf : f ∈ files.map (·.1)) (hg : g ∈ files.map (·.1)) (hone : bv.oneCell' = true) :
    Ctr Tryz.prog 146 [.agg #[ptr g, .int .i64 at_, bv], ptr c5] [star (pts c5 (cl [ptr f] 117)) (stock fileG files)] (fun v H => v = .bool (decide (g = f)) ∧ H = [star (pts c5 (cl [ptr f] 117)) (stock fileG files)]) := by
  have row : ∀ {G : Glob} {w : World} {H : List HP} {i y : Nat}, Sat G w H → getL H i = some (stock fileG files) → y ∈ files.map (·.1) → Row w y := by
    intro G w H i y hs hi hy
    obtain ⟨⟨y', v1, v2⟩, hm, rfl⟩ := List.mem_map.1 hy
    obtain ⟨j, hj⟩ := List.getElem?_of_mem hm
    exact ⟨_, _, file_cells hs hi hj⟩
  refine Ctr.enter Tryz.func146 (by kernel_rfl) rfl Tryz.ntmps146 rfl rfl ?_
  intro G F R hE
  refine K_ent (Ent.part _ _ _) ?_
  (refine go ?_)
  refine J_box rfl rfl (fun _ _ _ => trivial) ?_
  intro bx
  (refine go ?_)
  refine J_eqPtr (U := tab) rfl rfl rfl rfl rfl rfl rfl (fun w hw => row (i := 2) hw rfl hg) (fun w hw => row (i := 2) hw rfl hf) ?_
  (refine go ?_)
  refine K_ent (Ent.pick [1, 2] rfl) ?_
  refine K_ent (Ent.join _ _ _) ?_
  refine K_return hE Tryz.func146 rfl _ rfl ⟨congrArg Value.bool (by simp), rfl⟩ (Ent.fin [0] 1 rfl rfl)

theorem DeleteFunc_late (v : Value) (l : List Late) (X : HP) (g : FuncId) (cap : List Value) (p : Late → Bool) (hlen : l.length ≤ 1000000000) (hsl : ∀ x ∈ l, ∃ a n c, x.2.2 = .slice a n c)
    (hf : ∀ x ∈ l, Ctr Tryz.prog g (.agg #[ptr x.1, .int .i64 x.2.1, x.2.2] :: cap) [X] (fun v H => v = .bool (p x) ∧ H = [X])) :
    Ctr Tryz.prog 145 [v, .func (.func g) #[] cap.toArray] [slc 119 3 v l.length (wcells l), X]
      (fun r H => H = [slc 119 3 r (l.filter fun x => !p x).length (wcells (l.filter fun x => !p x)), X]) := by
  refine Ctr.enter Tryz.func145 (by kernel_rfl) rfl Tryz.ntmps145 rfl rfl ?_
  intro G F R hE
  refine K_shape 0 rfl ?_
  rintro a0 c rfl
  (refine go ?_)
  refine J_slcVw 0 rfl ?_
  intro hv
  refine J_call [0, 1] rfl rfl rfl rfl (IndexFunc_late _ X _ l hv hlen g cap p hf) rfl (fun _ _ _ _ _ => trivial) ?_
  rintro _ _ ⟨rfl, rfl⟩
  (refine go ?_)
  refine K_condP rfl rfl ?_ ?_
  · intro h0
    have hany : l.any p = false := idxI_neg.1 (by omega)
    have hfl : (l.filter fun x => !p x) = l := List.filter_eq_self.2 fun x hx => by
      have := List.any_eq_false.1 hany x hx
      simpa using this
    rw [hfl] at hE
    (refine go ?_)
    refine K_return hE Tryz.func145 rfl _ rfl rfl (Ent.fin [0, 1] 0 rfl rfl)
  · intro h0
    obtain ⟨i0, x0, hi0, hx0, hp0, hb0⟩ := idxI_first h0
    have hi0l : i0 < l.length := by
      rcases Nat.lt_or_ge i0 l.length with h | h
      · exact h
      · rw [List.getElem?_eq_none h] at hx0; cases hx0
    rw [hi0]
    (refine go ?_)
    refine K_slcCases (fun a hv0 hn _ => by omega) ?_
    rintro b o c' pre junk hvv hpre hnc hcap hcl
    simp only [Value.slice.injEq, true_and] at hvv
    obtain ⟨rfl, rfl⟩ := hvv
    have h1 : l.take (i0 + 1) = l.take i0 ++ [x0] := by rw [List.take_add_one, hx0]; rfl
    have hft : (l.take i0).filter (fun x => !p x) = l.take i0 := List.filter_eq_self.2 fun x hx => by simp [hb0 x hx]
    refine K_loop (fun s : Nat × Nat × List Late => s.1 < s.2.1 ∧ s.2.1 ≤ l.length ∧ s.2.2.length = l.length ∧ s.2.2.take s.1 = (l.take s.2.1).filter (fun x => !p x) ∧ s.2.2.drop s.2.1 = l.drop s.2.1) (fun s => l.length - s.2.1)
      (fun s => [(0, .slice (some ⟨b, o, none⟩) l.length c), (1, .func (.func g) #[] cap.toArray), (5, .int .i64 s.1), (6, .int .i64 s.2.1)])
      (fun s => pts b (cl (pre ++ wcells s.2.2 ++ junk) 119) :: X :: F) (i0, i0 + 1, l) ⟨by simp, by simp only; omega, rfl, by simp only [h1, List.filter_append, hft]; simp [hp0], rfl⟩ rfl (by repeat (first | exact keep_nil | refine keep_cons rfl ?_)) (Ent.refl _) ?_
    rintro ⟨i, j, E⟩ ⟨hij, hjl, hEl, hEt, hEd⟩ ih
    simp only at hij hjl hEl hEt hEd
    have hwl : (wcells E).length = l.length * 3 := by rw [wcells_eq, chunk_len lateC_len, hEl]
    have hvE : Vw (pts b (cl (pre ++ wcells E ++ junk) 119)) (.slice (some ⟨b, o, none⟩) l.length c) l.length (wcells E) := Vw.pts (by rw [List.append_assoc, ← hpre, List.drop_left, List.take_left])
    (refine go ?_)
    refine K_condP rfl rfl ?_ ?_
    · intro hlt
      simp only at hlt
      have hj' : j < l.length := by omega
      obtain ⟨⟨fx, ax, bx⟩, hx⟩ : ∃ x, l[j]? = some x := ⟨l[j], by simp [hj']⟩
      have hEx : E[j]? = some (fx, ax, bx) := by
        have := congrArg (·[0]?) hEd
        simp only [List.getElem?_drop, Nat.add_zero] at this
        rw [this]; exact hx
      have hmem := List.mem_of_getElem? hx
      obtain ⟨ab, nb, cb, hbx⟩ := hsl _ hmem
      simp only at hbx
      subst hbx
      have hfx := hf _ hmem
      (refine go ?_)
      refine J_at (U := tab) j 3 rfl rfl rfl rfl rfl rfl rfl rfl hj' ?_
      refine J_loadElem (U := tab) (es := lateC (fx, ax, .slice ab nb cb)) 0 (j * 3) rfl rfl rfl hvE rfl (fun q v hq => ?_) rfl rfl rfl ?_
      · have hj3 : q < 3 := by
          rcases Nat.lt_or_ge q 3 with h | h
          · exact h
          · rw [List.getElem?_eq_none (by rw [lateC_len]; exact h)] at hq; cases hq
        rw [wcells_eq, chunk_get lateC_len hEx q hj3]; exact hq
      refine J_alloc (U := tab) rfl rfl rfl (fun _ _ _ => trivial) ?_
      intro bv
      (refine go ?_)
      refine J_loadAgg (U := tab) 0 rfl rfl rfl rfl rfl rfl ?_
      refine J_call [2] rfl rfl rfl rfl (hfx) rfl (fun _ _ _ _ _ => trivial) ?_
      rintro _ _ ⟨rfl, rfl⟩
      (refine go ?_)
      refine K_condA rfl rfl ?_ ?_
      · intro hp
        have hp' : p (fx, ax, .slice ab nb cb) = false := by simpa using hp
        (refine go ?_)
        refine J_loadAgg (U := tab) 1 rfl rfl rfl rfl rfl rfl ?_
        (refine go ?_)
        refine J_at (U := tab) i 3 rfl rfl rfl rfl rfl rfl rfl rfl (by omega) ?_
        refine J_storeRow (U := tab) (l' := pre ++ wcells (E.set i (fx, ax, .slice ab nb cb)) ++ junk) 2 (fun _ _ => trivial) rfl rfl rfl rfl rfl rfl rfl ?_ ?_ rfl ?_
        · show o + i * 3 + 3 ≤ _
          rw [List.length_append, List.length_append, hwl]; omega
        · show _ = List.take (o + i * 3) (pre ++ wcells E ++ junk) ++ lateC (fx, ax, .slice ab nb cb) ++ List.drop (o + i * 3 + (lateC (fx, ax, .slice ab nb cb)).length) (pre ++ wcells E ++ junk)
          rw [← hpre, splice_mid _ _ _ _ _ (by rw [lateC_len, hwl]; omega), wcells_eq, chunk_set lateC_len (by omega)]
          rfl
        (refine go ?_)
        refine K_again ih (i + 1, j + 1, E.set i (fx, ax, .slice ab nb cb)) rfl ⟨by simp only; omega, by simp only; omega, by simp only [List.length_set]; exact hEl, ?_, ?_⟩ (by simp only; omega) (by repeat (first | exact keep_nil | refine keep_cons rfl ?_)) (Ent.to [2, 0] 1 rfl rfl rfl)
        · simp only
          rw [List.take_add_one, List.take_set_of_le (Nat.le_refl i), hEt, List.take_add_one (l := l), hx, List.getElem?_set_self (by omega)]
          simp [List.filter_append, hp']
        · simp only
          rw [List.drop_set_of_lt (by omega), ← List.drop_drop, hEd, List.drop_drop]
      · intro hp
        have hp' : p (fx, ax, .slice ab nb cb) = true := by simpa using hp
        (refine go ?_)
        refine K_again ih (i, j + 1, E) rfl ⟨by simp only; omega, by simp only; omega, hEl, by simp only; rw [hEt, List.take_add_one, hx]; simp [List.filter_append, hp'], by simp only; rw [← List.drop_drop, hEd, List.drop_drop]⟩ (by simp only; omega) (by repeat (first | exact keep_nil | refine keep_cons rfl ?_)) (Ent.to [2, 0] 1 rfl rfl rfl)
    · intro hge
      (refine go ?_)
      simp only at hge
      have hjn : j = l.length := by omega
      subst hjn
      rw [List.take_length] at hEt
      have hlen2 : (l.filter fun x => !p x).length = i := by rw [← hEt, List.length_take]; omega
      refine J_slice (U := tab) rfl rfl rfl rfl rfl rfl rfl (by omega) (by omega) (.inl rfl) ?_
      intro o1 ho1 ho2
      simp only [Int.toNat_natCast] at ho1 ho2
      have ho1' : i ≠ c → o1 = o + i * 3 := ho1
      have hL : (pre ++ wcells E ++ junk).length = o + l.length * 3 + junk.length := by rw [List.length_append, List.length_append, hwl, hpre]
      obtain ⟨junk', hjunk, hjl'⟩ : ∃ junk', (pre ++ wcells E ++ junk).take o1 ++ (List.replicate (((l.length : Int).toNat - (i : Int).toNat)) [Value.pointer none, .int .i64 0, .slice none 0 0]).flatten ++ (pre ++ wcells E ++ junk).drop (o1 + ((l.length : Int).toNat - (i : Int).toNat) * 3) = pre ++ wcells (E.take i) ++ junk' ∧ c * 3 ≤ i * 3 + junk'.length := by
        have hic : i ≠ c := by omega
        rw [ho1' hic, ← hpre, List.append_assoc pre, List.take_length_add_append, List.take_append_of_le_length (by rw [hwl]; omega), wcells_eq, wcells_eq, chunk_take lateC_len E i (by omega)]
        refine ⟨_, by rw [List.append_assoc], ?_⟩
        rw [List.length_append, List.length_drop, flat_replicate]
        simp only [List.length_append, List.length_cons, List.length_nil, chunk_len lateC_len, hEl, Int.toNat_natCast]
        have := hcl
        omega
      refine J_clear (U := tab) (l' := pre ++ wcells (E.take i) ++ junk') 0 (fun _ _ => trivial) rfl rfl rfl rfl rfl rfl rfl rfl ?_ ?_ rfl ?_
      · have hic : i ≠ c := by omega
        show o1 + ((l.length : Int).toNat - (i : Int).toNat) * 3 ≤ _
        rw [ho1' hic, hL]; omega
      · rw [← hjunk]; rfl
      (refine go ?_)
      refine J_slice (U := tab) rfl rfl rfl rfl rfl rfl rfl (by omega) (by omega) (.inr (by omega)) ?_
      intro o2 ho3 ho4
      have ho2' : o2 = o := by
        by_cases hc0 : (0 : Int).toNat = c
        · exact ho4 hc0
        · have := ho3 hc0; rw [this]; simp
      subst ho2'
      (refine go ?_)
      refine K_ent (slc_closeN (sz := 3) (nn := i) (c := c) hpre (by omega) (by rw [wcells_eq, chunk_len lateC_len, List.length_take]; omega) (by rw [wcells_eq, chunk_len lateC_len, List.length_take]; omega) _) ?_
      rw [← hEt, hEt, hlen2, ← hEt] at hE
      refine K_return hE Tryz.func145 rfl _ rfl rfl (Ent.fin [0, 1] 0 rfl rfl)
end Go.Proofs.YtpecmnaikjbanaaGreatDoor

/- files, part q: SyncNames, Sync. -/
set_option linter.unusedVariables false
set_option linter.unusedSimpArgs false
namespace Go.Proofs.YtpecmnaikjbanaaGreatDoor
open Go Go.SL
attribute [local irreducible] J K Ctr Ends pts slc mapR mapI sbRow stock arrS

theorem SyncNames_any (bd : Nat) (D : Dk) (A : Ab) (hR : Rel D A) :
    Ctr Tryz.prog 51 [ptr bd] [disk bd D] (fun v H => ∃ D', Rel D' A.syncNames.2 ∧ H = [disk bd D'] ∧ v = .int .i64 A.syncNames.1) := by
  refine Ctr.enter Tryz.func51 (by kernel_rfl) rfl Tryz.ntmps51 rfl rfl ?_
  intro G F R hE
  (refine go ?_)
  refine J_call [0] rfl rfl rfl rfl (meet_any bd D A hR true) rfl (fun _ _ _ _ _ => trivial) ?_
  rintro _ _ ⟨D', hR', rfl, rfl⟩
  (refine go ?_)
  refine K_condA rfl rfl ?_ ?_
  · intro h0
    have h0' : ¬ (A.meet true).1 = 0 := by have := of_decide_eq_true h0; omega
    have hf : A.syncNames = ((A.meet true).1, (A.meet true).2) := by simp [Ab.syncNames, h0']
    rw [hf] at hE
    (refine go ?_)
    refine K_return hE Tryz.func51 rfl _ rfl ⟨D', hR', rfl, rfl⟩ (Ent.fin [0] 0 rfl rfl)
  · intro h0
    have h0' : (A.meet true).1 = 0 := by have := of_decide_eq_false h0; omega
    have hf : A.syncNames = (0, { (A.meet true).2 with states := [(A.meet true).2.names] }) := by simp [Ab.syncNames, h0']
    rw [hf] at hE
    obtain ⟨room, bm, sts, wrs, pln, off, maps, arrs, files, stb, wl⟩ := D'
    refine K_ent (disk_o _ _ _ _ _ _ _ _ _ _ _ _ _) ?_
    (refine go ?_)
    refine J_buildSlice1 (U := tab) rfl rfl rfl rfl rfl rfl rfl rfl rfl (fun _ _ _ => trivial) ?_
    intro b0
    (refine go ?_)
    refine K_ent (slc_row 81 1 b0 1 1 [.map (some bm)] [] _ rfl (Nat.le_refl _) (by simp)) ?_
    refine K_ent (Ent.pick [1, 2, 3, 4, 0, 6] rfl) ?_
    refine K_ent (disk_c bd room bm _ wrs pln off maps arrs files [bm] wl _) ?_
    have hR2 : Rel ⟨room, bm, .slice (some ⟨b0, 0, none⟩) 1 1, wrs, pln, off, maps, arrs, files, [bm], wl⟩ { (A.meet true).2 with states := [(A.meet true).2.names] } :=
      { room := hR'.room, off := hR'.off, names := hR'.names, states := All2.one hR'.names, fs := hR'.fs, writes := hR'.writes, plan := hR'.plan, ids := hR'.ids
        known := fun st hst => hR'.known st (by simp only [List.mem_cons, List.not_mem_nil, or_false] at hst; rcases hst with rfl | rfl <;> exact List.mem_cons_self ..)
        knownW := hR'.knownW
        nodup := fun st hst => hR'.nodup st (by simp only [List.mem_cons, List.not_mem_nil, or_false] at hst; rcases hst with rfl | rfl <;> exact List.mem_cons_self ..)
        smallF := hR'.smallF, smallW := hR'.smallW
        smallN := fun st hst => hR'.smallN st (by simp only [List.mem_cons, List.not_mem_nil, or_false] at hst; rcases hst with rfl | rfl <;> exact List.mem_cons_self ..)
        smallR := hR'.smallR, smallP := hR'.smallP, full := by simp }
    refine K_return hE Tryz.func51 rfl _ rfl ⟨_, hR2, rfl, rfl⟩ (Ent.fin [0] 1 rfl rfl)

theorem All2.filter {α β : Type} {q : α → β → Prop} {l : List α} {r : List β} (h : All2 q l r) {p1 : α → Bool} {p2 : β → Bool} (hp : ∀ x y, q x y → p1 x = p2 y) : All2 q (l.filter p1) (r.filter p2) := by
  induction l generalizing r with
  | nil =>
    have : r = [] := List.eq_nil_of_length_eq_zero h.1.symm
    subst this; exact All2.nil
  | cons x l ih =>
    cases r with
    | nil => exact absurd h.1 (by simp)
    | cons y r =>
      have h0 := h.2 0 x y rfl rfl
      have ht : All2 q l r := ⟨by have := h.1; simpa using this, fun i a b ha hb => h.2 (i + 1) a b (by simpa using ha) (by simpa using hb)⟩
      rw [List.filter_cons, List.filter_cons, hp x y h0]
      split
      · exact (ih ht).cons h0
      · exact ih ht
theorem updS_set {fs : List (Nat × List UInt8 × List UInt8)} (hn : (fs.map (·.1)).Nodup) {i f : Nat} {x : List UInt8 × List UInt8} (hi : fs[i]? = some (f, x)) : Ab.updS fs f = fs.set i (f, x.1, x.1) := by
  induction fs generalizing i with
  | nil => simp at hi
  | cons y l ih =>
    simp only [List.map_cons, List.nodup_cons] at hn
    cases i with
    | zero =>
      simp at hi
      subst hi
      simp only [Ab.updS, List.map_cons, if_true, List.set_cons_zero, List.cons.injEq, true_and]
      rw [List.map_congr_left (g := id) (fun z hz => ?_), List.map_id]
      have : z.1 ≠ f := fun e => hn.1 (List.mem_map.2 ⟨z, hz, e⟩)
      simp [this]
    | succ i =>
      simp at hi
      have hne : y.1 ≠ f := fun e => hn.1 (List.mem_map.2 ⟨_, List.mem_of_getElem? hi, e.symm⟩)
      have := ih hn.2 hi
      simp only [Ab.updS] at this
      simp only [Ab.updS, List.map_cons, hne, if_false, List.set_cons_succ, this]
theorem updS_ids (fs : List (Nat × List UInt8 × List UInt8)) (f : Nat) : (Ab.updS fs f).map (·.1) = fs.map (·.1) := by
  simp only [Ab.updS, List.map_map]
  apply List.map_congr_left
  intro x _
  simp only [Function.comp]
  split <;> rfl
theorem Rel.synced {D : Dk} {A : Ab} (h : Rel D A) {i f : Nat} {v1 v2 w : Value} (hi : D.files[i]? = some (f, v1, v2)) (ha : A.fs[i]? = some (f, A.now f, A.sure f)) :
    Rel { D with files := D.files.set i (f, v1, v1), wrs := w, wl := D.wl.filter fun x => !decide (x.1 = f) } { A with fs := Ab.updS A.fs f, writes := A.writes.filter fun x => !decide (x.1 = f) } where
  room := h.room
  off := h.off
  names := h.names
  states := h.states
  fs := by
    rw [updS_set h.ids ha]
    have h2 := h.fs.2 i _ _ hi ha
    exact All2.set h.fs i ⟨rfl, h2.2.1, h2.2.1⟩
  writes := All2.filter h.writes (fun x y hxy => by rw [hxy.1])
  plan := h.plan
  ids := by simp only [updS_ids]; exact h.ids
  known := by simp only [updS_ids]; exact h.known
  knownW := by
    simp only [updS_ids]
    exact fun x hx => h.knownW x (List.mem_filter.1 hx).1
  nodup := h.nodup
  smallF := by
    intro x hx
    simp only [Ab.updS, List.mem_map] at hx
    obtain ⟨y, hy, rfl⟩ := hx
    have := h.smallF y hy
    split
    · exact ⟨this.1, this.1⟩
    · exact this
  smallW := fun x hx => h.smallW x (List.mem_filter.1 hx).1
  smallN := h.smallN
  smallR := h.smallR
  smallP := h.smallP
  full := h.full

theorem Sync_any (bd : Nat) (D : Dk) (A : Ab) (hR : Rel D A) (name : ByteArray) (hwl : A.writes.length ≤ 1000000000) :
    Ctr Tryz.prog 108 [ptr bd, .string name] [disk bd D]
      (fun v H => ∃ D', Rel D' (A.sync (isName name) name).2 ∧ H = [disk bd D'] ∧ v = .int .i64 (A.sync (isName name) name).1) := by
  refine Ctr.enter Tryz.func108 (by kernel_rfl) rfl Tryz.ntmps108 rfl rfl ?_
  intro G F R hE
  (refine go ?_)
  refine J_buildSlice1 (U := tab) rfl rfl rfl rfl rfl rfl rfl rfl rfl (fun _ _ _ => trivial) ?_
  intro b0
  (refine go ?_)
  refine J_call [0] rfl rfl rfl rfl (right_any _ _ [name] (Vw.pts rfl) (by simp)) rfl (fun _ _ _ _ _ => trivial) ?_
  rintro _ _ ⟨rfl, rfl⟩
  have e1 : [name].all isName = isName name := by simp
  rw [e1]
  (refine go ?_)
  refine J_call [1] rfl rfl rfl rfl (find_any bd D A hR name (isName name)) rfl (fun _ _ _ _ _ => trivial) ?_
  generalize hok : isName name = ok at hE ⊢
  rintro _ _ ⟨D', hR', rfl, rfl⟩
  by_cases h0' : (A.find name ok).1 = 0
  · obtain ⟨hokt, fl, hfl, hmem⟩ := find_parts h0'
    have hw : A.sync ok name = (0, { (A.find name ok).2.2 with fs := Ab.updS (A.find name ok).2.2.fs fl, writes := (A.find name ok).2.2.writes.filter fun x => !decide (x.1 = fl) }) := by simp [Ab.sync, h0', hfl]
    rw [hw] at hE
    rw [hfl, h0']
    have hwl' : (A.find name ok).2.2.writes.length ≤ 1000000000 := by rw [(find_same A name ok).2.2.2.1]; exact hwl
    generalize (A.find name ok).2.2 = A1 at *
    obtain ⟨room, bm, sts, wrs, pln, off, maps, arrs, files, stb, wl⟩ := D'
    obtain ⟨i, v1, v2, hi, hfs, hv1, hv2⟩ := hR'.file (f := fl) (hR'.known _ (List.mem_cons_self ..) _ hmem)
    obtain ⟨a, cap, rfl, hcap⟩ := hv1.shape
    (refine go ?_)
    refine J_alloc (U := tab) rfl rfl rfl (fun _ _ _ => trivial) ?_
    intro c5
    (refine go ?_)
    refine K_ent (Ent.pick [1] rfl) ?_
    refine K_ent (disk_o _ _ _ _ _ _ _ _ _ _ _ _ _) ?_
    refine K_ent (Ent.pick [3] rfl) ?_
    refine K_ent (stock_out fileG hi _) ?_
    refine K_drawA (fun w => Sat G w ([pts c5 (cl [ptr fl] 117), pts fl (cl [.slice a (A1.now fl).length cap, v2] 123)])) (.st 0 (.st 1 (.st 2 (.st 3 (.st 4 (.st 5 (.st 6 (.act 7 .nil)))))))) rfl (by kernel_rfl) (by kernel_rfl) (by kernel_rfl) (fun w hw => hw.ent (Ent.pickOnly ([7, 0]) rfl)) ?_
    (refine go ?_)
    refine J_ent (stock_set fileG (y := (fl, .slice a (A1.now fl).length cap, .slice a (A1.now fl).length cap)) hi _) ?_
    refine J_ent (Ent.pick [6, 0] rfl) ?_
    refine J_ent (Ent.join _ _ _) ?_
    have hids : (files.set i (fl, .slice a (A1.now fl).length cap, .slice a (A1.now fl).length cap)).map (·.1) = files.map (·.1) := by
      rw [List.map_set]
      apply List.ext_getElem?
      intro j
      rw [List.getElem?_set]
      split
      · rename_i hij
        subst hij
        simp only [List.getElem?_map, hi, Option.map_some, List.length_map]
        rw [if_pos (by
          rcases Nat.lt_or_ge i files.length with h | h
          · exact h
          · rw [List.getElem?_eq_none h] at hi; cases hi)]
      · rfl
    have hfi := hR'.fids
    simp only at hfi
    have hwx : ∀ x ∈ wl, (∃ a n c, x.2.2 = .slice a n c) ∧ x.1 ∈ files.map (·.1) := fun x hx => by
      obtain ⟨j, hj⟩ := List.getElem?_of_mem hx
      obtain ⟨y, hy, h1, _, h3⟩ := hR'.writes.left hj
      obtain ⟨a, c, h4, _⟩ := h3.shape
      refine ⟨⟨_, _, _, h4⟩, ?_⟩
      rw [hfi, h1]
      exact hR'.knownW y (List.mem_of_getElem? hy)
    refine J_call [5, 0] rfl rfl rfl rfl (DeleteFunc_late wrs wl (star (pts c5 (cl [ptr fl] 117)) (stock fileG (files.set i (fl, .slice a (A1.now fl).length cap, .slice a (A1.now fl).length cap)))) 146 [ptr c5] (fun x => decide (x.1 = fl)) (by have := hR'.writes.1; simp only at this; omega) (fun x hx => (hwx x hx).1)
      (fun x hx => Sync1_any c5 fl x.1 x.2.1 x.2.2 _ (by rw [hids, hfi]; exact List.mem_map.2 ⟨_, List.mem_of_getElem? hfs, rfl⟩) (by rw [hids]; exact (hwx x hx).2) (by obtain ⟨⟨a, n, c, h⟩, _⟩ := hwx x hx; rw [h]; rfl))) rfl (fun _ _ _ _ _ => trivial) ?_
    rintro r _ rfl
    refine J_shape 0 rfl ?_
    rintro ar cr rfl
    (refine go ?_)
    refine K_ent (Ent.pick [1] rfl) ?_
    refine K_ent (Ent.part _ _ _) ?_
    refine K_ent (Ent.pick [3, 4, 5, 1, 6, 2] rfl) ?_
    refine K_ent (disk_c bd room bm sts _ pln off maps arrs _ stb _ _) ?_
    refine K_return hE Tryz.func108 rfl _ rfl ⟨_, hR'.synced hi hfs, rfl, rfl⟩ (Ent.fin [0] 2 rfl rfl)
  · have hw : A.sync ok name = ((A.find name ok).1, (A.find name ok).2.2) := by simp [Ab.sync, h0']
    rw [hw] at hE
    cases hfo : (A.find name ok).2.1 with
    | none =>
      (refine go ?_)
      refine J_alloc (U := tab) rfl rfl rfl (fun _ _ _ => trivial) ?_
      intro c5
      (refine go ?_)
      refine K_condA rfl rfl ?_ ?_
      · intro _
        (refine go ?_)
        refine K_return hE Tryz.func108 rfl _ rfl ⟨D', hR', rfl, rfl⟩ (Ent.fin [1] 2 rfl rfl)
      · intro h; exfalso; have := of_decide_eq_false h; omega
    | some fl =>
      (refine go ?_)
      refine J_alloc (U := tab) rfl rfl rfl (fun _ _ _ => trivial) ?_
      intro c5
      (refine go ?_)
      refine K_condA rfl rfl ?_ ?_
      · intro _
        (refine go ?_)
        refine K_return hE Tryz.func108 rfl _ rfl ⟨D', hR', rfl, rfl⟩ (Ent.fin [1] 2 rfl rfl)
      · intro h; exfalso; have := of_decide_eq_false h; omega
end Go.Proofs.YtpecmnaikjbanaaGreatDoor

