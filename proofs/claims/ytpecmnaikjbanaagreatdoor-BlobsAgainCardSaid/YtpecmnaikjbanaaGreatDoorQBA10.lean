/- Texts of one claim, joined: Bb, Hd, He, Hf, Hg, Hh. -/
import Derived.Test.YtpecmnaikjbanaaGreatDoorQBA4
import Derived.Test.YtpecmnaikjbanaaGreatDoorQBA6
import Derived.Test.YtpecmnaikjbanaaGreatDoorQBA7
import Derived.Test.YtpecmnaikjbanaaGreatDoorQBA8
import Derived.Test.YtpecmnaikjbanaaGreatDoorQBA9
/- blobs, part b: names, files, images. -/
set_option linter.unusedVariables false
set_option linter.unusedSimpArgs false
namespace Go.Proofs.YtpecmnaikjbanaaGreatDoor
open Go Go.SL
attribute [local irreducible] J K Ctr Ends pts slc mapR mapI sbRow stock arrS loopP CtrY Sha.chunks Sha.chunk Sha.rounds Sha.sched sumL taggedL GI leafL
/-- What a disk that stands in memory keeps to. -/
structure DOk (A : Ab) : Prop where
  ids : (A.fs.map (·.1)).Nodup
  known : ∀ st ∈ A.names :: A.states, ∀ x ∈ st, x.2 ∈ A.fs.map (·.1)
  knownW : ∀ x ∈ A.writes, x.1 ∈ A.fs.map (·.1)
  nodup : ∀ st ∈ A.names :: A.states, (st.map (·.1)).Nodup
  smallF : ∀ x ∈ A.fs, x.2.1.length ≤ 1048576 ∧ x.2.2.length ≤ 1048576
  smallW : ∀ x ∈ A.writes, x.2.1 + x.2.2.length ≤ 1048576
  smallN : ∀ st ∈ A.names :: A.states, st.length ≤ 200
  smallR : A.room ≤ 1073741824
  full : A.states ≠ []
theorem DOk.of {D : Dk} {A : Ab} (h : Rel D A) : DOk A := ⟨h.ids, h.known, h.knownW, h.nodup, h.smallF, h.smallW, h.smallN, h.smallR, h.full⟩
theorem DOk.file {A : Ab} (h : DOk A) (f : Nat) : (A.file f).1.length ≤ 1048576 ∧ (A.file f).2.length ≤ 1048576 := by
  unfold Ab.file
  cases hx : A.fs.find? (fun x => decide (x.1 = f)) with
  | none => simp
  | some x => exact h.smallF x (List.mem_of_find?_eq_some hx)
theorem DOk.now {A : Ab} (h : DOk A) (f : Nat) : (A.now f).length ≤ 1048576 := (h.file f).1
theorem getA_ex {G : Glob} {w : World} {H : List HP} (hs : Sat G w H) {i : Nat} {A : HP} (hi : getL H i = some A) : ∃ h, A h := let ⟨h, _, hA⟩ := hs.getA hi; ⟨h, hA⟩
theorem diskA_ok {bd : Nat} {A : Ab} {h : Hp} (hd : diskA bd A h) : DOk A := let ⟨_, hR, _⟩ := hd; DOk.of hR
section
variable {P : Program} {f : FuncId} {n : Nat} {R : Ending → World → Prop} {G : Glob} {k : List Item} {L : Lst} {H : List HP} {S : World → Prop} {all : Array Oper} {rest : Pl}
theorem K_diskA {bd : Nat} {A : Ab} (i : Nat) (hi : getL H i = some (diskA bd A)) (h : DOk A → K P f n R G k L H) : K P f n R G k L H :=
  K_sat fun ⟨w, hw⟩ => by obtain ⟨h1, hA⟩ := getA_ex hw hi; exact h (diskA_ok hA)
theorem J_diskA {bd : Nat} {A : Ab} (i : Nat) (hi : getL H i = some (diskA bd A)) (h : DOk A → J P f n R G S all rest k L H) : J P f n R G S all rest k L H :=
  J_sat fun w hw => by obtain ⟨h1, hA⟩ := getA_ex hw hi; exact h (diskA_ok hA)
end
attribute [local irreducible] diskA
/-- The store's own cells. -/
def stC (bd : Nat) (q : Int) (mb : Nat) (brk : Bool) : List Value := [ptr bd, .int .i64 q, .map (some mb), .bool brk]
theorem file_any (kind : List UInt8) (d : Dg) (hk : kind.length ≤ 1000) : Ctr Tryz.prog 53 [.string (strOf kind), dV d] [] (fun r H => r = .string (fileN kind d) ∧ H = []) := by
  have ht := Text_any d
  unfold dV at ht ⊢
  refine Ctr.enter Tryz.func53 (by kernel_rfl) rfl Tryz.ntmps53 rfl rfl ?_
  intro G F R hE
  refine K_regionA rfl ?_
  refine J_box rfl rfl (fun _ _ _ => trivial) ?_
  intro b3
  (refine go ?_)
  refine J_loadArr (U := tab) (l := dC d) 0 rfl rfl rfl rfl rfl rfl ?_
  (first | refine J_callE rfl rfl rfl rfl (ht) entA ?_ (fun _ _ _ _ _ => trivial) | refine J_call0E rfl rfl rfl (ht) entA ?_ (fun _ _ _ _ _ => trivial) | (refine go ?_; first | refine J_callE rfl rfl rfl rfl (ht) entA ?_ (fun _ _ _ _ _ => trivial) | refine J_call0E rfl rfl rfl (ht) entA ?_ (fun _ _ _ _ _ => trivial)))
  rintro _ _ ⟨rfl, rfl⟩
  refine J_strAdd rfl rfl rfl (by show kind.length + (textL d).length ≤ _; rw [textL_len]; omega) ?_
  (first | refine J_slot 8 ((.string (fileN kind d))) rfl ((congrArg Value.string (by unfold fileN strOf; apply ByteArray.ext; simp))) ?_ | refine K_slot 8 ((.string (fileN kind d))) rfl ((congrArg Value.string (by unfold fileN strOf; apply ByteArray.ext; simp))) ?_)
  (refine go ?_)
  (first | refine K_return hE Tryz.func53 rfl _ rfl ⟨rfl, rfl⟩ entA | refine K_fallEnd hE Tryz.func53 rfl _ rfl ⟨rfl, rfl⟩ entA)
def hashV (o : Option Dg) : Value := match o with
  | none => .tuple #[dV Dg.zero, .bool false]
  | some d => .tuple #[dV d, .bool true]
theorem ext_take (s : ByteArray) (k : Nat) : s.extract (0 : Int).toNat (k : Int).toNat = strOf (s.data.toList.take k) := by
  unfold strOf
  apply ByteArray.ext
  apply Array.ext'
  rw [ByteArray.data_extract]
  simp
theorem ext_drop (s : ByteArray) (k : Nat) : s.extract (k : Int).toNat (s.size : Int).toNat = strOf (s.data.toList.drop k) := by
  unfold strOf
  apply ByteArray.ext
  apply Array.ext'
  have : s.size = s.data.toList.length := rfl
  rw [ByteArray.data_extract, this]
  simp
  rw [List.take_of_length_le (by simp)]
set_option maxRecDepth 20000 in
theorem hash_any (kind : List UInt8) (nm : ByteArray) (hk : kind.length ≤ 1000) : Ctr Tryz.prog 66 [.string (strOf kind), .string nm] [] (fun r H => r = hashV (hashN kind nm) ∧ H = []) := by
  have hks : (strOf kind).size = kind.length := rfl
  have hns : nm.size = nm.data.toList.length := rfl
  refine Ctr.enter Tryz.func66 (by kernel_rfl) rfl Tryz.ntmps66 rfl rfl ?_
  intro G F R hE
  refine K_regionA rfl ?_
  refine J_alloc (U := tab) rfl rfl rfl (fun _ _ _ => trivial) ?_
  intro b4
  have hN : ¬ kind.isPrefixOf nm.data.toList = true → hashN kind nm = none := fun h => by unfold hashN; rw [if_neg h]
  have hP : kind.isPrefixOf nm.data.toList = true → hashN kind nm = parseL (nm.data.toList.drop kind.length) := fun h => by unfold hashN; rw [if_pos h]
  have hiff : kind.isPrefixOf nm.data.toList = true ↔ nm.data.toList.take kind.length = kind := by
    rw [List.isPrefixOf_iff_prefix, List.prefix_iff_eq_take]
    exact eq_comm
  (refine go ?_)
  refine J_gsP rfl rfl rfl rfl ?_ ?_
  · intro hlt
    have hnone := hN (fun h => by rw [hiff] at h; have := congrArg List.length h; rw [List.length_take] at this; omega)
    rw [hnone] at hE
    (refine go ?_)
    refine J_build0 (U := tab) rfl rfl rfl rfl rfl ?_
    (refine go ?_)
    (refine K_noMarks hE ?_; apply K_returnV (U := tab) hE Tryz.func66 rfl (Ent.refl _); (repeat (first | exact ResOk.nil | apply ResOk.tmp rfl | apply ResOk.agg 0 rfl rfl rfl rfl rfl | apply ResOk.agg 1 rfl rfl rfl rfl rfl | apply ResOk.agg 2 rfl rfl rfl rfl rfl | apply ResOk.agg 3 rfl rfl rfl rfl rfl | apply ResOk.agg 4 rfl rfl rfl rfl rfl | apply ResOk.agg 5 rfl rfl rfl rfl rfl | apply ResOk.agg 6 rfl rfl rfl rfl rfl | apply ResOk.agg 7 rfl rfl rfl rfl rfl | apply ResOk.agg 8 rfl rfl rfl rfl rfl | apply ResOk.one 0 rfl rfl rfl rfl | apply ResOk.one 1 rfl rfl rfl rfl | apply ResOk.one 2 rfl rfl rfl rfl | apply ResOk.one 3 rfl rfl rfl rfl | apply ResOk.one 4 rfl rfl rfl rfl | apply ResOk.one 5 rfl rfl rfl rfl | apply ResOk.one 6 rfl rfl rfl rfl)); exact ⟨rfl, rfl⟩; exact entA)
  · intro hge
    have hkn : (kind.length : Int) ≤ (nm.size : Int) := by omega
    (refine go ?_)
    refine J_sliceStr (U := tab) (p := 0) (q := (kind.length : Int)) rfl rfl rfl rfl rfl rfl (Int.le_refl _) (Int.natCast_nonneg _) hkn ?_
    (first | refine J_slot 17 ((.string (strOf (nm.data.toList.take kind.length)))) rfl ((congrArg Value.string (ext_take nm kind.length))) ?_ | refine K_slot 17 ((.string (strOf (nm.data.toList.take kind.length)))) rfl ((congrArg Value.string (ext_take nm kind.length))) ?_)
    (refine go ?_)
    refine K_slot 20 (.bool (!decide (nm.data.toList.take kind.length = kind))) rfl (by rw [eqS_strOf]) ?_
    by_cases hp : nm.data.toList.take kind.length = kind
    · rw [decide_eq_true hp]
      have hh := hP (hiff.2 hp)
      rw [hh] at hE
      (refine go ?_)
      refine J_sliceStr (U := tab) (p := (kind.length : Int)) (q := (nm.size : Int)) rfl rfl rfl rfl rfl rfl (Int.natCast_nonneg _) hkn (Int.le_refl _) ?_
      (first | refine J_slot 26 ((.string (strOf (nm.data.toList.drop kind.length)))) rfl ((congrArg Value.string (ext_drop nm kind.length))) ?_ | refine K_slot 26 ((.string (strOf (nm.data.toList.drop kind.length)))) rfl ((congrArg Value.string (ext_drop nm kind.length))) ?_)
      have hpar := Parse_any (strOf (nm.data.toList.drop kind.length))
      rw [strOf_list] at hpar
      (first | refine J_callE rfl rfl rfl rfl (hpar) entA ?_ (fun _ _ _ _ _ => trivial) | refine J_call0E rfl rfl rfl (hpar) entA ?_ (fun _ _ _ _ _ => trivial) | (refine go ?_; first | refine J_callE rfl rfl rfl rfl (hpar) entA ?_ (fun _ _ _ _ _ => trivial) | refine J_call0E rfl rfl rfl (hpar) entA ?_ (fun _ _ _ _ _ => trivial)))
      rintro _ _ ⟨rfl, rfl⟩
      cases hpl : parseL (nm.data.toList.drop kind.length) with
      | none =>
        rw [hpl] at hE
        simp only
        unfold dV
        (refine go ?_)
        refine J_alloc (U := tab) rfl rfl rfl (fun _ _ _ => trivial) ?_
        intro b6
        (refine go ?_)
        refine J_loadArr (U := tab) (l := dC Dg.zero) 0 rfl rfl rfl rfl rfl rfl ?_
        (refine go ?_)
        (refine K_noMarks hE ?_; apply K_returnV (U := tab) hE Tryz.func66 rfl (Ent.refl _); (repeat (first | exact ResOk.nil | apply ResOk.tmp rfl | apply ResOk.agg 0 rfl rfl rfl rfl rfl | apply ResOk.agg 1 rfl rfl rfl rfl rfl | apply ResOk.agg 2 rfl rfl rfl rfl rfl | apply ResOk.agg 3 rfl rfl rfl rfl rfl | apply ResOk.agg 4 rfl rfl rfl rfl rfl | apply ResOk.agg 5 rfl rfl rfl rfl rfl | apply ResOk.agg 6 rfl rfl rfl rfl rfl | apply ResOk.agg 7 rfl rfl rfl rfl rfl | apply ResOk.agg 8 rfl rfl rfl rfl rfl | apply ResOk.one 0 rfl rfl rfl rfl | apply ResOk.one 1 rfl rfl rfl rfl | apply ResOk.one 2 rfl rfl rfl rfl | apply ResOk.one 3 rfl rfl rfl rfl | apply ResOk.one 4 rfl rfl rfl rfl | apply ResOk.one 5 rfl rfl rfl rfl | apply ResOk.one 6 rfl rfl rfl rfl)); exact ⟨rfl, rfl⟩; exact entA)
      | some d =>
        rw [hpl] at hE
        simp only
        unfold dV
        (refine go ?_)
        refine J_alloc (U := tab) rfl rfl rfl (fun _ _ _ => trivial) ?_
        intro b6
        (refine go ?_)
        refine J_loadArr (U := tab) (l := dC d) 0 rfl rfl rfl rfl rfl rfl ?_
        (refine go ?_)
        (refine K_noMarks hE ?_; apply K_returnV (U := tab) hE Tryz.func66 rfl (Ent.refl _); (repeat (first | exact ResOk.nil | apply ResOk.tmp rfl | apply ResOk.agg 0 rfl rfl rfl rfl rfl | apply ResOk.agg 1 rfl rfl rfl rfl rfl | apply ResOk.agg 2 rfl rfl rfl rfl rfl | apply ResOk.agg 3 rfl rfl rfl rfl rfl | apply ResOk.agg 4 rfl rfl rfl rfl rfl | apply ResOk.agg 5 rfl rfl rfl rfl rfl | apply ResOk.agg 6 rfl rfl rfl rfl rfl | apply ResOk.agg 7 rfl rfl rfl rfl rfl | apply ResOk.agg 8 rfl rfl rfl rfl rfl | apply ResOk.one 0 rfl rfl rfl rfl | apply ResOk.one 1 rfl rfl rfl rfl | apply ResOk.one 2 rfl rfl rfl rfl | apply ResOk.one 3 rfl rfl rfl rfl | apply ResOk.one 4 rfl rfl rfl rfl | apply ResOk.one 5 rfl rfl rfl rfl | apply ResOk.one 6 rfl rfl rfl rfl)); exact ⟨rfl, rfl⟩; exact entA)
    · rw [decide_eq_false hp]
      have hnone := hN (fun h => hp (hiff.1 h))
      rw [hnone] at hE
      (refine go ?_)
      refine J_build0 (U := tab) rfl rfl rfl rfl rfl ?_
      (refine go ?_)
      (refine K_noMarks hE ?_; apply K_returnV (U := tab) hE Tryz.func66 rfl (Ent.refl _); (repeat (first | exact ResOk.nil | apply ResOk.tmp rfl | apply ResOk.agg 0 rfl rfl rfl rfl rfl | apply ResOk.agg 1 rfl rfl rfl rfl rfl | apply ResOk.agg 2 rfl rfl rfl rfl rfl | apply ResOk.agg 3 rfl rfl rfl rfl rfl | apply ResOk.agg 4 rfl rfl rfl rfl rfl | apply ResOk.agg 5 rfl rfl rfl rfl rfl | apply ResOk.agg 6 rfl rfl rfl rfl rfl | apply ResOk.agg 7 rfl rfl rfl rfl rfl | apply ResOk.agg 8 rfl rfl rfl rfl rfl | apply ResOk.one 0 rfl rfl rfl rfl | apply ResOk.one 1 rfl rfl rfl rfl | apply ResOk.one 2 rfl rfl rfl rfl | apply ResOk.one 3 rfl rfl rfl rfl | apply ResOk.one 4 rfl rfl rfl rfl | apply ResOk.one 5 rfl rfl rfl rfl | apply ResOk.one 6 rfl rfl rfl rfl)); exact ⟨rfl, rfl⟩; exact entA)
theorem size_has (A : Ab) (nm : ByteArray) : decide (((A.size nm).2 : Int) = 0) = hasF A nm := by
  unfold Ab.size hasF
  cases A.look nm <;> rfl
theorem is_any (bs bd : Nat) (q : Int) (mb : Nat) (brk : Bool) (A : Ab) (nm : ByteArray) : Ctr Tryz.prog 54 [ptr bs, .string nm] [pts bs (cl (stC bd q mb brk) 92), diskA bd A]
    (fun r H => r = .bool (hasF A nm) ∧ H = [pts bs (cl (stC bd q mb brk) 92), diskA bd A]) := by
  have hs := size_has A nm
  refine Ctr.enter Tryz.func54 (by kernel_rfl) rfl Tryz.ntmps54 rfl rfl ?_
  intro G F R hE
  (refine go ?_)
  (first | refine J_callE rfl rfl rfl rfl (Size_dA bd A nm) entA ?_ (fun _ _ _ _ _ => trivial) | refine J_call0E rfl rfl rfl (Size_dA bd A nm) entA ?_ (fun _ _ _ _ _ => trivial) | (refine go ?_; first | refine J_callE rfl rfl rfl rfl (Size_dA bd A nm) entA ?_ (fun _ _ _ _ _ => trivial) | refine J_call0E rfl rfl rfl (Size_dA bd A nm) entA ?_ (fun _ _ _ _ _ => trivial)))
  rintro _ _ ⟨rfl, rfl⟩
  (refine go ?_)
  rw [← hs] at hE
  (first | refine K_return hE Tryz.func54 rfl _ rfl ⟨rfl, rfl⟩ entA | refine K_fallEnd hE Tryz.func54 rfl _ rfl ⟨rfl, rfl⟩ entA)
theorem bytes_any (bs bd : Nat) (q : Int) (mb : Nat) (brk : Bool) (A : Ab) (nm : ByteArray) : Ctr Tryz.prog 63 [ptr bs, .string nm] [pts bs (cl (stC bd q mb brk) 92), diskA bd A]
    (fun r H => ∃ rv, r = .tuple #[rv, .bool (bytesF A nm).isSome] ∧ H = [slc 5 1 rv ((bytesF A nm).getD []).length (bV ((bytesF A nm).getD [])), pts bs (cl (stC bd q mb brk) 92), diskA bd A]) := by
  refine Ctr.enter Tryz.func63 (by kernel_rfl) rfl Tryz.ntmps63 rfl rfl ?_
  intro G F R hE
  (refine go ?_)
  (first | refine J_callE rfl rfl rfl rfl (Size_dA bd A nm) entA ?_ (fun _ _ _ _ _ => trivial) | refine J_call0E rfl rfl rfl (Size_dA bd A nm) entA ?_ (fun _ _ _ _ _ => trivial) | (refine go ?_; first | refine J_callE rfl rfl rfl rfl (Size_dA bd A nm) entA ?_ (fun _ _ _ _ _ => trivial) | refine J_call0E rfl rfl rfl (Size_dA bd A nm) entA ?_ (fun _ _ _ _ _ => trivial)))
  rintro _ _ ⟨rfl, rfl⟩
  have hn : A.look nm = none → bytesF A nm = none ∧ A.size nm = (0, 4) := fun h => by unfold bytesF Ab.size; rw [h]; exact ⟨rfl, rfl⟩
  have hr : ∀ f, A.look nm = some f → A.size nm = ((A.now f).length, 0) ∧ A.read nm 0 ((A.now f).length : Int) = ((bytesF A nm).getD [], if (bytesF A nm).isSome then 0 else 7) := fun f h => by
    unfold bytesF Ab.size Ab.read
    rw [h]
    cases hoff : A.off with
    | true => exact ⟨rfl, rfl⟩
    | false =>
      refine ⟨rfl, ?_⟩
      simp only [Bool.false_eq_true, if_false, Option.getD_some, Option.isSome_some, if_true]
      rw [if_neg (by omega)]
      simp
  cases hl : A.look nm with
  | none =>
    obtain ⟨h1, h2⟩ := hn hl
    rw [h2]
    rw [h1] at hE
    simp only
    (refine go ?_)
    refine K_ent (slc_lift 5 1 none _) ?_
    (first | refine K_return hE Tryz.func63 rfl _ rfl ⟨_, rfl, rfl⟩ entA | refine K_fallEnd hE Tryz.func63 rfl _ rfl ⟨_, rfl, rfl⟩ entA)
  | some f =>
    obtain ⟨h1, h2⟩ := hr f hl
    rw [h1]
    simp only
    have hrd := Read_dA bd A nm 0 ((A.now f).length : Int)
    rw [h2] at hrd
    (refine go ?_)
    (first | refine J_callE rfl rfl rfl rfl (hrd) entA ?_ (fun _ _ _ _ _ => trivial) | refine J_call0E rfl rfl rfl (hrd) entA ?_ (fun _ _ _ _ _ => trivial) | (refine go ?_; first | refine J_callE rfl rfl rfl rfl (hrd) entA ?_ (fun _ _ _ _ _ => trivial) | refine J_call0E rfl rfl rfl (hrd) entA ?_ (fun _ _ _ _ _ => trivial)))
    rintro _ _ ⟨r, rfl, rfl⟩
    generalize bytesF A nm = o at hE ⊢
    cases o with
    | none =>
      (refine go ?_)
      (first | refine K_return hE Tryz.func63 rfl _ rfl ⟨_, rfl, rfl⟩ entA | refine K_fallEnd hE Tryz.func63 rfl _ rfl ⟨_, rfl, rfl⟩ entA)
    | some b =>
      (refine go ?_)
      (first | refine K_return hE Tryz.func63 rfl _ rfl ⟨_, rfl, rfl⟩ entA | refine K_fallEnd hE Tryz.func63 rfl _ rfl ⟨_, rfl, rfl⟩ entA)
end Go.Proofs.YtpecmnaikjbanaaGreatDoor

/- The reference's digest, part 1: words, a chunk. -/
set_option linter.unusedVariables false
set_option linter.unusedSimpArgs false
namespace Go.SL
open Go
namespace Sha
theorem shl_nat (c : UInt8) (k : Nat) (hk : k ≤ 24) : (wB c <<< k).toNat = c.toNat * 2 ^ k := by
  have := c.toNat_lt
  rw [BitVec.toNat_shiftLeft, wB_nat, Nat.shiftLeft_eq]
  have h2 : 2 ^ k ≤ 2 ^ 24 := Nat.pow_le_pow_right (by omega) hk
  rw [Nat.mod_eq_of_lt]
  calc c.toNat * 2 ^ k < 2 ^ 8 * 2 ^ 24 := Nat.mul_lt_mul_of_lt_of_le (by omega) h2 (Nat.pow_pos (by omega))
    _ = 2 ^ 32 := by decide
theorem word_nat (a b c d : Nat) (ha : a < 256) (hb : b < 256) (hc : c < 256) (hd : d < 256) : ((a * 2 ^ 24 ||| b * 2 ^ 16) ||| c * 2 ^ 8) ||| d = ((a * 256 + b) * 256 + c) * 256 + d := by
  have e1 : a * 2 ^ 24 ||| b * 2 ^ 16 = (a * 256 + b) * 2 ^ 16 := by
    rw [Nat.or_comm, or_disj (k := 24) (by omega)]; omega
  have e2 : (a * 256 + b) * 2 ^ 16 ||| c * 2 ^ 8 = ((a * 256 + b) * 256 + c) * 2 ^ 8 := by
    rw [Nat.or_comm, or_disj (k := 16) (by omega)]; omega
  have e3 : ((a * 256 + b) * 256 + c) * 2 ^ 8 ||| d = ((a * 256 + b) * 256 + c) * 256 + d := by
    rw [Nat.or_comm, or_disj (k := 8) (by omega)]; omega
  rw [e1, e2, e3]
theorem word_mul (a b c d : UInt8) : wB a * 16777216#32 + wB b * 65536#32 + wB c * 256#32 + wB d = (wB a <<< 24 ||| wB b <<< 16 ||| wB c <<< 8 ||| wB d : W32) := by
  have ha := a.toNat_lt; have hb := b.toNat_lt; have hc := c.toNat_lt; have hd := d.toNat_lt
  apply BitVec.eq_of_toNat_eq
  rw [BitVec.toNat_or, BitVec.toNat_or, BitVec.toNat_or, shl_nat _ 24 (by omega), shl_nat _ 16 (by omega), shl_nat _ 8 (by omega), wB_nat, word_nat _ _ _ _ ha hb hc hd,
    BitVec.toNat_add, BitVec.toNat_add, BitVec.toNat_add, BitVec.toNat_mul, BitVec.toNat_mul, BitVec.toNat_mul, wB_nat, wB_nat, wB_nat, wB_nat, BitVec.toNat_ofNat, BitVec.toNat_ofNat, BitVec.toNat_ofNat]
  generalize a.toNat = p at *
  generalize b.toNat = q at *
  generalize c.toNat = r at *
  generalize d.toNat = u at *
  omega
end Sha
end Go.SL
namespace Go.Proofs.YtpecmnaikjbanaaGreatDoor
open Go Go.SL
attribute [local irreducible] J K Ctr Ends pts slc mapR mapI sbRow stock arrS loopP CtrY
theorem turned_ref (x : W32) (n : Nat) (h1 : 1 ≤ n) (h2 : n ≤ 31) : Ctr Tryz.prog 134 [u32 x, .int .u64 (n : Int)] [] (fun r H => r = u32 (Sha.rot x n) ∧ H = []) := by
  unfold u32
  rw [← Sha.rot_xor x n h1 h2]
  refine Ctr.enter Tryz.func134 (by kernel_rfl) rfl Tryz.ntmps134 rfl rfl ?_
  intro G F R hE
  (refine go ?_)
  refine J_shrU n rfl rfl rfl rfl (by omega) ?_
  (refine go ?_)
  (first | refine J_slot 10 ((.int .u64 ((32 - n : Nat) : Int))) rfl ((congrArg (Value.int .u64) (by omega))) ?_ | refine K_slot 10 ((.int .u64 ((32 - n : Nat) : Int))) rfl ((congrArg (Value.int .u64) (by omega))) ?_)
  refine J_shlU (32 - n) rfl rfl rfl rfl (by omega) ?_
  refine J_xorU rfl rfl rfl ?_
  (refine go ?_)
  (first | refine K_return hE Tryz.func134 rfl _ rfl ⟨rfl, rfl⟩ entA | refine K_fallEnd hE Tryz.func134 rfl _ rfl ⟨rfl, rfl⟩ entA)
theorem two_ref (a b c : W32) : Ctr Tryz.prog 135 [u32 a, u32 b, u32 c] [] (fun r H => r = u32 (Sha.maj a b c) ∧ H = []) := by
  unfold u32
  rw [← Sha.maj_ref a b c]
  refine Ctr.enter Tryz.func135 (by kernel_rfl) rfl Tryz.ntmps135 rfl rfl ?_
  intro G F R hE
  (refine go ?_)
  (repeat (first | refine go1 ?_ | refine J_fork ?_ ?_ | refine J_andU rfl rfl rfl ?_ | refine J_orU rfl rfl rfl ?_))
  (first | refine K_return hE Tryz.func135 rfl _ rfl ⟨rfl, rfl⟩ entA | refine K_fallEnd hE Tryz.func135 rfl _ rfl ⟨rfl, rfl⟩ entA)
set_option maxRecDepth 20000 in
theorem constants_ref : Ctr Tryz.prog 133 [] [] (fun r H => r = .agg (wV Sha.ks).toArray ∧ H = []) := by
  refine Ctr.enter Tryz.func133 (by kernel_rfl) rfl Tryz.ntmps133 rfl rfl ?_
  intro G F R hE
  refine K_regionA rfl ?_
  refine J_alloc (U := tab) rfl rfl rfl (fun _ _ _ => trivial) ?_
  intro b0
  (refine goR ?_)
  refine K_regionA rfl ?_
  refine J_buildArr (U := tab) (cs := wV Sha.ks) rfl rfl rfl rfl rfl rfl ?_
  refine J_storeArr (U := tab) (l' := wV Sha.ks) 0 (fun _ _ => trivial) rfl rfl rfl rfl (by decide) (allOne_wV _) rfl rfl rfl ?_
  (refine go ?_)
  refine K_return1C (U := tab) 0 hE Tryz.func133 rfl rfl rfl rfl rfl rfl rfl ⟨rfl, rfl⟩ entA

theorem schedW_word (b : List UInt8) (t : Nat) (h : t < 16) : (Sha.schedW b t).set t (Sha.word b t) = Sha.schedW b (t + 1) := by
  unfold Sha.schedW
  rw [List.set_append_right _ _ (by rw [Sha.sched_len]; exact Nat.le_refl _), Sha.sched_len, Nat.sub_self, show 64 - t = (64 - (t + 1)) + 1 from by omega, List.replicate_succ, List.set_cons_zero]
  conv => rhs; unfold Sha.sched
  rw [if_pos h]
  simp
attribute [local irreducible] Sha.chunks Sha.chunk Sha.rounds Sha.sched sumL
set_option maxRecDepth 20000 in
theorem words_ref (A : HP) (v : Value) (b : List UInt8) (hv : BAt A v b) (h64 : 64 ≤ b.length) :
    Ctr Tryz.prog 132 [v] [A] (fun r H => r = .agg (wV (Sha.sched b 64)).toArray ∧ H = [A]) := by
  obtain ⟨a, c, rfl, hc⟩ := hv.2
  refine Ctr.enter Tryz.func132 (by kernel_rfl) rfl Tryz.ntmps132 rfl rfl ?_
  intro G F R hE
  refine K_regionA rfl ?_
  refine J_alloc (U := tab) rfl rfl rfl (fun _ _ _ => trivial) ?_
  intro b2
  (refine goR ?_)
  (refine K_regionA rfl ?_; refine goR ?_)
  refine J_alloc (U := tab) rfl rfl rfl (fun _ _ _ => trivial) ?_
  intro b3
  (refine go ?_)
  have hz : Sha.schedW b 0 = List.replicate 64 0 := by unfold Sha.schedW; unfold Sha.sched; rfl
  refine K_loop (fun t : Nat => t ≤ 16) (fun t => 16 - t)
    (fun t => [(0, .slice a b.length c), (2, ptr b2), (3, ptr b3), (4, .int .i64 (t : Int))])
    (fun t => pts b3 (cl (wV (Sha.schedW b t)) 161) :: pts b2 (cl (wV (List.replicate 64 0)) 161) :: A :: F) 0 (Nat.zero_le _) rfl (by repeat (first | exact keep_nil | refine keep_cons rfl ?_)) (by rw [hz]; exact entA) ?_
  rintro t ht ih
  have hlen := Sha.schedW_len b t (by omega)
  (refine go ?_)
  refine K_condP rfl rfl ?_ ?_
  · intro hlt
    have ht1 : t < 16 := by omega
    obtain ⟨bb, oo, cc, hsl⟩ := hv.1.some (by intro e; have := congrArg List.length e; rw [bV_length, List.length_nil] at this; omega)
    simp only [Value.slice.injEq, true_and] at hsl
    obtain ⟨rfl, rfl⟩ := hsl
    have hg : ∀ j, j < 4 → (bV b)[4 * t + j]? = some (u8 (b.getD (4 * t + j) 0)) := fun j hj => bV_get (by rw [List.getD_eq_getElem?_getD, List.getElem?_eq_getElem (by omega)]; rfl)
    have hset := schedW_word b t ht1
    have hw : wB (b.getD (4 * t + 0) 0) * 16777216#32 + wB (b.getD (4 * t + 1) 0) * 65536#32 + wB (b.getD (4 * t + 2) 0) * 256#32 + wB (b.getD (4 * t + 3) 0) = Sha.word b t := Sha.word_mul _ _ _ _
    have g0 := hg 0 (by omega)
    have g1 := hg 1 (by omega)
    have g2 := hg 2 (by omega)
    have g3 := hg 3 (by omega)
    generalize b.getD (4 * t + 0) 0 = x0 at hw g0
    generalize b.getD (4 * t + 1) 0 = x1 at hw g1
    generalize b.getD (4 * t + 2) 0 = x2 at hw g2
    generalize b.getD (4 * t + 3) 0 = x3 at hw g3
    (refine go ?_)
    refine K_drawA (fun w => Sat G w ([A])) (.st 0 (.st 1 (.st 2 (.st 3 (.st 4 (.st 5 (.st 6 (.st 7 (.st 8 (.st 9 (.st 10 (.st 11 (.st 12 (.st 13 (.st 14 (.st 15 (.st 16 (.st 17 (.st 18 (.st 19 (.st 20 (.st 21 (.st 22 (.st 23 (.st 24 (.st 25 (.st 26 (.st 27 (.st 28 (.st 29 (.st 30 (.st 31 (.st 32 (.st 33 (.st 34 (.act 35 .nil)))))))))))))))))))))))))))))))))))) rfl (by kernel_rfl) (by kernel_rfl) (by kernel_rfl) (fun w hw => hw.ent entA) ?_
    (refine go ?_)
    ((refine go ?_); refine J_mul rfl rfl rfl (by simp only [inK]; omega) ?_; (refine go ?_); refine J_at1 (U := tab) (4 * t + 0) rfl rfl rfl rfl rfl rfl rfl (by omega) (by omega) ?_; refine J_isLoad ?_; refine J_loadAtS (U := tab) 0 (4 * t + 0) rfl rfl rfl hv.1 rfl g0 rfl rfl ?_; refine J_isConv ?_; refine J_wordOf (U := tab) rfl rfl rfl rfl rfl rfl ?_)
    refine J_mulU (q := 16777216#32) rfl rfl rfl ?_
    ((refine go ?_); refine J_mul rfl rfl rfl (by simp only [inK]; omega) ?_; (refine go ?_); refine J_at1 (U := tab) (4 * t + 1) rfl rfl rfl rfl rfl rfl rfl (by omega) (by omega) ?_; refine J_isLoad ?_; refine J_loadAtS (U := tab) 0 (4 * t + 1) rfl rfl rfl hv.1 rfl g1 rfl rfl ?_; refine J_isConv ?_; refine J_wordOf (U := tab) rfl rfl rfl rfl rfl rfl ?_)
    refine J_mulU (q := 65536#32) rfl rfl rfl ?_
    refine J_addU rfl rfl rfl ?_
    ((refine go ?_); refine J_mul rfl rfl rfl (by simp only [inK]; omega) ?_; (refine go ?_); refine J_at1 (U := tab) (4 * t + 2) rfl rfl rfl rfl rfl rfl rfl (by omega) (by omega) ?_; refine J_isLoad ?_; refine J_loadAtS (U := tab) 0 (4 * t + 2) rfl rfl rfl hv.1 rfl g2 rfl rfl ?_; refine J_isConv ?_; refine J_wordOf (U := tab) rfl rfl rfl rfl rfl rfl ?_)
    refine J_mulU (q := 256#32) rfl rfl rfl ?_
    refine J_addU rfl rfl rfl ?_
    ((refine go ?_); refine J_mul rfl rfl rfl (by simp only [inK]; omega) ?_; (refine go ?_); refine J_at1 (U := tab) (4 * t + 3) rfl rfl rfl rfl rfl rfl rfl (by omega) (by omega) ?_; refine J_isLoad ?_; refine J_loadAtS (U := tab) 0 (4 * t + 3) rfl rfl rfl hv.1 rfl g3 rfl rfl ?_; refine J_isConv ?_; refine J_wordOf (U := tab) rfl rfl rfl rfl rfl rfl ?_)
    refine J_addU rfl rfl rfl ?_
    rw [hw]
    refine J_arrAt (U := tab) t rfl rfl rfl rfl rfl rfl rfl rfl (by omega) ?_
    refine J_isStore ?_
    refine J_storeCell (U := tab) 0 (fun _ _ => trivial) rfl rfl rfl rfl rfl rfl rfl (by rw [wV_len, hlen]; omega) rfl ?_
    rw [show 0 + t = t from Nat.zero_add _]
    (refine go ?_)
    have hset2 := (wV_set (Sha.schedW b t) t _).trans (congrArg wV hset)
    refine K_ent (H' := pts b3 (cl (wV (Sha.schedW b (t + 1))) 161) :: pts b2 (cl (wV (List.replicate 64 0)) 161) :: A :: F) (by rw [← hset2]; exact Ent.refl _) ?_
    refine K_again ih (t + 1) rfl (by omega) (by omega) (by repeat (first | exact keep_nil | refine keep_cons rfl ?_)) entA
  intro hge
  have ht16 : t = 16 := by omega
  subst ht16
  clear ih
  (refine go ?_)
  refine K_loop (fun t : Nat => 16 ≤ t ∧ t ≤ 64) (fun t => 64 - t)
    (fun t => [(2, ptr b2), (3, ptr b3), (5, .int .i64 (t : Int))])
    (fun t => pts b3 (cl (wV (Sha.schedW b t)) 161) :: pts b2 (cl (wV (List.replicate 64 0)) 161) :: A :: F) 16 ⟨by omega, by omega⟩ rfl (by repeat (first | exact keep_nil | refine keep_cons rfl ?_)) entA ?_
  rintro t ⟨ht1, ht2⟩ ih
  have hlen := Sha.schedW_len b t ht2
  (refine go ?_)
  refine K_condP rfl rfl ?_ ?_
  · intro hlt
    have ht : t < 64 := by omega
    have g2 := Sha.schedW_get b t (t - 2) (by omega)
    have g7 := Sha.schedW_get b t (t - 7) (by omega)
    have g15 := Sha.schedW_get b t (t - 15) (by omega)
    have g16 := Sha.schedW_get b t (t - 16) (by omega)
    have hstep := Sha.schedW_step b t ht1 ht
    generalize (Sha.sched b t).getD (t - 2) 0 = y2 at g2 hstep
    generalize (Sha.sched b t).getD (t - 7) 0 = y7 at g7 hstep
    generalize (Sha.sched b t).getD (t - 15) 0 = y15 at g15 hstep
    generalize (Sha.sched b t).getD (t - 16) 0 = y16 at g16 hstep
    have hcomm : y16 + y7 + (Sha.rot y15 7 ^^^ Sha.rot y15 18 ^^^ y15 >>> 3) + (Sha.rot y2 17 ^^^ Sha.rot y2 19 ^^^ y2 >>> 10) = y16 + y7 + Sha.s1 y2 + Sha.s0 y15 := by
      show y16 + y7 + Sha.s0 y15 + Sha.s1 y2 = _
      rw [BitVec.add_assoc, BitVec.add_comm (Sha.s0 y15), ← BitVec.add_assoc]
    (refine go ?_)
    refine J_arrAt (U := tab) (t - 15) rfl rfl rfl rfl rfl rfl rfl (by omega) (by omega) ?_
    refine J_isLoad ?_
    refine J_loadCell (U := tab) 0 (t - 15) rfl rfl rfl (Nat.zero_add _) (wV_get g15) rfl rfl ?_
    (refine go ?_)
    refine J_arrAt (U := tab) (t - 2) rfl rfl rfl rfl rfl rfl rfl (by omega) (by omega) ?_
    refine J_isLoad ?_
    refine J_loadCell (U := tab) 0 (t - 2) rfl rfl rfl (Nat.zero_add _) (wV_get g2) rfl rfl ?_
    (refine go ?_)
    refine K_drawA (fun w => Sat G w ([pts b3 (cl (wV (Sha.schedW b t)) 161)])) (.st 0 (.st 1 (.st 2 (.st 3 (.st 4 (.st 5 (.st 6 (.st 7 (.st 8 (.st 9 (.st 10 (.st 12 (.st 15 (.st 16 (.st 19 (.st 21 (.st 24 (.st 25 (.act 11 (.act 13 (.st 14 (.st 17 (.st 18 (.act 20 (.act 22 (.st 23 (.st 26 (.st 27 (.st 28 (.act 29 .nil)))))))))))))))))))))))))))))) rfl (by kernel_rfl) (by kernel_rfl) (by kernel_rfl) (fun w hw => hw.ent entA) ?_
    (refine go ?_)
    refine J_arrAt (U := tab) (t - 16) rfl rfl rfl rfl rfl rfl rfl (by omega) (by omega) ?_
    refine J_isLoad ?_
    refine J_loadCellS (U := tab) 0 (t - 16) rfl rfl rfl (Nat.zero_add _) (wV_get g16) rfl rfl ?_
    (refine go ?_)
    refine J_arrAt (U := tab) (t - 7) rfl rfl rfl rfl rfl rfl rfl (by omega) (by omega) ?_
    refine J_isLoad ?_
    refine J_loadCellS (U := tab) 0 (t - 7) rfl rfl rfl (Nat.zero_add _) (wV_get g7) rfl rfl ?_
    refine J_addU rfl rfl rfl ?_
    (refine go ?_)
    refine J_shrU 3 rfl rfl rfl rfl (by omega) ?_
    (refine go ?_)
    refine J_shrU 10 rfl rfl rfl rfl (by omega) ?_
    (first | refine J_callE rfl rfl rfl rfl ((turned_ref y15 7 (by omega) (by omega))) entA ?_ (fun _ _ w hp hw => by obtain ⟨rfl, rfl⟩ := hp; exact hw.ent entA) | refine J_call0E rfl rfl rfl ((turned_ref y15 7 (by omega) (by omega))) entA ?_ (fun _ _ w hp hw => by obtain ⟨rfl, rfl⟩ := hp; exact hw.ent entA))
    rintro _ _ ⟨rfl, rfl⟩
    (first | refine J_callE rfl rfl rfl rfl ((turned_ref y15 18 (by omega) (by omega))) entA ?_ (fun _ _ w hp hw => by obtain ⟨rfl, rfl⟩ := hp; exact hw.ent entA) | refine J_call0E rfl rfl rfl ((turned_ref y15 18 (by omega) (by omega))) entA ?_ (fun _ _ w hp hw => by obtain ⟨rfl, rfl⟩ := hp; exact hw.ent entA))
    rintro _ _ ⟨rfl, rfl⟩
    refine J_xorU rfl rfl rfl ?_
    refine J_xorU rfl rfl rfl ?_
    refine J_addU rfl rfl rfl ?_
    (first | refine J_callE rfl rfl rfl rfl ((turned_ref y2 17 (by omega) (by omega))) entA ?_ (fun _ _ w hp hw => by obtain ⟨rfl, rfl⟩ := hp; exact hw.ent entA) | refine J_call0E rfl rfl rfl ((turned_ref y2 17 (by omega) (by omega))) entA ?_ (fun _ _ w hp hw => by obtain ⟨rfl, rfl⟩ := hp; exact hw.ent entA))
    rintro _ _ ⟨rfl, rfl⟩
    (first | refine J_callE rfl rfl rfl rfl ((turned_ref y2 19 (by omega) (by omega))) entA ?_ (fun _ _ w hp hw => by obtain ⟨rfl, rfl⟩ := hp; exact hw.ent entA) | refine J_call0E rfl rfl rfl ((turned_ref y2 19 (by omega) (by omega))) entA ?_ (fun _ _ w hp hw => by obtain ⟨rfl, rfl⟩ := hp; exact hw.ent entA))
    rintro _ _ ⟨rfl, rfl⟩
    refine J_xorU rfl rfl rfl ?_
    refine J_xorU rfl rfl rfl ?_
    refine J_addU rfl rfl rfl ?_
    rw [hcomm]
    refine J_arrAt (U := tab) t rfl rfl rfl rfl rfl rfl rfl rfl (by omega) ?_
    refine J_isStore ?_
    refine J_storeCell (U := tab) 0 (fun _ _ => trivial) rfl rfl rfl rfl rfl rfl rfl (by rw [wV_len, hlen]; omega) rfl ?_
    rw [show 0 + t = t from Nat.zero_add _]
    (refine go ?_)
    have hset2 := (wV_set (Sha.schedW b t) t _).trans (congrArg wV hstep)
    refine K_ent (H' := pts b3 (cl (wV (Sha.schedW b (t + 1))) 161) :: pts b2 (cl (wV (List.replicate 64 0)) 161) :: A :: F) (by rw [← hset2]; exact Ent.refl _) ?_
    refine K_again ih (t + 1) rfl ⟨by omega, by omega⟩ (by omega) (by repeat (first | exact keep_nil | refine keep_cons rfl ?_)) entA
  intro hge
  have ht64 : t = 64 := by omega
  subst ht64
  rw [Sha.schedW_end]
  have hWl : (wV (Sha.sched b 64)).length = 64 := by rw [wV_len, Sha.sched_len]
  have hone : allOne (wV (Sha.sched b 64)) = true := allOne_wV _
  generalize wV (Sha.sched b 64) = W at hWl hone hE ⊢
  (refine go ?_)
  refine J_loadArr (U := tab) 0 rfl rfl rfl rfl rfl hWl ?_
  refine J_storeArr (U := tab) 1 (fun _ _ => trivial) rfl rfl rfl hWl (by intro e; rw [e] at hWl; cases hWl) hone rfl (by rw [hWl]; simp [wV_len]) rfl ?_
  (refine go ?_)
  refine K_return1C (U := tab) 1 hE Tryz.func132 rfl rfl rfl rfl rfl hWl rfl ⟨rfl, rfl⟩ entA
end Go.Proofs.YtpecmnaikjbanaaGreatDoor

/- The reference's digest, part 2: the state behind a chunk. -/
set_option linter.unusedVariables false
set_option linter.unusedSimpArgs false
namespace Go.SL
open Go
namespace Sha
def addUp (n o : List W32) (i : Nat) : List W32 := (List.zipWith (· + ·) n o).take i ++ n.drop i
theorem addUp_len {n o : List W32} {k i : Nat} (hn : n.length = k) (ho : o.length = k) (hi : i ≤ k) : (addUp n o i).length = k := by
  unfold addUp; rw [List.length_append, List.length_take, List.length_zipWith, List.length_drop]; omega
theorem addUp_get {n o : List W32} {k i : Nat} (hn : n.length = k) (ho : o.length = k) (hi : i < k) : (addUp n o i)[i]? = some (n.getD i 0) := by
  unfold addUp
  have h1 : ((List.zipWith (· + ·) n o).take i).length = i := by rw [List.length_take, List.length_zipWith]; omega
  rw [List.getElem?_append_right (by omega), h1, Nat.sub_self, List.getElem?_drop, Nat.add_zero, List.getD_eq_getElem?_getD, List.getElem?_eq_getElem (by omega)]; rfl
theorem addUp_set {n o : List W32} {k i : Nat} (hn : n.length = k) (ho : o.length = k) (hi : i < k) : (addUp n o i).set i (n.getD i 0 + o.getD i 0) = addUp n o (i + 1) := by
  unfold addUp
  have h1 : ((List.zipWith (· + ·) n o).take i).length = i := by rw [List.length_take, List.length_zipWith]; omega
  rw [List.set_append_right _ _ (by omega), h1, Nat.sub_self, List.take_add_one]
  have h2 : n.drop i = n[i] :: n.drop (i + 1) := List.drop_eq_getElem_cons (by omega)
  have h3 : (List.zipWith (· + ·) n o)[i]? = some (n.getD i 0 + o.getD i 0) := by
    rw [List.getElem?_zipWith, List.getD_eq_getElem?_getD, List.getD_eq_getElem?_getD, List.getElem?_eq_getElem (show i < n.length by omega), List.getElem?_eq_getElem (show i < o.length by omega)]; rfl
  rw [h2, List.set_cons_zero, h3]; simp
theorem addUp_end (s t : St) : addUp t.l s.l 8 = (plus s t).l := by
  unfold addUp
  simp only [St.l, plus, List.zipWith_cons_cons, List.zipWith_nil_left, List.take_succ_cons, List.take_zero, List.drop_succ_cons, List.drop_zero, List.append_nil, BitVec.add_comm]
end Sha
end Go.SL
namespace Go.Proofs.YtpecmnaikjbanaaGreatDoor
open Go Go.SL
attribute [local irreducible] J K Ctr Ends pts slc mapR mapI sbRow stock arrS loopP CtrY Sha.chunks Sha.chunk Sha.rounds Sha.sched sumL Sha.addUp
set_option maxRecDepth 20000 in
theorem chunk_ref (A : HP) (v : Value) (b : List UInt8) (hv : BAt A v b) (h64 : 64 ≤ b.length) (s : Sha.St) :
    Ctr Tryz.prog 91 [stV s, v] [A] (fun r H => r = stV (Sha.chunk s b) ∧ H = [A]) := by
  have hwd := words_ref A v b hv h64
  obtain ⟨a, c, rfl, hc⟩ := hv.2
  have hwl : (Sha.sched b 64).length = 64 := Sha.sched_len b 64
  have hch : Sha.chunk s b = Sha.plus s (Sha.rounds s (Sha.sched b 64) 64) := by unfold Sha.chunk; rfl
  rw [hch]
  generalize Sha.sched b 64 = W at hwd hwl ⊢
  have hl8 : ∀ s : Sha.St, (wV s.l).length = 8 := fun s => rfl
  have hl8' : ∀ s : Sha.St, s.l.length = 8 := fun s => rfl
  have hWV : (wV W).length = 64 := by rw [wV_len]; exact hwl
  have hne8 : ∀ s : Sha.St, wV s.l ≠ [] := fun s e => by have := congrArg List.length e; rw [hl8] at this; cases this
  unfold stV
  refine Ctr.enter Tryz.func91 (by kernel_rfl) rfl Tryz.ntmps91 rfl rfl ?_
  intro G F R hE
  refine K_regionA rfl ?_
  refine J_box rfl rfl (fun _ _ _ => trivial) ?_
  intro b2
  refine J_alloc (U := tab) rfl rfl rfl (fun _ _ _ => trivial) ?_
  intro b4
  (refine go ?_)
  (first | refine J_callE rfl rfl rfl rfl (hwd) entA ?_ (fun _ _ _ _ _ => trivial) | refine J_call0E rfl rfl rfl (hwd) entA ?_ (fun _ _ _ _ _ => trivial) | (refine go ?_; first | refine J_callE rfl rfl rfl rfl (hwd) entA ?_ (fun _ _ _ _ _ => trivial) | refine J_call0E rfl rfl rfl (hwd) entA ?_ (fun _ _ _ _ _ => trivial)))
  rintro _ _ ⟨rfl, rfl⟩
  refine J_alloc (U := tab) rfl rfl rfl (fun _ _ _ => trivial) ?_
  intro b5
  refine J_isStore ?_
  refine J_storeArr (U := tab) (l' := wV W) 0 (fun _ _ => trivial) rfl rfl rfl hWV (by intro e; rw [e] at hWV; cases hWV) (allOne_wV _) rfl (by rw [hWV]; rfl) rfl ?_
  (refine go ?_)
  (first | refine J_callE rfl rfl rfl rfl (constants_ref) entA ?_ (fun _ _ _ _ _ => trivial) | refine J_call0E rfl rfl rfl (constants_ref) entA ?_ (fun _ _ _ _ _ => trivial) | (refine go ?_; first | refine J_callE rfl rfl rfl rfl (constants_ref) entA ?_ (fun _ _ _ _ _ => trivial) | refine J_call0E rfl rfl rfl (constants_ref) entA ?_ (fun _ _ _ _ _ => trivial)))
  rintro _ _ ⟨rfl, rfl⟩
  refine J_alloc (U := tab) rfl rfl rfl (fun _ _ _ => trivial) ?_
  intro b6
  refine J_isStore ?_
  refine J_storeArr (U := tab) (l' := wV Sha.ks) 0 (fun _ _ => trivial) rfl rfl rfl rfl (by decide) (allOne_wV _) rfl rfl rfl ?_
  (refine go ?_)
  refine J_ent (H' := pts b2 (cl (wV s.l) 130) :: pts b6 (cl (wV Sha.ks) 161) :: pts b5 (cl (wV W) 161) :: pts b4 (cl (wV (List.replicate 8 0)) 130) :: A :: F) entA ?_
  refine J_loadArr (U := tab) (l := wV s.l) 0 rfl rfl rfl rfl rfl rfl ?_
  refine J_alloc (U := tab) rfl rfl rfl (fun _ _ _ => trivial) ?_
  intro b7
  refine J_isStore ?_
  refine J_storeArr (U := tab) (l' := wV s.l) 0 (fun _ _ => trivial) rfl rfl rfl rfl (hne8 s) (allOne_wV _) rfl rfl rfl ?_
  (refine go ?_)
  refine K_loop (fun t : Nat => t ≤ 64) (fun t => 64 - t)
    (fun t => [(2, ptr b2), (4, ptr b4), (5, ptr b5), (6, ptr b6), (7, ptr b7), (8, .int .i64 (t : Int))])
    (fun t => pts b7 (cl (wV (Sha.rounds s W t).l) 130) :: pts b2 (cl (wV s.l) 130) :: pts b6 (cl (wV Sha.ks) 161) :: pts b5 (cl (wV W) 161) :: pts b4 (cl (wV (List.replicate 8 0)) 130) :: A :: F) 0 (Nat.zero_le _) rfl (by repeat (first | exact keep_nil | refine keep_cons rfl ?_)) (by unfold Sha.rounds; exact entA) ?_
  rintro t ht ih
  (refine go ?_)
  refine K_condP rfl rfl ?_ ?_
  · intro hlt
    have ht1 : t < 64 := by omega
    have hr : Sha.rounds s W (t + 1) = Sha.round (Sha.rounds s W t) (Sha.ks.getD t 0) (W.getD t 0) := by conv => lhs; unfold Sha.rounds
    generalize Sha.rounds s W t = T at hr ⊢
    obtain ⟨ta, tb, tc, td, te, tf, tg, th⟩ := T
    have hwg : (wV W)[t]? = some (u32 (W.getD t 0)) := wV_get (by rw [List.getD_eq_getElem?_getD, List.getElem?_eq_getElem (by omega)]; rfl)
    have hkg := wV_get (ks_get ht1)
    generalize Sha.ks.getD t 0 = kt at hr hkg
    generalize W.getD t 0 = wt at hr hwg
    rw [show wV (Sha.St.l ⟨ta, tb, tc, td, te, tf, tg, th⟩) = [u32 ta, u32 tb, u32 tc, u32 td, u32 te, u32 tf, u32 tg, u32 th] from rfl]
    have hround : wV (Sha.rounds s W (t + 1)).l = [u32 (th + (Sha.rot te 6 ^^^ Sha.rot te 11 ^^^ Sha.rot te 25) + (te &&& tf ||| ~~~te &&& tg) + kt + wt + ((Sha.rot ta 2 ^^^ Sha.rot ta 13 ^^^ Sha.rot ta 22) + Sha.maj ta tb tc)), u32 ta, u32 tb, u32 tc, u32 (td + (th + (Sha.rot te 6 ^^^ Sha.rot te 11 ^^^ Sha.rot te 25) + (te &&& tf ||| ~~~te &&& tg) + kt + wt)), u32 te, u32 tf, u32 tg] := by
      rw [hr, Sha.ch_ref]; rfl
    clear hr
    (refine go ?_)
    (repeat (first | refine go1 ?_ | refine J_fork ?_ ?_ | refine J_indexArr (U := tab) rfl rfl rfl rfl rfl rfl (by omega) (by omega) ?_))
    refine K_drawA (fun w => Sat G w ([pts b7 (cl [u32 ta, u32 tb, u32 tc, u32 td, u32 te, u32 tf, u32 tg, u32 th] 130), pts b6 (cl (wV Sha.ks) 161), pts b5 (cl (wV W) 161)])) (.st 0 (.st 1 (.st 2 (.st 4 (.st 7 (.st 11 (.st 12 (.st 13 (.st 14 (.st 15 (.st 16 (.st 17 (.st 18 (.st 19 (.st 20 (.st 22 (.st 23 (.st 24 (.st 26 (.st 27 (.st 28 (.act 3 (.act 5 (.st 6 (.act 8 (.st 9 (.st 10 (.st 21 (.st 25 (.st 29 (.st 30 .nil))))))))))))))))))))))))))))))) rfl (by kernel_rfl) (by kernel_rfl) (by kernel_rfl) (fun w hw => hw.ent entA) ?_
    (refine go ?_)
    (repeat (first | refine go1 ?_ | refine J_fork ?_ ?_ | refine J_arrAt (U := tab) t rfl rfl rfl rfl rfl rfl rfl rfl ht1 ?_ | refine J_indexArr (U := tab) rfl rfl rfl rfl rfl rfl (by omega) (by omega) ?_ | refine J_andU rfl rfl rfl ?_ | refine J_notU rfl rfl ?_ | refine J_orU rfl rfl rfl ?_ | (refine J_isLoad ?_; first | refine J_loadCellS (U := tab) 1 t rfl rfl rfl (Nat.zero_add _) hkg rfl rfl ?_ | refine J_loadCellS (U := tab) 2 t rfl rfl rfl (Nat.zero_add _) hwg rfl rfl ?_)))
    (first | refine J_callE rfl rfl rfl rfl ((turned_ref te 6 (by omega) (by omega))) entA ?_ (fun _ _ w hp hw => by obtain ⟨rfl, rfl⟩ := hp; exact hw.ent entA) | refine J_call0E rfl rfl rfl ((turned_ref te 6 (by omega) (by omega))) entA ?_ (fun _ _ w hp hw => by obtain ⟨rfl, rfl⟩ := hp; exact hw.ent entA))
    rintro _ _ ⟨rfl, rfl⟩
    (first | refine J_callE rfl rfl rfl rfl ((turned_ref te 11 (by omega) (by omega))) entA ?_ (fun _ _ w hp hw => by obtain ⟨rfl, rfl⟩ := hp; exact hw.ent entA) | refine J_call0E rfl rfl rfl ((turned_ref te 11 (by omega) (by omega))) entA ?_ (fun _ _ w hp hw => by obtain ⟨rfl, rfl⟩ := hp; exact hw.ent entA))
    rintro _ _ ⟨rfl, rfl⟩
    refine J_xorU rfl rfl rfl ?_
    (first | refine J_callE rfl rfl rfl rfl ((turned_ref te 25 (by omega) (by omega))) entA ?_ (fun _ _ w hp hw => by obtain ⟨rfl, rfl⟩ := hp; exact hw.ent entA) | refine J_call0E rfl rfl rfl ((turned_ref te 25 (by omega) (by omega))) entA ?_ (fun _ _ w hp hw => by obtain ⟨rfl, rfl⟩ := hp; exact hw.ent entA))
    rintro _ _ ⟨rfl, rfl⟩
    (repeat (first | refine go1 ?_ | refine J_fork ?_ ?_ | refine J_xorU rfl rfl rfl ?_ | refine J_addU rfl rfl rfl ?_))
    refine K_drawA (fun w => Sat G w ([pts b7 (cl [u32 ta, u32 tb, u32 tc, u32 td, u32 te, u32 tf, u32 tg, u32 th] 130)])) (.st 0 (.st 2 (.st 5 (.st 8 (.st 9 (.st 10 (.st 11 (.st 12 (.act 1 (.act 3 (.st 4 (.act 6 (.st 7 (.act 13 (.st 14 (.st 15 .nil)))))))))))))))) rfl (by kernel_rfl) (by kernel_rfl) (by kernel_rfl) (fun w hw => hw.ent entA) ?_
    (refine go ?_)
    (repeat (first | refine go1 ?_ | refine J_fork ?_ ?_ | refine J_indexArr (U := tab) rfl rfl rfl rfl rfl rfl (by omega) (by omega) ?_))
    (first | refine J_callE rfl rfl rfl rfl ((turned_ref ta 2 (by omega) (by omega))) entA ?_ (fun _ _ w hp hw => by obtain ⟨rfl, rfl⟩ := hp; exact hw.ent entA) | refine J_call0E rfl rfl rfl ((turned_ref ta 2 (by omega) (by omega))) entA ?_ (fun _ _ w hp hw => by obtain ⟨rfl, rfl⟩ := hp; exact hw.ent entA))
    rintro _ _ ⟨rfl, rfl⟩
    (first | refine J_callE rfl rfl rfl rfl ((turned_ref ta 13 (by omega) (by omega))) entA ?_ (fun _ _ w hp hw => by obtain ⟨rfl, rfl⟩ := hp; exact hw.ent entA) | refine J_call0E rfl rfl rfl ((turned_ref ta 13 (by omega) (by omega))) entA ?_ (fun _ _ w hp hw => by obtain ⟨rfl, rfl⟩ := hp; exact hw.ent entA))
    rintro _ _ ⟨rfl, rfl⟩
    refine J_xorU rfl rfl rfl ?_
    (first | refine J_callE rfl rfl rfl rfl ((turned_ref ta 22 (by omega) (by omega))) entA ?_ (fun _ _ w hp hw => by obtain ⟨rfl, rfl⟩ := hp; exact hw.ent entA) | refine J_call0E rfl rfl rfl ((turned_ref ta 22 (by omega) (by omega))) entA ?_ (fun _ _ w hp hw => by obtain ⟨rfl, rfl⟩ := hp; exact hw.ent entA))
    rintro _ _ ⟨rfl, rfl⟩
    refine J_xorU rfl rfl rfl ?_
    (first | refine J_callE rfl rfl rfl rfl ((two_ref ta tb tc)) entA ?_ (fun _ _ w hp hw => by obtain ⟨rfl, rfl⟩ := hp; exact hw.ent entA) | refine J_call0E rfl rfl rfl ((two_ref ta tb tc)) entA ?_ (fun _ _ w hp hw => by obtain ⟨rfl, rfl⟩ := hp; exact hw.ent entA))
    rintro _ _ ⟨rfl, rfl⟩
    refine J_addU rfl rfl rfl ?_
    (repeat (first | refine go1 ?_ | refine J_fork ?_ ?_ | refine J_indexArr (U := tab) rfl rfl rfl rfl rfl rfl (by omega) (by omega) ?_ | refine J_addU rfl rfl rfl ?_))
    refine J_buildArr (U := tab) (cs := wV (Sha.rounds s W (t + 1)).l) rfl rfl rfl rfl rfl (by rw [hround]; rfl) ?_
    refine J_isStore ?_
    refine J_storeArr (U := tab) (l' := wV (Sha.rounds s W (t + 1)).l) 0 (fun _ _ => trivial) rfl rfl rfl rfl (hne8 _) (allOne_wV _) rfl rfl rfl ?_
    (refine go ?_)
    refine K_again ih (t + 1) rfl (by omega) (by omega) (by repeat (first | exact keep_nil | refine keep_cons rfl ?_)) entA
  intro hge
  have ht64 : t = 64 := by omega
  subst ht64
  clear ih
  rw [← Sha.addUp_end] at hE
  generalize Sha.rounds s W 64 = T at hE ⊢
  (refine go ?_)
  have hT8 := hl8' T
  have hs8 := hl8' s
  refine K_loop (fun i : Nat => i ≤ 8) (fun i => 8 - i)
    (fun i => [(2, ptr b2), (4, ptr b4), (7, ptr b7), (13, .int .i64 (i : Int))])
    (fun i => pts b7 (cl (wV (Sha.addUp T.l s.l i)) 130) :: pts b2 (cl (wV s.l) 130) :: pts b4 (cl (wV (List.replicate 8 0)) 130) :: A :: F) 0 (Nat.zero_le _) rfl (by repeat (first | exact keep_nil | refine keep_cons rfl ?_)) (by unfold Sha.addUp; exact entA) ?_
  rintro i hi ih
  have hal := Sha.addUp_len hT8 hs8 hi
  (refine go ?_)
  refine K_condP rfl rfl ?_ ?_
  · intro hlt
    have hi8 : i < 8 := by omega
    have hg1 := Sha.addUp_get hT8 hs8 hi8
    have hg2 : s.l[i]? = some (s.l.getD i 0) := by rw [List.getD_eq_getElem?_getD, List.getElem?_eq_getElem (by omega)]; rfl
    have hset := Sha.addUp_set hT8 hs8 hi8
    generalize T.l.getD i 0 = x at hg1 hset
    generalize s.l.getD i 0 = y at hg2 hset
    (refine go ?_)
    refine K_drawA (fun w => Sat G w ([pts b7 (cl (wV (Sha.addUp T.l s.l i)) 130), pts b2 (cl (wV s.l) 130)])) (.st 0 (.st 1 (.st 2 (.st 3 (.st 4 (.st 5 (.st 6 (.st 7 (.st 8 (.act 9 .nil)))))))))) rfl (by kernel_rfl) (by kernel_rfl) (by kernel_rfl) (fun w hw => hw.ent entA) ?_
    (refine go ?_)
    (repeat (first | refine go1 ?_ | refine J_fork ?_ ?_ | refine J_arrAt (U := tab) i rfl rfl rfl rfl rfl rfl rfl rfl hi8 ?_ | (refine J_isLoad ?_; first | refine J_loadCellS (U := tab) 0 i rfl rfl rfl (Nat.zero_add _) (wV_get hg1) rfl rfl ?_ | refine J_loadCellS (U := tab) 1 i rfl rfl rfl (Nat.zero_add _) (wV_get hg2) rfl rfl ?_) | refine J_addU rfl rfl rfl ?_))
    refine J_isStore ?_
    refine J_storeCell (U := tab) 0 (fun _ _ => trivial) rfl rfl rfl rfl rfl rfl rfl (by rw [wV_len, hal]; omega) rfl ?_
    rw [show 0 + i = i from Nat.zero_add _]
    (refine go ?_)
    have hset2 := (wV_set (Sha.addUp T.l s.l i) i _).trans (congrArg wV hset)
    refine K_ent (H' := pts b7 (cl (wV (Sha.addUp T.l s.l (i + 1))) 130) :: pts b2 (cl (wV s.l) 130) :: pts b4 (cl (wV (List.replicate 8 0)) 130) :: A :: F) (by rw [← hset2]; exact Ent.refl _) ?_
    refine K_again ih (i + 1) rfl (by omega) (by omega) (by repeat (first | exact keep_nil | refine keep_cons rfl ?_)) entA
  intro hge
  have hi8 : i = 8 := by omega
  subst hi8
  clear ih
  have hone := allOne_wV (Sha.addUp T.l s.l 8)
  have hXl : (wV (Sha.addUp T.l s.l 8)).length = 8 := by rw [wV_len]; exact hal
  generalize wV (Sha.addUp T.l s.l 8) = X at hone hXl hE ⊢
  (refine go ?_)
  refine J_loadArr (U := tab) 0 rfl rfl rfl rfl rfl hXl ?_
  refine J_storeArr (U := tab) 2 (fun _ _ => trivial) rfl rfl rfl hXl (by intro e; rw [e] at hXl; cases hXl) hone rfl (by rw [hXl]; rfl) rfl ?_
  (refine go ?_)
  refine K_return1C (U := tab) 2 hE Tryz.func91 rfl rfl rfl rfl rfl hXl rfl ⟨rfl, rfl⟩ entA
end Go.Proofs.YtpecmnaikjbanaaGreatDoor

/- The reference's digest, part 3: the sum. -/
set_option linter.unusedVariables false
set_option linter.unusedSimpArgs false
namespace Go.Proofs.YtpecmnaikjbanaaGreatDoor
open Go Go.SL
attribute [local irreducible] J K Ctr Ends pts slc mapR mapI sbRow stock arrS loopP CtrY Sha.chunks Sha.chunk Sha.rounds Sha.sched sumL
set_option maxRecDepth 20000 in
theorem Sum_ref (A : HP) (v : Value) (b : List UInt8) (hv : BAt A v b) (hl : b.length ≤ 1000000000) :
    Ctr Tryz.prog 41 [v] [A] (fun r H => r = dV (sumL b) ∧ H = [A]) := by
  obtain ⟨a, c, rfl, hc⟩ := hv.2
  refine Ctr.enter Tryz.func41 (by kernel_rfl) rfl Tryz.ntmps41 rfl rfl ?_
  intro G F R hE
  refine K_regionA rfl ?_
  refine J_alloc (U := tab) rfl rfl rfl (fun _ _ _ => trivial) ?_
  intro b2
  (refine goR ?_)
  (refine K_regionA rfl ?_; refine goR ?_)
  refine J_buildSlice1 (U := tab) (cs := []) rfl rfl rfl rfl rfl rfl rfl rfl rfl (fun _ _ _ => trivial) ?_
  intro b0
  (refine go ?_)
  (refine J_ent (slc_row 5 1 b0 0 0 [] [] _ rfl (Nat.le_refl _) (by simp)) ?_; refine J_append (U := tab) (mm := (b).length) (news := bV (b)) 0 2 rfl rfl rfl rfl rfl rfl rfl rfl rfl rfl rfl rfl (hv.1) (by show _ = _ * 1; rw [bV_length]; omega) (bV_one _) (by omega) (by show (_ + _) * 1 ≤ _; omega) (fun _ => rfl) (fun _ _ _ => trivial) ?_; intro vA; rw [Nat.zero_add, List.nil_append]; (first | refine J_shape 0 rfl ?_ | refine K_shape 0 rfl ?_); rintro aA cA rfl)
  (refine go ?_)
  (refine J_buildSlice1 (U := tab) (cs := bV [(128 : UInt8)]) rfl rfl rfl rfl rfl rfl rfl rfl rfl (fun _ _ _ => trivial) ?_; intro bA; refine J_append (U := tab) (mm := 1) (news := bV [(128 : UInt8)]) 1 0 rfl rfl rfl rfl rfl rfl rfl rfl rfl rfl rfl rfl (Vw.pts rfl) rfl (bV_one _) (by omega) (by show (_ + _) * 1 ≤ _; omega) (fun _ => rfl) (fun _ _ _ => trivial) ?_; intro vA; rw [show bV (b) ++ bV [(128 : UInt8)] = bV ((b) ++ [(128 : UInt8)]) from by simp [bV], show (b).length + 1 = ((b) ++ [(128 : UInt8)]).length from (@List.length_append _ (b) [(128 : UInt8)]).symm]; (first | refine J_shape 1 rfl ?_ | refine K_shape 1 rfl ?_); rintro aA cA rfl)
  (refine go ?_)
  obtain ⟨z, hz⟩ : ∃ z, z = (119 - b.length % 64) % 64 := ⟨_, rfl⟩
  have hz1 : (b.length + 1 + z) % 64 = 56 := by omega
  have hz2 : z < 64 := by omega
  have hl2 : ∀ j : Nat, (b ++ 128 :: List.replicate j (0 : UInt8)).length = b.length + 1 + j := fun j => by simp; omega
  refine K_loop (fun y : Nat × Option Addr × Nat => y.1 ≤ z) (fun y => z - y.1)
    (fun y => [(0, .slice a b.length c), (2, ptr b2), (3, .slice y.2.1 (b ++ 128 :: List.replicate y.1 (0 : UInt8)).length y.2.2)])
    (fun y => slc 5 1 (.slice y.2.1 (b ++ 128 :: List.replicate y.1 (0 : UInt8)).length y.2.2) (b ++ 128 :: List.replicate y.1 (0 : UInt8)).length (bV (b ++ 128 :: List.replicate y.1 (0 : UInt8))) :: A :: pts b2 (cl (dC Dg.zero) 30) :: F) (0, aA, cA) (Nat.zero_le _) rfl (by repeat (first | exact keep_nil | refine keep_cons rfl ?_)) entA ?_
  rintro ⟨j, a2, c2⟩ hj ih
  simp only at hj
  have hlj := hl2 j
  dsimp only
  (refine go ?_)
  refine J_rem rfl rfl rfl (by omega) (by omega) ?_
  (refine go ?_)
  refine K_condP rfl rfl ?_ ?_
  · intro hne
    have hjz : j < z := by
      rcases Nat.lt_or_ge j z with h | h
      · exact h
      · exfalso
        apply hne
        rw [hlj]
        have : j = z := by omega
        subst this
        omega
    (refine go ?_)
    (refine J_buildSlice1 (U := tab) (cs := bV [(0 : UInt8)]) rfl rfl rfl rfl rfl rfl rfl rfl rfl (fun _ _ _ => trivial) ?_; intro bA; refine J_append (U := tab) (mm := 1) (news := bV [(0 : UInt8)]) 1 0 rfl rfl rfl rfl rfl rfl rfl rfl rfl rfl rfl rfl (Vw.pts rfl) rfl (bV_one _) (by (rw [hlj]; omega)) (by show (_ + _) * 1 ≤ _; (rw [hlj]; omega)) (fun _ => rfl) (fun _ _ _ => trivial) ?_; intro vA; rw [show bV ((b ++ 128 :: List.replicate j (0 : UInt8))) ++ bV [(0 : UInt8)] = bV (((b ++ 128 :: List.replicate j (0 : UInt8))) ++ [(0 : UInt8)]) from by simp [bV], show ((b ++ 128 :: List.replicate j (0 : UInt8))).length + 1 = (((b ++ 128 :: List.replicate j (0 : UInt8))) ++ [(0 : UInt8)]).length from (@List.length_append _ ((b ++ 128 :: List.replicate j (0 : UInt8))) [(0 : UInt8)]).symm]; (first | refine J_shape 1 rfl ?_ | refine K_shape 1 rfl ?_); rintro aA cA rfl)
    rw [show b ++ 128 :: List.replicate j (0 : UInt8) ++ [0] = b ++ 128 :: List.replicate (j + 1) (0 : UInt8) from by rw [List.replicate_succ']; simp]
    (refine go ?_)
    refine K_again ih (j + 1, aA, cA) rfl (by simp only; omega) (by simp only; omega) (by repeat (first | exact keep_nil | refine keep_cons rfl ?_)) entA
  intro heq
  have hjz : j = z := by
    have heq2 : ((b.length + 1 + j : Nat) : Int) % 64 = 56 := by rw [← hlj]; exact Decidable.not_not.1 heq
    omega
  subst hjz
  clear ih
  obtain ⟨T0, hT0⟩ : ∃ T0, T0 = b ++ 128 :: List.replicate j (0 : UInt8) := ⟨_, rfl⟩
  rw [← hT0] at hlj ⊢
  have hl3 : ∀ i : Nat, i ≤ 8 → (T0 ++ (Sha.be8 (8 * b.length)).take i).length = T0.length + i := fun i hi => by
    rw [List.length_append, List.length_take]; simp only [Sha.be8, List.length_map, List.length_range]; omega
  (refine go ?_)
  refine J_mul rfl rfl rfl (by simp only [inK]; omega) ?_
  (first | refine J_slot 24 ((.int .u64 ((8 * b.length : Nat) : Int))) rfl ((congrArg (Value.int .u64) (by omega))) ?_ | refine K_slot 24 ((.int .u64 ((8 * b.length : Nat) : Int))) rfl ((congrArg (Value.int .u64) (by omega))) ?_)
  (refine go ?_)
  refine K_loop (fun y : Nat × Option Addr × Nat => y.1 ≤ 8) (fun y => 8 - y.1)
    (fun y => [(2, ptr b2), (3, .slice y.2.1 (T0 ++ (Sha.be8 (8 * b.length)).take y.1).length y.2.2), (4, .int .u64 ((8 * b.length : Nat) : Int)), (5, .int .i64 (y.1 : Int))])
    (fun y => slc 5 1 (.slice y.2.1 (T0 ++ (Sha.be8 (8 * b.length)).take y.1).length y.2.2) (T0 ++ (Sha.be8 (8 * b.length)).take y.1).length (bV (T0 ++ (Sha.be8 (8 * b.length)).take y.1)) :: A :: pts b2 (cl (dC Dg.zero) 30) :: F) (0, a2, c2) (Nat.zero_le _) rfl (by simp only [List.take_zero, List.append_nil]; exact (by repeat (first | exact keep_nil | refine keep_cons rfl ?_))) (by simp only [List.take_zero, List.append_nil]; exact entA) ?_
  rintro ⟨i, a3, c3⟩ hi ih
  simp only at hi
  have hli := hl3 i hi
  dsimp only
  (refine go ?_)
  refine K_condP rfl rfl ?_ ?_
  · intro hlt
    have hi8 : i < 8 := by omega
    have hbe : (Sha.be8 (8 * b.length)).take (i + 1) = (Sha.be8 (8 * b.length)).take i ++ [UInt8.ofNat (8 * b.length / 2 ^ (56 - 8 * i))] := by
      rw [List.take_add_one]; simp [Sha.be8, hi8]
    (refine go ?_)
    refine J_mul rfl rfl rfl (by simp only [inK]; omega) ?_
    (refine go ?_)
    (first | refine J_slot 34 ((.int .u64 ((56 - 8 * i : Nat) : Int))) rfl ((congrArg (Value.int .u64) (by omega))) ?_ | refine K_slot 34 ((.int .u64 ((56 - 8 * i : Nat) : Int))) rfl ((congrArg (Value.int .u64) (by omega))) ?_)
    refine J_shr rfl rfl rfl (by omega) ?_
    (first | refine J_slot 35 ((.int .u64 ((8 * b.length / 2 ^ (56 - 8 * i) : Nat) : Int))) rfl ((congrArg (Value.int .u64) (by rw [Int.toNat_natCast, show min (56 - 8 * i) IntKind.u64.bits = 56 - 8 * i from by show min (56 - 8 * i) 64 = _; omega]; simp))) ?_ | refine K_slot 35 ((.int .u64 ((8 * b.length / 2 ^ (56 - 8 * i) : Nat) : Int))) rfl ((congrArg (Value.int .u64) (by rw [Int.toNat_natCast, show min (56 - 8 * i) IntKind.u64.bits = 56 - 8 * i from by show min (56 - 8 * i) 64 = _; omega]; simp))) ?_)
    refine J_isConv ?_
    refine J_convW (U := tab) rfl rfl rfl rfl rfl rfl ?_
    (first | refine J_slot 36 ((u8 (UInt8.ofNat (8 * b.length / 2 ^ (56 - 8 * i))))) rfl ((conv_u8 _)) ?_ | refine K_slot 36 ((u8 (UInt8.ofNat (8 * b.length / 2 ^ (56 - 8 * i))))) rfl ((conv_u8 _)) ?_)
    (refine J_buildSlice1 (U := tab) (cs := bV [(UInt8.ofNat (8 * b.length / 2 ^ (56 - 8 * i)))]) rfl rfl rfl rfl rfl rfl rfl rfl rfl (fun _ _ _ => trivial) ?_; intro bA; refine J_append (U := tab) (mm := 1) (news := bV [(UInt8.ofNat (8 * b.length / 2 ^ (56 - 8 * i)))]) 1 0 rfl rfl rfl rfl rfl rfl rfl rfl rfl rfl rfl rfl (Vw.pts rfl) rfl (bV_one _) (by (rw [hli]; omega)) (by show (_ + _) * 1 ≤ _; (rw [hli]; omega)) (fun _ => rfl) (fun _ _ _ => trivial) ?_; intro vA; rw [show bV ((T0 ++ (Sha.be8 (8 * b.length)).take i)) ++ bV [(UInt8.ofNat (8 * b.length / 2 ^ (56 - 8 * i)))] = bV (((T0 ++ (Sha.be8 (8 * b.length)).take i)) ++ [(UInt8.ofNat (8 * b.length / 2 ^ (56 - 8 * i)))]) from by simp [bV], show ((T0 ++ (Sha.be8 (8 * b.length)).take i)).length + 1 = (((T0 ++ (Sha.be8 (8 * b.length)).take i)) ++ [(UInt8.ofNat (8 * b.length / 2 ^ (56 - 8 * i)))]).length from (@List.length_append _ ((T0 ++ (Sha.be8 (8 * b.length)).take i)) [(UInt8.ofNat (8 * b.length / 2 ^ (56 - 8 * i)))]).symm]; (first | refine J_shape 1 rfl ?_ | refine K_shape 1 rfl ?_); rintro aA cA rfl)
    rw [show T0 ++ (Sha.be8 (8 * b.length)).take i ++ [UInt8.ofNat (8 * b.length / 2 ^ (56 - 8 * i))] = T0 ++ (Sha.be8 (8 * b.length)).take (i + 1) from by rw [hbe, List.append_assoc]]
    (refine go ?_)
    refine K_again ih (i + 1, aA, cA) rfl (by simp only; omega) (by simp only; omega) (by repeat (first | exact keep_nil | refine keep_cons rfl ?_)) entA
  intro hge
  have hi8 : i = 8 := by omega
  subst hi8
  clear ih
  have hmsg : T0 ++ (Sha.be8 (8 * b.length)).take 8 = Sha.msg b := by
    rw [hT0, List.take_of_length_le (by simp [Sha.be8])]
    unfold Sha.msg Sha.pad
    rw [← hz]; simp
  have hsum : (sumL b).bs = Sha.out (Sha.chunks Sha.start (Sha.msg b) ((Sha.msg b).length / 64)) := sumL_bs b
  rw [← hmsg] at hsum
  generalize T0 ++ (Sha.be8 (8 * b.length)).take 8 = T at hli hsum ⊢
  have hT64 : T.length % 64 = 0 := by omega
  have hTl : T.length ≤ 1000000200 := by omega
  clear hlj hl3 hT0 hl2 hz hz1 hz2 hli hmsg
  have hl8 : ∀ s : Sha.St, (wV s.l).length = 8 := fun s => rfl
  have hne8 : ∀ s : Sha.St, wV s.l ≠ [] := fun s e => by have := congrArg List.length e; rw [hl8] at this; cases this
  refine K_slcB (bs := T) 0 rfl ?_
  intro hvT
  have hvT2 : BAt (Sep [slc 5 1 (.slice a3 T.length c3) T.length (bV T), A]) (.slice a3 T.length c3) T := hvT.mono (Sep_get (i := 0) rfl)
  refine K_ent (Ent.resep [_, _] _) ?_
  (refine go ?_)
  refine J_buildArr (U := tab) (cs := wV Sha.start.l) rfl rfl rfl rfl rfl rfl ?_
  refine J_alloc (U := tab) rfl rfl rfl (fun _ _ _ => trivial) ?_
  intro b6
  refine J_isStore ?_
  refine J_storeArr (U := tab) (l' := wV Sha.start.l) 0 (fun _ _ => trivial) rfl rfl rfl rfl (by decide) (allOne_wV _) rfl rfl rfl ?_
  (refine go ?_)
  refine K_loop (fun y : Nat × Option Addr × Nat => 64 * y.1 ≤ T.length ∧ BAt (Sep [slc 5 1 (.slice a3 T.length c3) T.length (bV T), A]) (.slice y.2.1 (T.length - 64 * y.1) y.2.2) (T.drop (64 * y.1))) (fun y => T.length - 64 * y.1)
    (fun y => [(2, ptr b2), (6, ptr b6), (3, .slice y.2.1 (T.length - 64 * y.1) y.2.2)])
    (fun y => pts b6 (cl (wV (Sha.chunks Sha.start T y.1).l) 130) :: Sep [slc 5 1 (.slice a3 T.length c3) T.length (bV T), A] :: pts b2 (cl (dC Dg.zero) 30) :: F) (0, a3, c3) ⟨by omega, hvT2⟩ rfl (by repeat (first | exact keep_nil | refine keep_cons rfl ?_)) (by unfold Sha.chunks; exact entA) ?_
  rintro ⟨q, a4, c4⟩ ⟨hq, hbq⟩ ih
  simp only at hq hbq
  dsimp only
  (refine go ?_)
  refine K_condP rfl rfl ?_ ?_
  · intro hlt
    have hq1 : 64 * q + 64 ≤ T.length := by omega
    have hdl : (T.drop (64 * q)).length = T.length - 64 * q := List.length_drop
    have hfr := hbq.front 64 (by rw [hdl]; omega)
    have hct := hbq.cut 64 (by rw [hdl]; omega)
    have htk : ((T.drop (64 * q)).take 64).length = 64 := by rw [List.length_take, hdl]; omega
    have hch := chunk_ref _ _ _ hfr (by rw [htk]; omega) (Sha.chunks Sha.start T q)
    have hnx : Sha.chunk (Sha.chunks Sha.start T q) ((T.drop (64 * q)).take 64) = Sha.chunks Sha.start T (q + 1) := by
      have h1 := Sha.chunk_app (Sha.chunks Sha.start T q) ((T.drop (64 * q)).take 64) ((T.drop (64 * q)).drop 64) (by rw [htk]; omega)
      rw [List.take_append_drop] at h1
      rw [← h1]
      conv => rhs; unfold Sha.chunks
    rw [hnx] at hch
    (refine go ?_)
    refine K_drawA (fun w => Sat G w ([pts b6 (cl (wV (Sha.chunks Sha.start T q).l) 130)])) (.st 0 (.st 1 (.st 2 (.act 3 (.act 4 .nil))))) rfl (by kernel_rfl) (by kernel_rfl) (by kernel_rfl) (fun w hw => hw.ent entA) ?_
    (refine go ?_)
    refine J_loadArrS (U := tab) 0 rfl rfl rfl rfl rfl rfl ?_
    (refine go ?_)
    refine J_sliceAny (U := tab) (p := 0) (q := 64) rfl rfl rfl rfl rfl rfl rfl (by omega) (by omega) (.inr (by obtain ⟨_, _, _, he, hcc⟩ := hbq; simp only [Value.slice.injEq] at he; rw [hdl] at hcc; omega)) ?_
    (first | refine J_slot 45 ((.slice (sliceAt a4 c4 0 1) 64 c4)) rfl (rfl) ?_ | refine K_slot 45 ((.slice (sliceAt a4 c4 0 1) 64 c4)) rfl (rfl) ?_)
    (first | refine J_callE rfl rfl rfl rfl (hch) entA ?_ (fun _ _ w hp hw => by obtain ⟨rfl, rfl⟩ := hp; exact hw.ent entA) | refine J_call0E rfl rfl rfl (hch) entA ?_ (fun _ _ w hp hw => by obtain ⟨rfl, rfl⟩ := hp; exact hw.ent entA))
    rintro _ _ ⟨rfl, rfl⟩
    unfold stV
    refine J_isStore ?_
    refine J_storeArr (U := tab) 1 (fun _ _ => trivial) rfl rfl rfl rfl (hne8 _) (allOne_wV _) rfl (by rw [hl8, hl8]) rfl ?_
    (refine go ?_)
    refine J_sliceAny (U := tab) (p := 64) (q := ((T.length - 64 * q : Nat) : Int)) rfl rfl rfl rfl rfl rfl rfl (by omega) (by omega) (.inl rfl) ?_
    (first | refine J_slot 48 ((.slice (sliceAt a4 c4 64 1) (T.length - 64 * (q + 1)) (c4 - 64))) rfl ((by rw [show (((T.length - 64 * q : Nat) : Int)).toNat - (64 : Int).toNat = T.length - 64 * (q + 1) from by omega]; rfl)) ?_ | refine K_slot 48 ((.slice (sliceAt a4 c4 64 1) (T.length - 64 * (q + 1)) (c4 - 64))) rfl ((by rw [show (((T.length - 64 * q : Nat) : Int)).toNat - (64 : Int).toNat = T.length - 64 * (q + 1) from by omega]; rfl)) ?_)
    (refine go ?_)
    rw [List.drop_drop, hdl, show T.length - 64 * q - 64 = T.length - 64 * (q + 1) from by omega, show 64 * q + 64 = 64 * (q + 1) from by omega] at hct
    refine K_again ih (q + 1, sliceAt a4 c4 64 1, c4 - 64) rfl ⟨by simp only; omega, hct⟩ (by simp only; omega) (by repeat (first | exact keep_nil | refine keep_cons rfl ?_)) entA
  intro hge
  have hqe : q = T.length / 64 := by omega
  subst hqe
  clear ih
  generalize Sha.chunks Sha.start T (T.length / 64) = S2 at hsum ⊢
  refine K_ent (Ent.trans (Ent.pick [1] rfl) (Ent.unsep _ _)) ?_
  (refine go ?_)
  refine J_alloc (U := tab) rfl rfl rfl (fun _ _ _ => trivial) ?_
  intro b9
  (refine go ?_)
  have hol := Sha.out_len S2
  have hdl : ∀ i, i ≤ 32 → ((Sha.out S2).take i ++ List.replicate (32 - i) (0 : UInt8)).length = 32 := fun i hi => by
    rw [List.length_append, List.length_take, List.length_replicate, hol]; omega
  refine K_loop (fun i : Nat => i ≤ 32) (fun i => 32 - i)
    (fun i => [(2, ptr b2), (6, ptr b6), (7, ptr b9), (8, .int .i64 (i : Int))])
    (fun i => pts b9 (cl (bV ((Sha.out S2).take i ++ List.replicate (32 - i) (0 : UInt8))) 30) :: pts b6 (cl (wV S2.l) 130) :: pts b2 (cl (dC Dg.zero) 30) :: A :: F) 0 (Nat.zero_le _) rfl (by repeat (first | exact keep_nil | refine keep_cons rfl ?_)) entA ?_
  rintro i hi ih
  (refine go ?_)
  refine K_condP rfl rfl ?_ ?_
  · intro hlt
    have hi32 : i < 32 := by omega
    have hq4 : (i : Int) / 4 = ((i / 4 : Nat) : Int) := by omega
    have hr4 : 24 - 8 * ((i : Int) % 4) = ((24 - 8 * (i % 4) : Nat) : Int) := by omega
    have hwg : (wV S2.l)[i / 4]? = some (u32 (S2.l.getD (i / 4) 0)) := wV_get (by rw [List.getD_eq_getElem?_getD, List.getElem?_eq_getElem (show i / 4 < S2.l.length from by show i / 4 < 8; omega)]; rfl)
    have hout : (Sha.out S2)[i]? = some (UInt8.ofNat ((S2.l.getD (i / 4) 0) >>> (24 - 8 * (i % 4))).toNat) := by simp [Sha.out, hi32]
    (repeat (first | refine go1 ?_ | refine J_fork ?_ ?_ | refine J_quo rfl rfl rfl (by omega) (by omega) (by simp only [inK]; omega) ?_ | refine J_rem rfl rfl rfl (by omega) (by omega) ?_ | refine J_mul rfl rfl rfl (by simp only [inK]; omega) ?_ | refine J_arrAt (U := tab) (i / 4) rfl rfl rfl rfl rfl rfl rfl hq4 (by omega) ?_ | (refine J_isLoad ?_; refine J_loadCell (U := tab) 1 (i / 4) rfl rfl rfl (Nat.zero_add _) hwg rfl rfl ?_) | refine J_shrU (24 - 8 * (i % 4)) rfl rfl rfl hr4 (by omega) ?_ | (refine J_isConv ?_; refine J_byteOfU (U := tab) rfl rfl rfl rfl rfl rfl ?_) | refine J_arrAt (U := tab) i rfl rfl rfl rfl rfl rfl rfl rfl hi32 ?_))
    refine J_isStore ?_
    refine J_storeCell (U := tab) 0 (fun _ _ => trivial) rfl rfl rfl rfl rfl rfl rfl (by rw [bV_length, hdl i (by omega)]; omega) rfl ?_
    rw [show 0 + i = i from Nat.zero_add _, put_byte hol hout]
    (refine go ?_)
    refine K_again ih (i + 1) rfl (by omega) (by omega) (by repeat (first | exact keep_nil | refine keep_cons rfl ?_)) entA
  intro hge
  have hi32 : i = 32 := by omega
  subst hi32
  rw [List.take_of_length_le (by omega), show 32 - 32 = 0 from rfl, List.replicate_zero, List.append_nil, ← hsum, ← dC_bV]
  clear ih hdl hol hsum
  (refine go ?_)
  refine J_loadArr (U := tab) (l := dC (sumL b)) 0 rfl rfl rfl rfl rfl rfl ?_
  refine J_storeArr (U := tab) (l' := dC (sumL b)) 2 (fun _ _ => trivial) rfl rfl rfl rfl (by intro e; cases e) (by rw [dC_bV]; exact allOne_bV _) rfl rfl rfl ?_
  (refine go ?_)
  (refine K_noMarks hE ?_; apply K_returnV (U := tab) hE Tryz.func41 rfl (Ent.refl _); (repeat (first | exact ResOk.nil | apply ResOk.tmp rfl | apply ResOk.agg 0 rfl rfl rfl rfl rfl | apply ResOk.agg 1 rfl rfl rfl rfl rfl | apply ResOk.agg 2 rfl rfl rfl rfl rfl | apply ResOk.agg 3 rfl rfl rfl rfl rfl | apply ResOk.agg 4 rfl rfl rfl rfl rfl | apply ResOk.agg 5 rfl rfl rfl rfl rfl | apply ResOk.agg 6 rfl rfl rfl rfl rfl | apply ResOk.agg 7 rfl rfl rfl rfl rfl | apply ResOk.agg 8 rfl rfl rfl rfl rfl | apply ResOk.one 0 rfl rfl rfl rfl | apply ResOk.one 1 rfl rfl rfl rfl | apply ResOk.one 2 rfl rfl rfl rfl | apply ResOk.one 3 rfl rfl rfl rfl | apply ResOk.one 4 rfl rfl rfl rfl | apply ResOk.one 5 rfl rfl rfl rfl | apply ResOk.one 6 rfl rfl rfl rfl)); exact ⟨rfl, rfl⟩; exact entA)
end Go.Proofs.YtpecmnaikjbanaaGreatDoor

/- The reference's digest, part 4: text, parts; the reference's merkle. -/
set_option linter.unusedVariables false
set_option linter.unusedSimpArgs false
namespace Go.Proofs.YtpecmnaikjbanaaGreatDoor
open Go Go.SL
attribute [local irreducible] J K Ctr Ends pts slc mapR mapI sbRow stock arrS loopP CtrY Sha.chunks Sha.chunk Sha.rounds Sha.sched sumL taggedL
set_option maxRecDepth 20000 in
theorem Parts_ref (A : HP) (tag : UInt8) (v : Value) (ps : List (List UInt8)) (hv : LAt A v ps) (hl : (partsL tag ps).length ≤ 1000000000) :
    Ctr Tryz.prog 136 [u8 tag, v] [A] (fun r H => H = [slc 5 1 r (partsL tag ps).length (bV (partsL tag ps)), A]) := by
  obtain ⟨cs, hvw, hcl, ⟨a, c, rfl, hc⟩, hel⟩ := hv
  have hcnt := partsL_count tag ps
  refine Ctr.enter Tryz.func136 (by kernel_rfl) rfl Tryz.ntmps136 rfl rfl ?_
  intro G F R hE
  (refine go ?_)
  refine J_buildSlice1 (U := tab) (cs := bV [tag]) rfl rfl rfl rfl rfl rfl rfl rfl rfl (fun _ _ _ => trivial) ?_
  intro b0
  (refine go ?_)
  refine K_ent (slc_row 5 1 b0 1 1 (bV [tag]) [] _ rfl (Nat.le_refl _) (by simp [bV])) ?_
  refine K_loop (fun y : Nat × Option Addr × Nat => y.1 ≤ ps.length) (fun y => ps.length - y.1)
    (fun y => [(1, .slice a ps.length c), (6, .int .i64 (y.1 : Int)), (5, .slice y.2.1 (partsL tag (ps.take y.1)).length y.2.2)])
    (fun y => slc 5 1 (.slice y.2.1 (partsL tag (ps.take y.1)).length y.2.2) (partsL tag (ps.take y.1)).length (bV (partsL tag (ps.take y.1))) :: A :: F) (0, some ⟨b0, 0, none⟩, 1) (Nat.zero_le _) rfl (by repeat (first | exact keep_nil | refine keep_cons rfl ?_)) entA ?_
  rintro ⟨i, a1, c1⟩ hi ih
  simp only at hi
  dsimp only
  (refine go ?_)
  refine K_condP rfl rfl ?_ ?_
  · intro hlt
    have hil : i < ps.length := by omega
    obtain ⟨p, hp⟩ : ∃ p, ps[i]? = some p := ⟨ps[i], List.getElem?_eq_getElem hil⟩
    obtain ⟨cv, hcv, hb⟩ := hel i p hp
    obtain ⟨b1, o1, c0, he0⟩ := hvw.some (by intro h; rw [h] at hcv; simp at hcv)
    simp only [Value.slice.injEq] at he0
    obtain ⟨rfl, -, rfl⟩ := he0
    have htk := partsL_take (tag := tag) hp
    have hle := partsL_le tag ps (i + 1)
    have hlen8 := le8_len p.length
    rw [htk] at hle
    simp only [List.length_append] at hle
    obtain ⟨T0, hT0⟩ : ∃ T0, T0 = partsL tag (ps.take i) := ⟨_, rfl⟩
    rw [← hT0] at htk hle ⊢
    obtain ⟨ax, cx, rfl, hcx⟩ := hb.2
    have hl3 : ∀ j : Nat, j ≤ 8 → (T0 ++ (le8 p.length).take j).length = T0.length + j := fun j hj => by
      rw [List.length_append, List.length_take]; omega
    (refine go ?_)
    refine J_at1 (U := tab) i rfl rfl rfl rfl rfl rfl rfl rfl hil ?_
    refine J_isLoad ?_
    refine J_loadAt (U := tab) 1 i rfl rfl rfl hvw rfl hcv rfl rfl ?_
    (refine go ?_)
    refine K_loop (fun y : Nat × Option Addr × Nat => y.1 ≤ 8) (fun y => 8 - y.1)
      (fun y => [(1, .slice (some ⟨b1, o1, none⟩) ps.length c), (6, .int .i64 (i : Int)), (7, .int .u64 ((p.length / 2 ^ (8 * y.1) : Nat) : Int)), (5, .slice y.2.1 (T0 ++ (le8 p.length).take y.1).length y.2.2), (8, .int .i64 (y.1 : Int))])
      (fun y => slc 5 1 (.slice y.2.1 (T0 ++ (le8 p.length).take y.1).length y.2.2) (T0 ++ (le8 p.length).take y.1).length (bV (T0 ++ (le8 p.length).take y.1)) :: A :: F) (0, a1, c1) (Nat.zero_le _) rfl (by simp only [List.take_zero, List.append_nil, Nat.mul_zero, Nat.pow_zero, Nat.div_one]; exact (by repeat (first | exact keep_nil | refine keep_cons rfl ?_))) (by simp only [List.take_zero, List.append_nil]; exact entA) ?_
    rintro ⟨j, a2, c2⟩ hj ih2
    simp only at hj
    have hlj := hl3 j hj
    dsimp only
    (refine go ?_)
    refine K_condP rfl rfl ?_ ?_
    · intro hj8
      have hj8' : j < 8 := by omega
      have htj := le8_take (n := p.length) hj8'
      obtain ⟨m, hm⟩ : ∃ m, m = p.length / 2 ^ (8 * j) := ⟨_, rfl⟩
      have hmle : m ≤ p.length := by rw [hm]; exact Nat.div_le_self _ _
      have hmn : p.length / 2 ^ (8 * (j + 1)) = m / 256 := by
        rw [hm, Nat.div_div_eq_div_mul, show 8 * (j + 1) = 8 * j + 8 from by omega, Nat.pow_add]
      rw [← hm] at htj ⊢
      (refine go ?_)
      refine J_rem rfl rfl rfl (by omega) (by omega) ?_
      refine J_isConv ?_
      refine J_convW (U := tab) rfl rfl rfl rfl rfl rfl ?_
      (first | refine J_slot 30 ((u8 (UInt8.ofNat m))) rfl ((by rw [show ((m : Int) % 256) = ((m % 256 : Nat) : Int) from by omega, conv_u8]; congr 1; apply UInt8.toNat.inj; simp only [UInt8.toNat_ofNat']; omega)) ?_ | refine K_slot 30 ((u8 (UInt8.ofNat m))) rfl ((by rw [show ((m : Int) % 256) = ((m % 256 : Nat) : Int) from by omega, conv_u8]; congr 1; apply UInt8.toNat.inj; simp only [UInt8.toNat_ofNat']; omega)) ?_)
      (refine J_buildSlice1 (U := tab) (cs := bV [(UInt8.ofNat m)]) rfl rfl rfl rfl rfl rfl rfl rfl rfl (fun _ _ _ => trivial) ?_; intro bA; refine J_append (U := tab) (mm := 1) (news := bV [(UInt8.ofNat m)]) 1 0 rfl rfl rfl rfl rfl rfl rfl rfl rfl rfl rfl rfl (Vw.pts rfl) rfl (bV_one _) (by (rw [hlj]; omega)) (by show (_ + _) * 1 ≤ _; (rw [hlj]; omega)) (fun _ => rfl) (fun _ _ _ => trivial) ?_; intro vA; rw [show bV ((T0 ++ (le8 p.length).take j)) ++ bV [(UInt8.ofNat m)] = bV (((T0 ++ (le8 p.length).take j)) ++ [(UInt8.ofNat m)]) from by simp [bV], show ((T0 ++ (le8 p.length).take j)).length + 1 = (((T0 ++ (le8 p.length).take j)) ++ [(UInt8.ofNat m)]).length from (@List.length_append _ ((T0 ++ (le8 p.length).take j)) [(UInt8.ofNat m)]).symm]; (first | refine J_shape 1 rfl ?_ | refine K_shape 1 rfl ?_); rintro aA cA rfl)
      rw [show T0 ++ (le8 p.length).take j ++ [UInt8.ofNat m] = T0 ++ (le8 p.length).take (j + 1) from by rw [htj, List.append_assoc]]
      (refine go ?_)
      refine J_quo rfl rfl rfl (by omega) (by omega) (by simp only [inK]; omega) ?_
      (first | refine J_slot 34 ((.int .u64 ((p.length / 2 ^ (8 * (j + 1)) : Nat) : Int))) rfl ((congrArg (Value.int .u64) (by rw [hmn]; omega))) ?_ | refine K_slot 34 ((.int .u64 ((p.length / 2 ^ (8 * (j + 1)) : Nat) : Int))) rfl ((congrArg (Value.int .u64) (by rw [hmn]; omega))) ?_)
      (refine go ?_)
      refine K_again ih2 (j + 1, aA, cA) rfl (by simp only; omega) (by simp only; omega) (by repeat (first | exact keep_nil | refine keep_cons rfl ?_)) entA
    intro hge
    have hj8 : j = 8 := by omega
    subst hj8
    rw [List.take_of_length_le (by omega)] at hlj ⊢
    (refine go ?_)
    refine J_at1 (U := tab) i rfl rfl rfl rfl rfl rfl rfl rfl hil ?_
    refine J_isLoad ?_
    refine J_loadAt (U := tab) 1 i rfl rfl rfl hvw rfl hcv rfl rfl ?_
    (refine J_append (U := tab) (mm := (p).length) (news := bV (p)) 0 1 rfl rfl rfl rfl rfl rfl rfl rfl rfl rfl rfl rfl (hb.1) (by show _ = _ * 1; rw [bV_length]; omega) (bV_one _) (by (rw [hlj]; omega)) (by show (_ + _) * 1 ≤ _; (rw [hlj]; omega)) (fun _ => rfl) (fun _ _ _ => trivial) ?_; intro vA; rw [show bV ((T0 ++ le8 p.length)) ++ bV (p) = bV (((T0 ++ le8 p.length)) ++ (p)) from by simp [bV], show ((T0 ++ le8 p.length)).length + (p).length = (((T0 ++ le8 p.length)) ++ (p)).length from (@List.length_append _ ((T0 ++ le8 p.length)) (p)).symm]; (first | refine J_shape 0 rfl ?_ | refine K_shape 0 rfl ?_); rintro aA cA rfl)
    rw [show T0 ++ le8 p.length ++ p = partsL tag (ps.take (i + 1)) from by rw [htk, List.append_assoc]]
    (refine go ?_)
    refine K_again ih (i + 1, aA, cA) rfl (by simp only; omega) (by simp only; omega) (by repeat (first | exact keep_nil | refine keep_cons rfl ?_)) entA
  intro hge
  have hi' : i = ps.length := by omega
  subst hi'
  rw [List.take_length]
  (refine go ?_)
  (first | refine K_return hE Tryz.func136 rfl _ rfl rfl entA | refine K_fallEnd hE Tryz.func136 rfl _ rfl rfl entA)
set_option maxRecDepth 20000 in
theorem Tagged_ref (A : HP) (tag : UInt8) (v : Value) (ps : List (List UInt8)) (hv : LAt A v ps) (hl : (partsL tag ps).length ≤ 1000000000) :
    Ctr Tryz.prog 92 [u8 tag, v] [A] (fun r H => r = dV (taggedL tag ps) ∧ H = [A]) := by
  have hps := Parts_ref A tag v ps hv hl
  obtain ⟨cs, hvw, hcl, ⟨a, c, rfl, hc⟩, hel⟩ := hv
  have htg : taggedL tag ps = sumL (partsL tag ps) := by unfold taggedL; rfl
  rw [htg]
  refine Ctr.enter Tryz.func92 (by kernel_rfl) rfl Tryz.ntmps92 rfl rfl ?_
  intro G F R hE
  refine K_regionA rfl ?_
  refine J_alloc (U := tab) rfl rfl rfl (fun _ _ _ => trivial) ?_
  intro b4
  (refine go ?_)
  (first | refine J_callE rfl rfl rfl rfl (hps) entA ?_ (fun _ _ _ _ _ => trivial) | refine J_call0E rfl rfl rfl (hps) entA ?_ (fun _ _ _ _ _ => trivial) | (refine go ?_; first | refine J_callE rfl rfl rfl rfl (hps) entA ?_ (fun _ _ _ _ _ => trivial) | refine J_call0E rfl rfl rfl (hps) entA ?_ (fun _ _ _ _ _ => trivial)))
  rintro r _ rfl
  refine J_slcB (bs := partsL tag ps) 0 rfl ?_
  intro hvT
  refine J_ent (Ent.resep [_, _] _) ?_
  (first | refine J_callE rfl rfl rfl rfl (Sum_ref _ _ (partsL tag ps) (hvT.mono (Sep_get (H := [slc 5 1 r (partsL tag ps).length (bV (partsL tag ps)), A]) (i := 0) rfl)) hl) entA ?_ (fun _ _ _ _ _ => trivial) | refine J_call0E rfl rfl rfl (Sum_ref _ _ (partsL tag ps) (hvT.mono (Sep_get (H := [slc 5 1 r (partsL tag ps).length (bV (partsL tag ps)), A]) (i := 0) rfl)) hl) entA ?_ (fun _ _ _ _ _ => trivial) | (refine go ?_; first | refine J_callE rfl rfl rfl rfl (Sum_ref _ _ (partsL tag ps) (hvT.mono (Sep_get (H := [slc 5 1 r (partsL tag ps).length (bV (partsL tag ps)), A]) (i := 0) rfl)) hl) entA ?_ (fun _ _ _ _ _ => trivial) | refine J_call0E rfl rfl rfl (Sum_ref _ _ (partsL tag ps) (hvT.mono (Sep_get (H := [slc 5 1 r (partsL tag ps).length (bV (partsL tag ps)), A]) (i := 0) rfl)) hl) entA ?_ (fun _ _ _ _ _ => trivial)))
  rintro _ _ ⟨rfl, rfl⟩
  refine J_ent (Ent.unsep _ _) ?_
  (refine go ?_)
  (refine K_noMarks hE ?_; apply K_returnV (U := tab) hE Tryz.func92 rfl (Ent.refl _); (repeat (first | exact ResOk.nil | apply ResOk.tmp rfl | apply ResOk.agg 0 rfl rfl rfl rfl rfl | apply ResOk.agg 1 rfl rfl rfl rfl rfl | apply ResOk.agg 2 rfl rfl rfl rfl rfl | apply ResOk.agg 3 rfl rfl rfl rfl rfl | apply ResOk.agg 4 rfl rfl rfl rfl rfl | apply ResOk.agg 5 rfl rfl rfl rfl rfl | apply ResOk.agg 6 rfl rfl rfl rfl rfl | apply ResOk.agg 7 rfl rfl rfl rfl rfl | apply ResOk.agg 8 rfl rfl rfl rfl rfl | apply ResOk.one 0 rfl rfl rfl rfl | apply ResOk.one 1 rfl rfl rfl rfl | apply ResOk.one 2 rfl rfl rfl rfl | apply ResOk.one 3 rfl rfl rfl rfl | apply ResOk.one 4 rfl rfl rfl rfl | apply ResOk.one 5 rfl rfl rfl rfl | apply ResOk.one 6 rfl rfl rfl rfl)); exact ⟨rfl, rfl⟩; exact entA)
end Go.Proofs.YtpecmnaikjbanaaGreatDoor

/- The reference's merkle: leaves, nodes, the row above one, the root; are two lists of hashes the same. -/
set_option linter.unusedVariables false
set_option linter.unusedSimpArgs false
namespace Go.Proofs.YtpecmnaikjbanaaGreatDoor
open Go Go.SL
attribute [local irreducible] J K Ctr Ends pts slc mapR mapI sbRow stock arrS loopP CtrY Sha.chunks Sha.chunk Sha.rounds Sha.sched sumL taggedL
set_option maxRecDepth 20000 in
theorem Leaf_ref (A : HP) (v : Value) (b : List UInt8) (hv : BAt A v b) (hl : b.length ≤ 900000000) : Ctr Tryz.prog 90 [v] [A] (fun r H => r = dV (leafL b) ∧ H = [A]) := by
  obtain ⟨a, c, rfl, hc⟩ := hv.2
  refine Ctr.enter Tryz.func90 (by kernel_rfl) rfl Tryz.ntmps90 rfl rfl ?_
  intro G F R hE
  refine K_regionA rfl ?_
  refine J_alloc (U := tab) rfl rfl rfl (fun _ _ _ => trivial) ?_
  intro b2
  (refine goR ?_)
  (refine K_regionA rfl ?_; refine goR ?_)
  refine J_buildSlice1 (U := tab) (cs := [.slice a b.length c]) rfl rfl rfl rfl rfl rfl rfl rfl rfl (fun _ _ _ => trivial) ?_
  intro b0
  refine J_ent (Ent.trans (Ent.pick [0, 2] rfl) (Ent.resep [_, _] _)) ?_
  (first | refine J_callE rfl rfl rfl rfl (Tagged_ref (Sep [pts b0 (cl [.slice a b.length c] 22), A]) 0 _ [b] (LAt.row rfl rfl (fun i x hx => by cases i with | zero => (simp at hx; subst hx; exact ⟨_, rfl, hv⟩) | succ i => simp at hx)) (by simp [partsL, le8]; omega)) entA ?_ (fun _ _ _ _ _ => trivial) | refine J_call0E rfl rfl rfl (Tagged_ref (Sep [pts b0 (cl [.slice a b.length c] 22), A]) 0 _ [b] (LAt.row rfl rfl (fun i x hx => by cases i with | zero => (simp at hx; subst hx; exact ⟨_, rfl, hv⟩) | succ i => simp at hx)) (by simp [partsL, le8]; omega)) entA ?_ (fun _ _ _ _ _ => trivial) | (refine go ?_; first | refine J_callE rfl rfl rfl rfl (Tagged_ref (Sep [pts b0 (cl [.slice a b.length c] 22), A]) 0 _ [b] (LAt.row rfl rfl (fun i x hx => by cases i with | zero => (simp at hx; subst hx; exact ⟨_, rfl, hv⟩) | succ i => simp at hx)) (by simp [partsL, le8]; omega)) entA ?_ (fun _ _ _ _ _ => trivial) | refine J_call0E rfl rfl rfl (Tagged_ref (Sep [pts b0 (cl [.slice a b.length c] 22), A]) 0 _ [b] (LAt.row rfl rfl (fun i x hx => by cases i with | zero => (simp at hx; subst hx; exact ⟨_, rfl, hv⟩) | succ i => simp at hx)) (by simp [partsL, le8]; omega)) entA ?_ (fun _ _ _ _ _ => trivial)))
  rintro _ _ ⟨rfl, rfl⟩
  refine J_ent (Ent.unsep _ _) ?_
  (refine go ?_)
  (refine K_noMarks hE ?_; apply K_returnV (U := tab) hE Tryz.func90 rfl (Ent.refl _); (repeat (first | exact ResOk.nil | apply ResOk.tmp rfl | apply ResOk.agg 0 rfl rfl rfl rfl rfl | apply ResOk.agg 1 rfl rfl rfl rfl rfl | apply ResOk.agg 2 rfl rfl rfl rfl rfl | apply ResOk.agg 3 rfl rfl rfl rfl rfl | apply ResOk.agg 4 rfl rfl rfl rfl rfl | apply ResOk.agg 5 rfl rfl rfl rfl rfl | apply ResOk.agg 6 rfl rfl rfl rfl rfl | apply ResOk.agg 7 rfl rfl rfl rfl rfl | apply ResOk.agg 8 rfl rfl rfl rfl rfl | apply ResOk.one 0 rfl rfl rfl rfl | apply ResOk.one 1 rfl rfl rfl rfl | apply ResOk.one 2 rfl rfl rfl rfl | apply ResOk.one 3 rfl rfl rfl rfl | apply ResOk.one 4 rfl rfl rfl rfl | apply ResOk.one 5 rfl rfl rfl rfl | apply ResOk.one 6 rfl rfl rfl rfl)); exact ⟨rfl, rfl⟩; exact entA)
set_option maxRecDepth 20000 in
theorem Node_ref (l r : Dg) : Ctr Tryz.prog 137 [dV l, dV r] [] (fun x H => x = dV (nodeL l r) ∧ H = []) := by
  unfold dV
  refine Ctr.enter Tryz.func137 (by kernel_rfl) rfl Tryz.ntmps137 rfl rfl ?_
  intro G F R hE
  refine K_regionA rfl ?_
  refine J_box rfl rfl (fun _ _ _ => trivial) ?_
  intro b2
  refine J_box rfl rfl (fun _ _ _ => trivial) ?_
  intro b3
  refine J_alloc (U := tab) rfl rfl rfl (fun _ _ _ => trivial) ?_
  intro b4
  (refine go ?_)
  refine K_drawA (fun w => Sat G w ([])) (.st 0 (.st 1 (.act 2 (.act 3 (.act 4 .nil))))) rfl (by kernel_rfl) (by kernel_rfl) (by kernel_rfl) (fun w hw => hw.ent entA) ?_
  (refine go ?_)
  refine J_sliceArr (U := tab) rfl rfl rfl rfl rfl ?_
  (refine go ?_)
  refine J_sliceArr (U := tab) rfl rfl rfl rfl rfl ?_
  refine J_buildSlice1 (U := tab) (cs := [.slice (some ⟨b2, 0, none⟩) 32 32, .slice (some ⟨b3, 0, none⟩) 32 32]) rfl rfl rfl rfl rfl rfl rfl rfl rfl (fun _ _ hw => hw.ent entA) ?_
  intro b0
  refine J_ent (Ent.trans (Ent.pick [3, 2] rfl) (Ent.trans (Ent.resep [_, _] _) (Ent.trans (Ent.pick [1, 0] rfl) (Ent.resep [_, _] _)))) ?_
  have hlat : LAt (Sep [pts b0 (cl [.slice (some ⟨b2, 0, none⟩) 32 32, .slice (some ⟨b3, 0, none⟩) 32 32] 22), Sep [pts b2 (cl (dC l) 30), pts b3 (cl (dC r) 30)] ]) (.slice (some ⟨b0, 0, none⟩) 2 2) [l.bs, r.bs] := by
    refine LAt.row rfl rfl (fun i x hx => ?_)
    match i, hx with
    | 0, hx =>
      simp at hx
      subst hx
      exact ⟨_, rfl, (BAt.block l.len (dC_bV l)).mono (Sep_get (i := 0) rfl)⟩
    | 1, hx =>
      simp at hx
      subst hx
      exact ⟨_, rfl, (BAt.block r.len (dC_bV r)).mono (Sep_get (i := 1) rfl)⟩
    | i + 2, hx => simp at hx
  have htag := Tagged_ref _ 1 _ [l.bs, r.bs] hlat (by simp [partsL, le8, l.len, r.len])
  (first | refine J_callE rfl rfl rfl rfl (htag) entA ?_ (fun _ _ w hp hw => by obtain ⟨rfl, rfl⟩ := hp; exact hw.ent entA) | refine J_call0E rfl rfl rfl (htag) entA ?_ (fun _ _ w hp hw => by obtain ⟨rfl, rfl⟩ := hp; exact hw.ent entA))
  rintro _ _ ⟨rfl, rfl⟩
  refine J_ent (Ent.trans (Ent.unsep _ _) (Ent.trans (Ent.pick [1] rfl) (Ent.unsep _ _))) ?_
  (refine go ?_)
  (refine K_noMarks hE ?_; apply K_returnV (U := tab) hE Tryz.func137 rfl (Ent.refl _); (repeat (first | exact ResOk.nil | apply ResOk.tmp rfl | apply ResOk.agg 0 rfl rfl rfl rfl rfl | apply ResOk.agg 1 rfl rfl rfl rfl rfl | apply ResOk.agg 2 rfl rfl rfl rfl rfl | apply ResOk.agg 3 rfl rfl rfl rfl rfl | apply ResOk.agg 4 rfl rfl rfl rfl rfl | apply ResOk.agg 5 rfl rfl rfl rfl rfl | apply ResOk.agg 6 rfl rfl rfl rfl rfl | apply ResOk.agg 7 rfl rfl rfl rfl rfl | apply ResOk.agg 8 rfl rfl rfl rfl rfl | apply ResOk.one 0 rfl rfl rfl rfl | apply ResOk.one 1 rfl rfl rfl rfl | apply ResOk.one 2 rfl rfl rfl rfl | apply ResOk.one 3 rfl rfl rfl rfl | apply ResOk.one 4 rfl rfl rfl rfl | apply ResOk.one 5 rfl rfl rfl rfl | apply ResOk.one 6 rfl rfl rfl rfl)); exact ⟨rfl, rfl⟩; exact entA)
theorem dgE {l : List Dg} {i : Nat} {x : Dg} (hx : l[i]? = some x) (q : Nat) (v : Value) (hq : (dC x)[q]? = some v) : (l.flatMap dC)[i * 32 + q]? = some v := by
  rw [chunk_get dC_len hx q (by rcases Nat.lt_or_ge q 32 with h | h; exact h; rw [List.getElem?_eq_none (by rw [dC_len]; exact h)] at hq; cases hq)]
  exact hq
theorem dgNe {l : List Dg} {i : Nat} (h : i < l.length) : l.flatMap dC ≠ [] := by
  rw [← List.length_pos_iff, chunk_len dC_len]; omega
set_option maxRecDepth 20000 in
theorem above_ref (A : HP) (v : Value) (l : List Dg) (hv : Vw A v l.length (l.flatMap dC)) (hl : l.length ≤ 1000000) :
    Ctr Tryz.prog 93 [v] [A] (fun r H => H = [slc 30 32 r (aboveL l).length ((aboveL l).flatMap dC), A]) := by
  obtain ⟨a, c, rfl⟩ := hv.shape
  have hal := aboveL_len l
  refine Ctr.enter Tryz.func93 (by kernel_rfl) rfl Tryz.ntmps93 rfl rfl ?_
  intro G F R hE
  (refine go ?_)
  refine K_ent (slc_lift 30 32 none _) ?_
  refine K_loop (fun y : Nat × Option Addr × Nat => y.1 ≤ (l.length + 1) / 2) (fun y => (l.length + 1) / 2 - y.1)
    (fun y => [(0, .slice a l.length c), (3, .slice y.2.1 ((aboveL l).take y.1).length y.2.2), (4, .int .i64 ((2 * y.1 : Nat) : Int))])
    (fun y => slc 30 32 (.slice y.2.1 ((aboveL l).take y.1).length y.2.2) ((aboveL l).take y.1).length (((aboveL l).take y.1).flatMap dC) :: A :: F) (0, none, 0) (Nat.zero_le _) rfl (by repeat (first | exact keep_nil | refine keep_cons rfl ?_)) entA ?_
  rintro ⟨q, oa, oc⟩ hq ih
  simp only at hq
  dsimp only
  have htl : ((aboveL l).take q).length = q := by rw [List.length_take]; omega
  (refine go ?_)
  refine K_condP rfl rfl ?_ ?_
  · intro hlt
    have hql : 2 * q < l.length := by omega
    obtain ⟨x, hx⟩ : ∃ x, l[2 * q]? = some x := ⟨l[2 * q], by simp⟩
    obtain ⟨b, o, cap', hsl⟩ := hv.some (dgNe hql)
    simp only [Value.slice.injEq] at hsl
    obtain ⟨rfl, _, rfl⟩ := hsl
    (refine go ?_)
    refine K_condP rfl rfl ?_ ?_
    · intro hlt2
      have hql2 : 2 * q + 1 < l.length := by omega
      obtain ⟨y, hy⟩ : ∃ x, l[2 * q + 1]? = some x := ⟨l[2 * q + 1], by simp⟩
      have hab := aboveL_at hx hy
      have htk : (aboveL l).take (q + 1) = (aboveL l).take q ++ [nodeL x y] := by rw [List.take_add_one, hab]; rfl
      (refine go ?_)
      refine K_drawA (fun w => Sat G w ([A])) (.st 0 (.st 1 (.st 2 (.st 3 (.st 4 (.st 5 (.st 6 (.st 7 (.st 8 (.st 9 (.act 10 (.act 11 (.act 12 (.st 13 .nil)))))))))))))) rfl (by kernel_rfl) (by kernel_rfl) (by kernel_rfl) (fun w hw => hw.ent entA) ?_
      (refine go ?_)
      refine J_at (U := tab) (2 * q) 32 rfl rfl rfl rfl rfl rfl rfl rfl hql ?_
      refine J_isLoad ?_
      refine J_loadElemS (U := tab) (es := dC x) 0 ((2 * q) * 32) rfl rfl rfl hv rfl (dgE hx) rfl rfl rfl ?_
      (refine go ?_)
      refine J_at (U := tab) (2 * q + 1) 32 rfl rfl rfl rfl rfl rfl rfl rfl hql2 ?_
      refine J_isLoad ?_
      refine J_loadElemS (U := tab) (es := dC y) 0 ((2 * q + 1) * 32) rfl rfl rfl hv rfl (dgE hy) rfl rfl rfl ?_
      (first | refine J_callE rfl rfl rfl rfl ((Node_ref x y)) entA ?_ (fun _ _ w hp hw => by obtain ⟨rfl, rfl⟩ := hp; exact hw.ent entA) | refine J_call0E rfl rfl rfl ((Node_ref x y)) entA ?_ (fun _ _ w hp hw => by obtain ⟨rfl, rfl⟩ := hp; exact hw.ent entA))
      rintro _ _ ⟨rfl, rfl⟩
      refine J_buildSlice1 (U := tab) (cs := dC (nodeL x y)) rfl rfl rfl rfl rfl rfl rfl rfl rfl (fun _ _ hw => hw.ent entA) ?_
      intro row
      (refine go ?_)
      refine J_append (U := tab) (mm := 1) (news := dC (nodeL x y)) 1 0 rfl rfl rfl rfl rfl rfl rfl rfl rfl rfl rfl rfl (Vw.pts rfl) rfl (by rw [dC_bV]; exact bV_one _) (by rw [htl]; omega) (by show (_ + _) * 32 ≤ _; rw [htl]; omega) (fun _ => rfl) (fun _ _ hw => hw.ent entA) ?_
      intro v1
      rw [show ((aboveL l).take q).flatMap dC ++ dC (nodeL x y) = ((aboveL l).take (q + 1)).flatMap dC from by rw [htk]; simp, show ((aboveL l).take q).length + 1 = ((aboveL l).take (q + 1)).length from by rw [htk]; simp]
      (first | refine J_shape 1 rfl ?_ | refine K_shape 1 rfl ?_)
      rintro ja jc rfl
      (refine go ?_)
      (first | refine J_slot 4 ((.int .i64 ((2 * (q + 1) : Nat) : Int))) rfl ((congrArg (Value.int .i64) (by omega))) ?_ | refine K_slot 4 ((.int .i64 ((2 * (q + 1) : Nat) : Int))) rfl ((congrArg (Value.int .i64) (by omega))) ?_)
      refine K_again ih (q + 1, ja, jc) rfl (by simp only; omega) (by simp only; omega) (by repeat (first | exact keep_nil | refine keep_cons rfl ?_)) entA
    · intro hge2
      have hab := aboveL_last hx (by omega)
      have htk : (aboveL l).take (q + 1) = (aboveL l).take q ++ [x] := by rw [List.take_add_one, hab]; rfl
      (refine go ?_)
      refine J_at (U := tab) (2 * q) 32 rfl rfl rfl rfl rfl rfl rfl rfl hql ?_
      refine J_isLoad ?_
      refine J_loadElem (U := tab) (es := dC x) 1 ((2 * q) * 32) rfl rfl rfl hv rfl (dgE hx) rfl rfl rfl ?_
      refine J_buildSlice1 (U := tab) (cs := dC x) rfl rfl rfl rfl rfl rfl rfl rfl rfl (fun _ _ _ => trivial) ?_
      intro row
      (refine go ?_)
      refine J_append (U := tab) (mm := 1) (news := dC x) 1 0 rfl rfl rfl rfl rfl rfl rfl rfl rfl rfl rfl rfl (Vw.pts rfl) rfl (by rw [dC_bV]; exact bV_one _) (by rw [htl]; omega) (by show (_ + _) * 32 ≤ _; rw [htl]; omega) (fun _ => rfl) (fun _ _ _ => trivial) ?_
      intro v1
      rw [show ((aboveL l).take q).flatMap dC ++ dC x = ((aboveL l).take (q + 1)).flatMap dC from by rw [htk]; simp, show ((aboveL l).take q).length + 1 = ((aboveL l).take (q + 1)).length from by rw [htk]; simp]
      (first | refine J_shape 1 rfl ?_ | refine K_shape 1 rfl ?_)
      rintro ja jc rfl
      (refine go ?_)
      (first | refine J_slot 4 ((.int .i64 ((2 * (q + 1) : Nat) : Int))) rfl ((congrArg (Value.int .i64) (by omega))) ?_ | refine K_slot 4 ((.int .i64 ((2 * (q + 1) : Nat) : Int))) rfl ((congrArg (Value.int .i64) (by omega))) ?_)
      refine K_again ih (q + 1, ja, jc) rfl (by simp only; omega) (by simp only; omega) (by repeat (first | exact keep_nil | refine keep_cons rfl ?_)) entA
  intro hge
  have hqe : (aboveL l).take q = aboveL l := by rw [List.take_of_length_le]; omega
  rw [hqe]
  (refine go ?_)
  (first | refine K_return hE Tryz.func93 rfl _ rfl rfl entA | refine K_fallEnd hE Tryz.func93 rfl _ rfl rfl entA)
set_option maxRecDepth 20000 in
theorem Root_ref (A : HP) (v : Value) (l0 : List Dg) (hv : Vw A v l0.length (l0.flatMap dC)) (hl0 : l0.length ≤ 1000000) (hne : l0 ≠ []) : Ctr Tryz.prog 42 [v] [A] (fun r H => r = dV (rootL l0) ∧ H = [A]) := by
  obtain ⟨a, c, rfl⟩ := hv.shape
  have hpos : 0 < l0.length := List.length_pos_iff.2 hne
  refine Ctr.enter Tryz.func42 (by kernel_rfl) rfl Tryz.ntmps42 rfl rfl ?_
  intro G F R hE
  refine K_regionA rfl ?_
  refine J_alloc (U := tab) rfl rfl rfl (fun _ _ _ => trivial) ?_
  intro b2
  (refine go ?_)
  refine K_condP rfl rfl ?_ ?_
  · intro h0; exfalso; omega
  intro _
  (refine go ?_)
  refine K_loop (fun y : Nat × HP × Option Addr × Nat => (∀ i, i < y.1 → 1 < (rowN i l0).length) ∧ Vw y.2.1 (.slice y.2.2.1 (rowN y.1 l0).length y.2.2.2) (rowN y.1 l0).length ((rowN y.1 l0).flatMap dC) ∧ ∀ h, y.2.1 h → ∃ h', sub h' h ∧ A h') (fun y => (rowN y.1 l0).length)
    (fun y => [(2, ptr b2), (3, .slice y.2.2.1 (rowN y.1 l0).length y.2.2.2)])
    (fun y => y.2.1 :: pts b2 (cl (dC Dg.zero) 30) :: F) (0, A, a, c) ⟨fun i h => by omega, hv, fun h hA => ⟨h, sub.refl h, hA⟩⟩ rfl (by repeat (first | exact keep_nil | refine keep_cons rfl ?_)) entA ?_
  rintro ⟨j, X, xa, xc⟩ ⟨hI, hX, hXA⟩ ih
  simp only at hI hX hXA
  dsimp only
  have hle := rowN_le l0 j
  (refine go ?_)
  refine K_condP rfl rfl ?_ ?_
  · intro hgt
    have hgt' : 1 < (rowN j l0).length := by omega
    have hnx : rowN (j + 1) l0 = aboveL (rowN j l0) := rfl
    have hab := aboveL_len (rowN j l0)
    have habv := above_ref X _ _ hX (by omega)
    rw [← hnx] at habv hab
    (refine go ?_)
    (first | refine J_callE rfl rfl rfl rfl (habv) entA ?_ (fun _ _ _ _ _ => trivial) | refine J_call0E rfl rfl rfl (habv) entA ?_ (fun _ _ _ _ _ => trivial) | (refine go ?_; first | refine J_callE rfl rfl rfl rfl (habv) entA ?_ (fun _ _ _ _ _ => trivial) | refine J_call0E rfl rfl rfl (habv) entA ?_ (fun _ _ _ _ _ => trivial)))
    rintro r _ rfl
    (first | refine J_shape 0 rfl ?_ | refine K_shape 0 rfl ?_)
    rintro ra rc rfl
    refine J_slcSep fun hvw => ?_
    (refine go ?_)
    refine K_again ih (j + 1, Sep [slc 30 32 (.slice ra (rowN (j + 1) l0).length rc) (rowN (j + 1) l0).length ((rowN (j + 1) l0).flatMap dC), X], ra, rc) rfl ⟨fun i hi => by
      rcases Nat.lt_or_ge i j with h | h
      · exact hI i h
      · rw [show i = j from by simp only at hi; omega]; exact hgt', hvw.mono (Sep_get (i := 0) rfl), fun h hs => by
      obtain ⟨h1, s1, hx1⟩ := Sep_get (H := [slc 30 32 (.slice ra (rowN (j + 1) l0).length rc) (rowN (j + 1) l0).length ((rowN (j + 1) l0).flatMap dC), X]) (i := 1) rfl h hs
      obtain ⟨h2, s2, hx2⟩ := hXA h1 hx1
      exact ⟨h2, s2.trans s1, hx2⟩⟩ (by simp only; omega) (by repeat (first | exact keep_nil | refine keep_cons rfl ?_)) entA
  intro hle1
  have hpj := rowN_pos l0 hpos j
  obtain ⟨x, hx⟩ : ∃ x, rowN j l0 = [x] := by
    match h : rowN j l0, hpj, (show (rowN j l0).length ≤ 1 by omega) with
    | [x], _, _ => exact ⟨x, rfl⟩
  have hroot := root_row hne hI hx
  rw [hroot] at hE
  rw [hx] at hX ⊢
  obtain ⟨b, o, cap', hsl⟩ := hX.some (by simp [dC])
  simp only [Value.slice.injEq] at hsl
  obtain ⟨rfl, _, rfl⟩ := hsl
  (refine go ?_)
  refine J_at (U := tab) 0 32 rfl rfl rfl rfl rfl rfl rfl rfl (by simp) ?_
  refine J_isLoad ?_
  refine J_loadElem (U := tab) (es := dC x) 0 (0 * 32) rfl rfl rfl hX rfl (dgE (l := [x]) rfl) rfl rfl rfl ?_
  (refine J_isStore ?_; first | refine J_store (U := tab) 0 (fun _ _ => trivial) rfl rfl rfl rfl rfl rfl rfl rfl rfl ?_ | refine J_store (U := tab) 1 (fun _ _ => trivial) rfl rfl rfl rfl rfl rfl rfl rfl rfl ?_ | refine J_store (U := tab) 2 (fun _ _ => trivial) rfl rfl rfl rfl rfl rfl rfl rfl rfl ?_ | refine J_store (U := tab) 3 (fun _ _ => trivial) rfl rfl rfl rfl rfl rfl rfl rfl rfl ?_ | refine J_store (U := tab) 4 (fun _ _ => trivial) rfl rfl rfl rfl rfl rfl rfl rfl rfl ?_ | refine J_store (U := tab) 5 (fun _ _ => trivial) rfl rfl rfl rfl rfl rfl rfl rfl rfl ?_ | refine J_store (U := tab) 6 (fun _ _ => trivial) rfl rfl rfl rfl rfl rfl rfl rfl rfl ?_ | refine J_store (U := tab) 7 (fun _ _ => trivial) rfl rfl rfl rfl rfl rfl rfl rfl rfl ?_ | refine J_store (U := tab) 8 (fun _ _ => trivial) rfl rfl rfl rfl rfl rfl rfl rfl rfl ?_)
  (refine go ?_)
  refine K_ent (Ent.head (B := [A]) fun h hs => by obtain ⟨h', s1, hx1⟩ := hXA h hs; exact ⟨h', s1, Sep_one' hx1⟩) ?_
  (refine K_noMarks hE ?_; apply K_returnV (U := tab) hE Tryz.func42 rfl (Ent.refl _); (repeat (first | exact ResOk.nil | apply ResOk.tmp rfl | apply ResOk.agg 0 rfl rfl rfl rfl rfl | apply ResOk.agg 1 rfl rfl rfl rfl rfl | apply ResOk.agg 2 rfl rfl rfl rfl rfl | apply ResOk.agg 3 rfl rfl rfl rfl rfl | apply ResOk.agg 4 rfl rfl rfl rfl rfl | apply ResOk.agg 5 rfl rfl rfl rfl rfl | apply ResOk.agg 6 rfl rfl rfl rfl rfl | apply ResOk.agg 7 rfl rfl rfl rfl rfl | apply ResOk.agg 8 rfl rfl rfl rfl rfl | apply ResOk.one 0 rfl rfl rfl rfl | apply ResOk.one 1 rfl rfl rfl rfl | apply ResOk.one 2 rfl rfl rfl rfl | apply ResOk.one 3 rfl rfl rfl rfl | apply ResOk.one 4 rfl rfl rfl rfl | apply ResOk.one 5 rfl rfl rfl rfl | apply ResOk.one 6 rfl rfl rfl rfl)); exact ⟨rfl, rfl⟩; exact entA)
end Go.Proofs.YtpecmnaikjbanaaGreatDoor

