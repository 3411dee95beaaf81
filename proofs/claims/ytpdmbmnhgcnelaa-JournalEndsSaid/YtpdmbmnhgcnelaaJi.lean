/- journal, part i: may, breaks, Size, Append. -/
import Derived.Test.YtpdmbmnhgcnelaaJh
set_option linter.unusedVariables false
set_option linter.unusedSimpArgs false
namespace Go.Proofs.Ytpdmbmnhgcnelaa
open Go Go.SL
attribute [local irreducible] J K Ctr Ends pts slc mapR mapI sbRow stock arrS loopP CtrY diskA

theorem may_new (name : ByteArray) (f : Nat) : ((Ab.new 1).create (isName name) name f).1 = if isName name then 0 else 1 := by
  cases h : isName name <;> simp [Ab.create, Ab.meet, Ab.new, Ab.look, Ab.lookIn]
theorem may_any (name : ByteArray) : Ctr Try.prog 38 [.string name] [] (fun r H => r = .bool (isName name) ∧ H = []) := by
  refine Ctr.enter Try.func38 (by kernel_rfl) rfl Try.ntmps38 rfl rfl ?_
  intro G F R hE
  (refine go ?_)
  (first | refine J_callE rfl rfl rfl rfl (New_dA 1 (by omega) (by omega)) entA ?_ (fun _ _ _ _ _ => trivial) | refine J_call0E rfl rfl rfl (New_dA 1 (by omega) (by omega)) entA ?_ (fun _ _ _ _ _ => trivial) | (refine go ?_; first | refine J_callE rfl rfl rfl rfl (New_dA 1 (by omega) (by omega)) entA ?_ (fun _ _ _ _ _ => trivial) | refine J_call0E rfl rfl rfl (New_dA 1 (by omega) (by omega)) entA ?_ (fun _ _ _ _ _ => trivial)))
  rintro _ _ ⟨bd, rfl, rfl⟩
  (refine go ?_)
  (first | refine J_callE rfl rfl rfl rfl (Create_dA bd (Ab.new 1) name (by simp [Ab.new])) entA ?_ (fun _ _ _ _ _ => trivial) | refine J_call0E rfl rfl rfl (Create_dA bd (Ab.new 1) name (by simp [Ab.new])) entA ?_ (fun _ _ _ _ _ => trivial) | (refine go ?_; first | refine J_callE rfl rfl rfl rfl (Create_dA bd (Ab.new 1) name (by simp [Ab.new])) entA ?_ (fun _ _ _ _ _ => trivial) | refine J_call0E rfl rfl rfl (Create_dA bd (Ab.new 1) name (by simp [Ab.new])) entA ?_ (fun _ _ _ _ _ => trivial)))
  rintro _ _ ⟨f, hf, rfl, rfl⟩
  rw [may_new]
  (refine go ?_)
  (first | refine J_slot 2 ((.bool (isName name))) rfl ((congrArg Value.bool (by cases isName name <;> rfl))) ?_ | refine K_slot 2 ((.bool (isName name))) rfl ((congrArg Value.bool (by cases isName name <;> rfl))) ?_)
  refine K_ent (Ent.drop _ _) ?_
  (first | refine K_return hE Try.func38 rfl _ rfl ⟨rfl, rfl⟩ entA | refine K_fallEnd hE Try.func38 rfl _ rfl ⟨rfl, rfl⟩ entA)
theorem breaks_any (jb bd : Nat) (name : ByteArray) (n s c : Int) (br : Bool) (e : Nat) : Ctr Try.prog 51 [ptr jb, .int .i64 (e : Int)] [jr jb bd name n s c br] (fun r H => r = .int .i64 (e : Int) ∧ H = [jr jb bd name n s c (br || decide (e ≠ 0))]) := by
  unfold jr
  refine Ctr.enter Try.func51 (by kernel_rfl) rfl Try.ntmps51 rfl rfl ?_
  intro G F R hE
  cases br
  · (refine go ?_)
    have hd : decide ((e : Int) ≠ 0) = (false || decide (e ≠ 0)) := by by_cases h : e = 0 <;> simp [h]
    simp only [hd]
    (first | refine K_return hE Try.func51 rfl _ rfl ⟨rfl, rfl⟩ entA | refine K_fallEnd hE Try.func51 rfl _ rfl ⟨rfl, rfl⟩ entA)
  · (refine go ?_)
    (first | refine K_return hE Try.func51 rfl _ rfl ⟨rfl, rfl⟩ entA | refine K_fallEnd hE Try.func51 rfl _ rfl ⟨rfl, rfl⟩ entA)
theorem JSize_any (jb bd : Nat) (name : ByteArray) (n s c : Int) (br : Bool) : Ctr Try.prog 21 [ptr jb] [jr jb bd name n s c br] (fun r H => r = .int .i64 s ∧ H = [jr jb bd name n s c br]) := by
  unfold jr
  refine Ctr.enter Try.func21 (by kernel_rfl) rfl Try.ntmps21 rfl rfl ?_
  intro G F R hE
  (refine go ?_)
  (first | refine K_return hE Try.func21 rfl _ rfl ⟨rfl, rfl⟩ entA | refine K_fallEnd hE Try.func21 rfl _ rfl ⟨rfl, rfl⟩ entA)
/-- A journal's numbers. -/
structure JN where
  n : Int
  s : Int
  c : Int
  br : Bool
def jrN (jb bd : Nat) (name : ByteArray) (x : JN) : HP := jr jb bd name x.n x.s x.c x.br
def appendA (name : ByteArray) (A : Ab) (x : JN) (b : List UInt8) : Nat × Ab × JN :=
  if x.br then (10, A, x) else if 4096 < b.length then (1, A, x) else if 524288 < x.s + (encL b).length then (3, A, x) else
  if (A.write (mayW name (32 + x.s) (encL b)) name (32 + x.s).toNat (encL b)).1 = 0 then (0, (A.write (mayW name (32 + x.s) (encL b)) name (32 + x.s).toNat (encL b)).2, { x with s := x.s + (encL b).length })
  else ((A.write (mayW name (32 + x.s) (encL b)) name (32 + x.s).toNat (encL b)).1, (A.write (mayW name (32 + x.s) (encL b)) name (32 + x.s).toNat (encL b)).2, { x with br := true })
theorem encL_len (b : List UInt8) (h : b.length ≤ 1000000000000) : (encL b).length ≤ b.length + 10 := by
  have := uv_len10 (n := b.length) (by omega)
  simp [encL]; omega
/-- A journal, broken or not. -/
def jrE (jb bd : Nat) (name : ByteArray) (n s c : Int) : HP := fun h => ∃ br, pts jb (cl [ptr bd, .string name, .int .i64 n, .int .i64 s, .int .i64 c, .bool br] 93) h
theorem jrE_in (jb bd : Nat) (name : ByteArray) (n s c : Int) (br : Bool) (H : List HP) : Ent (pts jb (cl [ptr bd, .string name, .int .i64 n, .int .i64 s, .int .i64 c, .bool br] 93) :: H) (jrE jb bd name n s c :: H) :=
  Ent.fold (B := [_]) fun h' hs => ⟨h', sub.refl h', br, Sep_one hs⟩
end Go.Proofs.Ytpdmbmnhgcnelaa
namespace Go.Proofs.Ytpdmbmnhgcnelaa
open Go Go.SL
theorem jrE_cell {G : Glob} {w : World} {jb bd : Nat} {name : ByteArray} {n s c : Int} (hw : Sat G w [jrE jb bd name n s c]) : w.cell? ⟨jb, 0, none⟩ = some (ptr bd) ∧ w.cell? ⟨jb, 1, none⟩ = some (.string name) ∧ w.cell? ⟨jb, 3, none⟩ = some (.int .i64 s) := by
  obtain ⟨h, hh, br, hA⟩ := hw.getA (i := 0) rfl
  have hb : h jb = some (cl [ptr bd, .string name, .int .i64 n, .int .i64 s, .int .i64 c, .bool br] 93) := by rw [hA jb, if_pos rfl]
  exact ⟨cell_of_hcell hh (by unfold hcell; rw [hb]; rfl), cell_of_hcell hh (by unfold hcell; rw [hb]; rfl), cell_of_hcell hh (by unfold hcell; rw [hb]; rfl)⟩
attribute [local irreducible] J K Ctr Ends pts slc mapR mapI sbRow stock arrS loopP CtrY diskA
set_option maxRecDepth 20000 in
theorem Append_any (jb bd : Nat) (name : ByteArray) (A : Ab) (x : JN) (X : HP) (bv : Value) (b : List UInt8) (hv : BAt X bv b) (hl : b.length ≤ 9223372036854775807) (hs : 0 ≤ x.s ∧ x.s ≤ 1000000000) (hwl : A.writes.length ≤ 1000000000) :
    Ctr Try.prog 18 [ptr jb, bv] [diskA bd A, jrN jb bd name x, X]
      (fun r H => r = .int .i64 ((appendA name A x b).1 : Int) ∧ H = [diskA bd (appendA name A x b).2.1, jrN jb bd name (appendA name A x b).2.2, X]) := by
  obtain ⟨n, s, c, br⟩ := x
  obtain ⟨a, cc, rfl, hc⟩ := hv.2
  simp only at hs
  dsimp only [jrN, jr]
  refine Ctr.enter Try.func18 (by kernel_rfl) rfl Try.ntmps18 rfl rfl ?_
  intro G F R hE
  dsimp only [appendA] at hE
  cases br with
  | true =>
    simp only [if_true] at hE
    (refine go ?_)
    (first | refine K_return hE Try.func18 rfl _ rfl ⟨rfl, rfl⟩ entA | refine K_fallEnd hE Try.func18 rfl _ rfl ⟨rfl, rfl⟩ entA)
  | false =>
    simp only [Bool.false_eq_true, if_false] at hE
    (refine go ?_)
    refine K_condP rfl rfl ?_ ?_
    · intro hbig
      rw [if_pos (by omega)] at hE
      (refine go ?_)
      (first | refine K_return hE Try.func18 rfl _ rfl ⟨rfl, rfl⟩ entA | refine K_fallEnd hE Try.func18 rfl _ rfl ⟨rfl, rfl⟩ entA)
    intro hsm
    have hb4 : b.length ≤ 4096 := by omega
    have hel := encL_len b (by omega)
    rw [if_neg (by omega)] at hE
    (refine go ?_)
    (first | refine J_callE rfl rfl rfl rfl (encoded_any X _ b hv (by omega)) entA ?_ (fun _ _ _ _ _ => trivial) | refine J_call0E rfl rfl rfl (encoded_any X _ b hv (by omega)) entA ?_ (fun _ _ _ _ _ => trivial) | (refine go ?_; first | refine J_callE rfl rfl rfl rfl (encoded_any X _ b hv (by omega)) entA ?_ (fun _ _ _ _ _ => trivial) | refine J_call0E rfl rfl rfl (encoded_any X _ b hv (by omega)) entA ?_ (fun _ _ _ _ _ => trivial)))
    rintro r _ rfl
    (first | refine J_shape 0 rfl ?_ | refine K_shape 0 rfl ?_)
    rintro ra rc rfl
    refine J_slcB (bs := encL b) 0 rfl ?_
    intro hbr
    (refine go ?_)
    refine K_condP rfl rfl ?_ ?_
    · intro hbig
      rw [if_pos (by omega)] at hE
      (refine go ?_)
      (first | refine K_return hE Try.func18 rfl _ rfl ⟨rfl, rfl⟩ entA | refine K_fallEnd hE Try.func18 rfl _ rfl ⟨rfl, rfl⟩ entA)
    intro hfit
    rw [if_neg (by omega)] at hE
    (refine go ?_)
    refine K_drawA (fun w => Sat G w [jrE jb bd name n s c]) (.st 0 (.st 1 (.st 2 (.st 3 (.st 4 (.st 5 (.st 6 (.st 7 (.st 8 (.st 9 (.st 10 (.st 11 (.st 12 (.st 13 (.st 14 (.act 15 (.act 16 (.st 17 .nil)))))))))))))))))) rfl (by kernel_rfl) (by kernel_rfl) (by kernel_rfl) (fun w hw => hw.ent (Ent.trans entA (jrE_in jb bd name n s c false []))) ?_
    (refine go ?_)
    refine J_isLoad ?_
    refine J_loadS (U := tab) rfl rfl (fun w hw => (jrE_cell hw).1) rfl rfl ?_
    (refine go ?_)
    refine J_isLoad ?_
    refine J_loadS (U := tab) rfl rfl (fun w hw => (jrE_cell hw).2.1) rfl rfl ?_
    (refine go ?_)
    refine J_isLoad ?_
    refine J_loadS (U := tab) rfl rfl (fun w hw => (jrE_cell hw).2.2) rfl rfl ?_
    (refine go ?_)
    obtain ⟨W, hW⟩ : ∃ W, W = A.write (mayW name (32 + s) (encL b)) name (32 + s).toNat (encL b) := ⟨_, rfl⟩
    have hwr := Write_dA bd A name (32 + s) (slc 5 1 (.slice ra (encL b).length rc) (encL b).length (bV (encL b))) (.slice ra (encL b).length rc) (encL b) hbr.1 hwl (by omega) (by omega)
    rw [← hW] at hE hwr
    refine J_callE rfl rfl rfl rfl hwr entA ?_ (fun _ _ w hp hw => by obtain ⟨rfl, rfl⟩ := hp; exact hw.ent (Ent.trans entA (jrE_in jb bd name n s c false [])))
    rintro _ _ ⟨rfl, rfl⟩
    refine J_callE rfl rfl rfl rfl (breaks_any jb bd name n s c false W.1) entA ?_ (fun _ _ w hp hw => by obtain ⟨rfl, rfl⟩ := hp; exact hw.ent (Ent.trans entA (jrE_in jb bd name n s c _ [])))
    rintro _ _ ⟨rfl, rfl⟩
    unfold jr
    (refine go ?_)
    refine K_condP rfl rfl ?_ ?_
    · intro hne
      have hne' : ¬ W.1 = 0 := by omega
      rw [if_neg hne'] at hE
      have hd : (false || decide (W.1 ≠ 0)) = true := by simp [hne']
      simp only [hd]
      (refine go ?_)
      (first | refine K_return hE Try.func18 rfl _ rfl ⟨rfl, rfl⟩ entA | refine K_fallEnd hE Try.func18 rfl _ rfl ⟨rfl, rfl⟩ entA)
    · intro heq
      have heq' : W.1 = 0 := by omega
      rw [if_pos heq'] at hE
      have hd : (false || decide (W.1 ≠ 0)) = false := by simp [heq']
      simp only [hd]
      (refine go ?_)
      (first | refine K_return hE Try.func18 rfl _ rfl ⟨rfl, rfl⟩ entA | refine K_fallEnd hE Try.func18 rfl _ rfl ⟨rfl, rfl⟩ entA)
end Go.Proofs.Ytpdmbmnhgcnelaa
