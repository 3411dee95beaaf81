/- journal, part k: Open. -/
import Derived.Test.YtpdmbmnhgcnelaaJk0
set_option linter.unusedVariables false
set_option linter.unusedSimpArgs false
namespace Go.Proofs.Ytpdmbmnhgcnelaa
open Go Go.SL
attribute [local irreducible] J K Ctr Ends pts slc mapR mapI sbRow stock arrS loopP CtrY diskA LI listH

/-- The records that a file has. -/
def fileL (A : Ab) (name : ByteArray) : List (List UInt8) := recordsA (foundL (A.read name 0 (A.size name).1).1)
/-- What Open does: its error, and the disk behind it; the journal, if it is OK. -/
def OpenR (A : Ab) (name : ByteArray) (e : Nat) (A' : Ab) (x : JN) : Prop :=
  if ¬ (isName name = true ∧ isName (freshOf name) = true) then e = 1 ∧ A' = A else if A.off then e = 7 ∧ A' = A
  else ∃ y : PS, PutR name (fileL A name) (A, 0, 0, 0) e y ∧ A' = y.1 ∧ x = ⟨y.2.1, y.2.2.1, y.2.2.2, false⟩
set_option maxRecDepth 20000 in
theorem Open_any (bd : Nat) (name : ByteArray) (A : Ab) (hname : name.size ≤ 1000000000) (hst : A.states.length ≤ 900000000) (hwr : A.writes.length ≤ 900000000) :
    Ctr Try.prog 14 [ptr bd, .string name] [diskA bd A]
      (fun r H => ∃ (e : Nat) (A' : Ab) (x : JN), OpenR A name e A' x ∧ ((e ≠ 0 ∧ r = .tuple #[.pointer none, .slice none 0 0, .int .i64 (e : Int)] ∧ H = [diskA bd A']) ∨
        (e = 0 ∧ ∃ jb lv, r = .tuple #[ptr jb, lv, .int .i64 0] ∧ H = [diskA bd A', jrN jb bd name x, listH lv (fileL A name)]))) := by
  refine Ctr.enter Try.func14 (by kernel_rfl) rfl Try.ntmps14 rfl rfl ?_
  intro G F R hE
  refine K_dA 0 rfl ?_
  intro hRel
  (refine go ?_)
  (first | refine J_callE rfl rfl rfl rfl (may_any name) entA ?_ (fun _ _ _ _ _ => trivial) | refine J_call0E rfl rfl rfl (may_any name) entA ?_ (fun _ _ _ _ _ => trivial) | (refine go ?_; first | refine J_callE rfl rfl rfl rfl (may_any name) entA ?_ (fun _ _ _ _ _ => trivial) | refine J_call0E rfl rfl rfl (may_any name) entA ?_ (fun _ _ _ _ _ => trivial)))
  rintro _ _ ⟨rfl, rfl⟩
  cases h1 : isName name with
  | false =>
    (refine go ?_)
    (first | refine K_return hE Try.func14 rfl _ rfl ⟨1, A, ⟨0, 0, 0, false⟩, (by unfold OpenR; rw [if_pos (by simp [h1])]; exact ⟨rfl, rfl⟩), .inl ⟨by omega, rfl, rfl⟩⟩ entA | refine K_fallEnd hE Try.func14 rfl _ rfl ⟨1, A, ⟨0, 0, 0, false⟩, (by unfold OpenR; rw [if_pos (by simp [h1])]; exact ⟨rfl, rfl⟩), .inl ⟨by omega, rfl, rfl⟩⟩ entA)
  | true =>
  (refine go ?_)
  refine J_strAdd rfl rfl rfl (by show name.size + 4 ≤ _; omega) ?_
  refine J_slot 25 (.string (freshOf name)) rfl rfl ?_
  (first | refine J_callE rfl rfl rfl rfl (may_any (freshOf name)) entA ?_ (fun _ _ _ _ _ => trivial) | refine J_call0E rfl rfl rfl (may_any (freshOf name)) entA ?_ (fun _ _ _ _ _ => trivial) | (refine go ?_; first | refine J_callE rfl rfl rfl rfl (may_any (freshOf name)) entA ?_ (fun _ _ _ _ _ => trivial) | refine J_call0E rfl rfl rfl (may_any (freshOf name)) entA ?_ (fun _ _ _ _ _ => trivial)))
  rintro _ _ ⟨rfl, rfl⟩
  cases h2 : isName (freshOf name) with
  | false =>
    (refine go ?_)
    (first | refine K_return hE Try.func14 rfl _ rfl ⟨1, A, ⟨0, 0, 0, false⟩, (by unfold OpenR; rw [if_pos (by simp [h2])]; exact ⟨rfl, rfl⟩), .inl ⟨by omega, rfl, rfl⟩⟩ entA | refine K_fallEnd hE Try.func14 rfl _ rfl ⟨1, A, ⟨0, 0, 0, false⟩, (by unfold OpenR; rw [if_pos (by simp [h2])]; exact ⟨rfl, rfl⟩), .inl ⟨by omega, rfl, rfl⟩⟩ entA)
  | true =>
  (refine go ?_)
  (first | refine J_callE rfl rfl rfl rfl (Off_dA bd A) entA ?_ (fun _ _ _ _ _ => trivial) | refine J_call0E rfl rfl rfl (Off_dA bd A) entA ?_ (fun _ _ _ _ _ => trivial) | (refine go ?_; first | refine J_callE rfl rfl rfl rfl (Off_dA bd A) entA ?_ (fun _ _ _ _ _ => trivial) | refine J_call0E rfl rfl rfl (Off_dA bd A) entA ?_ (fun _ _ _ _ _ => trivial)))
  rintro _ _ ⟨rfl, rfl⟩
  cases h3 : A.off with
  | true =>
    (refine go ?_)
    (first | refine K_return hE Try.func14 rfl _ rfl ⟨7, A, ⟨0, 0, 0, false⟩, (by unfold OpenR; rw [if_neg (by simp [h1, h2]), if_pos h3]; exact ⟨rfl, rfl⟩), .inl ⟨by omega, rfl, rfl⟩⟩ entA | refine K_fallEnd hE Try.func14 rfl _ rfl ⟨7, A, ⟨0, 0, 0, false⟩, (by unfold OpenR; rw [if_neg (by simp [h1, h2]), if_pos h3]; exact ⟨rfl, rfl⟩), .inl ⟨by omega, rfl, rfl⟩⟩ entA)
  | false =>
  (refine go ?_)
  (first | refine J_callE rfl rfl rfl rfl (Size_dA bd A name) entA ?_ (fun _ _ _ _ _ => trivial) | refine J_call0E rfl rfl rfl (Size_dA bd A name) entA ?_ (fun _ _ _ _ _ => trivial) | (refine go ?_; first | refine J_callE rfl rfl rfl rfl (Size_dA bd A name) entA ?_ (fun _ _ _ _ _ => trivial) | refine J_call0E rfl rfl rfl (Size_dA bd A name) entA ?_ (fun _ _ _ _ _ => trivial)))
  rintro _ _ ⟨rfl, rfl⟩
  (refine go ?_)
  (first | refine J_callE rfl rfl rfl rfl (Read_dA bd A name 0 (A.size name).1) entA ?_ (fun _ _ _ _ _ => trivial) | refine J_call0E rfl rfl rfl (Read_dA bd A name 0 (A.size name).1) entA ?_ (fun _ _ _ _ _ => trivial) | (refine go ?_; first | refine J_callE rfl rfl rfl rfl (Read_dA bd A name 0 (A.size name).1) entA ?_ (fun _ _ _ _ _ => trivial) | refine J_call0E rfl rfl rfl (Read_dA bd A name 0 (A.size name).1) entA ?_ (fun _ _ _ _ _ => trivial)))
  rintro _ _ ⟨rb, rfl, rfl⟩
  have hrl := read_len A hRel name 0 (A.size name).1
  obtain ⟨B, hB⟩ : ∃ B, B = (A.read name 0 (A.size name).1).1 := ⟨_, rfl⟩
  rw [← hB] at hrl ⊢
  (refine go ?_)
  (first | refine J_shape 1 rfl ?_ | refine K_shape 1 rfl ?_)
  rintro ra rc rfl
  refine J_slcB (bs := B) 1 rfl ?_
  intro hbr
  refine J_alloc (U := tab) rfl rfl rfl (fun _ _ _ => trivial) ?_
  intro lb
  (refine go ?_)
  (first | refine J_callE rfl rfl rfl rfl (found_any _ _ B hbr (by omega)) entA ?_ (fun _ _ _ _ _ => trivial) | refine J_call0E rfl rfl rfl (found_any _ _ B hbr (by omega)) entA ?_ (fun _ _ _ _ _ => trivial) | (refine go ?_; first | refine J_callE rfl rfl rfl rfl (found_any _ _ B hbr (by omega)) entA ?_ (fun _ _ _ _ _ => trivial) | refine J_call0E rfl rfl rfl (found_any _ _ B hbr (by omega)) entA ?_ (fun _ _ _ _ _ => trivial)))
  rintro fv _ ⟨hbf, rfl⟩
  obtain ⟨fa, fc, rfl, hfc⟩ := hbf.2
  (first | refine J_callE rfl rfl rfl rfl (records_any fa (foundL B).length fc) entA ?_ (fun _ _ _ _ _ => trivial) | refine J_call0E rfl rfl rfl (records_any fa (foundL B).length fc) entA ?_ (fun _ _ _ _ _ => trivial) | (refine go ?_; first | refine J_callE rfl rfl rfl rfl (records_any fa (foundL B).length fc) entA ?_ (fun _ _ _ _ _ => trivial) | refine J_call0E rfl rfl rfl (records_any fa (foundL B).length fc) entA ?_ (fun _ _ _ _ _ => trivial)))
  rintro _ _ ⟨bx, rfl, rfl⟩
  have hfl : (foundL B).length ≤ 1048576 := by
    unfold foundL
    split
    · simp
    · rw [List.length_take, List.length_drop]; omega
  (refine go ?_)
  obtain ⟨rs, hrs⟩ : ∃ rs, rs = recordsA (foundL B) := ⟨_, rfl⟩
  have hbd := recordsA_bound (foundL B)
  rw [← hrs] at hbd
  refine K_adv1 rfl ?_
  refine K_ent (Ent.trans (Ent.pick [2] rfl) (LI_start lb none _)) ?_
  refine K_range (Fr := diskA bd A :: F) (Pre := fun _ _ => [pts bx (cl [.slice fa (foundL B).length fc] 22), slc 5 1 (.slice ra B.length rc) B.length (bV B), LI lb [] ]) (Post := ?Po) rfl hE.1.1 rfl ?c (fun l r => entA) ?hend
  case c =>
    intro l r
    refine records1_any (slc 5 1 (.slice ra B.length rc) B.length (bV B)) l bx _ (foundL B) hbf (by omega) _ (fun i => LI lb ((recordsA (foundL B)).take i)) ?_
    intro i x hx rv
    refine CtrY.of_K rfl rfl ?_
    intro G2 F2 R2 hY
    have hil : i < (recordsA (foundL B)).length := (List.getElem?_eq_some_iff.1 hx).1
    have hbx := (recordsA_bound (foundL B)).2.1
    have htk : (recordsA (foundL B)).take (i + 1) = (recordsA (foundL B)).take i ++ [x] := by rw [List.take_add_one, hx]; rfl
    have htl : ((recordsA (foundL B)).take i).length ≤ (foundL B).length := by rw [List.length_take]; omega
    simp only [htk] at hY
    generalize (recordsA (foundL B)).take i = ts at htl hY ⊢
    (refine go ?_)
    refine K_beginRound rfl hY ?_
    refine K_ent (Ent.pick [1] rfl) ?_
    refine K_open (LI_open lb ts) ?_
    rintro ⟨lv, cs, M⟩ hR
    refine K_ent (Ent.trans (Ent.pick [4, 2] rfl) (Ent.join _ _ _)) ?_
    refine K_open (row_slcO 5 1 x.length rv (bV x) M) ?_
    rintro M' ⟨hrv, hsub⟩
    obtain ⟨xa, xc, rfl, hxc⟩ := hrv.shape
    refine K_shape 2 rfl ?_
    intro la lc hlv
    simp only at hlv
    subst hlv
    (refine go ?_)
    refine J_buildSlice1 (U := tab) rfl rfl rfl rfl rfl rfl rfl rfl rfl (fun _ _ _ => trivial) ?_
    intro row
    (refine go ?_)
    refine J_append (U := tab) (mm := 1) (news := [.slice xa x.length xc]) 3 0 rfl rfl rfl rfl rfl rfl rfl rfl rfl rfl rfl rfl (Vw.pts rfl) rfl (by simp [Value.oneCell']) (by omega) (by show (_ + 1) * 24 ≤ _; omega) (fun _ => rfl) (fun _ _ _ => trivial) ?_
    intro v1
    (first | refine J_shape 3 rfl ?_ | refine K_shape 3 rfl ?_)
    rintro va vc rfl
    (refine go ?_)
    refine K_ent (Ent.trans entA (LI_next lb ts x _ (.slice xa x.length xc) cs M M' hR hrv hsub _)) ?_
    refine K_roundEnd hY rfl entA ⟨rfl, rfl⟩
  intro l r v H hpost
  obtain ⟨v', rfl⟩ := hpost
  refine ⟨_, _, _, rfl, by decide, ?_⟩
  rw [hE.1.2, List.take_length, ← hrs]
  refine K_ent (Ent.pick [2] rfl) ?_
  refine K_open (LI_open lb rs) ?_
  rintro ⟨lv, cs, M⟩ hR
  refine K_shape 1 rfl ?_
  intro la lc hlv
  simp only at hlv
  subst hlv
  simp only at hR
  refine K_lat 1 hR rfl ?_
  intro hlat
  (refine go ?_)
  refine J_box rfl rfl (fun _ _ _ => trivial) ?_
  intro jb
  (refine go ?_)
  have hput := put_any jb bd name 0 0 0 false A (Sep [slc 22 1 (.slice la rs.length lc) rs.length cs, arrS 5 M]) (.slice la rs.length lc) rs hlat (by omega) (by omega) hname hst hwr
  refine J_callE rfl rfl rfl rfl hput (Ent.trans entA (Ent.cons (diskA bd A) (Ent.cons (jr jb bd name 0 0 0 false) (Ent.resep [slc 22 1 (.slice la rs.length lc) rs.length cs, arrS 5 M] _)))) ?_ (fun _ _ _ _ _ => trivial)
  rintro _ _ ⟨e, y, rfl, rfl, hpr⟩
  have hfile : fileL A name = rs := by rw [hrs, hB]; rfl
  have hopen : OpenR A name e y.1 ⟨y.2.1, y.2.2.1, y.2.2.2, false⟩ := by
    unfold OpenR
    rw [if_neg (by simp [h1, h2]), if_neg (by rw [h3]; simp), hfile]
    exact ⟨y, hpr, rfl, rfl⟩
  rw [hfile] at hE
  (refine go ?_)
  refine K_condP rfl rfl ?_ ?_
  · intro hne
    have hne' : e ≠ 0 := by omega
    (refine go ?_)
    refine K_returnM hE Try.func14 rfl _ rfl ⟨e, _, _, hopen, .inl ⟨hne', rfl, rfl⟩⟩ entA
  · intro heq
    have heq' : e = 0 := by omega
    subst heq'
    (refine go ?_)
    refine K_drawA (fun w => Sat G w ([pts lb (cl [.slice la rs.length lc] 24)])) (.st 0 (.st 1 (.st 2 (.st 3 (.st 4 .nil))))) rfl (by kernel_rfl) (by kernel_rfl) (by kernel_rfl) (fun w hw => hw.ent entA) ?_
    (refine go ?_)
    refine K_ent (Ent.trans (Ent.pick [2] rfl) (Ent.unsep [slc 22 1 (.slice la rs.length lc) rs.length cs, arrS 5 M] _)) ?_
    refine K_ent (listH_in hR _) ?_
    refine K_returnM hE Try.func14 rfl _ rfl ⟨0, _, _, hopen, .inr ⟨rfl, jb, _, rfl, rfl⟩⟩ entA
end Go.Proofs.Ytpdmbmnhgcnelaa
