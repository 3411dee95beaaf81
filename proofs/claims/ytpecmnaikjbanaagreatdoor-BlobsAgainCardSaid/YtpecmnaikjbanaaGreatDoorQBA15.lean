/- Texts of one claim, joined: Bt, Bv, Vs, Bz0, Vs1. -/
import Derived.Test.YtpecmnaikjbanaaGreatDoorQBA7
import Derived.Test.YtpecmnaikjbanaaGreatDoorQBA9
import Derived.Test.YtpecmnaikjbanaaGreatDoorQBA12
import Derived.Test.YtpecmnaikjbanaaGreatDoorQBA13
import Derived.Test.YtpecmnaikjbanaaGreatDoorQBA14
import Derived.Test.YtpecmnaikjbanaaGreatDoorRows
import Derived.OpenShut
import Derived.ChangeArms
import Derived.ProofKit
import Derived.Handed
import Derived.JoinedOf
import Derived.RowKit
import Derived.WalkKit
import Derived.ShutString
import Derived.ChangeOld
import Derived.Below
import Derived.SizedLaws
import Derived.ChangeSame
import Derived.ChangeVars
/- blobs, part t: sweep. -/
set_option linter.unusedVariables false
set_option linter.unusedSimpArgs false
namespace Go.Proofs.YtpecmnaikjbanaaGreatDoor
open Go Go.SL Go.Sort Go.Shelf
open Go.Lib (compareBytes)
attribute [local irreducible] J K Ctr Ends pts slc mapR mapI sbRow stock arrS loopP CtrY Sha.chunks Sha.chunk Sha.rounds Sha.sched sumL taggedL GI leafL diskA
theorem bCompare_any (A B : HP) (v1 v2 : Value) (b1 b2 : List UInt8) (h1 : Vw A v1 b1.length (bV b1)) (h2 : Vw B v2 b2.length (bV b2)) :
    Ctr Tryz.prog 151 [v1, v2] [A, B] (fun r H => r = .int .i64 (compareBytes b1 b2) ∧ H = [A, B]) := by
  refine Ctr.enter Tryz.func151 (by kernel_rfl) rfl Tryz.ntmps151 rfl rfl ?_
  intro G F R hE
  (refine go ?_)
  refine J_cmpBytes 0 1 rfl Tryz.func175 rfl rfl (by kernel_rfl) rfl rfl rfl rfl h1 h2 ?_
  (refine go ?_)
  (first | refine K_return hE Tryz.func151 rfl _ rfl ⟨rfl, rfl⟩ entA | refine K_fallEnd hE Tryz.func151 rfl _ rfl ⟨rfl, rfl⟩ entA)
def cfBl (x y : Bl) : Int := compareBytes x.d.bs y.d.bs
theorem dCompare_any (a b : Dg) : Ctr Tryz.prog 124 [dV a, dV b] [] (fun r H => r = .int .i64 (compareBytes a.bs b.bs) ∧ H = []) := by
  unfold dV
  refine Ctr.enter Tryz.func124 (by kernel_rfl) rfl Tryz.ntmps124 rfl rfl ?_
  intro G F R hE
  refine K_regionA rfl ?_
  refine J_box rfl rfl (fun _ _ _ => trivial) ?_
  intro b2
  refine J_box rfl rfl (fun _ _ _ => trivial) ?_
  intro b3
  (refine go ?_)
  refine K_drawA (fun w => Sat G w ([])) (.st 0 (.st 1 (.act 2 (.st 3 .nil)))) rfl (by kernel_rfl) (by kernel_rfl) (by kernel_rfl) (fun w hw => hw.ent entA) ?_
  (refine go ?_)
  refine J_sliceArr (U := tab) rfl rfl rfl rfl rfl ?_
  (refine go ?_)
  refine J_sliceArr (U := tab) rfl rfl rfl rfl rfl ?_
  have ha : Vw (pts b2 (cl (dC a) 30)) (.slice (some ⟨b2, 0, none⟩) 32 32) a.bs.length (bV a.bs) := (BAt.block a.len (dC_bV a)).1
  have hb : Vw (pts b3 (cl (dC b) 30)) (.slice (some ⟨b3, 0, none⟩) 32 32) b.bs.length (bV b.bs) := (BAt.block b.len (dC_bV b)).1
  (first | refine J_callE rfl rfl rfl rfl (bCompare_any _ _ _ _ a.bs b.bs ha hb) entA ?_ (fun _ _ w hp hw => by obtain ⟨rfl, rfl⟩ := hp; exact hw.ent entA) | refine J_call0E rfl rfl rfl (bCompare_any _ _ _ _ a.bs b.bs ha hb) entA ?_ (fun _ _ w hp hw => by obtain ⟨rfl, rfl⟩ := hp; exact hw.ent entA))
  rintro _ _ ⟨rfl, rfl⟩
  (refine go ?_)
  (first | refine K_return hE Tryz.func124 rfl _ rfl ⟨rfl, rfl⟩ entA | refine K_fallEnd hE Tryz.func124 rfl _ rfl ⟨rfl, rfl⟩ entA)
theorem sweep1_any (x y : Bl) : Ctr Tryz.prog 123 [blV x, blV y] [] (fun r H => r = .int .i64 (cfBl x y) ∧ H = []) := by
  have hc := dCompare_any x.d y.d
  unfold dV at hc
  unfold blV
  refine Ctr.enter Tryz.func123 (by kernel_rfl) rfl Tryz.ntmps123 rfl rfl ?_
  intro G F R hE
  refine K_regionA rfl ?_
  refine J_box rfl rfl (fun _ _ _ => trivial) ?_
  intro b2
  refine J_box rfl rfl (fun _ _ _ => trivial) ?_
  intro b3
  (refine go ?_)
  refine J_loadAgg (U := tab) 1 rfl rfl rfl rfl rfl rfl ?_
  (refine go ?_)
  refine J_loadAgg (U := tab) 0 rfl rfl rfl rfl rfl rfl ?_
  (first | refine J_callE rfl rfl rfl rfl (hc) entA ?_ (fun _ _ _ _ _ => trivial) | refine J_call0E rfl rfl rfl (hc) entA ?_ (fun _ _ _ _ _ => trivial) | (refine go ?_; first | refine J_callE rfl rfl rfl rfl (hc) entA ?_ (fun _ _ _ _ _ => trivial) | refine J_call0E rfl rfl rfl (hc) entA ?_ (fun _ _ _ _ _ => trivial)))
  rintro _ _ ⟨rfl, rfl⟩
  (refine go ?_)
  (first | refine K_return hE Tryz.func123 rfl _ rfl ⟨rfl, rfl⟩ entA | refine K_fallEnd hE Tryz.func123 rfl _ rfl ⟨rfl, rfl⟩ entA)
theorem twiceB_inj {l : List Bl} (h : twiceB l = false) : ∀ x ∈ l, ∀ y ∈ l, x.d = y.d → x = y := by
  induction l with
  | nil => intro x hx; cases hx
  | cons z l ih =>
    simp only [twiceB, Bool.or_eq_false_iff, List.any_eq_false, decide_eq_true_eq] at h
    intro x hx y hy hd
    rcases List.mem_cons.1 hx with e1 | hx
    · rcases List.mem_cons.1 hy with e2 | hy
      · rw [e1, e2]
      · exact absurd (hd.symm.trans (by rw [e1])) (h.1 y hy)
    · rcases List.mem_cons.1 hy with e2 | hy
      · exact absurd (hd.trans (by rw [e2])) (h.1 x hx)
      · exact ih h.2 x hx y hy hd
theorem imageB_once {l : List Bl} (h : imageB l = 0) : twiceB l = false := by
  unfold imageB at h
  split at h
  · cases h
  · split at h
    · cases h
    · rename_i h2; simpa using h2
/-- The layers sorted by their hashes. -/
theorem sortBl_any (v : Value) (l : List Bl) (hl : imageB l = 0) : Ctr Tryz.prog 122 [v, .func (.func 123) #[] #[] ] [slc 32 66 v l.length (l.flatMap blC)]
    (fun r H => r = .tuple #[] ∧ ∃ m : List Bl, m.Perm l ∧ H = [slc 32 66 v m.length (m.flatMap blC)]) := by
  obtain ⟨h16, h1, _⟩ := imageB_right hl
  have hinj := twiceB_inj (imageB_once hl)
  obtain ⟨z, hz⟩ : ∃ z, z ∈ l := by cases l with | nil => simp at h1 | cons z _ => exact ⟨z, List.mem_cons_self ..⟩
  haveI : Inhabited {x : Bl // x ∈ l} := ⟨⟨z, hz⟩⟩
  have hal : l.attach.length = l.length := List.length_attach
  have hfl : l.attach.flatMap (fun x => blC x.1) = l.flatMap blC := by
    have : (l.attach.map Subtype.val).flatMap blC = l.flatMap blC := by rw [List.attach_map_subtype_val]
    rw [List.flatMap_map] at this
    exact this
  have h := sortFunc_ctr (α := {x : Bl // x ∈ l}) (ρ := sortBl_ren) sortBl 66 Tryz.isAgg32 Tryz.sizeOf32 (fun x => blC x.1) (fun _ => rfl) (fun x v hv => by have := blC_one [x.1] v (by simpa using hv); exact this) (fun x y => cfBl x.1 y.1) (cmpB_swo (fun x : {x : Bl // x ∈ l} => x.1.d.bs)) 123 32 v l.attach (by kernel_rfl) (enters_of Tryz.func123 (by kernel_rfl) rfl) (fun x y => sweep1_any x.1 y.1) (by omega) (fun x y e1 e2 => by
    have a1 := cmpB_anti x.1.d.bs y.1.d.bs
    have e1 := of_decide_eq_false e1
    have e2 := of_decide_eq_false e2
    simp only [cfBl] at e1 e2
    have e3 := cmpB_eq x.1.d.bs y.1.d.bs (by omega)
    have e4 : x.1.d = y.1.d := by
      cases hx : x.1.d with
      | mk b hb => cases hy : y.1.d with
        | mk c hc => rw [hx, hy] at e3; simp only at e3; subst e3; rfl
    exact Subtype.ext (hinj _ x.2 _ y.2 e4))
  rw [hal, hfl] at h
  refine h.post ?_
  rintro r H ⟨rfl, rfl⟩
  refine ⟨rfl, (l.attach.mergeSort fun x y => !(ltOf fun x y : {x : Bl // x ∈ l} => cfBl x.1 y.1) y x).map Subtype.val, ?_, ?_⟩
  · have h1 := (List.mergeSort_perm l.attach fun x y => !(ltOf fun x y : {x : Bl // x ∈ l} => cfBl x.1 y.1) y x).map Subtype.val
    rw [List.attach_map_subtype_val] at h1
    exact h1
  · rw [List.length_map, List.length_mergeSort, hal, List.flatMap_map]
theorem CloneBl_any (A : HP) (v : Value) (l : List Bl) (hv : Vw A v l.length (l.flatMap blC)) (hl : l.length ≤ 1000000) :
    Ctr Tryz.prog 121 [v] [A] (fun r H => H = [slc 32 66 r l.length (l.flatMap blC), A]) := by
  obtain ⟨a, c, rfl⟩ := hv.shape
  refine Ctr.enter Tryz.func121 (by kernel_rfl) rfl Tryz.ntmps121 rfl rfl ?_
  intro G F R hE
  cases a with
  | none =>
    have hl0 : l = [] := by
      rcases Nat.eq_zero_or_pos l.length with h | h
      · exact List.eq_nil_of_length_eq_zero h
      · obtain ⟨b, o, cap', hsl⟩ := hv.some (blNe h)
        simp at hsl
    subst hl0
    (refine go ?_)
    refine K_ent (slc_lift 32 66 none _) ?_
    (first | refine K_return hE Tryz.func121 rfl _ rfl rfl entA | refine K_fallEnd hE Tryz.func121 rfl _ rfl rfl entA)
  | some a1 =>
    (refine go ?_)
    refine J_buildSlice1 (U := tab) (cs := []) rfl rfl rfl rfl rfl rfl rfl rfl rfl (fun _ _ _ => trivial) ?_
    intro b3
    refine J_ent (slc_row 32 66 b3 0 0 [] [] _ rfl (Nat.le_refl _) (by simp)) ?_
    (refine go ?_)
    refine J_append (U := tab) (mm := l.length) (news := l.flatMap blC) 0 1 rfl rfl rfl rfl rfl rfl rfl rfl rfl rfl rfl rfl hv (by rw [chunk_len blC_len]; rfl) (blC_one l) (by omega) (by show (0 + _) * 80 ≤ _; omega) (fun _ => rfl) (fun _ _ _ => trivial) ?_
    intro v1
    rw [Nat.zero_add, List.nil_append]
    (refine go ?_)
    (first | refine K_return hE Tryz.func121 rfl _ rfl rfl entA | refine K_fallEnd hE Tryz.func121 rfl _ rfl rfl entA)
set_option maxRecDepth 20000 in
set_option maxHeartbeats 1000000 in
theorem sweep_any (V : HP) (lv : Value) (l : List Bl) (hv : Vw V lv l.length (l.flatMap blC)) (hl : imageB l = 0) (bs bd : Nat) (q : Int) (mb : Nat) (brk : Bool) (A : Ab) (hst : A.states.length ≤ 900000000) :
    Ctr Tryz.prog 82 [ptr bs, imV lv] [pts bs (cl (stC bd q mb brk) 92), diskA bd A, V]
    (fun r H => ∃ (e : Nat) (B : Ab), r = .int .i64 (e : Int) ∧ H = [pts bs (cl (stC bd q mb brk) 92), diskA bd B, V] ∧ stSweep l A e B ∧ B.states.length ≤ A.states.length + 16 ∧ B.writes.length ≤ A.writes.length + 16) := by
  obtain ⟨h16, h1, _⟩ := imageB_right hl
  have hclone := CloneBl_any V lv l hv (by omega)
  obtain ⟨la, lc, rfl⟩ := hv.shape
  have hhas := fun A d => Has_any bs bd q mb brk A d
  have hfB := fun d => file_any kB d (by decide)
  unfold dV at hhas hfB
  unfold imV
  refine Ctr.enter Tryz.func82 (by kernel_rfl) rfl Tryz.ntmps82 rfl rfl ?_
  intro G F R hE
  refine K_regionA rfl ?_
  refine J_box rfl rfl (fun _ _ _ => trivial) ?_
  intro b3
  (refine go ?_)
  (first | refine J_callE rfl rfl rfl rfl (kept_any bs bd q mb brk A) entA ?_ (fun _ _ _ _ _ => trivial) | refine J_call0E rfl rfl rfl (kept_any bs bd q mb brk A) entA ?_ (fun _ _ _ _ _ => trivial) | (refine go ?_; first | refine J_callE rfl rfl rfl rfl (kept_any bs bd q mb brk A) entA ?_ (fun _ _ _ _ _ => trivial) | refine J_call0E rfl rfl rfl (kept_any bs bd q mb brk A) entA ?_ (fun _ _ _ _ _ => trivial)))
  rintro _ _ ⟨mk, es, rfl, hkm, rfl⟩
  (refine go ?_)
  (first | refine J_callE rfl rfl rfl rfl (hclone) entA ?_ (fun _ _ _ _ _ => trivial) | refine J_call0E rfl rfl rfl (hclone) entA ?_ (fun _ _ _ _ _ => trivial) | (refine go ?_; first | refine J_callE rfl rfl rfl rfl (hclone) entA ?_ (fun _ _ _ _ _ => trivial) | refine J_call0E rfl rfl rfl (hclone) entA ?_ (fun _ _ _ _ _ => trivial)))
  rintro rv _ rfl
  (refine go ?_)
  (first | refine J_callE rfl rfl rfl rfl (sortBl_any rv l hl) entA ?_ (fun _ _ _ _ _ => trivial) | refine J_call0E rfl rfl rfl (sortBl_any rv l hl) entA ?_ (fun _ _ _ _ _ => trivial) | (refine go ?_; first | refine J_callE rfl rfl rfl rfl (sortBl_any rv l hl) entA ?_ (fun _ _ _ _ _ => trivial) | refine J_call0E rfl rfl rfl (sortBl_any rv l hl) entA ?_ (fun _ _ _ _ _ => trivial)))
  rintro _ _ ⟨rfl, m, hmp, rfl⟩
  have hml : m.length = l.length := hmp.length_eq
  (first | refine J_shape 0 rfl ?_ | refine K_shape 0 rfl ?_)
  rintro va vc rfl
  refine J_slcVw 0 rfl ?_
  intro hvm
  (refine go ?_)
  refine K_loop (fun y : Nat × Ab => y.1 ≤ m.length ∧ y.2.states.length ≤ A.states.length + y.1 ∧ y.2.writes.length ≤ A.writes.length + y.1 ∧ ∀ e B, SweepL (keptF A) (m.drop y.1) y.2 e B → SweepL (keptF A) m A e B) (fun y => m.length - y.1)
    (fun y => [(0, ptr bs), (5, .map (some mk)), (17, .slice va m.length vc), (18, .int .i64 (m.length : Int)), (19, .int .i64 (y.1 : Int))])
    (fun y => slc 32 66 (.slice va m.length vc) m.length (m.flatMap blC) :: mapR dV mk es :: pts bs (cl (stC bd q mb brk) 92) :: diskA bd y.2 :: V :: F) (0, A) ⟨Nat.zero_le _, by simp, by simp, fun e B h => h⟩ rfl (by repeat (first | exact keep_nil | refine keep_cons rfl ?_)) entA ?_
  rintro ⟨i, B⟩ ⟨hi, hbs, hbw, hsc⟩ ih
  simp only at hi hbs hbw hsc
  dsimp only
  (refine go ?_)
  refine K_condP rfl rfl ?_ ?_
  · intro hlt
    have hi' : i < m.length := by omega
    obtain ⟨y, hx⟩ : ∃ x, m[i]? = some x := ⟨m[i], by simp⟩
    have hdrop : m.drop i = y :: m.drop (i + 1) := by
      rw [List.drop_eq_getElem_cons hi']
      congr 1
      exact (List.getElem?_eq_some_iff.1 hx).2
    rw [hdrop] at hsc
    obtain ⟨b, o, cap', hsl⟩ := hvm.some (blNe hi')
    simp only [Value.slice.injEq] at hsl
    obtain ⟨rfl, _, rfl⟩ := hsl
    (refine go ?_)
    refine J_at (U := tab) i 66 rfl rfl rfl rfl rfl rfl rfl rfl hi' ?_
    refine J_loadElem (U := tab) (es := blC y) 0 (i * 66) rfl rfl rfl hvm rfl (blE hx) rfl rfl rfl ?_
    refine J_alloc (U := tab) rfl rfl rfl (fun _ _ _ => trivial) ?_
    intro b8
    (refine go ?_)
    refine J_loadAgg (U := tab) 0 rfl rfl rfl rfl rfl rfl ?_
    refine J_lookup (U := tab) (es := es) (key := y.d) 2 rfl kDg rfl rfl rfl rfl rfl rfl rfl rfl ?_
    rw [hkm y.d]
    by_cases hk : y.d ∈ keptF A
    · have hsc2 : ∀ e B', SweepL (keptF A) (m.drop (i + 1)) B e B' → SweepL (keptF A) m A e B' := fun e B' h => hsc e B' (by unfold SweepL; rw [if_pos (.inl hk)]; exact h)
      rw [if_pos hk]
      (refine go ?_)
      refine K_again ih (i + 1, B) rfl ⟨by simp only; omega, by simp only; omega, by simp only; omega, hsc2⟩ (by simp only; omega) (by repeat (first | exact keep_nil | refine keep_cons rfl ?_)) entA
    · rw [if_neg hk]
      (refine go ?_)
      refine J_loadAgg (U := tab) 0 rfl rfl rfl rfl rfl rfl ?_
      (first | refine J_callE rfl rfl rfl rfl (hhas B y.d) entA ?_ (fun _ _ _ _ _ => trivial) | refine J_call0E rfl rfl rfl (hhas B y.d) entA ?_ (fun _ _ _ _ _ => trivial) | (refine go ?_; first | refine J_callE rfl rfl rfl rfl (hhas B y.d) entA ?_ (fun _ _ _ _ _ => trivial) | refine J_call0E rfl rfl rfl (hhas B y.d) entA ?_ (fun _ _ _ _ _ => trivial)))
      rintro _ _ ⟨rfl, rfl⟩
      cases hh : hasF B (fileN kB y.d) with
      | false =>
        have hsc2 : ∀ e B', SweepL (keptF A) (m.drop (i + 1)) B e B' → SweepL (keptF A) m A e B' := fun e B' h => hsc e B' (by unfold SweepL; rw [if_pos (.inr hh)]; exact h)
        (refine go ?_)
        refine K_again ih (i + 1, B) rfl ⟨by simp only; omega, by simp only; omega, by simp only; omega, hsc2⟩ (by simp only; omega) (by repeat (first | exact keep_nil | refine keep_cons rfl ?_)) entA
      | true =>
        have hrem := Remove_dA bd B (fileN kB y.d) (by omega)
        obtain ⟨e1, B1, hrb⟩ : ∃ e1 B1, B.remove (isName (fileN kB y.d)) (fileN kB y.d) = (e1, B1) := ⟨_, _, rfl⟩
        rw [hrb] at hrem
        have hgr := grow_stRemove (A := B) (B := B1) (nm := fileN kB y.d) (e := e1) hrb.symm
        have hg1 := hgr.1
        have hg2 := hgr.2
        have hsc2 : ∀ e B', ((e1 ≠ 0 ∧ e = e1 ∧ B' = B1) ∨ (e1 = 0 ∧ SweepL (keptF A) (m.drop (i + 1)) B1 e B')) → SweepL (keptF A) m A e B' := fun e B' h => hsc e B' (by
          unfold SweepL
          rw [if_neg (by
            rintro (h | h)
            · exact hk h
            · rw [show hasF B (fB y) = true from hh] at h; cases h)]
          exact ⟨e1, B1, hrb.symm, h⟩)
        (refine go ?_)
        (first | refine K_ent (H' := pts b8 (cl (blC y) 32) :: slc 32 66 (.slice (some ⟨b, o, none⟩) m.length vc) m.length (m.flatMap blC) :: mapR dV mk es :: pts bs (cl (stC bd q mb brk) 92) :: diskA bd B :: V :: F) entA ?_ | refine J_ent (H' := pts b8 (cl (blC y) 32) :: slc 32 66 (.slice (some ⟨b, o, none⟩) m.length vc) m.length (m.flatMap blC) :: mapR dV mk es :: pts bs (cl (stC bd q mb brk) 92) :: diskA bd B :: V :: F) entA ?_)
        refine K_drawA (fun w => Sat G w ([pts b8 (cl (blC y) 32), pts bs (cl (stC bd q mb brk) 92)])) (.st 0 (.st 1 (.st 2 (.st 3 (.st 4 (.st 5 (.act 6 (.act 7 (.st 8 .nil))))))))) rfl (by kernel_rfl) (by kernel_rfl) (by kernel_rfl) (fun w hw => hw.ent entA) ?_
        (refine go ?_)
        refine J_loadAggS (U := tab) 0 rfl rfl rfl rfl rfl rfl ?_
        (refine go ?_)
        (first | refine J_callE rfl rfl rfl rfl (hfB y.d) entA ?_ (fun _ _ w hp hw => by obtain ⟨rfl, rfl⟩ := hp; exact hw.ent entA) | refine J_call0E rfl rfl rfl (hfB y.d) entA ?_ (fun _ _ w hp hw => by obtain ⟨rfl, rfl⟩ := hp; exact hw.ent entA))
        rintro _ _ ⟨rfl, rfl⟩
        (refine go ?_)
        (first | refine J_callE rfl rfl rfl rfl (hrem) entA ?_ (fun _ _ w hp hw => by obtain ⟨rfl, rfl⟩ := hp; exact hw.ent entA) | refine J_call0E rfl rfl rfl (hrem) entA ?_ (fun _ _ w hp hw => by obtain ⟨rfl, rfl⟩ := hp; exact hw.ent entA))
        rintro _ _ ⟨rfl, rfl⟩
        (refine go ?_)
        refine K_condP rfl rfl ?_ ?_
        · intro hne
          have hne' : e1 ≠ 0 := by simp only at hne; omega
          (refine go ?_)
          refine K_ent (H' := pts bs (cl (stC bd q mb brk) 92) :: diskA bd B1 :: V :: F) entA ?_
          (first | refine K_return hE Tryz.func82 rfl _ rfl ⟨e1, B1, rfl, rfl, ⟨m, hmp, hsc2 e1 B1 (.inl ⟨hne', rfl, rfl⟩)⟩, by omega, by omega⟩ entA | refine K_fallEnd hE Tryz.func82 rfl _ rfl ⟨e1, B1, rfl, rfl, ⟨m, hmp, hsc2 e1 B1 (.inl ⟨hne', rfl, rfl⟩)⟩, by omega, by omega⟩ entA)
        · intro heq
          have heq' : e1 = 0 := by simp only at heq; omega
          (refine go ?_)
          refine K_again ih (i + 1, B1) rfl ⟨by simp only; omega, by simp only; omega, by simp only; omega, fun e B' h => hsc2 e B' (.inr ⟨heq', h⟩)⟩ (by simp only; omega) (by repeat (first | exact keep_nil | refine keep_cons rfl ?_)) entA
  · intro hge
    have hie : i = m.length := by omega
    rw [hie, List.drop_length] at hsc
    clear ih
    (refine go ?_)
    refine K_ent (H' := pts bs (cl (stC bd q mb brk) 92) :: diskA bd B :: V :: F) entA ?_
    (first | refine K_return hE Tryz.func82 rfl _ rfl ⟨0, B, rfl, rfl, ⟨m, hmp, hsc 0 B (by unfold SweepL; exact ⟨rfl, rfl⟩)⟩, by omega, by omega⟩ entA | refine K_fallEnd hE Tryz.func82 rfl _ rfl ⟨0, B, rfl, rfl, ⟨m, hmp, hsc 0 B (by unfold SweepL; exact ⟨rfl, rfl⟩)⟩, by omega, by omega⟩ entA)
end Go.Proofs.YtpecmnaikjbanaaGreatDoor

/- blobs, part v: Drop. -/
set_option linter.unusedVariables false
set_option linter.unusedSimpArgs false
namespace Go.Proofs.YtpecmnaikjbanaaGreatDoor
open Go Go.SL
attribute [local irreducible] J K Ctr Ends pts slc mapR mapI sbRow stock arrS loopP CtrY Sha.chunks Sha.chunk Sha.rounds Sha.sched sumL taggedL GI leafL diskA
theorem drop1_any (bs bd b2 b3 : Nat) (q : Int) (mb : Nat) (brk : Bool) (d : Dg) (A : Ab) (hst : A.states.length ≤ 1000000000) :
    Ctr Tryz.prog 80 [ptr b2, ptr b3] (pts bs (cl (stC bd q mb brk) 92) :: diskA bd A :: [pts b3 (cl (dC d) 30), pts b2 (cl [ptr bs] 35)])
      (fun r H => ∃ (e : Nat) (B : Ab), r = .int .i64 (e : Int) ∧ H = pts bs (cl (stC bd q mb brk) 92) :: diskA bd B :: [pts b3 (cl (dC d) 30), pts b2 (cl [ptr bs] 35)] ∧ stRemove (fileN kI d) A e B) := by
  have hf := file_any kI d (by decide)
  unfold dV at hf
  refine Ctr.enter Tryz.func80 (by kernel_rfl) rfl Tryz.ntmps80 rfl rfl ?_
  intro G F R hE
  (refine go ?_)
  refine K_drawA (fun w => Sat G w ([pts bs (cl (stC bd q mb brk) 92), pts b2 (cl [ptr bs] 35), pts b3 (cl (dC d) 30)])) (.st 0 (.st 1 (.st 2 (.st 3 (.st 4 (.act 5 (.act 6 (.st 7 .nil)))))))) rfl (by kernel_rfl) (by kernel_rfl) (by kernel_rfl) (fun w hw => hw.ent entA) ?_
  (refine go ?_)
  refine J_loadArrS (U := tab) (l := dC d) 2 rfl rfl rfl rfl rfl rfl ?_
  (refine go ?_)
  (first | refine J_callE rfl rfl rfl rfl (hf) entA ?_ (fun _ _ w hp hw => by obtain ⟨rfl, rfl⟩ := hp; exact hw.ent entA) | refine J_call0E rfl rfl rfl (hf) entA ?_ (fun _ _ w hp hw => by obtain ⟨rfl, rfl⟩ := hp; exact hw.ent entA))
  rintro _ _ ⟨rfl, rfl⟩
  (refine go ?_)
  (first | refine J_callE rfl rfl rfl rfl (Remove_dA bd A (fileN kI d) hst) entA ?_ (fun _ _ w hp hw => by obtain ⟨rfl, rfl⟩ := hp; exact hw.ent entA) | refine J_call0E rfl rfl rfl (Remove_dA bd A (fileN kI d) hst) entA ?_ (fun _ _ w hp hw => by obtain ⟨rfl, rfl⟩ := hp; exact hw.ent entA))
  rintro _ _ ⟨rfl, rfl⟩
  (refine go ?_)
  (first | refine K_return hE Tryz.func80 rfl _ rfl ⟨_, _, rfl, rfl, rfl⟩ entA | refine K_fallEnd hE Tryz.func80 rfl _ rfl ⟨_, _, rfl, rfl, rfl⟩ entA)
theorem drop2_any (bs bd b2 b5 : Nat) (q : Int) (mb : Nat) (brk : Bool) (V : HP) (lv : Value) (l : List Bl) (hv : Vw V lv l.length (l.flatMap blC)) (hl : imageB l = 0) (A : Ab) (hst : A.states.length ≤ 900000000) :
    Ctr Tryz.prog 81 [ptr b2, ptr b5] (pts bs (cl (stC bd q mb brk) 92) :: diskA bd A :: [pts b2 (cl [ptr bs] 35), pts b5 (cl [lv] 55), V])
      (fun r H => ∃ (e : Nat) (B : Ab), r = .int .i64 (e : Int) ∧ H = pts bs (cl (stC bd q mb brk) 92) :: diskA bd B :: [pts b2 (cl [ptr bs] 35), pts b5 (cl [lv] 55), V] ∧ (stSweep l A e B ∧ B.states.length ≤ A.states.length + 16 ∧ B.writes.length ≤ A.writes.length + 16)) := by
  have hsw := sweep_any V lv l hv hl bs bd q mb brk A hst
  obtain ⟨a, c, rfl⟩ := hv.shape
  unfold imV at hsw
  refine Ctr.enter Tryz.func81 (by kernel_rfl) rfl Tryz.ntmps81 rfl rfl ?_
  intro G F R hE
  (refine go ?_)
  refine J_loadArr (U := tab) (l := [.slice a l.length c]) 3 rfl rfl rfl rfl rfl rfl ?_
  (first | refine J_callE rfl rfl rfl rfl (hsw) entA ?_ (fun _ _ _ _ _ => trivial) | refine J_call0E rfl rfl rfl (hsw) entA ?_ (fun _ _ _ _ _ => trivial) | (refine go ?_; first | refine J_callE rfl rfl rfl rfl (hsw) entA ?_ (fun _ _ _ _ _ => trivial) | refine J_call0E rfl rfl rfl (hsw) entA ?_ (fun _ _ _ _ _ => trivial)))
  rintro _ _ ⟨e, B, rfl, rfl, h1, h2, h3⟩
  (refine go ?_)
  refine K_ent (H' := pts bs (cl (stC bd q mb brk) 92) :: diskA bd B :: [pts b2 (cl [ptr bs] 35), pts b5 (cl [.slice a l.length c] 55), V] ++ F) entA ?_
  (first | refine K_return hE Tryz.func81 rfl _ rfl ⟨_, _, rfl, rfl, h1, h2, h3⟩ entA | refine K_fallEnd hE Tryz.func81 rfl _ rfl ⟨_, _, rfl, rfl, h1, h2, h3⟩ entA)
def drX (bs b2 b3 b5 : Nat) (d : Dg) (lv : Value) (l : List Bl) : List HP := [pts b3 (cl (dC d) 30), pts b2 (cl [ptr bs] 35), pts b5 (cl [lv] 55), slc 32 66 lv l.length (l.flatMap blC)]
def drF (bd b2 b3 b5 : Nat) : List Value := [.func (.func 80) #[] #[ptr b2, ptr b3], .func (.func 81) #[] #[ptr b2, ptr b5], .func (.func 51) #[ptr bd] #[] ]
theorem dr_steps (bs bd : Nat) (q : Int) (mb : Nat) (brk : Bool) (b2 b3 b5 : Nat) (d : Dg) (lv : Value) (l : List Bl) (hv : Vw (slc 32 66 lv l.length (l.flatMap blC)) lv l.length (l.flatMap blC)) (hl : imageB l = 0) (A : Ab) (hst : A.states.length ≤ 800000000) (hwl : A.writes.length ≤ 800000000) :
    All2 (StpOk (stX bs bd q mb brk (Sep (drX bs b2 b3 b5 d lv l))) A) (drF bd b2 b3 b5) [stRemove (fileN kI d), stSweep l, stSyncNames] := by
  refine All2.cons (All2.cons (All2.one ?_) ?_) ?_
  · refine stpOk_of (by omega) (by omega) (fun y h1 h2 => ?_) (fun _ _ _ h => grow_stSyncNames h)
    exact names_X bs bd q mb brk (drX bs b2 b3 b5 d lv l) y
  · refine ⟨_, _, _, rfl, fun j hj y hy => ?_⟩
    have h := ctr_stXl [pts b3 (cl (dC d) 30)] (Xs := [pts b2 (cl [ptr bs] 35), pts b5 (cl [lv] 55), slc 32 66 lv l.length (l.flatMap blC)]) (p := fun e B => stSweep l y e B ∧ B.states.length ≤ y.states.length + 16 ∧ B.writes.length ≤ y.writes.length + 16) (drop2_any bs bd b2 b5 q mb brk _ lv l hv hl y (by have := hy.1; omega))
    refine h.post ?_
    rintro r H ⟨e, B, rfl, rfl, h1, h2, h3⟩
    exact ⟨e, B, rfl, rfl, h1, fun _ => ⟨by have := hy.1; omega, by have := hy.2; omega⟩⟩
  · refine stpOk_of (by omega) (by omega) (fun y h1 h2 => ?_) (fun _ _ _ h => grow_stRemove h)
    exact ctr_stXr (Xs := [pts b3 (cl (dC d) 30), pts b2 (cl [ptr bs] 35)]) [pts b5 (cl [lv] 55), slc 32 66 lv l.length (l.flatMap blC)] (p := stRemove (fileN kI d) y) (drop1_any bs bd b2 b3 q mb brk d y h1)
set_option maxRecDepth 20000 in
set_option maxHeartbeats 1000000 in
theorem Drop_bl (bs bd : Nat) (q : Int) (mb : Nat) (s : Sto) (d : Dg) (hst : s.A.states.length ≤ 800000000) (hwl : s.A.writes.length ≤ 800000000) :
    Ctr Tryz.prog 29 [ptr bs, dV d] (stoL bs bd q mb s)
    (fun r H => ∃ (e : Nat) (t : Sto), r = .int .i64 (e : Int) ∧ H = stoL bs bd q mb t ∧ DropS d s e t) := by
  obtain ⟨A, beg, brk⟩ := s
  simp only at hst hwl
  have himg := ImageS_any bs bd q mb brk A d
  unfold dV at himg ⊢
  refine Ctr.enter Tryz.func29 (by kernel_rfl) rfl Tryz.ntmps29 rfl rfl ?_
  intro G F R hE
  refine K_ent (H' := pts bs (cl (stC bd q mb brk) 92) :: mapR dV mb (begE beg) :: diskA bd A :: F) (Ent.refl _) ?_
  refine K_regionA rfl ?_
  refine J_box rfl rfl (fun _ _ _ => trivial) ?_
  intro b2
  refine J_box rfl rfl (fun _ _ _ => trivial) ?_
  intro b3
  cases brk with
  | true =>
    (refine go ?_)
    refine K_ent (H' := stoL bs bd q mb ⟨A, beg, true⟩ ++ F) entA ?_
    (first | refine K_return hE Tryz.func29 rfl _ rfl ⟨10, ⟨A, beg, true⟩, rfl, rfl, by unfold DropS; rw [if_pos rfl]; exact ⟨rfl, rfl⟩⟩ entA | refine K_fallEnd hE Tryz.func29 rfl _ rfl ⟨10, ⟨A, beg, true⟩, rfl, rfl, by unfold DropS; rw [if_pos rfl]; exact ⟨rfl, rfl⟩⟩ entA)
  | false =>
    (refine go ?_)
    refine J_loadArr (U := tab) (l := dC d) 0 rfl rfl rfl rfl rfl rfl ?_
    (first | refine J_callE rfl rfl rfl rfl (himg) entA ?_ (fun _ _ _ _ _ => trivial) | refine J_call0E rfl rfl rfl (himg) entA ?_ (fun _ _ _ _ _ => trivial) | (refine go ?_; first | refine J_callE rfl rfl rfl rfl (himg) entA ?_ (fun _ _ _ _ _ => trivial) | refine J_call0E rfl rfl rfl (himg) entA ?_ (fun _ _ _ _ _ => trivial)))
    rintro _ _ ⟨rv, rfl, rfl⟩
    unfold imV
    (first | refine J_shape 0 rfl ?_ | refine K_shape 0 rfl ?_)
    rintro ra rc rfl
    (refine go ?_)
    refine J_alloc (U := tab) rfl rfl rfl (fun _ _ _ => trivial) ?_
    intro b5
    (refine go ?_)
    cases him : imageF A d with
    | none =>
      have hD : DropS d ⟨A, beg, false⟩ 4 ⟨A, beg, false⟩ := by unfold DropS; rw [if_neg (by simp), him]; exact ⟨rfl, rfl⟩
      (refine go ?_)
      refine K_ent (H' := stoL bs bd q mb ⟨A, beg, false⟩ ++ F) entA ?_
      (first | refine K_return hE Tryz.func29 rfl _ rfl ⟨4, ⟨A, beg, false⟩, rfl, rfl, hD⟩ entA | refine K_fallEnd hE Tryz.func29 rfl _ rfl ⟨4, ⟨A, beg, false⟩, rfl, rfl, hD⟩ entA)
    | some l =>
      have hok := imageF_ok him
      have hD : ∀ e t, chgS [stRemove (fileN kI d), stSweep l, stSyncNames] ⟨A, beg, false⟩ e t → DropS d ⟨A, beg, false⟩ e t := fun e t h => by unfold DropS; rw [if_neg (by simp), him]; exact h
      simp only [Option.getD_some, Option.isSome_some]
      (refine go ?_)
      (first | refine K_ent (H' := slc 32 66 (.slice ra l.length rc) l.length (l.flatMap blC) :: pts b5 (cl [.slice ra l.length rc] 55) :: pts b3 (cl (dC d) 30) :: pts b2 (cl [ptr bs] 35) :: pts bs (cl (stC bd q mb false) 92) :: mapR dV mb (begE beg) :: diskA bd A :: F) entA ?_ | refine J_ent (H' := slc 32 66 (.slice ra l.length rc) l.length (l.flatMap blC) :: pts b5 (cl [.slice ra l.length rc] 55) :: pts b3 (cl (dC d) 30) :: pts b2 (cl [ptr bs] 35) :: pts bs (cl (stC bd q mb false) 92) :: mapR dV mb (begE beg) :: diskA bd A :: F) entA ?_)
      refine K_slcVw 0 rfl ?_
      intro hvl
      refine K_drawA (fun w => Sat G w [stE bs bd q mb, pts b2 (cl [ptr bs] 35)]) (.st 0 (.st 1 (.st 2 (.st 3 (.st 4 (.st 5 (.st 6 (.st 7 (.act 8 (.act 9 (.st 10 .nil))))))))))) rfl (by kernel_rfl) (by kernel_rfl) (by kernel_rfl) (fun w hw => hw.ent (Ent.trans (H2 := [pts bs (cl (stC bd q mb false) 92), pts b2 (cl [ptr bs] 35)]) entA (stE_in bs bd q mb _ _))) ?_
      (refine go ?_)
      refine J_isLoad ?_
      refine J_loadS (U := tab) rfl rfl (fun w hw => stE_cell hw) rfl rfl ?_
      (refine go ?_)
      refine J_buildSlice1 (U := tab) (cs := drF bd b2 b3 b5) rfl rfl rfl rfl rfl rfl rfl rfl rfl (fun _ w hw => by exact hw.ent (Ent.trans (H2 := [pts bs (cl (stC bd q mb false) 92), pts b2 (cl [ptr bs] 35)]) entA (stE_in bs bd q mb _ _))) ?_
      intro row
      have hch := changeA_any bs bd q mb false (Sep (drX bs b2 b3 b5 d (.slice ra l.length rc) l)) (pts row (cl (drF bd b2 b3 b5) 95)) (.slice (some ⟨row, 0, none⟩) 3 3) (drF bd b2 b3 b5) (Vw.pts rfl) (by show 3 ≤ _; omega) [stRemove (fileN kI d), stSweep l, stSyncNames] A (dr_steps bs bd q mb false b2 b3 b5 d _ l hvl hok A hst hwl)
      refine J_ent (H' := pts row (cl (drF bd b2 b3 b5) 95) :: stX bs bd q mb false (Sep (drX bs b2 b3 b5 d (.slice ra l.length rc) l)) A :: mapR dV mb (begE beg) :: F) (Ent.trans (H2 := pts bs (cl (stC bd q mb false) 92) :: diskA bd A :: (drX bs b2 b3 b5 d (.slice ra l.length rc) l ++ (pts row (cl (drF bd b2 b3 b5) 95) :: mapR dV mb (begE beg) :: F))) entA (Ent.trans (stX_in bs bd q mb false _ A _) entA)) ?_
      refine J_callE rfl rfl rfl rfl hch entA ?_ (fun _ _ w hp hw => by
        obtain ⟨e, B, rfl, rfl, hruns⟩ := hp
        exact hw.ent (Ent.trans (Ent.pick [1] rfl) (Ent.trans (stX_out bs bd q mb (or false (decide (e ≠ 0))) _ B _) (Ent.trans (H2 := [pts bs (cl (stC bd q mb (or false (decide (e ≠ 0)))) 92), pts b2 (cl [ptr bs] 35)]) entA (stE_in bs bd q mb _ _)))))
      rintro _ _ ⟨e, B, rfl, rfl, hruns⟩
      refine J_ent (Ent.trans (Ent.pick [1] rfl) (stX_out bs bd q mb (or false (decide (e ≠ 0))) _ B _)) ?_
      (refine go ?_)
      refine K_ent (H' := stoL bs bd q mb ⟨B, beg, or false (decide (e ≠ 0))⟩ ++ F) entA ?_
      (first | refine K_return hE Tryz.func29 rfl _ rfl ⟨e, ⟨B, beg, or false (decide (e ≠ 0))⟩, rfl, rfl, hD _ _ ⟨B, hruns, rfl⟩⟩ entA | refine K_fallEnd hE Tryz.func29 rfl _ rfl ⟨e, ⟨B, beg, or false (decide (e ≠ 0))⟩, rfl, rfl, hD _ _ ⟨B, hruns, rfl⟩⟩ entA)
end Go.Proofs.YtpecmnaikjbanaaGreatDoor

/- blobs: the law Again, its walk. -/
set_option linter.unusedVariables false
set_option linter.unusedSimpArgs false
namespace Go.Proofs.YtpecmnaikjbanaaGreatDoor
open Go Go.SL
attribute [local irreducible] J K Ctr Ends pts slc mapR mapI sbRow stock arrS loopP CtrY Sha.chunks Sha.chunk Sha.rounds Sha.sched sumL taggedL GI leafL diskA
set_option maxRecDepth 20000 in
set_option maxHeartbeats 1000000 in
theorem Again_any (X : HP) (hK : KAt X) (v : Value) (l : List ST8) (hv : Steps8 X v l) :
    Ctr Tryz.prog 6 [v] [X] (fun r H => r = .bool true ∧ H = [X]) := by
  obtain ⟨hvw, hll, hok⟩ := hv
  have hmu := much8_any X v l hvw hll hok
  obtain ⟨a0, c0, rfl⟩ := hvw.shape
  refine Ctr.enter Tryz.func6 (by kernel_rfl) rfl Tryz.ntmps6 rfl rfl ?_
  intro G F R hE
  (refine go ?_)
  (first | refine J_callE rfl rfl rfl rfl (awake_any X hK) entA ?_ (fun _ _ _ _ _ => trivial) | refine J_call0E rfl rfl rfl (awake_any X hK) entA ?_ (fun _ _ _ _ _ => trivial) | (refine go ?_; first | refine J_callE rfl rfl rfl rfl (awake_any X hK) entA ?_ (fun _ _ _ _ _ => trivial) | refine J_call0E rfl rfl rfl (awake_any X hK) entA ?_ (fun _ _ _ _ _ => trivial)))
  rintro _ _ ⟨rfl, rfl⟩
  (refine go ?_)
  (first | refine J_callE rfl rfl rfl rfl (hmu) entA ?_ (fun _ _ _ _ _ => trivial) | refine J_call0E rfl rfl rfl (hmu) entA ?_ (fun _ _ _ _ _ => trivial) | (refine go ?_; first | refine J_callE rfl rfl rfl rfl (hmu) entA ?_ (fun _ _ _ _ _ => trivial) | refine J_call0E rfl rfl rfl (hmu) entA ?_ (fun _ _ _ _ _ => trivial)))
  rintro _ _ ⟨b, rfl, rfl, hsm⟩
  (refine go ?_)
  (first | refine J_callE rfl rfl rfl rfl (New_dA 16777216 (by omega) (by omega)) entA ?_ (fun _ _ _ _ _ => trivial) | refine J_call0E rfl rfl rfl (New_dA 16777216 (by omega) (by omega)) entA ?_ (fun _ _ _ _ _ => trivial) | (refine go ?_; first | refine J_callE rfl rfl rfl rfl (New_dA 16777216 (by omega) (by omega)) entA ?_ (fun _ _ _ _ _ => trivial) | refine J_call0E rfl rfl rfl (New_dA 16777216 (by omega) (by omega)) entA ?_ (fun _ _ _ _ _ => trivial)))
  rintro _ _ ⟨bd, rfl, rfl⟩
  cases b with
  | true =>
    (refine go ?_)
    (first | refine K_return hE Tryz.func6 rfl _ rfl ⟨rfl, rfl⟩ entA | refine K_fallEnd hE Tryz.func6 rfl _ rfl ⟨rfl, rfl⟩ entA)
  | false =>
    have hsm := hsm rfl
    (refine go ?_)
    (first | refine J_callE rfl rfl rfl rfl (Open_first X hK bd 16777216 1048576 (by omega)) entA ?_ (fun _ _ _ _ _ => trivial) | refine J_call0E rfl rfl rfl (Open_first X hK bd 16777216 1048576 (by omega)) entA ?_ (fun _ _ _ _ _ => trivial) | (refine go ?_; first | refine J_callE rfl rfl rfl rfl (Open_first X hK bd 16777216 1048576 (by omega)) entA ?_ (fun _ _ _ _ _ => trivial) | refine J_call0E rfl rfl rfl (Open_first X hK bd 16777216 1048576 (by omega)) entA ?_ (fun _ _ _ _ _ => trivial)))
    rintro _ _ ⟨bs, mb, rfl, rfl⟩
    (refine go ?_)
    refine K_mid 1 (fun g : Sto => Rnd 1048576 60 g) (fun _ => [(5, ptr bd), (7, ptr bs)]) (fun g => X :: (stoL bs bd 1048576 mb g ++ F)) rfl ?_ ?_
    · intro s hr
      obtain ⟨hb1, hb2, hb3⟩ := hr.bnd (by omega)
      have hnl : (namesF s.A).length ≤ 60 := by rw [namesF_names]; exact hr.names
      have hil : (imagesF s.A).length ≤ 60 := by
        have := List.length_filterMap_le (hashN kI) (namesF s.A)
        unfold imagesF
        omega
      have hus : usedS ⟨s.A, [], false⟩ ≤ usedS s := by
        have := beg_nonneg fun x hx => (hr.si.size0 x hx).1
        unfold usedS
        simp only [List.map_nil, List.sum_nil]
        omega
      have hu1 := Used_bl bs bd 1048576 mb s hb1
      (refine go ?_)
      (first | refine J_callE rfl rfl rfl rfl (Names_dB bd s.A) entA ?_ (fun _ _ _ _ _ => trivial) | refine J_call0E rfl rfl rfl (Names_dB bd s.A) entA ?_ (fun _ _ _ _ _ => trivial) | (refine go ?_; first | refine J_callE rfl rfl rfl rfl (Names_dB bd s.A) entA ?_ (fun _ _ _ _ _ => trivial) | refine J_call0E rfl rfl rfl (Names_dB bd s.A) entA ?_ (fun _ _ _ _ _ => trivial)))
      rintro r1 _ rfl
      (first | refine J_shape 0 rfl ?_ | refine K_shape 0 rfl ?_)
      rintro a1 c1 rfl
      refine J_slcVw 0 rfl ?_
      intro hv1
      (refine go ?_)
      (first | refine J_callE rfl rfl rfl rfl (Images_any bs bd 1048576 mb s.brk s.A) entA ?_ (fun _ _ _ _ _ => trivial) | refine J_call0E rfl rfl rfl (Images_any bs bd 1048576 mb s.brk s.A) entA ?_ (fun _ _ _ _ _ => trivial) | (refine go ?_; first | refine J_callE rfl rfl rfl rfl (Images_any bs bd 1048576 mb s.brk s.A) entA ?_ (fun _ _ _ _ _ => trivial) | refine J_call0E rfl rfl rfl (Images_any bs bd 1048576 mb s.brk s.A) entA ?_ (fun _ _ _ _ _ => trivial)))
      rintro r2 _ rfl
      (first | refine J_shape 0 rfl ?_ | refine K_shape 0 rfl ?_)
      rintro a2 c2 rfl
      refine J_slcVw 0 rfl ?_
      intro hv2
      (refine go ?_)
      (first | refine J_callE rfl rfl rfl rfl (Open_any' X hK bd 1048576 s.A (by omega)) entA ?_ (fun _ _ _ _ _ => trivial) | refine J_call0E rfl rfl rfl (Open_any' X hK bd 1048576 s.A (by omega)) entA ?_ (fun _ _ _ _ _ => trivial) | (refine go ?_; first | refine J_callE rfl rfl rfl rfl (Open_any' X hK bd 1048576 s.A (by omega)) entA ?_ (fun _ _ _ _ _ => trivial) | refine J_call0E rfl rfl rfl (Open_any' X hK bd 1048576 s.A (by omega)) entA ?_ (fun _ _ _ _ _ => trivial)))
      rintro _ _ (⟨h, _⟩ | ⟨_, h, _⟩ | ⟨_, _, e, B, ho, hc⟩)
      · exfalso; omega
      · rw [hr.si.ha.on] at h; cases h
      obtain ⟨rfl, rfl⟩ := hr.si.open ho
      rcases hc with ⟨hne, _⟩ | ⟨_, _, bs2, mb2, rfl, rfl⟩
      · exact absurd rfl hne
      have hu2 := Used_bl bs2 bd 1048576 mb2 ⟨s.A, [], false⟩ ⟨by simp, by simp⟩
      (refine go ?_)
      (first | refine J_callE rfl rfl rfl rfl (Images_any bs2 bd 1048576 mb2 false s.A) entA ?_ (fun _ _ _ _ _ => trivial) | refine J_call0E rfl rfl rfl (Images_any bs2 bd 1048576 mb2 false s.A) entA ?_ (fun _ _ _ _ _ => trivial) | (refine go ?_; first | refine J_callE rfl rfl rfl rfl (Images_any bs2 bd 1048576 mb2 false s.A) entA ?_ (fun _ _ _ _ _ => trivial) | refine J_call0E rfl rfl rfl (Images_any bs2 bd 1048576 mb2 false s.A) entA ?_ (fun _ _ _ _ _ => trivial)))
      rintro r3 _ rfl
      (first | refine J_shape 0 rfl ?_ | refine K_shape 0 rfl ?_)
      rintro a3 c3 rfl
      refine J_slcVw 0 rfl ?_
      intro hv3
      (refine go ?_)
      (first | refine J_callE rfl rfl rfl rfl (Same4_ref _ _ _ _ (imagesF s.A) (imagesF s.A) hv2 hv3 (by omega) (by omega)) entA ?_ (fun _ _ _ _ _ => trivial) | refine J_call0E rfl rfl rfl (Same4_ref _ _ _ _ (imagesF s.A) (imagesF s.A) hv2 hv3 (by omega) (by omega)) entA ?_ (fun _ _ _ _ _ => trivial) | (refine go ?_; first | refine J_callE rfl rfl rfl rfl (Same4_ref _ _ _ _ (imagesF s.A) (imagesF s.A) hv2 hv3 (by omega) (by omega)) entA ?_ (fun _ _ _ _ _ => trivial) | refine J_call0E rfl rfl rfl (Same4_ref _ _ _ _ (imagesF s.A) (imagesF s.A) hv2 hv3 (by omega) (by omega)) entA ?_ (fun _ _ _ _ _ => trivial)))
      rintro _ _ ⟨rfl, rfl⟩
      rw [decide_eq_true (rfl : imagesF s.A = imagesF s.A)]
      (refine go ?_)
      (first | refine J_callE rfl rfl rfl rfl (Names_dB bd s.A) entA ?_ (fun _ _ _ _ _ => trivial) | refine J_call0E rfl rfl rfl (Names_dB bd s.A) entA ?_ (fun _ _ _ _ _ => trivial) | (refine go ?_; first | refine J_callE rfl rfl rfl rfl (Names_dB bd s.A) entA ?_ (fun _ _ _ _ _ => trivial) | refine J_call0E rfl rfl rfl (Names_dB bd s.A) entA ?_ (fun _ _ _ _ _ => trivial)))
      rintro r4 _ rfl
      (first | refine J_shape 0 rfl ?_ | refine K_shape 0 rfl ?_)
      rintro a4 c4 rfl
      refine J_slcVw 0 rfl ?_
      intro hv4
      (refine go ?_)
      (first | refine J_callE rfl rfl rfl rfl (SameNames_any _ _ _ _ (namesF s.A) (namesF s.A) hv1 hv4 (by omega)) entA ?_ (fun _ _ _ _ _ => trivial) | refine J_call0E rfl rfl rfl (SameNames_any _ _ _ _ (namesF s.A) (namesF s.A) hv1 hv4 (by omega)) entA ?_ (fun _ _ _ _ _ => trivial) | (refine go ?_; first | refine J_callE rfl rfl rfl rfl (SameNames_any _ _ _ _ (namesF s.A) (namesF s.A) hv1 hv4 (by omega)) entA ?_ (fun _ _ _ _ _ => trivial) | refine J_call0E rfl rfl rfl (SameNames_any _ _ _ _ (namesF s.A) (namesF s.A) hv1 hv4 (by omega)) entA ?_ (fun _ _ _ _ _ => trivial)))
      rintro _ _ ⟨rfl, rfl⟩
      rw [decide_eq_true (rfl : namesF s.A = namesF s.A)]
      (refine go ?_)
      (first | refine J_callE rfl rfl rfl rfl (hu2) entA ?_ (fun _ _ _ _ _ => trivial) | refine J_call0E rfl rfl rfl (hu2) entA ?_ (fun _ _ _ _ _ => trivial) | (refine go ?_; first | refine J_callE rfl rfl rfl rfl (hu2) entA ?_ (fun _ _ _ _ _ => trivial) | refine J_call0E rfl rfl rfl (hu2) entA ?_ (fun _ _ _ _ _ => trivial)))
      rintro _ _ ⟨rfl, rfl⟩
      (refine go ?_)
      (first | refine J_callE rfl rfl rfl rfl (hu1) entA ?_ (fun _ _ _ _ _ => trivial) | refine J_call0E rfl rfl rfl (hu1) entA ?_ (fun _ _ _ _ _ => trivial) | (refine go ?_; first | refine J_callE rfl rfl rfl rfl (hu1) entA ?_ (fun _ _ _ _ _ => trivial) | refine J_call0E rfl rfl rfl (hu1) entA ?_ (fun _ _ _ _ _ => trivial)))
      rintro _ _ ⟨rfl, rfl⟩
      (refine go ?_)
      (first | refine J_slot 2 ((.bool true)) rfl ((congrArg Value.bool (decide_eq_true hus))) ?_ | refine K_slot 2 ((.bool true)) rfl ((congrArg Value.bool (decide_eq_true hus))) ?_)
      (refine go ?_)
      refine K_ent (H' := X :: F) entA ?_
      (first | refine K_return hE Tryz.func6 rfl _ rfl ⟨rfl, rfl⟩ entA | refine K_fallEnd hE Tryz.func6 rfl _ rfl ⟨rfl, rfl⟩ entA)
    intro tail
    refine K_loop (fun g : Nat × Sto => g.1 ≤ l.length ∧ g.1 ≤ 60 ∧ Rnd 1048576 g.1 g.2) (fun g => l.length - g.1)
      (fun g => [(0, .slice a0 l.length c0), (5, ptr bd), (7, ptr bs), (8, .int .i64 (g.1 : Int))])
      (fun g => X :: (stoL bs bd 1048576 mb g.2 ++ F)) (0, ⟨Ab.new 16777216, [], false⟩) ⟨Nat.zero_le _, by omega, ⟨StoI.new (by omega), by simp [Ab.new], by simp, by simp [Ab.new], by simp [Ab.new]⟩⟩ rfl (by repeat (first | exact keep_nil | refine keep_cons rfl ?_)) entA ?_
    rintro ⟨i, s⟩ ⟨hi, hi60, hr⟩ ih
    simp only at hi hi60 hr
    dsimp only
    (refine go ?_)
    by_cases hend : i < l.length ∧ i < 60
    case neg =>
      by_cases h1 : i < l.length
      · (first | refine J_slot 58 ((.bool true)) rfl ((congrArg Value.bool (decide_eq_true (by omega)))) ?_ | refine K_slot 58 ((.bool true)) rfl ((congrArg Value.bool (decide_eq_true (by omega)))) ?_)
        (refine go ?_)
        (first | refine J_slot 61 ((.bool false)) rfl ((congrArg Value.bool (decide_eq_false (by omega)))) ?_ | refine K_slot 61 ((.bool false)) rfl ((congrArg Value.bool (decide_eq_false (by omega)))) ?_)
        (refine goR ?_)
        refine K_condF rfl rfl ?_
        refine K_to tail s rfl (hr.mono (by omega)) (by repeat (first | exact keep_nil | refine keep_cons rfl ?_)) entA
      · (first | refine J_slot 58 ((.bool false)) rfl ((congrArg Value.bool (decide_eq_false (by omega)))) ?_ | refine K_slot 58 ((.bool false)) rfl ((congrArg Value.bool (decide_eq_false (by omega)))) ?_)
        (refine goR ?_)
        refine K_condF rfl rfl ?_
        refine K_to tail s rfl (hr.mono (by omega)) (by repeat (first | exact keep_nil | refine keep_cons rfl ?_)) entA
    obtain ⟨hi1, hi2⟩ := hend
    obtain ⟨st, hx⟩ : ∃ s, l[i]? = some s := ⟨l[i], by simp⟩
    have hso := hok _ (List.mem_of_getElem? hx)
    obtain ⟨hsb, hsl⟩ := hsm i st (by omega) hx
    have hobk := hr.bnd (by omega)
    obtain ⟨hb1, hb2, hb3⟩ := hobk
    obtain ⟨bb, oo, cc, hsle⟩ := hvw.some (by rw [← List.length_pos_iff, chunk_len st8C_len]; omega)
    simp only [Value.slice.injEq, true_and] at hsle
    obtain ⟨rfl, rfl⟩ := hsle
    (first | refine J_slot 58 ((.bool true)) rfl ((congrArg Value.bool (decide_eq_true (by omega)))) ?_ | refine K_slot 58 ((.bool true)) rfl ((congrArg Value.bool (decide_eq_true (by omega)))) ?_)
    (refine go ?_)
    (first | refine J_slot 61 ((.bool true)) rfl ((congrArg Value.bool (decide_eq_true (by omega)))) ?_ | refine K_slot 61 ((.bool true)) rfl ((congrArg Value.bool (decide_eq_true (by omega)))) ?_)
    (refine go ?_)
    refine J_at (U := tab) i 72 rfl rfl rfl rfl rfl rfl rfl rfl hi1 ?_
    refine J_loadElem (U := tab) (es := st8C st) 0 (i * 72) rfl rfl rfl hvw rfl (st8E hx) rfl rfl rfl ?_
    refine J_alloc (U := tab) rfl rfl rfl (fun _ _ _ => trivial) ?_
    intro b11
    have hnm := refName2 X _ st.l hso.l hso.ll
    unfold imV dV at hnm
    (refine go ?_)
    (first | refine J_callE rfl rfl rfl rfl (hnm) entA ?_ (fun _ _ _ _ _ => trivial) | refine J_call0E rfl rfl rfl (hnm) entA ?_ (fun _ _ _ _ _ => trivial) | (refine go ?_; first | refine J_callE rfl rfl rfl rfl (hnm) entA ?_ (fun _ _ _ _ _ => trivial) | refine J_call0E rfl rfl rfl (hnm) entA ?_ (fun _ _ _ _ _ => trivial)))
    rintro _ _ ⟨rfl, rfl⟩
    (refine go ?_)
    refine J_alloc (U := tab) rfl rfl rfl (fun _ _ _ => trivial) ?_
    intro b12
    (refine go ?_)
    have tail0 := tail
    clear tail
    (first | refine K_ent (H' := pts b12 (cl (dC (nmB st.l)) 30) :: pts b11 (cl (st8C st) 52) :: X :: (stoL bs bd 1048576 mb s ++ F)) entA ?_ | refine J_ent (H' := pts b12 (cl (dC (nmB st.l)) 30) :: pts b11 (cl (st8C st) 52) :: X :: (stoL bs bd 1048576 mb s ++ F)) entA ?_)
    refine K_mid 2 (fun g : Sto => Rnd 1048576 (i + 1) g) (fun _ => [(0, .slice (some ⟨bb, oo, none⟩) l.length c0), (5, ptr bd), (7, ptr bs), (8, .int .i64 (i : Int))])
      (fun g => X :: (stoL bs bd 1048576 mb g ++ F)) rfl ?_ ?_
    · intro t hrt
      (refine go ?_)
      refine K_again ih (i + 1, t) rfl ⟨by simp only; omega, by simp only; omega, hrt⟩ (by simp only; omega) (by repeat (first | exact keep_nil | refine keep_cons rfl ?_)) entA
    · intro tail
      have hbg := Begin_bl bs bd 1048576 (by omega) mb s st.x hb1 (by omega) (by omega)
      have hpt := Put_bl X bs bd 1048576 mb s st.x st.i _ st.b hso.b.1 (by omega) hso.i (by omega) (by omega)
      have hin := Install_bl X hK bs bd 1048576 mb s st.x (by omega) (by omega)
      have hab := Abort_bl bs bd 1048576 mb s st.x (by omega) (by omega)
      have hcm := Commit_bl X hK _ st.l hso.l (by omega) bs bd 1048576 mb s (by omega) (by omega)
      have hdr := Drop_bl bs bd 1048576 mb s (nmB st.l) (by omega) (by omega)
      unfold blV at hbg hpt hin hab
      unfold imV at hcm
      unfold dV at hdr
      refine K_condP rfl rfl ?_ ?_
      · intro h0
        (refine go ?_)
        refine J_loadAgg (U := tab) (cs := blC st.x) 1 rfl rfl rfl rfl rfl rfl ?_
        (first | refine J_callE rfl rfl rfl rfl (hbg) entA ?_ (fun _ _ _ _ _ => trivial) | refine J_call0E rfl rfl rfl (hbg) entA ?_ (fun _ _ _ _ _ => trivial) | (refine go ?_; first | refine J_callE rfl rfl rfl rfl (hbg) entA ?_ (fun _ _ _ _ _ => trivial) | refine J_call0E rfl rfl rfl (hbg) entA ?_ (fun _ _ _ _ _ => trivial)))
        rintro _ _ ⟨e, t, rfl, rfl, hR⟩
        (refine goR ?_)
        refine K_to tail t rfl (hr.begin (by omega) hR).1 (by repeat (first | exact keep_nil | refine keep_cons rfl ?_)) entA
      intro h0
      (refine go ?_)
      refine K_condP rfl rfl ?_ ?_
      · intro h1
        (refine go ?_)
        refine J_loadAgg (U := tab) (cs := blC st.x) 1 rfl rfl rfl rfl rfl rfl ?_
        (refine go ?_)
        (first | refine J_callE rfl rfl rfl rfl (hpt) entA ?_ (fun _ _ _ _ _ => trivial) | refine J_call0E rfl rfl rfl (hpt) entA ?_ (fun _ _ _ _ _ => trivial) | (refine go ?_; first | refine J_callE rfl rfl rfl rfl (hpt) entA ?_ (fun _ _ _ _ _ => trivial) | refine J_call0E rfl rfl rfl (hpt) entA ?_ (fun _ _ _ _ _ => trivial)))
        rintro _ _ ⟨e, t, rfl, rfl, hR⟩
        (refine goR ?_)
        refine K_to tail t rfl (hr.put (by omega) (by omega) hR).1 (by repeat (first | exact keep_nil | refine keep_cons rfl ?_)) entA
      intro h1
      (refine go ?_)
      refine K_condP rfl rfl ?_ ?_
      · intro h3
        (refine go ?_)
        refine J_loadAgg (U := tab) (cs := blC st.x) 1 rfl rfl rfl rfl rfl rfl ?_
        (first | refine J_callE rfl rfl rfl rfl (hin) entA ?_ (fun _ _ _ _ _ => trivial) | refine J_call0E rfl rfl rfl (hin) entA ?_ (fun _ _ _ _ _ => trivial) | (refine go ?_; first | refine J_callE rfl rfl rfl rfl (hin) entA ?_ (fun _ _ _ _ _ => trivial) | refine J_call0E rfl rfl rfl (hin) entA ?_ (fun _ _ _ _ _ => trivial)))
        rintro _ _ ⟨e, t, rfl, rfl, hR⟩
        (refine goR ?_)
        refine K_to tail t rfl (hr.install hR) (by repeat (first | exact keep_nil | refine keep_cons rfl ?_)) entA
      intro h3
      (refine go ?_)
      refine K_condP rfl rfl ?_ ?_
      · intro h4
        (refine go ?_)
        refine J_loadAgg (U := tab) (cs := blC st.x) 1 rfl rfl rfl rfl rfl rfl ?_
        (first | refine J_callE rfl rfl rfl rfl (hab) entA ?_ (fun _ _ _ _ _ => trivial) | refine J_call0E rfl rfl rfl (hab) entA ?_ (fun _ _ _ _ _ => trivial) | (refine go ?_; first | refine J_callE rfl rfl rfl rfl (hab) entA ?_ (fun _ _ _ _ _ => trivial) | refine J_call0E rfl rfl rfl (hab) entA ?_ (fun _ _ _ _ _ => trivial)))
        rintro _ _ ⟨e, t, rfl, rfl, hR⟩
        (refine goR ?_)
        refine K_to tail t rfl (hr.abort hR) (by repeat (first | exact keep_nil | refine keep_cons rfl ?_)) entA
      intro h4
      (refine go ?_)
      refine K_condP rfl rfl ?_ ?_
      · intro h5
        (refine go ?_)
        (first | refine J_callE rfl rfl rfl rfl (hcm) entA ?_ (fun _ _ _ _ _ => trivial) | refine J_call0E rfl rfl rfl (hcm) entA ?_ (fun _ _ _ _ _ => trivial) | (refine go ?_; first | refine J_callE rfl rfl rfl rfl (hcm) entA ?_ (fun _ _ _ _ _ => trivial) | refine J_call0E rfl rfl rfl (hcm) entA ?_ (fun _ _ _ _ _ => trivial)))
        rintro _ _ ⟨e, t, rfl, rfl, hR⟩
        (refine goR ?_)
        refine K_to tail t rfl (hr.commit (by omega) (by omega) hR).1 (by repeat (first | exact keep_nil | refine keep_cons rfl ?_)) entA
      intro h5
      (refine go ?_)
      refine K_condP rfl rfl ?_ ?_
      · intro h6
        (refine go ?_)
        refine J_loadArr (U := tab) (l := dC (nmB st.l)) 0 rfl rfl rfl rfl rfl rfl ?_
        (first | refine J_callE rfl rfl rfl rfl (hdr) entA ?_ (fun _ _ _ _ _ => trivial) | refine J_call0E rfl rfl rfl (hdr) entA ?_ (fun _ _ _ _ _ => trivial) | (refine go ?_; first | refine J_callE rfl rfl rfl rfl (hdr) entA ?_ (fun _ _ _ _ _ => trivial) | refine J_call0E rfl rfl rfl (hdr) entA ?_ (fun _ _ _ _ _ => trivial)))
        rintro _ _ ⟨e, t, rfl, rfl, hR⟩
        (refine goR ?_)
        refine K_to tail t rfl (hr.drop hR) (by repeat (first | exact keep_nil | refine keep_cons rfl ?_)) entA
      intro h6
      refine K_to tail s rfl (hr.mono (by omega)) (by repeat (first | exact keep_nil | refine keep_cons rfl ?_)) entA
end Go.Proofs.YtpecmnaikjbanaaGreatDoor

/- blobs: the variable that the rows lay: what its cells are. -/
set_option linter.unusedVariables false
set_option linter.unusedSimpArgs false
set_option linter.unnecessarySimpa false
namespace Go.Proofs.YtpecmnaikjbanaaGreatDoor
open Go Go.SL
theorem arr_cells {P : Program} {H : Type} {enc : TypeId × Value → H} {W : World} {base : Nat} {spare : Nat → Bool} {held : Bool} {fuel n : Nat} {t e : TypeId} {k : IntKind} {l : List Value} {x : DataW H × List MemPlace} (ht : P.underlying t = some (.array n e)) (he : P.underlying e = some (.int k)) (hc : P.cellsOf e = 1) (hct : P.cellsOf t = n)
    (h : DataW.trod enc P W base spare held fuel t l = some x) (ns : List Int) (hx : x.1 = .agg (ns.map fun z => .lit (.int k z))) : l = ns.map (Value.int k) := by
  obtain ⟨xs, m, _, hxe, hlen, hxl, hf⟩ := DataW.trod_array ht h
  rw [hct] at hlen
  rw [hxe] at hx
  simp only [DataW.agg.injEq] at hx
  apply List.ext_getElem?
  intro i
  rcases Nat.lt_or_ge i n with hi | hi
  · have h1 := hf i hi
    obtain ⟨y, hy⟩ : ∃ y, xs[i]? = some y := ⟨xs[i]'(by rw [hxl]; exact hi), by simp⟩
    rw [hy, hc, Nat.mul_one] at h1
    obtain ⟨z, r, hz, w⟩ := DataW.trod_int he h1
    have h2 := congrArg (fun l : List Value => l[0]?) r
    have h3 : l[i]? = some (.int k z) := by simpa using h2
    have h4 := congrArg (fun l => l[i]?) hx
    simp only [List.getElem?_map, hy, Option.map_some, hz] at h4
    rw [h3, List.getElem?_map]
    cases hn : ns[i]? with
    | none => rw [hn] at h4; cases h4
    | some z2 =>
      rw [hn] at h4
      simp only [Option.map_some, Option.some.injEq, DataW.lit.injEq, Lit.int.injEq] at h4
      rw [h4.2]
      rfl
  · have hnl : ns.length = n := by have := congrArg List.length hx; simpa [hxl] using this.symm
    rw [List.getElem?_eq_none (by omega), List.getElem?_eq_none (by simp; omega)]
def ksI : List Int := Sha.ks.map fun w => (w.toNat : Int)
theorem wV_ks : wV Sha.ks = ksI.map (Value.int .u32) := by unfold wV ksI; rw [List.map_map]; rfl
theorem ksI_eq : Rows.laid_starling_digest_constants (H := Unit) = .agg (ksI.map fun z => .lit (.int .u32 z)) := by
  unfold Rows.laid_starling_digest_constants ksI Sha.ks
  simp only [List.map_cons, List.map_nil, BitVec.toNat_ofNat]
  rfl
theorem ks_global : Tryz.prog.globalNamed "starling/digest.constants" = some 0 := by kernel_rfl
theorem ks_type : (Tryz.prog.globals[0]?).map (·.type) = some 161 := by kernel_rfl
theorem ks_cells : Tryz.prog.cellsOf 161 = 64 := by kernel_rfl
theorem u32_cells : Tryz.prog.cellsOf 129 = 1 := by kernel_rfl
theorem cells_of_laid {W : World} (h : laidMet Tryz.prog [("starling/digest.constants", Rows.laid_starling_digest_constants)] W) : W.var? Tryz.prog "starling/digest.constants" = some (wV Sha.ks).toArray := by
  obtain ⟨ps, ⟨g, t, cs, fuel, p, q, hg, ht, hvar, hd, _, _⟩, _⟩ := h
  obtain rfl := Option.some.inj (ks_global.symm.trans hg)
  obtain rfl := Option.some.inj (ks_type.symm.trans ht)
  rw [hvar, wV_ks]
  congr 1
  have := arr_cells Tryz.underlying161 Tryz.underlying129 u32_cells ks_cells hd ksI ksI_eq
  rw [← this]
theorem KAt_of_laid {W : World} (h : laidMet Tryz.prog [("starling/digest.constants", Rows.laid_starling_digest_constants)] W) : KAt (old W) := by
  have hv := cells_of_laid h
  refine ⟨some ⟨0, 0, none⟩, 64, rfl, .inr ⟨_, 0, rfl, fun hp ho j c hj => ?_⟩⟩
  rw [Nat.zero_add]
  refine hcell_of_cell ho ?_
  rw [World.var?_cell ks_global hv j]
  simpa using hj
/-- A world in which the variable reads as the rows lay it. -/
noncomputable def laidWorld (os : Os) : World :=
  { World.holding Tryz.prog os ⟨#[], #[], []⟩ with heap := (World.holding Tryz.prog os ⟨#[], #[], []⟩).heap.modify 0 fun
      | .cells _ t frozen => .cells (ksI.map (Value.int .u32)).toArray t frozen
      | o => o }
theorem laidWorld_row (os : Os) (args : Array Value) : ((laidWorld os).forCall (fun _ _ => 0) ⟨#[], args, []⟩).memory.heap[0]? = some (.cells (ksI.map (Value.int .u32)).toArray 161 (0, 0)) := by kernel_rfl
set_option maxRecDepth 20000 in
theorem laidWorld_met (os : Os) (args : Array Value) : laidMet Tryz.prog [("starling/digest.constants", Rows.laid_starling_digest_constants)] ((laidWorld os).forCall (fun _ _ => 0) ⟨#[], args, []⟩).memory := by
  have hrow := laidWorld_row os args
  refine ⟨_, ⟨0, 161, (ksI.map (Value.int .u32)).toArray, 8, [], [], ks_global, ks_type, ?_, ?_, rfl, rfl⟩, ?_, ?_⟩
  · unfold World.var?
    rw [ks_global]
    simp only [Option.bind_some, hrow]
  · kernel_rfl
  · rw [List.append_nil, List.append_nil]
    unfold MemPlace.row
    refine List.Pairwise.map (R := fun a b => a ≠ b) _ (fun i j hij e => hij ?_) List.nodup_range
    exact Nat.add_left_cancel (MemPlace.cell.inj e).2
  · intro b off h
    have hb : b = 0 := by
      simp only [List.append_nil, MemPlace.row, List.mem_map] at h
      obtain ⟨i, _, hi⟩ := h
      simp [MemPlace.cell.injEq] at hi
      exact hi.1.symm
    subst hb
    refine ⟨⟨_, _, hrow⟩, fun u v hc => ?_⟩
    simp only [World.cell?, hrow] at hc
    exfalso
    have h2 : ∀ x ∈ ksI.map (Value.int .u32), ∀ u v, x ≠ .iface u v := by
      intro x hx u v
      obtain ⟨z, _, rfl⟩ := List.mem_map.1 hx
      simp
    have h3 : (ksI.map (Value.int .u32))[off]? = some (.iface u v) := by simpa using hc
    exact h2 _ (List.mem_of_getElem? h3) u v rfl
end Go.Proofs.YtpecmnaikjbanaaGreatDoor

/-
  BlobsAgain answers true, whatever it is given; what it is given reads behind the call as it read before. No condition.
-/
namespace Go.Proofs.YtpecmnaikjbanaaGreatDoor.blobsAgain
open Go Go.SL
open Go.ChangeShapes Go.WideShapes Go.ChangeAt Go.RowKit
open Go.ChangeMaps (open_string shut_string)
set_option linter.unusedVariables false
set_option linter.unusedSimpArgs false

theorem own : ownKnob Tryz.prog.godebug = none := by kernel_rfl
theorem laidOut : laidOutB Tryz.prog = true := by kernel_rfl

set_option maxRecDepth 100000 in
theorem lifted (os : Os) (started : os.Started) (H : Type) (enc : TypeId × Value → H) :
    ReturnsInHanded {} Tryz.checked os 6 .any (fun w args => (Rows.blobsAgainSpec.pre enc Tryz.prog Tryz.f6 Rows.blobsAgainRow.domain false w args ∧ laidMet Tryz.prog [("starling/digest.constants", Rows.laid_starling_digest_constants)] w) ∧ sizedMet enc Tryz.prog Tryz.f6 (OpenSpec.ofChange Rows.blobsAgainSpec) false w args) (Rows.blobsAgainSpec.post enc Tryz.prog Tryz.f6 false true false false) := by
  refine returnsInHanded_of_change_and (C := Tryz.checked) (X := fun w _ => laidMet Tryz.prog [("starling/digest.constants", Rows.laid_starling_digest_constants)] w) (fun _ _ _ hh h => h.of_heap hh) own started (by kernel_rfl) Tryz.func6
    (ChangeSpec.witness_at (enc := enc) (C := Tryz.checked) (os := os) (X := fun w _ => laidMet Tryz.prog [("starling/digest.constants", Rows.laid_starling_digest_constants)] w) false (laidWorld os) #[.slice none 0 0] 8 rfl (by kernel_rfl) (by kernel_rfl) (by kernel_rfl) (by kernel_rfl) (by kernel_rfl) (laidWorld_met os #[.slice none 0 0])) ?_
  intro W base args ds gs before hval0 hW hcnd _ hL _
  have hval : ∀ (j : Nat) t v, Tryz.f6.params[j]? = some t → args[j]? = some v → Value.okWide Tryz.prog W .any base t v := hval0
  have hW' := hW
  obtain ⟨p, q, hA0, hV, rfl, hfz, hnd⟩ := hW
  have hA : DataW.TrodAll enc Tryz.prog W 0 (fun _ => true) true Tryz.f6.params.toList args.toList ds p := hA0
  rw [Tryz.params6] at hA hval
  obtain ⟨v0, vs0, d0, ds0, p0, q0, hargs, rfl, rfl, h0, r0⟩ := trodAll_cons hA
  obtain ⟨rfl, rfl, rfl⟩ := trodAll_nil r0
  obtain rfl : args = #[v0] := by cases args; simp_all
  obtain ⟨rfl, rfl⟩ := trodVars_none hV
  obtain ⟨a0, len0, cap0, rfl⟩ := okWide_slice Tryz.underlying48 (hval 0 48 v0 rfl rfl)
  have k0 := h0
  have lt0 : ∀ x ∈ p0, x.block < W.heap.size := by obtain ⟨m, hm⟩ := k0; exact DataW.trod_lt m _ _ _ hm
  obtain ⟨bs0, hv0⟩ : ∃ l : List ST8, Steps8 (old W) (.slice a0 len0 cap0) l := by
    obtain ⟨fuel, hf⟩ := h0
    exact open_steps8 (by simpa [Value.cells] using hf)
  clear hA0 hval0
  refine (row_walk (Again_any (old W) (KAt_of_laid hL) _ bs0 hv0)).mono fun e W' ⟨he, bel⟩ => ?_
  subst he
  exact ⟨_, rfl, _, _, _, [], _, [], hW', trodAll_mk1 (shut_bool Tryz.underlying4 _), (trodAll_cons_mk (Below.trod laidOut (by kernel_rfl) (of_decide_eq_true (by kernel_rfl)) k0 bel lt0) trodAll_mk0), rfl, bel.frame _, fun h => by cases h⟩

theorem proved : Rows.BlobsAgainSaid :=
  OpenClaim.holds_of_wide 6 Tryz.f6 rfl rfl rfl rfl rfl rfl rfl ⟨rfl, rfl, rfl, rfl, rfl⟩ rfl rfl rfl rfl rfl (by kernel_rfl) Tryz.func6 (by kernel_rfl)
    (of_decide_eq_true (by kernel_rfl)) (by unfold Func.isWrapper; first | (rw [if_pos (by decide +kernel)]; kernel_rfl) | (rw [if_neg (by decide +kernel)]; exact ⟨rfl, rfl⟩))
    (fun os started H enc _ => lifted os started H enc)
#print axioms proved
end Go.Proofs.YtpecmnaikjbanaaGreatDoor.blobsAgain

