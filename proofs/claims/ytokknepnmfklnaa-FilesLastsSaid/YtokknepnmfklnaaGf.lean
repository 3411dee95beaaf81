/-
  FilesLasts answers true, whatever it is given; what it is given reads behind the call as it read before. No condition.
-/
import Derived.Test.YtokknepnmfklnaaGf1
import Derived.Test.YtokknepnmfklnaaFo2
import Derived.Test.YtokknepnmfklnaaEngZ
import Derived.Test.YtokknepnmfklnaaRows
import Derived.WalkKit
import Derived.ProofKit
import Derived.OpenShut
import Derived.ShutString
import Derived.ChangeOld
import Derived.Below
import Derived.SizedLaws
namespace Go.Proofs.Ytokknepnmfklnaa.filesLasts
open Go Go.SL
open Go.ChangeShapes Go.WideShapes Go.ChangeAt Go.RowKit
open Go.ChangeMaps (open_string shut_string)
set_option linter.unusedVariables false
set_option linter.unusedSimpArgs false

theorem own : ownKnob Try.prog.godebug = none := by kernel_rfl
theorem laidOut : laidOutB Try.prog = true := by kernel_rfl

set_option maxRecDepth 100000 in
theorem lifted (os : Os) (started : os.Started) (H : Type) (enc : TypeId × Value → H) :
    ReturnsInHanded {} Try.checked os 8 .any (Rows.filesLastsSpec.pre6 enc Try.prog Try.f8 Rows.filesLastsRow.domain false) (Rows.filesLastsSpec.post enc Try.prog Try.f8 false true false false) := by
  refine returnsInHanded_of_change_sized (C := Try.checked) own started (by kernel_rfl) Try.func8
    (ChangeSpec.witness6 (enc := enc) (C := Try.checked) false ⟨#[], #[.slice none 0 0, .slice none 0 0, .agg #[.int .i64 0, .string ⟨#[]⟩, .string ⟨#[]⟩, .int .i64 0, .int .i64 0, .int .i64 0, .slice none 0 0]], []⟩ 8 (by kernel_rfl) (by kernel_rfl) (by kernel_rfl) (by kernel_rfl)) ?_
  intro W base args ds gs before hval0 hW hcnd hsz _
  have hval : ∀ (j : Nat) t v, Try.f8.params[j]? = some t → args[j]? = some v → Value.okWide Try.prog W .any base t v := hval0
  have hW' := hW
  obtain ⟨p, q, hA0, hV, rfl, hfz, hnd⟩ := hW
  have hA : DataW.TrodAll enc Try.prog W 0 (fun _ => true) true Try.f8.params.toList args.toList ds p := hA0
  rw [Try.params8] at hA hval
  obtain ⟨v0, vs0, d0, ds0, p0, q0, hargs, rfl, rfl, h0, r0⟩ := trodAll_cons hA
  obtain ⟨v1, vs1, d1, ds1, p1, q1, rfl, rfl, rfl, h1, r1⟩ := trodAll_cons r0
  obtain ⟨v2, vs2, d2, ds2, p2, q2, rfl, rfl, rfl, h2, r2⟩ := trodAll_cons r1
  obtain ⟨rfl, rfl, rfl⟩ := trodAll_nil r2
  obtain rfl : args = #[v0, v1, v2] := by cases args; simp_all
  obtain ⟨rfl, rfl⟩ := trodVars_none hV
  obtain ⟨a0, len0, cap0, rfl⟩ := okWide_slice Try.underlying36 (hval 0 36 v0 rfl rfl)
  have k0 := h0
  have lt0 : ∀ x ∈ p0, x.block < W.heap.size := by obtain ⟨m, hm⟩ := k0; exact DataW.trod_lt m _ _ _ hm
  obtain ⟨bs0, hv0⟩ : ∃ l, ActsIn (old W) (.slice a0 len0 cap0) l := by
    obtain ⟨fuel, hf⟩ := h0
    exact open_acts (by simpa [Value.cells] using hf)
  obtain ⟨a1, len1, cap1, rfl⟩ := okWide_slice Try.underlying22 (hval 1 22 v1 rfl rfl)
  have k1 := h1
  have lt1 : ∀ x ∈ p1, x.block < W.heap.size := by obtain ⟨m, hm⟩ := k1; exact DataW.trod_lt m _ _ _ hm
  obtain ⟨bs1, hbl1, hbs1, hv1⟩ : ∃ bs : List UInt8, bs.length = len1 ∧ len1 ≤ 9223372036854775807 ∧ Vw (old W) (.slice a1 len1 cap1) len1 (bV bs) := by
    obtain ⟨fuel, hf⟩ := h1
    rcases open_ints Try.underlying22 Try.underlying5 (by kernel_rfl) hf with ⟨hcs, _⟩ | ⟨x, l, c, zs, hcs, _, hl, hm, hz, _, hcell, hwz⟩
    · simp [Value.cells] at hcs
      obtain ⟨rfl, rfl, rfl⟩ := hcs
      exact ⟨[], rfl, by omega, nil_view W⟩
    · simp [Value.cells] at hcs
      obtain ⟨rfl, rfl, rfl⟩ := hcs
      obtain ⟨bs, h1, h2⟩ := bytes_view (len := len1) (cap := cap1) (by simp at hz; omega) hcell hwz
      exact ⟨bs, h1, by have : maxLen = 9223372036854775807 := by decide
                        omega, h2⟩
  subst hbl1
  obtain ⟨cs2, rfl⟩ := okWide_agg (P := Try.prog) (t := 40) (by rw [Try.underlying40]; rfl) (hval 2 40 v2 rfl rfl)
  have k2 := h2
  have lt2 : ∀ x ∈ p2, x.block < W.heap.size := by obtain ⟨m, hm⟩ := k2; exact DataW.trod_lt m _ _ _ hm
  obtain ⟨y2, rfl, hv2⟩ : ∃ y : ActD, cs2 = (actCells y).toArray ∧ ActOk (old W) y := by
    obtain ⟨fuel, hf⟩ := h2
    obtain ⟨y, h1, h2⟩ := open_act hf
    exact ⟨y, by rw [← h1]; simp [Value.cells], h2⟩
  clear hA0 hval0
  have hbig : bs0.length * 88 ≤ 140737488351232 := by
    obtain ⟨fuel, hf⟩ := k0
    have hl := hv0.view.shape
    obtain ⟨_, _, hsl⟩ := hl
    simp only [Value.slice.injEq] at hsl
    rcases open_len (Try.underlying36) (by simpa [Value.cells] using hf) with h0 | ⟨el, sp, hd, hle⟩
    · rw [← hsl.2.1, h0]; omega
    · have h1 : (el.length + sp.length) * Try.prog.bytesOf 40 ≤ reachBytes := sized_slice hsz (j := 0) (t := 36) rfl (by rw [hd]; rfl) (Try.underlying36)
      have h2 : Try.prog.bytesOf 40 = 88 := by kernel_rfl
      have h3 : reachBytes = 140737488351232 := by decide
      rw [h2, h3, hle, hsl.2.1] at h1
      have := Nat.mul_le_mul_right 88 (Nat.le_add_right bs0.length sp.length)
      omega
  refine (row_walk (FilesLasts_any (old W) _ bs0 _ bs1 y2 hv0 hbig hv1 hbs1 hv2)).mono fun e W' ⟨he, bel⟩ => ?_
  subst he
  exact ⟨_, rfl, _, _, _, [], _, [], hW', trodAll_mk1 (shut_bool Try.underlying4 _), (trodAll_cons_mk (Below.trod laidOut (by kernel_rfl) (of_decide_eq_true (by kernel_rfl)) k0 bel lt0) (trodAll_cons_mk (Below.trod laidOut (by kernel_rfl) (of_decide_eq_true (by kernel_rfl)) k1 bel lt1) (trodAll_cons_mk (Below.trod laidOut (by kernel_rfl) (of_decide_eq_true (by kernel_rfl)) k2 bel lt2) trodAll_mk0))), rfl, bel.frame _, fun h => by cases h⟩

theorem proved : Rows.FilesLastsSaid :=
  OpenClaim.holds_of_wide 8 Try.f8 rfl rfl rfl rfl rfl rfl rfl ⟨rfl, rfl, rfl, rfl, rfl⟩ rfl rfl rfl rfl rfl (by kernel_rfl) Try.func8 (by kernel_rfl)
    (of_decide_eq_true (by kernel_rfl)) (by unfold Func.isWrapper; first | (rw [if_pos (by decide +kernel)]; kernel_rfl) | (rw [if_neg (by decide +kernel)]; exact ⟨rfl, rfl⟩))
    (fun os started H enc _ => lifted os started H enc)
#print axioms proved
end Go.Proofs.Ytokknepnmfklnaa.filesLasts
