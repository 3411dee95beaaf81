/- files, part f: Size, Read. -/
import Derived.Test.YtokknepnmfklnaaFe
set_option linter.unusedVariables false
set_option linter.unusedSimpArgs false
namespace Go.Proofs.Ytokknepnmfklnaa
open Go Go.SL
attribute [local irreducible] J K Ctr Ends pts slc mapR mapI sbRow stock arrS

theorem Size_any (bd : Nat) (D : Dk) (A : Ab) (hR : Rel D A) (name : ByteArray) :
    Ctr Try.prog 15 [ptr bd, .string name] [disk bd D] (fun v H => H = [disk bd D] ∧ v = .tuple #[.int .i64 (A.size name).1, .int .i64 (A.size name).2]) := by
  obtain ⟨room, bm, sts, wrs, pln, off, maps, arrs, files, stb, wl⟩ := D
  refine Ctr.enter Try.func15 (by kernel_rfl) rfl Try.ntmps15 rfl rfl ?_
  intro G F R hE
  refine K_ent (disk_o _ _ _ _ _ _ _ _ _ _ _ _ _) ?_
  (refine go ?_)
  refine J_lookupOkC (U := tab) rfl kStr rfl rfl rfl rfl rfl rfl rfl (fun w hw => map_of_stock (i := 1) hw rfl hR.names) ?_
  rw [alook_ptrs]
  cases hl : Ab.lookIn A.names name with
  | none =>
    have hs : A.size name = (0, 4) := by simp [Ab.size, Ab.look, hl]
    rw [hs] at hE
    (refine go ?_)
    refine K_ent ((Ent.pick [0, 1, 2, 3, 4, 5] rfl).trans (disk_c _ _ _ _ _ _ _ _ _ _ _ _ _)) ?_
    refine K_return hE Try.func15 rfl _ rfl ⟨rfl, rfl⟩ (Ent.fin [0] 0 rfl rfl)
  | some fl =>
    have hs : A.size name = ((A.now fl).length, 0) := by simp [Ab.size, Ab.look, hl]
    rw [hs] at hE
    obtain ⟨i, v1, v2, hi, hfs, hv1, hv2⟩ := hR.file (f := fl) (hR.known _ (List.mem_cons_self ..) _ (lookIn_some hl))
    obtain ⟨a, cap, rfl, hcap⟩ := hv1.shape
    (refine go ?_)
    refine J_loadC (U := tab) rfl rfl (fun w hw => file_now (i := 3) hw rfl hi) rfl rfl ?_
    (refine go ?_)
    refine K_ent ((Ent.pick [0, 1, 2, 3, 4, 5] rfl).trans (disk_c _ _ _ _ _ _ _ _ _ _ _ _ _)) ?_
    refine K_return hE Try.func15 rfl _ rfl ⟨rfl, rfl⟩ (Ent.fin [0] 0 rfl rfl)

theorem Read_any (bd : Nat) (D : Dk) (A : Ab) (hR : Rel D A) (name : ByteArray) (at_ n : Int) :
    Ctr Try.prog 14 [ptr bd, .string name, .int .i64 at_, .int .i64 n] [disk bd D]
      (fun v H => ∃ r, H = [slc 5 1 r (A.read name at_ n).1.length (bV (A.read name at_ n).1), disk bd D] ∧ v = .tuple #[r, .int .i64 (A.read name at_ n).2]) := by
  obtain ⟨room, bm, sts, wrs, pln, off, maps, arrs, files, stb, wl⟩ := D
  have hoff := hR.off
  simp only at hoff
  refine Ctr.enter Try.func14 (by kernel_rfl) rfl Try.ntmps14 rfl rfl ?_
  intro G F R hE
  refine K_ent (disk_o _ _ _ _ _ _ _ _ _ _ _ _ _) ?_
  cases off with
  | true =>
    have hs : A.read name at_ n = ([], 7) := by simp [Ab.read, ← hoff]
    rw [hs] at hE
    (refine go ?_)
    refine K_ent ((Ent.pick [0, 1, 2, 3, 4, 5] rfl).trans (disk_c _ _ _ _ _ _ _ _ _ _ _ _ _)) ?_
    refine K_ent (slc_lift 5 1 none _) ?_
    refine K_return hE Try.func14 rfl _ rfl ⟨_, rfl, rfl⟩ (Ent.fin [0, 1] 0 rfl rfl)
  | false =>
    (refine go ?_)
    refine J_lookupOkC (U := tab) rfl kStr rfl rfl rfl rfl rfl rfl rfl (fun w hw => map_of_stock (i := 1) hw rfl hR.names) ?_
    rw [alook_ptrs]
    cases hl : Ab.lookIn A.names name with
    | none =>
      have hs : A.read name at_ n = ([], 4) := by simp [Ab.read, Ab.look, hl, ← hoff]
      rw [hs] at hE
      (refine go ?_)
      refine K_ent ((Ent.pick [0, 1, 2, 3, 4, 5] rfl).trans (disk_c _ _ _ _ _ _ _ _ _ _ _ _ _)) ?_
      refine K_ent (slc_lift 5 1 none _) ?_
      refine K_return hE Try.func14 rfl _ rfl ⟨_, rfl, rfl⟩ (Ent.fin [0, 1] 0 rfl rfl)
    | some fl =>
      have hs : A.read name at_ n = if at_ < 0 ∨ n < 0 ∨ ((A.now fl).length : Int) < at_ ∨ ((A.now fl).length : Int) - at_ < n then ([], 1) else (((A.now fl).drop at_.toNat).take n.toNat, 0) := by simp [Ab.read, Ab.look, hl, ← hoff]
      obtain ⟨i, v1, v2, hi, hfs, hv1, hv2⟩ := hR.file (f := fl) (hR.known _ (List.mem_cons_self ..) _ (lookIn_some hl))
      obtain ⟨a, cap, rfl, hcap⟩ := hv1.shape
      have hsm := (hR.small fl).1
      have hbad : ∀ (h : at_ < 0 ∨ n < 0 ∨ ((A.now fl).length : Int) < at_ ∨ ((A.now fl).length : Int) - at_ < n), A.read name at_ n = ([], 1) := fun h => by rw [hs, if_pos h]
      repeat' (first | (with_reducible intro _hh) | refine go1 ?_ | refine J_fork ?_ ?_ | refine J_gsP rfl rfl rfl rfl ?_ ?_ | refine K_condP rfl rfl ?_ ?_ | refine J_loadC (U := tab) rfl rfl (fun w hw => file_now (i := 3) hw rfl hi) rfl rfl ?_)
      any_goals (
        have hs2 := hbad (by omega)
        rw [hs2] at hE
        refine K_ent ((Ent.pick [0, 1, 2, 3, 4, 5] rfl).trans (disk_c _ _ _ _ _ _ _ _ _ _ _ _ _)) ?_
        refine K_ent (slc_lift 5 1 none _) ?_
        refine K_return hE Try.func14 rfl _ rfl ⟨_, rfl, rfl⟩ (Ent.fin [0, 1] 0 rfl rfl))
      refine J_sliceAny (U := tab) rfl rfl rfl rfl rfl rfl rfl (by omega) (by omega) (.inr (by omega)) ?_
      have hr : A.read name at_ n = (((A.now fl).drop at_.toNat).take n.toNat, 0) := by rw [hs, if_neg (by omega)]
      have hcut := hv1.cut at_.toNat n.toNat (by omega)
      have hlen : (((A.now fl).drop at_.toNat).take n.toNat).length = n.toNat := by rw [List.length_take, List.length_drop]; omega
      refine J_slot 61 (.slice (sliceAt a cap at_.toNat 1) (((A.now fl).drop at_.toNat).take n.toNat).length (cap - at_.toNat)) rfl (by rw [hlen]; congr 1; omega) ?_
      have hcut2 : BIn arrs (.slice (sliceAt a cap at_.toNat 1) (((A.now fl).drop at_.toNat).take n.toNat).length (cap - at_.toNat)) (((A.now fl).drop at_.toNat).take n.toNat) := by rw [hlen]; exact hcut
      rw [hr] at hE
      clear hcut hr hs hbad
      generalize hbs : ((A.now fl).drop at_.toNat).take n.toNat = bs at hE hcut2 hlen ⊢
      (refine go ?_)
      refine J_call [2] rfl rfl rfl rfl (Clone_bytes _ _ bs (hcut2.view _) (by omega)) rfl (fun _ _ _ _ _ => trivial) ?_
      rintro r _ rfl
      (refine go ?_)
      refine K_ent (Ent.pick [2, 3, 1, 4, 5, 6] rfl) ?_
      refine K_ent (disk_c bd room bm sts wrs pln false maps arrs files stb wl _) ?_
      refine K_return hE Try.func14 rfl _ rfl ⟨r, rfl, rfl⟩ (Ent.fin [1, 0] 0 rfl rfl)
end Go.Proofs.Ytokknepnmfklnaa
