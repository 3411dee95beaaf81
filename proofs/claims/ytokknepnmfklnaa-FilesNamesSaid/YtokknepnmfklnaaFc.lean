/- files, part c: Used. -/
import Derived.Test.YtokknepnmfklnaaFb
set_option linter.unusedVariables false
set_option linter.unusedSimpArgs false
namespace Go.Proofs.Ytokknepnmfklnaa
open Go Go.SL
attribute [local irreducible] J K Ctr Ends pts slc mapR mapI sbRow stock arrS

def lenOf (A : Ab) (k : ByteArray) : Nat := (A.look k).elim 0 fun f => (A.now f).length
def sumOf (A : Ab) (l : List ByteArray) : Nat := (l.map (lenOf A)).sum
theorem sumOf_le {A : Ab} (h : ∀ f, (A.now f).length ≤ 1048576) (l : List ByteArray) : sumOf A l ≤ l.length * 1048576 := by
  induction l with
  | nil => simp [sumOf]
  | cons k l ih =>
    have h1 : lenOf A k ≤ 1048576 := by unfold lenOf; cases A.look k with | none => simp | some f => exact h f
    simp only [sumOf, List.map_cons, List.sum_cons, List.length_cons] at ih ⊢
    omega
theorem nodup_perm {α : Type} [DecidableEq α] {l r : List α} (h1 : l.Nodup) (h2 : r.Nodup) (h : ∀ x, x ∈ l ↔ x ∈ r) : l.Perm r := (List.perm_ext_iff_of_nodup h1 h2).2 h
theorem nodup_len {α : Type} [DecidableEq α] {l r : List α} (h1 : l.Nodup) (h : ∀ x ∈ l, x ∈ r) : l.length ≤ r.length := by
  induction l generalizing r with
  | nil => simp
  | cons x l ih =>
    simp only [List.nodup_cons] at h1
    have := ih (r := r.erase x) h1.2 (fun y hy => (List.mem_erase_of_ne (by rintro rfl; exact h1.1 hy)).2 (h y (by simp [hy])))
    rw [List.length_erase_of_mem (h x (by simp))] at this
    have h3 : 0 < r.length := List.length_pos_of_mem (h x (by simp))
    simp only [List.length_cons]
    omega
theorem sumOf_used {A : Ab} (hn : (A.names.map (·.1)).Nodup) : sumOf A (A.names.map (·.1)) = A.used := by
  unfold sumOf Ab.used
  rw [List.map_map]
  congr 1
  apply List.map_congr_left
  rintro ⟨k, f⟩ hx
  have : A.look k = some f := lookIn_mem hn hx
  simp [lenOf, this]

theorem Used_any (bd : Nat) (D : Dk) (A : Ab) (hR : Rel D A) :
    Ctr Try.prog 17 [ptr bd] [disk bd D] (fun v H => H = [disk bd D] ∧ v = .int .i64 A.used) := by
  obtain ⟨room, bm, sts, wrs, pln, off, maps, arrs, files, stb, wl⟩ := D
  refine Ctr.enter Try.func17 (by kernel_rfl) rfl Try.ntmps17 rfl rfl ?_
  intro G F R hE
  refine K_ent (disk_o _ _ _ _ _ _ _ _ _ _ _ _ _) ?_
  (refine go ?_)
  obtain ⟨j, hj⟩ := List.getElem?_of_mem hR.names
  simp only at hj
  refine J_ent (Ent.pick [1] rfl) ?_
  refine J_ent (stock_out mapG hj _) ?_
  refine J_range (kv := Value.string) (es := ptrs A.names) (U := tab) 0 rfl rfl rfl rfl rfl (fun _ => rfl) (fun _ _ _ => trivial) ?_
  intro it
  (refine go ?_)
  have hnd := hR.nodup _ (List.mem_cons_self ..)
  have hkeys : (ptrs A.names).map (·.1) = A.names.map (·.1) := by simp [ptrs, Function.comp_def]
  refine K_loop (fun dn : List ByteArray => dn.Nodup ∧ ∀ x ∈ dn, x ∈ A.names.map (·.1)) (fun dn => A.names.length - dn.length)
    (fun dn => [(3, .int .i64 (sumOf A dn)), (10, .pointer (some ⟨it, 0, none⟩))])
    (fun dn => mapI Value.string bm it (ptrs A.names) dn :: stock mapG (maps.eraseIdx j) :: pts bd (cl [.int .i64 room, .map (some bm), sts, wrs, pln, .bool off] 62) :: arrS 5 arrs :: stock fileG files :: slc 58 1 sts stb.length (stb.map fun b => .map (some b)) :: slc 75 3 wrs wl.length (wcells wl) :: F)
    [] ⟨List.nodup_nil, by simp⟩ rfl (by repeat (first | exact keep_nil | refine keep_cons rfl ?_)) (Ent.refl _) ?_
  rintro dn ⟨hdn, hsub⟩ ih
  have hlen := nodup_len hdn hsub
  have hb := sumOf_le (fun f => (hR.small f).1) dn
  have hN := hR.smallN _ (List.mem_cons_self ..)
  rw [List.length_map] at hlen
  (refine go ?_)
  refine J_next (kv := Value.string) (es := ptrs A.names) 0 rfl kStr.inj rfl rfl (fun _ => rfl) (fun _ _ => trivial) (fun _ _ _ => trivial) ?_ ?_
  · intro hall
    (refine go ?_)
    have hp : sumOf A dn = A.used := by
      rw [← sumOf_used hnd]
      refine List.Perm.sum_nat ((nodup_perm hdn hnd fun x => ⟨hsub x, fun hx => ?_⟩).map _)
      rw [← hkeys] at hx
      obtain ⟨y, hy, rfl⟩ := List.mem_map.1 hx
      exact hall y hy
    refine K_ent ((Ent.head (B := [mapG (bm, ptrs A.names)]) (fun h hs => by obtain ⟨h', s, hm⟩ := mapI_mapR h hs; exact ⟨h', s, Sep_one' hm⟩)).trans (stock_in mapG hj _)) ?_
    rw [hp]
    refine K_return hE Try.func17 rfl _ rfl ⟨rfl, rfl⟩ ((Ent.pick [1, 0] rfl).trans ((Ent.pick [0, 1, 2, 3, 4, 5] rfl).trans (disk_c _ _ _ _ _ _ _ _ _ _ _ _ _)))
  · intro key v hmem hnot
    obtain ⟨⟨k', f⟩, hx, hxe⟩ := List.mem_map.1 hmem
    simp only [Prod.mk.injEq] at hxe
    obtain ⟨rfl, rfl⟩ := hxe
    (refine go ?_)
    refine J_entry (kv := Value.string) (es := ptrs A.names) 0 rfl kStr.inj rfl rfl hmem ?_
    (refine go ?_)
    obtain ⟨i, v1, v2, hi, hfs, hv1, hv2⟩ := hR.file (hR.known _ (List.mem_cons_self ..) _ hx)
    obtain ⟨a, cap, rfl, hcap⟩ := hv1.shape
    refine J_loadC (U := tab) rfl rfl (fun w hw => file_now (i := 4) hw rfl hi) rfl rfl ?_
    have hlk : A.look k' = some f := lookIn_mem hnd hx
    have hl : lenOf A k' = (A.now f).length := by simp [lenOf, hlk]
    have hsm := (hR.small f).1
    have hmk : k' ∈ A.names.map (·.1) := List.mem_map.2 ⟨_, hx, rfl⟩
    have hd2 : (k' :: dn).Nodup := List.nodup_cons.2 ⟨hnot, hdn⟩
    have hs2 : ∀ x ∈ k' :: dn, x ∈ A.names.map (·.1) := fun x hx => by
      rcases List.mem_cons.1 hx with rfl | h
      · exact hmk
      · exact hsub x h
    have hlen2 := nodup_len hd2 hs2
    rw [List.length_map, List.length_cons] at hlen2
    (refine go ?_)
    refine K_slot 3 (.int .i64 (sumOf A (k' :: dn))) rfl (congrArg (Value.int .i64) (by simp only [sumOf, List.map_cons, List.sum_cons, hl]; omega)) ?_
    refine K_again ih (k' :: dn) rfl ⟨hd2, hs2⟩ (by show _ - (_ + 1) < _; omega) (by repeat (first | exact keep_nil | refine keep_cons rfl ?_)) (Ent.refl _)
end Go.Proofs.Ytokknepnmfklnaa
