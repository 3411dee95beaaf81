/- files, part j: Remove, Rename, SyncNames. -/
import Derived.Test.YtokknepnmfklnaaFg
set_option linter.unusedVariables false
set_option linter.unusedSimpArgs false
namespace Go.Proofs.Ytokknepnmfklnaa
open Go Go.SL
attribute [local irreducible] J K Ctr Ends pts slc mapR mapI sbRow stock arrS

theorem delN_sub {l : List (ByteArray × Nat)} {k : ByteArray} {x : ByteArray × Nat} (h : x ∈ Ab.delN l k) : x ∈ l ∧ x.1 ≠ k := by
  simpa [Ab.delN] using h
theorem delN_len (l : List (ByteArray × Nat)) (k : ByteArray) : (Ab.delN l k).length ≤ l.length := List.length_filter_le _ _
theorem delN_nodup {l : List (ByteArray × Nat)} (h : (l.map (·.1)).Nodup) (k : ByteArray) : ((Ab.delN l k).map (·.1)).Nodup := (List.filter_sublist.map _).nodup h
theorem delN_lt {l : List (ByteArray × Nat)} {k : ByteArray} {f : Nat} (h : (k, f) ∈ l) : (Ab.delN l k).length + 1 ≤ l.length := by
  have : (Ab.delN l k).length < l.length := by
    unfold Ab.delN
    rw [List.length_filter_lt_length_iff_exists]
    exact ⟨_, h, by simp⟩
  omega
theorem setN_len (l : List (ByteArray × Nat)) (k : ByteArray) (f : Nat) : (Ab.setN l k f).length ≤ l.length + 1 := by
  unfold Ab.setN
  split <;> simp
theorem setN_mem {l : List (ByteArray × Nat)} {k : ByteArray} {f : Nat} {x : ByteArray × Nat} (h : x ∈ Ab.setN l k f) : x = (k, f) ∨ x ∈ l := by
  unfold Ab.setN at h
  split at h
  · obtain ⟨y, hy, rfl⟩ := List.mem_map.1 h
    split
    · exact .inl rfl
    · exact .inr hy
  · rcases List.mem_append.1 h with h | h
    · exact .inr h
    · exact .inl (by simpa using h)
theorem setN_nodup {l : List (ByteArray × Nat)} (h : (l.map (·.1)).Nodup) (k : ByteArray) (f : Nat) : ((Ab.setN l k f).map (·.1)).Nodup := by
  unfold Ab.setN
  split
  · have : (l.map fun x => if x.1 = k then (k, f) else x).map (·.1) = l.map (·.1) := by
      rw [List.map_map]
      apply List.map_congr_left
      intro x _
      simp only [Function.comp]
      split
      · rename_i e; exact e.symm
      · rfl
    rw [this]; exact h
  · rename_i hk
    rw [List.map_append, List.nodup_append]
    exact ⟨h, by simp, fun a ha b hb => by simp at hb; subst hb; rintro rfl; exact hk (lookIn_key.2 ha)⟩

theorem Remove_any (bd : Nat) (D : Dk) (A : Ab) (hR : Rel D A) (name : ByteArray) (hst : A.states.length ≤ 1000000000) :
    Ctr Try.prog 18 [ptr bd, .string name] [disk bd D]
      (fun v H => ∃ D', Rel D' (A.remove (isName name) name).2 ∧ H = [disk bd D'] ∧ v = .int .i64 (A.remove (isName name) name).1) := by
  refine Ctr.enter Try.func18 (by kernel_rfl) rfl Try.ntmps18 rfl rfl ?_
  intro G F R hE
  (refine go ?_)
  refine J_box rfl rfl (fun _ _ _ => trivial) ?_
  intro box
  (refine go ?_)
  refine K_drawA (fun w => Sat G w ([pts box (cl [.string name] 9)])) (.st 0 (.st 1 (.st 2 (.act 3 (.act 4 (.act 5 (.st 6 (.st 7 (.st 8 (.st 9 (.st 10 .nil))))))))))) rfl (by kernel_rfl) (by kernel_rfl) (by kernel_rfl) (fun w hw => hw.ent (Ent.pickOnly ([0]) rfl)) ?_
  (refine go ?_)
  refine J_buildSlice1 (U := tab) rfl rfl rfl rfl rfl rfl rfl rfl rfl (fun _ w hw => hw.ent (Ent.pickOnly ([1]) rfl)) ?_
  intro b0
  refine J_call [0] rfl rfl rfl rfl (right_any _ _ [name] (Vw.pts rfl) (by simp)) rfl (fun _ _ w hp hw => by obtain ⟨_, rfl⟩ := hp; exact hw.ent (Ent.pickOnly [1] rfl)) ?_
  rintro _ _ ⟨rfl, rfl⟩
  have e1 : [name].all isName = isName name := by simp
  rw [e1]
  refine J_call [2] rfl rfl rfl rfl (find_any bd D A hR name (isName name)) rfl (fun _ _ w hp hw => by obtain ⟨_, _, rfl, _⟩ := hp; exact hw.ent (Ent.pickOnly [2] rfl)) ?_
  generalize hok : isName name = ok at hE ⊢
  rintro _ _ ⟨D', hR', rfl, rfl⟩
  (refine go ?_)
  refine K_condA rfl rfl ?_ ?_
  · intro h0
    have h0' : ¬ (A.find name ok).1 = 0 := by have := of_decide_eq_true h0; omega
    have hw : A.remove ok name = ((A.find name ok).1, (A.find name ok).2.2) := by
      unfold Ab.remove
      generalize A.find name ok = z at h0' ⊢
      obtain ⟨e, fo, A1⟩ := z
      cases fo with
      | none => cases e <;> rfl
      | some fl => cases e with
        | zero => exact absurd rfl h0'
        | succ e => rfl
    rw [hw] at hE
    (refine go ?_)
    refine K_return hE Try.func18 rfl _ rfl ⟨D', hR', rfl, rfl⟩ (Ent.fin [0] 2 rfl rfl)
  · intro h0
    have h0' : (A.find name ok).1 = 0 := by have := of_decide_eq_false h0; omega
    obtain ⟨hokt, fl, hfl, hmem⟩ := find_parts h0'
    have hw : A.remove ok name = (0, (A.find name ok).2.2.chg (Ab.delN (A.find name ok).2.2.names name)) := by
      unfold Ab.remove
      generalize A.find name ok = z at h0' hfl ⊢
      obtain ⟨e, fo, A1⟩ := z
      simp only at h0' hfl
      subst h0' hfl
      rfl
    have hst' : (A.find name ok).2.2.states.length ≤ 1000000000 := by rw [(find_same A name ok).2.2.1]; exact hst
    rw [hw] at hE
    generalize (A.find name ok).2.2 = A1 at *
    have hst2 : D'.stb.length ≤ 1000000000 := by rw [hR'.states.1]; exact hst'
    (refine go ?_)
    refine J_call [0, 2] rfl rfl rfl rfl (change_any (α := Unit) bd D' A1.names hR'.names 34 #[ptr box] (pts box (cl [.string name] 9)) (fun _ => Ab.delN A1.names name) (fun _ => pts box (cl [.string name] 9)) (fun _ => True) (fun b' => Ctr.post (Remove1_any b' box A1.names name) (fun v H h => ⟨(), trivial, h⟩)) hst2) rfl (fun _ _ _ _ _ => trivial) ?_
    rintro _ _ ⟨_, b', v, _, rfl⟩
    have hR2 := hR'.chg (b' := b') (v := v) (nm := Ab.delN A1.names name) (fun x hx => hR'.known _ (List.mem_cons_self ..) x (delN_sub hx).1) (delN_nodup (hR'.nodup _ (List.mem_cons_self ..)) name) (Nat.le_trans (delN_len _ _) (hR'.smallN _ (List.mem_cons_self ..)))
    (refine go ?_)
    refine K_return hE Try.func18 rfl _ rfl ⟨_, hR2, rfl, rfl⟩ (Ent.fin [0] 2 rfl rfl)
end Go.Proofs.Ytokknepnmfklnaa
