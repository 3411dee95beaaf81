/- files, part r: Rename. -/
import Derived.Test.YtokknepnmfklnaaFj
set_option linter.unusedVariables false
set_option linter.unusedSimpArgs false
namespace Go.Proofs.Ytokknepnmfklnaa
open Go Go.SL
attribute [local irreducible] J K Ctr Ends pts slc mapR mapI sbRow stock arrS

theorem Rename_any (bd : Nat) (D : Dk) (A : Ab) (hR : Rel D A) (old name : ByteArray) (hst : A.states.length ≤ 1000000000) :
    Ctr Try.prog 23 [ptr bd, .string old, .string name] [disk bd D]
      (fun v H => ∃ D', Rel D' (A.rename ([old, name].all isName) old name).2 ∧ H = [disk bd D'] ∧ v = .int .i64 (A.rename ([old, name].all isName) old name).1) := by
  refine Ctr.enter Try.func23 (by kernel_rfl) rfl Try.ntmps23 rfl rfl ?_
  intro G F R hE
  (refine go ?_)
  refine J_box rfl rfl (fun _ _ _ => trivial) ?_
  intro box1
  refine J_box rfl rfl (fun _ _ _ => trivial) ?_
  intro box2
  (refine go ?_)
  cases hfo : (A.find old ([old, name].all isName)).2.1 with
  | none =>
    refine K_drawA (fun w => Sat G w ([pts box2 (cl [.string name] 9), pts box1 (cl [.string old] 9)])) (.st 0 (.st 1 (.st 2 (.st 3 (.fork (.act 4 (.fork (.act 5 (.fork (.act 6 (.st 7 (.st 8 (.st 9 (.act 10 (.act 11 (.st 12 .nil))))))) (.act 10 (.act 6 (.st 7 (.st 8 (.st 9 (.act 11 (.st 12 .nil))))))))) (.act 10 (.act 5 (.act 6 (.st 7 (.st 8 (.st 9 (.act 11 (.st 12 .nil)))))))))) (.act 10 (.act 4 (.act 5 (.act 6 (.st 7 (.st 8 (.st 9 (.act 11 (.st 12 .nil)))))))))))))) rfl (by kernel_rfl) (by kernel_rfl) (by kernel_rfl) (fun w hw => hw.ent (Ent.pickOnly ([0, 1]) rfl)) ?_
    repeat' (first | (with_reducible intro _hh) | refine go1 ?_ | refine J_fork ?_ ?_ | refine J_gsP rfl rfl rfl rfl ?_ ?_ | refine K_condP rfl rfl ?_ ?_ | (refine J_buildSlice1 (U := tab) rfl rfl rfl rfl rfl rfl rfl rfl rfl (fun _ w hw => hw.ent (by first | exact Ent.pickOnly [0, 1] rfl | exact Ent.pickOnly [1, 2] rfl | exact Ent.pickOnly [2, 3] rfl | exact Ent.pickOnly [3, 4] rfl)) ?_; intro _) | (refine J_alloc (U := tab) rfl rfl rfl (fun _ w hw => hw.ent (by first | exact Ent.pickOnly [0, 1] rfl | exact Ent.pickOnly [1, 2] rfl | exact Ent.pickOnly [2, 3] rfl | exact Ent.pickOnly [3, 4] rfl)) ?_; intro _) | (refine J_call [0] rfl rfl rfl rfl (right_any _ _ [old, name] (Vw.pts rfl) (by simp)) rfl (fun _ _ w hp hw => by obtain ⟨_, rfl⟩ := hp; exact (fun _ w hw => hw.ent (by first | exact Ent.pickOnly [0, 1] rfl | exact Ent.pickOnly [1, 2] rfl | exact Ent.pickOnly [2, 3] rfl | exact Ent.pickOnly [3, 4] rfl)) 0 w hw) ?_; rintro _ _ ⟨rfl, rfl⟩) | (refine J_call [1] rfl rfl rfl rfl (right_any _ _ [old, name] (Vw.pts rfl) (by simp)) rfl (fun _ _ w hp hw => by obtain ⟨_, rfl⟩ := hp; exact (fun _ w hw => hw.ent (by first | exact Ent.pickOnly [0, 1] rfl | exact Ent.pickOnly [1, 2] rfl | exact Ent.pickOnly [2, 3] rfl | exact Ent.pickOnly [3, 4] rfl)) 0 w hw) ?_; rintro _ _ ⟨rfl, rfl⟩) | (refine J_call [3] rfl rfl rfl rfl (find_any bd D A hR old ([old, name].all isName)) rfl (fun _ _ w hp hw => by obtain ⟨_, _, rfl, _⟩ := hp; exact (fun _ w hw => hw.ent (by first | exact Ent.pickOnly [0, 1] rfl | exact Ent.pickOnly [1, 2] rfl | exact Ent.pickOnly [2, 3] rfl | exact Ent.pickOnly [3, 4] rfl)) 0 w hw) ?_; rintro _ _ ⟨D', hR', rfl, rfl⟩; rw [hfo]) | (refine J_call [4] rfl rfl rfl rfl (find_any bd D A hR old ([old, name].all isName)) rfl (fun _ _ w hp hw => by obtain ⟨_, _, rfl, _⟩ := hp; exact (fun _ w hw => hw.ent (by first | exact Ent.pickOnly [0, 1] rfl | exact Ent.pickOnly [1, 2] rfl | exact Ent.pickOnly [2, 3] rfl | exact Ent.pickOnly [3, 4] rfl)) 0 w hw) ?_; rintro _ _ ⟨D', hR', rfl, rfl⟩; rw [hfo]) | (refine J_isStore ?_; first | refine J_store (U := tab) 0 (fun w hw => (fun _ w hw => hw.ent (by first | exact Ent.pickOnly [0, 1] rfl | exact Ent.pickOnly [1, 2] rfl | exact Ent.pickOnly [2, 3] rfl | exact Ent.pickOnly [3, 4] rfl)) 0 w hw) rfl rfl rfl rfl rfl rfl rfl rfl rfl ?_ | refine J_store (U := tab) 1 (fun w hw => (fun _ w hw => hw.ent (by first | exact Ent.pickOnly [0, 1] rfl | exact Ent.pickOnly [1, 2] rfl | exact Ent.pickOnly [2, 3] rfl | exact Ent.pickOnly [3, 4] rfl)) 0 w hw) rfl rfl rfl rfl rfl rfl rfl rfl rfl ?_ | refine J_store (U := tab) 2 (fun w hw => (fun _ w hw => hw.ent (by first | exact Ent.pickOnly [0, 1] rfl | exact Ent.pickOnly [1, 2] rfl | exact Ent.pickOnly [2, 3] rfl | exact Ent.pickOnly [3, 4] rfl)) 0 w hw) rfl rfl rfl rfl rfl rfl rfl rfl rfl ?_))
    all_goals (
      have h0' : ¬ (A.find old ([old, name].all isName)).1 = 0 := fun h => by obtain ⟨_, fl, h1, _⟩ := find_parts h; rw [hfo] at h1; cases h1
      have hw : A.rename ([old, name].all isName) old name = ((A.find old ([old, name].all isName)).1, (A.find old ([old, name].all isName)).2.2) := by
        unfold Ab.rename
        generalize A.find old ([old, name].all isName) = z at h0' hfo ⊢
        obtain ⟨e, fo, A1⟩ := z
        simp only at hfo
        subst hfo
        cases e <;> rfl
      rw [hw] at hE
      first
      | (exfalso; omega)
      | refine K_return hE Try.func23 rfl _ rfl ⟨D', hR', rfl, rfl⟩ (Ent.fin [0] 4 rfl rfl)
      | refine K_return hE Try.func23 rfl _ rfl ⟨D', hR', rfl, rfl⟩ (Ent.fin [1] 4 rfl rfl))
  | some fl =>
    refine K_drawA (fun w => Sat G w ([pts box2 (cl [.string name] 9), pts box1 (cl [.string old] 9)])) (.st 0 (.st 1 (.st 2 (.st 3 (.fork (.act 4 (.fork (.act 5 (.fork (.act 6 (.st 7 (.st 8 (.st 9 (.act 10 (.act 11 (.st 12 .nil))))))) (.act 10 (.act 6 (.st 7 (.st 8 (.st 9 (.act 11 (.st 12 .nil))))))))) (.act 10 (.act 5 (.act 6 (.st 7 (.st 8 (.st 9 (.act 11 (.st 12 .nil)))))))))) (.act 10 (.act 4 (.act 5 (.act 6 (.st 7 (.st 8 (.st 9 (.act 11 (.st 12 .nil)))))))))))))) rfl (by kernel_rfl) (by kernel_rfl) (by kernel_rfl) (fun w hw => hw.ent (Ent.pickOnly ([0, 1]) rfl)) ?_
    repeat' (first | (with_reducible intro _hh) | refine go1 ?_ | refine J_fork ?_ ?_ | refine J_gsP rfl rfl rfl rfl ?_ ?_ | refine K_condP rfl rfl ?_ ?_ | (refine J_buildSlice1 (U := tab) rfl rfl rfl rfl rfl rfl rfl rfl rfl (fun _ w hw => hw.ent (by first | exact Ent.pickOnly [0, 1] rfl | exact Ent.pickOnly [1, 2] rfl | exact Ent.pickOnly [2, 3] rfl | exact Ent.pickOnly [3, 4] rfl)) ?_; intro _) | (refine J_alloc (U := tab) rfl rfl rfl (fun _ w hw => hw.ent (by first | exact Ent.pickOnly [0, 1] rfl | exact Ent.pickOnly [1, 2] rfl | exact Ent.pickOnly [2, 3] rfl | exact Ent.pickOnly [3, 4] rfl)) ?_; intro _) | (refine J_call [0] rfl rfl rfl rfl (right_any _ _ [old, name] (Vw.pts rfl) (by simp)) rfl (fun _ _ w hp hw => by obtain ⟨_, rfl⟩ := hp; exact (fun _ w hw => hw.ent (by first | exact Ent.pickOnly [0, 1] rfl | exact Ent.pickOnly [1, 2] rfl | exact Ent.pickOnly [2, 3] rfl | exact Ent.pickOnly [3, 4] rfl)) 0 w hw) ?_; rintro _ _ ⟨rfl, rfl⟩) | (refine J_call [1] rfl rfl rfl rfl (right_any _ _ [old, name] (Vw.pts rfl) (by simp)) rfl (fun _ _ w hp hw => by obtain ⟨_, rfl⟩ := hp; exact (fun _ w hw => hw.ent (by first | exact Ent.pickOnly [0, 1] rfl | exact Ent.pickOnly [1, 2] rfl | exact Ent.pickOnly [2, 3] rfl | exact Ent.pickOnly [3, 4] rfl)) 0 w hw) ?_; rintro _ _ ⟨rfl, rfl⟩) | (refine J_call [3] rfl rfl rfl rfl (find_any bd D A hR old ([old, name].all isName)) rfl (fun _ _ w hp hw => by obtain ⟨_, _, rfl, _⟩ := hp; exact (fun _ w hw => hw.ent (by first | exact Ent.pickOnly [0, 1] rfl | exact Ent.pickOnly [1, 2] rfl | exact Ent.pickOnly [2, 3] rfl | exact Ent.pickOnly [3, 4] rfl)) 0 w hw) ?_; rintro _ _ ⟨D', hR', rfl, rfl⟩; rw [hfo]) | (refine J_call [4] rfl rfl rfl rfl (find_any bd D A hR old ([old, name].all isName)) rfl (fun _ _ w hp hw => by obtain ⟨_, _, rfl, _⟩ := hp; exact (fun _ w hw => hw.ent (by first | exact Ent.pickOnly [0, 1] rfl | exact Ent.pickOnly [1, 2] rfl | exact Ent.pickOnly [2, 3] rfl | exact Ent.pickOnly [3, 4] rfl)) 0 w hw) ?_; rintro _ _ ⟨D', hR', rfl, rfl⟩; rw [hfo]) | (refine J_isStore ?_; first | refine J_store (U := tab) 0 (fun w hw => (fun _ w hw => hw.ent (by first | exact Ent.pickOnly [0, 1] rfl | exact Ent.pickOnly [1, 2] rfl | exact Ent.pickOnly [2, 3] rfl | exact Ent.pickOnly [3, 4] rfl)) 0 w hw) rfl rfl rfl rfl rfl rfl rfl rfl rfl ?_ | refine J_store (U := tab) 1 (fun w hw => (fun _ w hw => hw.ent (by first | exact Ent.pickOnly [0, 1] rfl | exact Ent.pickOnly [1, 2] rfl | exact Ent.pickOnly [2, 3] rfl | exact Ent.pickOnly [3, 4] rfl)) 0 w hw) rfl rfl rfl rfl rfl rfl rfl rfl rfl ?_ | refine J_store (U := tab) 2 (fun w hw => (fun _ w hw => hw.ent (by first | exact Ent.pickOnly [0, 1] rfl | exact Ent.pickOnly [1, 2] rfl | exact Ent.pickOnly [2, 3] rfl | exact Ent.pickOnly [3, 4] rfl)) 0 w hw) rfl rfl rfl rfl rfl rfl rfl rfl rfl ?_))
    all_goals (
      have h0' : (A.find old ([old, name].all isName)).1 = 0 := by
        rcases Nat.eq_zero_or_pos (A.find old ([old, name].all isName)).1 with h | h
        · exact h
        · exfalso
          unfold Ab.find at hfo h
          split at hfo
          · rename_i h1
            rw [if_pos h1] at h
            cases hl : (A.meet ([old, name].all isName)).2.look old with
            | none => rw [hl] at hfo; cases hfo
            | some f => rw [hl] at h; simp at h
          · cases hfo)
    any_goals (exfalso; omega)
    all_goals (
      obtain ⟨_, fl', hfl', hmem⟩ := find_parts h0'
      rw [hfo] at hfl'
      cases hfl'
      have hw : A.rename ([old, name].all isName) old name = (0, (A.find old ([old, name].all isName)).2.2.chg (Ab.setN (Ab.delN (A.find old ([old, name].all isName)).2.2.names old) name fl)) := by
        unfold Ab.rename
        generalize A.find old ([old, name].all isName) = z at h0' hfo ⊢
        obtain ⟨e, fo, A1⟩ := z
        simp only at h0' hfo
        subst h0' hfo
        rfl
      rw [hw] at hE
      have hst' : (A.find old ([old, name].all isName)).2.2.states.length ≤ 1000000000 := by rw [(find_same A old _).2.2.1]; exact hst
      generalize (A.find old ([old, name].all isName)).2.2 = A1 at *
      have hst2 : D'.stb.length ≤ 1000000000 := by rw [hR'.states.1]; exact hst'
      have hN := hR'.smallN _ (List.mem_cons_self ..)
      have hlt := delN_lt hmem
      have hln := setN_len (Ab.delN A1.names old) name fl
      have hchg : ∀ b' v, Rel { D' with bm := b', maps := (b', ptrs (Ab.setN (Ab.delN A1.names old) name fl)) :: D'.maps, sts := v, stb := D'.stb ++ [b'] } (A1.chg (Ab.setN (Ab.delN A1.names old) name fl)) := fun b' v => hR'.chg
        (fun x hx => by
          rcases setN_mem hx with rfl | hx
          · have := hR'.known _ (List.mem_cons_self ..) _ hmem; exact this
          · exact hR'.known _ (List.mem_cons_self ..) _ (delN_sub hx).1)
        (setN_nodup (delN_nodup (hR'.nodup _ (List.mem_cons_self ..)) old) name fl) (by omega)
      first
      | (refine J_ent (Ent.pick ([4, 0, 3, 1]) rfl) ?_; refine J_ent (Ent.resep [_, _, _] _) ?_; refine J_call [1, 0] rfl rfl rfl rfl (change_any (α := Unit) bd D' A1.names hR'.names 37 #[ptr box1, ptr _, ptr box2] _ (fun _ => Ab.setN (Ab.delN A1.names old) name fl) (fun _ => emp) (fun _ => True) (fun b' => Ctr.post (Rename1_any b' box1 _ box2 fl A1.names old name) (fun v H h => ⟨(), trivial, h⟩)) hst2) rfl (fun _ _ _ _ _ => trivial) ?_; rintro _ _ ⟨_, b', v, _, rfl⟩; (refine go ?_); refine K_return hE Try.func23 rfl _ rfl ⟨_, hchg b' v, rfl, rfl⟩ (Ent.fin [0] 2 rfl rfl))
      | (refine J_ent (Ent.pick ([4, 1, 3, 0]) rfl) ?_; refine J_ent (Ent.resep [_, _, _] _) ?_; refine J_call [1, 0] rfl rfl rfl rfl (change_any (α := Unit) bd D' A1.names hR'.names 37 #[ptr box1, ptr _, ptr box2] _ (fun _ => Ab.setN (Ab.delN A1.names old) name fl) (fun _ => emp) (fun _ => True) (fun b' => Ctr.post (Rename1_any b' box1 _ box2 fl A1.names old name) (fun v H h => ⟨(), trivial, h⟩)) hst2) rfl (fun _ _ _ _ _ => trivial) ?_; rintro _ _ ⟨_, b', v, _, rfl⟩; (refine go ?_); refine K_return hE Try.func23 rfl _ rfl ⟨_, hchg b' v, rfl, rfl⟩ (Ent.fin [0] 2 rfl rfl))
      | (refine J_ent (Ent.pick ([4, 2, 3, 0]) rfl) ?_; refine J_ent (Ent.resep [_, _, _] _) ?_; refine J_call [1, 0] rfl rfl rfl rfl (change_any (α := Unit) bd D' A1.names hR'.names 37 #[ptr box1, ptr _, ptr box2] _ (fun _ => Ab.setN (Ab.delN A1.names old) name fl) (fun _ => emp) (fun _ => True) (fun b' => Ctr.post (Rename1_any b' box1 _ box2 fl A1.names old name) (fun v H h => ⟨(), trivial, h⟩)) hst2) rfl (fun _ _ _ _ _ => trivial) ?_; rintro _ _ ⟨_, b', v, _, rfl⟩; (refine go ?_); refine K_return hE Try.func23 rfl _ rfl ⟨_, hchg b' v, rfl, rfl⟩ (Ent.fin [0] 2 rfl rfl)))
end Go.Proofs.Ytokknepnmfklnaa
