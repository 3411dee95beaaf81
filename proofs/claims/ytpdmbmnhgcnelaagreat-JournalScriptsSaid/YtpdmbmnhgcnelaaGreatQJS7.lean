/- Texts of one claim, joined: Fr, Tl0, Ja, Jb, Tl, Jc, Jd. -/
import Derived.Test.YtpdmbmnhgcnelaaGreatQJS4
import Derived.Test.YtpdmbmnhgcnelaaGreatQJS5
import Derived.Test.YtpdmbmnhgcnelaaGreatQJS6
/- files, part r: Rename. -/
set_option linter.unusedVariables false
set_option linter.unusedSimpArgs false
namespace Go.Proofs.YtpdmbmnhgcnelaaGreat
open Go Go.SL
attribute [local irreducible] J K Ctr Ends pts slc mapR mapI sbRow stock arrS

theorem Rename_any (bd : Nat) (D : Dk) (A : Ab) (hR : Rel D A) (old name : ByteArray) (hst : A.states.length ≤ 1000000000) :
    Ctr Tryz.prog 63 [ptr bd, .string old, .string name] [disk bd D]
      (fun v H => ∃ D', Rel D' (A.rename ([old, name].all isName) old name).2 ∧ H = [disk bd D'] ∧ v = .int .i64 (A.rename ([old, name].all isName) old name).1) := by
  refine Ctr.enter Tryz.func63 (by kernel_rfl) rfl Tryz.ntmps63 rfl rfl ?_
  intro G F R hE
  (refine go ?_)
  refine J_box rfl rfl (fun _ _ _ => trivial) ?_
  intro box1
  refine J_box rfl rfl (fun _ _ _ => trivial) ?_
  intro box2
  (refine go ?_)
  cases hfo : (A.find old ([old, name].all isName)).2.1 with
  | none =>
    refine K_drawA (fun w => Sat G w ([pts box2 (cl [.string name] 9), pts box1 (cl [.string old] 9)])) (.st 0 (.st 1 (.st 2 (.st 3 (.fork (.act 4 (.fork (.act 5 (.fork (.act 6 (.st 7 (.st 8 (.st 9 (.act 10 (.act 11 (.st 12 .nil))))))) (.act 10 (.act 6 (.st 7 (.st 8 (.st 9 (.act 11 (.st 12 .nil))))))))) (.act 10 (.act 5 (.act 6 (.st 7 (.st 8 (.st 9 (.act 11 (.st 12 .nil)))))))))) (.act 10 (.act 4 (.act 5 (.act 6 (.st 7 (.st 8 (.st 9 (.act 11 (.st 12 .nil)))))))))))))) rfl (by kernel_rfl) (by kernel_rfl) (by kernel_rfl) (fun w hw => hw.ent (Ent.pickOnly ([0, 1]) rfl)) ?_
    repeat' (first | (with_reducible intro _hh) | refine go1 ?_ | refine J_fork ?_ ?_ | refine J_gsP rfl rfl rfl rfl ?_ ?_ | refine K_condP rfl rfl ?_ ?_ | (refine J_buildSlice1 (U := tab) rfl rfl rfl rfl rfl rfl rfl rfl rfl (fun _ w hw => hw.ent (by first | exact Ent.pickOnly [0, 1] rfl | exact Ent.pickOnly [1, 2] rfl | exact Ent.pickOnly [2, 3] rfl | exact Ent.pickOnly [3, 4] rfl)) ?_; intro _) | (refine J_alloc (U := tab) rfl rfl rfl (fun _ w hw => hw.ent (by first | exact Ent.pickOnly [0, 1] rfl | exact Ent.pickOnly [1, 2] rfl | exact Ent.pickOnly [2, 3] rfl | exact Ent.pickOnly [3, 4] rfl)) ?_; intro _) | (refine J_call [0] rfl rfl rfl rfl (right_any _ _ [old, name] (Vw.pts rfl) (by simp)) rfl (fun _ _ w hp hw => by obtain ⟨_, rfl⟩ := hp; exact (fun _ w hw => hw.ent (by first | exact Ent.pickOnly [0, 1] rfl | exact Ent.pickOnly [1, 2] rfl | exact Ent.pickOnly [2, 3] rfl | exact Ent.pickOnly [3, 4] rfl)) 0 w hw) ?_; rintro _ _ ⟨rfl, rfl⟩) | (refine J_call [1] rfl rfl rfl rfl (right_any _ _ [old, name] (Vw.pts rfl) (by simp)) rfl (fun _ _ w hp hw => by obtain ⟨_, rfl⟩ := hp; exact (fun _ w hw => hw.ent (by first | exact Ent.pickOnly [0, 1] rfl | exact Ent.pickOnly [1, 2] rfl | exact Ent.pickOnly [2, 3] rfl | exact Ent.pickOnly [3, 4] rfl)) 0 w hw) ?_; rintro _ _ ⟨rfl, rfl⟩) | (refine J_call [3] rfl rfl rfl rfl (find_any bd D A hR old ([old, name].all isName)) rfl (fun _ _ w hp hw => by obtain ⟨_, _, rfl, _⟩ := hp; exact (fun _ w hw => hw.ent (by first | exact Ent.pickOnly [0, 1] rfl | exact Ent.pickOnly [1, 2] rfl | exact Ent.pickOnly [2, 3] rfl | exact Ent.pickOnly [3, 4] rfl)) 0 w hw) ?_; rintro _ _ ⟨D', hR', rfl, rfl⟩; rw [hfo]) | (refine J_call [4] rfl rfl rfl rfl (find_any bd D A hR old ([old, name].all isName)) rfl (fun _ _ w hp hw => by obtain ⟨_, _, rfl, _⟩ := hp; exact (fun _ w hw => hw.ent (by first | exact Ent.pickOnly [0, 1] rfl | exact Ent.pickOnly [1, 2] rfl | exact Ent.pickOnly [2, 3] rfl | exact Ent.pickOnly [3, 4] rfl)) 0 w hw) ?_; rintro _ _ ⟨D', hR', rfl, rfl⟩; rw [hfo]) | (refine J_isStore ?_; first | refine J_store (U := tab) 0 (fun w hw => (fun _ w hw => hw.ent (by first | exact Ent.pickOnly [0, 1] rfl | exact Ent.pickOnly [1, 2] rfl | exact Ent.pickOnly [2, 3] rfl | exact Ent.pickOnly [3, 4] rfl)) 0 w hw) rfl rfl rfl rfl rfl rfl rfl rfl rfl ?_ | refine J_store (U := tab) 1 (fun w hw => (fun _ w hw => hw.ent (by first | exact Ent.pickOnly [0, 1] rfl | exact Ent.pickOnly [1, 2] rfl | exact Ent.pickOnly [2, 3] rfl | exact Ent.pickOnly [3, 4] rfl)) 0 w hw) rfl rfl rfl rfl rfl rfl rfl rfl rfl ?_ | refine J_store (U := tab) 2 (fun w hw => (fun _ w hw => hw.ent (by first | exact Ent.pickOnly [0, 1] rfl | exact Ent.pickOnly [1, 2] rfl | exact Ent.pickOnly [2, 3] rfl | exact Ent.pickOnly [3, 4] rfl)) 0 w hw) rfl rfl rfl rfl rfl rfl rfl rfl rfl ?_))
    all_goals (
      have h0' : ¬ (A.find old ([old, name].all isName)).1 = 0 := fun h => by obtain ⟨_, fl, h1, _⟩ := find_parts h; rw [hfo] at h1; cases h1
      have hw : A.rename ([old, name].all isName) old name = ((A.find old ([old, name].all isName)).1, (A.find old ([old, name].all isName)).2.2) := by
        unfold Ab.rename
        generalize A.find old ([old, name].all isName) = z at h0' hfo ⊢
        obtain ⟨e, fo, A1⟩ := z
        simp only at hfo
        subst hfo
        cases e <;> rfl
      rw [hw] at hE
      first
      | (exfalso; omega)
      | refine K_return hE Tryz.func63 rfl _ rfl ⟨D', hR', rfl, rfl⟩ (Ent.fin [0] 4 rfl rfl)
      | refine K_return hE Tryz.func63 rfl _ rfl ⟨D', hR', rfl, rfl⟩ (Ent.fin [1] 4 rfl rfl))
  | some fl =>
    refine K_drawA (fun w => Sat G w ([pts box2 (cl [.string name] 9), pts box1 (cl [.string old] 9)])) (.st 0 (.st 1 (.st 2 (.st 3 (.fork (.act 4 (.fork (.act 5 (.fork (.act 6 (.st 7 (.st 8 (.st 9 (.act 10 (.act 11 (.st 12 .nil))))))) (.act 10 (.act 6 (.st 7 (.st 8 (.st 9 (.act 11 (.st 12 .nil))))))))) (.act 10 (.act 5 (.act 6 (.st 7 (.st 8 (.st 9 (.act 11 (.st 12 .nil)))))))))) (.act 10 (.act 4 (.act 5 (.act 6 (.st 7 (.st 8 (.st 9 (.act 11 (.st 12 .nil)))))))))))))) rfl (by kernel_rfl) (by kernel_rfl) (by kernel_rfl) (fun w hw => hw.ent (Ent.pickOnly ([0, 1]) rfl)) ?_
    repeat' (first | (with_reducible intro _hh) | refine go1 ?_ | refine J_fork ?_ ?_ | refine J_gsP rfl rfl rfl rfl ?_ ?_ | refine K_condP rfl rfl ?_ ?_ | (refine J_buildSlice1 (U := tab) rfl rfl rfl rfl rfl rfl rfl rfl rfl (fun _ w hw => hw.ent (by first | exact Ent.pickOnly [0, 1] rfl | exact Ent.pickOnly [1, 2] rfl | exact Ent.pickOnly [2, 3] rfl | exact Ent.pickOnly [3, 4] rfl)) ?_; intro _) | (refine J_alloc (U := tab) rfl rfl rfl (fun _ w hw => hw.ent (by first | exact Ent.pickOnly [0, 1] rfl | exact Ent.pickOnly [1, 2] rfl | exact Ent.pickOnly [2, 3] rfl | exact Ent.pickOnly [3, 4] rfl)) ?_; intro _) | (refine J_call [0] rfl rfl rfl rfl (right_any _ _ [old, name] (Vw.pts rfl) (by simp)) rfl (fun _ _ w hp hw => by obtain ⟨_, rfl⟩ := hp; exact (fun _ w hw => hw.ent (by first | exact Ent.pickOnly [0, 1] rfl | exact Ent.pickOnly [1, 2] rfl | exact Ent.pickOnly [2, 3] rfl | exact Ent.pickOnly [3, 4] rfl)) 0 w hw) ?_; rintro _ _ ⟨rfl, rfl⟩) | (refine J_call [1] rfl rfl rfl rfl (right_any _ _ [old, name] (Vw.pts rfl) (by simp)) rfl (fun _ _ w hp hw => by obtain ⟨_, rfl⟩ := hp; exact (fun _ w hw => hw.ent (by first | exact Ent.pickOnly [0, 1] rfl | exact Ent.pickOnly [1, 2] rfl | exact Ent.pickOnly [2, 3] rfl | exact Ent.pickOnly [3, 4] rfl)) 0 w hw) ?_; rintro _ _ ⟨rfl, rfl⟩) | (refine J_call [3] rfl rfl rfl rfl (find_any bd D A hR old ([old, name].all isName)) rfl (fun _ _ w hp hw => by obtain ⟨_, _, rfl, _⟩ := hp; exact (fun _ w hw => hw.ent (by first | exact Ent.pickOnly [0, 1] rfl | exact Ent.pickOnly [1, 2] rfl | exact Ent.pickOnly [2, 3] rfl | exact Ent.pickOnly [3, 4] rfl)) 0 w hw) ?_; rintro _ _ ⟨D', hR', rfl, rfl⟩; rw [hfo]) | (refine J_call [4] rfl rfl rfl rfl (find_any bd D A hR old ([old, name].all isName)) rfl (fun _ _ w hp hw => by obtain ⟨_, _, rfl, _⟩ := hp; exact (fun _ w hw => hw.ent (by first | exact Ent.pickOnly [0, 1] rfl | exact Ent.pickOnly [1, 2] rfl | exact Ent.pickOnly [2, 3] rfl | exact Ent.pickOnly [3, 4] rfl)) 0 w hw) ?_; rintro _ _ ⟨D', hR', rfl, rfl⟩; rw [hfo]) | (refine J_isStore ?_; first | refine J_store (U := tab) 0 (fun w hw => (fun _ w hw => hw.ent (by first | exact Ent.pickOnly [0, 1] rfl | exact Ent.pickOnly [1, 2] rfl | exact Ent.pickOnly [2, 3] rfl | exact Ent.pickOnly [3, 4] rfl)) 0 w hw) rfl rfl rfl rfl rfl rfl rfl rfl rfl ?_ | refine J_store (U := tab) 1 (fun w hw => (fun _ w hw => hw.ent (by first | exact Ent.pickOnly [0, 1] rfl | exact Ent.pickOnly [1, 2] rfl | exact Ent.pickOnly [2, 3] rfl | exact Ent.pickOnly [3, 4] rfl)) 0 w hw) rfl rfl rfl rfl rfl rfl rfl rfl rfl ?_ | refine J_store (U := tab) 2 (fun w hw => (fun _ w hw => hw.ent (by first | exact Ent.pickOnly [0, 1] rfl | exact Ent.pickOnly [1, 2] rfl | exact Ent.pickOnly [2, 3] rfl | exact Ent.pickOnly [3, 4] rfl)) 0 w hw) rfl rfl rfl rfl rfl rfl rfl rfl rfl ?_))
    all_goals (
      have h0' : (A.find old ([old, name].all isName)).1 = 0 := by
        rcases Nat.eq_zero_or_pos (A.find old ([old, name].all isName)).1 with h | h
        · exact h
        · exfalso
          unfold Ab.find at hfo h
          split at hfo
          · rename_i h1
            rw [if_pos h1] at h
            cases hl : (A.meet ([old, name].all isName)).2.look old with
            | none => rw [hl] at hfo; cases hfo
            | some f => rw [hl] at h; simp at h
          · cases hfo)
    any_goals (exfalso; omega)
    all_goals (
      obtain ⟨_, fl', hfl', hmem⟩ := find_parts h0'
      rw [hfo] at hfl'
      cases hfl'
      have hw : A.rename ([old, name].all isName) old name = (0, (A.find old ([old, name].all isName)).2.2.chg (Ab.setN (Ab.delN (A.find old ([old, name].all isName)).2.2.names old) name fl)) := by
        unfold Ab.rename
        generalize A.find old ([old, name].all isName) = z at h0' hfo ⊢
        obtain ⟨e, fo, A1⟩ := z
        simp only at h0' hfo
        subst h0' hfo
        rfl
      rw [hw] at hE
      have hst' : (A.find old ([old, name].all isName)).2.2.states.length ≤ 1000000000 := by rw [(find_same A old _).2.2.1]; exact hst
      generalize (A.find old ([old, name].all isName)).2.2 = A1 at *
      have hst2 : D'.stb.length ≤ 1000000000 := by rw [hR'.states.1]; exact hst'
      have hN := hR'.smallN _ (List.mem_cons_self ..)
      have hlt := delN_lt hmem
      have hln := setN_len (Ab.delN A1.names old) name fl
      have hchg : ∀ b' v, Rel { D' with bm := b', maps := (b', ptrs (Ab.setN (Ab.delN A1.names old) name fl)) :: D'.maps, sts := v, stb := D'.stb ++ [b'] } (A1.chg (Ab.setN (Ab.delN A1.names old) name fl)) := fun b' v => hR'.chg
        (fun x hx => by
          rcases setN_mem hx with rfl | hx
          · have := hR'.known _ (List.mem_cons_self ..) _ hmem; exact this
          · exact hR'.known _ (List.mem_cons_self ..) _ (delN_sub hx).1)
        (setN_nodup (delN_nodup (hR'.nodup _ (List.mem_cons_self ..)) old) name fl) (by omega)
      first
      | (refine J_ent (Ent.pick ([4, 0, 3, 1]) rfl) ?_; refine J_ent (Ent.resep [_, _, _] _) ?_; refine J_call [1, 0] rfl rfl rfl rfl (change_any (α := Unit) bd D' A1.names hR'.names 99 #[ptr box1, ptr _, ptr box2] _ (fun _ => Ab.setN (Ab.delN A1.names old) name fl) (fun _ => emp) (fun _ => True) (fun b' => Ctr.post (Rename1_any b' box1 _ box2 fl A1.names old name) (fun v H h => ⟨(), trivial, h⟩)) hst2) rfl (fun _ _ _ _ _ => trivial) ?_; rintro _ _ ⟨_, b', v, _, rfl⟩; (refine go ?_); refine K_return hE Tryz.func63 rfl _ rfl ⟨_, hchg b' v, rfl, rfl⟩ (Ent.fin [0] 2 rfl rfl))
      | (refine J_ent (Ent.pick ([4, 1, 3, 0]) rfl) ?_; refine J_ent (Ent.resep [_, _, _] _) ?_; refine J_call [1, 0] rfl rfl rfl rfl (change_any (α := Unit) bd D' A1.names hR'.names 99 #[ptr box1, ptr _, ptr box2] _ (fun _ => Ab.setN (Ab.delN A1.names old) name fl) (fun _ => emp) (fun _ => True) (fun b' => Ctr.post (Rename1_any b' box1 _ box2 fl A1.names old name) (fun v H h => ⟨(), trivial, h⟩)) hst2) rfl (fun _ _ _ _ _ => trivial) ?_; rintro _ _ ⟨_, b', v, _, rfl⟩; (refine go ?_); refine K_return hE Tryz.func63 rfl _ rfl ⟨_, hchg b' v, rfl, rfl⟩ (Ent.fin [0] 2 rfl rfl))
      | (refine J_ent (Ent.pick ([4, 2, 3, 0]) rfl) ?_; refine J_ent (Ent.resep [_, _, _] _) ?_; refine J_call [1, 0] rfl rfl rfl rfl (change_any (α := Unit) bd D' A1.names hR'.names 99 #[ptr box1, ptr _, ptr box2] _ (fun _ => Ab.setN (Ab.delN A1.names old) name fl) (fun _ => emp) (fun _ => True) (fun b' => Ctr.post (Rename1_any b' box1 _ box2 fl A1.names old name) (fun v H h => ⟨(), trivial, h⟩)) hst2) rfl (fun _ _ _ _ _ => trivial) ?_; rintro _ _ ⟨_, b', v, _, rfl⟩; (refine go ?_); refine K_return hE Tryz.func63 rfl _ rfl ⟨_, hchg b' v, rfl, rfl⟩ (Ent.fin [0] 2 rfl rfl)))
end Go.Proofs.YtpdmbmnhgcnelaaGreat

/- tlv, part 0: bytes that are seen. -/
set_option linter.unusedVariables false
set_option linter.unusedSimpArgs false
namespace Go.Proofs.YtpdmbmnhgcnelaaGreat
open Go Go.SL
theorem bV_at {A : HP} {v : Value} {bs : List UInt8} (hv : Vw A v bs.length (bV bs)) (h : 0 < bs.length) : ∃ b o c, v = .slice (some ⟨b, o, none⟩) bs.length c := hv.some (by cases bs with
  | nil => simp at h
  | cons x l => simp [bV])
theorem bV_getD {bs : List UInt8} {i : Nat} (h : i < bs.length) : (bV bs)[i]? = some (u8 (bs.getD i 0)) := by
  rw [List.getD_eq_getElem?_getD]
  simp [bV, h]
theorem shl_slot {x q : Nat} (y : Nat) (h : x * 2 ^ (min q 64) = y) (hy : y < 9223372036854775808) : Value.int .i64 (IntKind.i64.wrap ((x : Int) * 2 ^ (min ((q : Int).toNat) IntKind.i64.bits))) = .int .i64 (y : Int) := by
  have e : (x : Int) * 2 ^ (min ((q : Int).toNat) IntKind.i64.bits) = (y : Int) := by
    show (x : Int) * 2 ^ (min q 64) = _
    rw [← h]; push_cast; rfl
  rw [e, wrap_in (by simp only [inK]; omega)]
end Go.Proofs.YtpdmbmnhgcnelaaGreat

/- journal, part a: numbers as bytes; Repeat; heads. -/
set_option linter.unusedVariables false
set_option linter.unusedSimpArgs false
namespace Go.Proofs.YtpdmbmnhgcnelaaGreat
open Go Go.SL
attribute [local irreducible] J K Ctr Ends pts slc mapR mapI sbRow stock arrS loopP

theorem number_any (n : Nat) (h : n < 9223372036854775808) : Ctr Tryz.prog 96 [.int .i64 (n : Int)] [] (fun v H => ∃ b, v = .slice (some ⟨b, 0, none⟩) 4 4 ∧ H = [pts b (cl (bV (le4 n)) 5)]) := by
  refine Ctr.enter Tryz.func96 (by kernel_rfl) rfl Tryz.ntmps96 rfl rfl ?_
  intro G F R hE
  (repeat (first | refine go1 ?_ | refine J_fork ?_ ?_ | refine J_convW (U := tab) rfl rfl rfl rfl rfl rfl ?_ | refine J_shr rfl rfl rfl (by omega) ?_))
  refine J_slot 4 (u8 (UInt8.ofNat n)) rfl (conv_u8 n) ?_
  refine J_slot 7 (u8 (UInt8.ofNat (n / 256))) rfl (by rw [show (n : Int) / 2 ^ (min (Int.toNat 8) IntKind.i64.bits) = ((n / 256 : Nat) : Int) from by show (n : Int) / 256 = _; omega]; exact conv_u8 _) ?_
  refine J_slot 10 (u8 (UInt8.ofNat (n / 65536))) rfl (by rw [show (n : Int) / 2 ^ (min (Int.toNat 16) IntKind.i64.bits) = ((n / 65536 : Nat) : Int) from by show (n : Int) / 65536 = _; omega]; exact conv_u8 _) ?_
  refine J_slot 13 (u8 (UInt8.ofNat (n / 16777216))) rfl (by rw [show (n : Int) / 2 ^ (min (Int.toNat 24) IntKind.i64.bits) = ((n / 16777216 : Nat) : Int) from by show (n : Int) / 16777216 = _; omega]; exact conv_u8 _) ?_
  refine J_buildSlice1 (U := tab) (cs := bV (le4 n)) rfl rfl rfl rfl rfl rfl rfl rfl rfl (fun _ _ _ => trivial) ?_
  intro b
  (refine go ?_)
  (first | refine K_return hE Tryz.func96 rfl _ rfl ⟨b, rfl, rfl⟩ entA | refine K_fallEnd hE Tryz.func96 rfl _ rfl ⟨b, rfl, rfl⟩ entA)
set_option maxRecDepth 20000 in
theorem told_any (A : HP) (v : Value) (bs : List UInt8) (hv : Vw A v bs.length (bV bs)) (h : 4 ≤ bs.length) : Ctr Tryz.prog 52 [v] [A] (fun r H => r = .int .i64 (leN bs : Int) ∧ H = [A]) := by
  obtain ⟨b, o, c, rfl⟩ := bV_at hv (by omega)
  have hx : ∀ x : UInt8, x.toNat < 256 := fun x => x.toNat_lt
  have h0 := hx (bs.getD 0 0); have h1 := hx (bs.getD 1 0); have h2 := hx (bs.getD 2 0); have h3 := hx (bs.getD 3 0)
  refine Ctr.enter Tryz.func52 (by kernel_rfl) rfl Tryz.ntmps52 rfl rfl ?_
  intro G F R hE
  (refine go ?_)
  refine K_drawA (fun w => Sat G w ([A])) (sts 0 23 .nil) rfl (by kernel_rfl) (by kernel_rfl) (by kernel_rfl) (fun w hw => hw.ent entA) ?_
  (refine go ?_)
  refine J_at1 (U := tab) 0 rfl rfl rfl rfl rfl rfl rfl rfl (by omega) ?_
  refine J_loadAtS (U := tab) 0 0 rfl rfl rfl hv rfl (bV_getD (by omega)) rfl rfl ?_
  (refine go ?_)
  refine J_at1 (U := tab) 1 rfl rfl rfl rfl rfl rfl rfl rfl (by omega) ?_
  refine J_loadAtS (U := tab) 0 1 rfl rfl rfl hv rfl (bV_getD (by omega)) rfl rfl ?_
  (refine go ?_)
  refine J_shlW rfl rfl rfl (by omega) ?_
  refine J_slot 11 (.int .i64 (((bs.getD 1 0).toNat * 2 ^ 8 : Nat) : Int)) rfl (shl_slot (q := 8) _ rfl (by omega)) ?_
  (refine go ?_)
  refine J_slot 12 (.int .i64 (((bs.getD 0 0).toNat + (bs.getD 1 0).toNat * 2 ^ 8 : Nat) : Int)) rfl (congrArg (Value.int .i64) (or_i64 (by omega) (by omega))) ?_
  refine J_at1 (U := tab) 2 rfl rfl rfl rfl rfl rfl rfl rfl (by omega) ?_
  refine J_loadAtS (U := tab) 0 2 rfl rfl rfl hv rfl (bV_getD (by omega)) rfl rfl ?_
  (refine go ?_)
  refine J_shlW rfl rfl rfl (by omega) ?_
  refine J_slot 17 (.int .i64 (((bs.getD 2 0).toNat * 2 ^ 16 : Nat) : Int)) rfl (shl_slot (q := 16) _ rfl (by omega)) ?_
  (refine go ?_)
  refine J_slot 18 (.int .i64 (((bs.getD 0 0).toNat + (bs.getD 1 0).toNat * 2 ^ 8 + (bs.getD 2 0).toNat * 2 ^ 16 : Nat) : Int)) rfl (congrArg (Value.int .i64) (or_i64 (by omega) (by omega))) ?_
  refine J_at1 (U := tab) 3 rfl rfl rfl rfl rfl rfl rfl rfl (by omega) ?_
  refine J_loadAtS (U := tab) 0 3 rfl rfl rfl hv rfl (bV_getD (by omega)) rfl rfl ?_
  (refine go ?_)
  refine J_shlW rfl rfl rfl (by omega) ?_
  refine J_slot 23 (.int .i64 (((bs.getD 3 0).toNat * 2 ^ 24 : Nat) : Int)) rfl (shl_slot (q := 24) _ rfl (by omega)) ?_
  (refine go ?_)
  refine K_slot 2 (.int .i64 (leN bs : Int)) rfl (congrArg (Value.int .i64) (or_i64 (by omega) (by omega))) ?_
  (first | refine K_return hE Tryz.func52 rfl _ rfl ⟨rfl, rfl⟩ entA | refine K_fallEnd hE Tryz.func52 rfl _ rfl ⟨rfl, rfl⟩ entA)
theorem Equal_any (A B : HP) (v1 v2 : Value) (b1 b2 : List UInt8) (h1 : Vw A v1 b1.length (bV b1)) (h2 : Vw B v2 b2.length (bV b2)) : Ctr Tryz.prog 53 [v1, v2] [A, B] (fun r H => r = .bool (decide (b1 = b2)) ∧ H = [A, B]) := by
  obtain ⟨a1, c1, rfl⟩ := h1.shape
  obtain ⟨a2, c2, rfl⟩ := h2.shape
  refine Ctr.enter Tryz.func53 (by kernel_rfl) rfl Tryz.ntmps53 rfl rfl ?_
  intro G F R hE
  (refine go ?_)
  refine J_toStr (U := tab) 0 rfl rfl rfl rfl rfl rfl rfl rfl rfl h1 ?_
  (refine go ?_)
  refine J_toStr (U := tab) 1 rfl rfl rfl rfl rfl rfl rfl rfl rfl h2 ?_
  (refine go ?_)
  rw [eqS_strOf]
  (first | refine K_return hE Tryz.func53 rfl _ rfl ⟨rfl, rfl⟩ entA | refine K_fallEnd hE Tryz.func53 rfl _ rfl ⟨rfl, rfl⟩ entA)
set_option maxRecDepth 20000 in
theorem Mul64_any (a b : Nat) (ha : a < 4294967296) (hb : b < 4294967296) : Ctr Tryz.prog 123 [.int .u64 (a : Int), .int .u64 (b : Int)] [] (fun r H => r = .tuple #[.int .u64 0, .int .u64 ((a * b : Nat) : Int)] ∧ H = []) := by
  have hab : a * b < 18446744073709551616 := Nat.lt_of_lt_of_le (Nat.mul_lt_mul'' ha hb) (by omega)
  have hw : ∀ x : Nat, x < 18446744073709551616 → IntKind.u64.wrap (x : Int) = (x : Int) := fun x hx => wrap_in (by simp only [inK]; omega)
  have hm : ∀ x : Nat, x < 4294967296 → IntKind.u64.wrap ((BitVec.ofInt IntKind.u64.bits (x : Int) &&& BitVec.ofInt IntKind.u64.bits 4294967295).toNat : Int) = (x : Int) := fun x hx => by
    have := and_mask_u64 x 32 (by omega) (by omega)
    rw [show ((2 ^ 32 - 1 : Nat) : Int) = 4294967295 from rfl, show x % 2 ^ 32 = x from by omega] at this
    exact this
  have hs : ∀ x : Nat, x < 4294967296 → (x : Int) / 2 ^ (min (Int.toNat 32) IntKind.u64.bits) = 0 := fun x hx => by show (x : Int) / 4294967296 = 0; omega
  refine Ctr.enter Tryz.func123 (by kernel_rfl) rfl Tryz.ntmps123 rfl rfl ?_
  intro G F R hE
  (refine go ?_)
  refine J_slot 6 (.int .u64 (a : Int)) rfl (congrArg (Value.int .u64) (hm a ha)) ?_
  refine J_shr rfl rfl rfl (by omega) ?_
  refine J_slot 17 (.int .u64 0) rfl (congrArg (Value.int .u64) (hs a ha)) ?_
  (refine go ?_)
  refine J_slot 8 (.int .u64 (b : Int)) rfl (congrArg (Value.int .u64) (hm b hb)) ?_
  refine J_shr rfl rfl rfl (by omega) ?_
  refine J_slot 21 (.int .u64 0) rfl (congrArg (Value.int .u64) (hs b hb)) ?_
  (refine go ?_)
  refine J_mul rfl rfl rfl (by rw [← Int.natCast_mul]; simp only [inK]; omega) ?_
  refine J_slot 24 (.int .u64 ((a * b : Nat) : Int)) rfl (by rw [Int.natCast_mul]) ?_
  (refine go ?_)
  refine J_mul rfl rfl rfl (by simp [inK]) ?_
  refine J_slot 27 (.int .u64 0) rfl (by simp) ?_
  (refine go ?_)
  refine J_shr rfl rfl rfl (by omega) ?_
  refine J_slot 29 (.int .u64 ((a * b / 4294967296 : Nat) : Int)) rfl (congrArg (Value.int .u64) (by show ((a * b : Nat) : Int) / 4294967296 = _; omega)) ?_
  (refine go ?_)
  refine J_slot 11 (.int .u64 ((a * b / 4294967296 : Nat) : Int)) rfl (congrArg (Value.int .u64) (by omega)) ?_
  (refine go ?_)
  have hq : a * b / 4294967296 < 4294967296 := by omega
  refine J_slot 12 (.int .u64 ((a * b / 4294967296 : Nat) : Int)) rfl (congrArg (Value.int .u64) (by rw [show (0 : Int) + ((a * b / 4294967296 : Nat) : Int) = ((a * b / 4294967296 : Nat) : Int) from by omega]; exact hm _ hq)) ?_
  refine J_shr rfl rfl rfl (by omega) ?_
  refine J_slot 34 (.int .u64 0) rfl (congrArg (Value.int .u64) (by simp only [Int.zero_add, Int.add_zero]; exact hs _ hq)) ?_
  (refine go ?_)
  refine J_mul rfl rfl rfl (by simp [inK]) ?_
  refine J_slot 38 (.int .u64 0) rfl (by simp) ?_
  (refine go ?_)
  refine J_mul rfl rfl rfl (by simp [inK]) ?_
  refine J_slot 42 (.int .u64 0) rfl (by simp) ?_
  (refine go ?_)
  refine J_shr rfl rfl rfl (by omega) ?_
  refine J_slot 46 (.int .u64 0) rfl (congrArg (Value.int .u64) (by rw [show ((a * b / 4294967296 : Nat) : Int) + 0 = ((a * b / 4294967296 : Nat) : Int) from by omega]; exact hs (a * b / 4294967296) hq)) ?_
  (refine go ?_)
  refine J_mul rfl rfl rfl (by rw [← Int.natCast_mul]; simp only [inK]; omega) ?_
  refine J_slot 50 (.int .u64 ((a * b : Nat) : Int)) rfl (by rw [Int.natCast_mul]) ?_
  (refine go ?_)
  (first | refine K_return hE Tryz.func123 rfl _ rfl ⟨rfl, rfl⟩ entA | refine K_fallEnd hE Tryz.func123 rfl _ rfl ⟨rfl, rfl⟩ entA)
theorem Mul_any (a b : Nat) (ha : a < 4294967296) (hb : b < 4294967296) : Ctr Tryz.prog 114 [.int .u64 (a : Int), .int .u64 (b : Int)] [] (fun r H => r = .tuple #[.int .u64 0, .int .u64 ((a * b : Nat) : Int)] ∧ H = []) := by
  refine Ctr.enter Tryz.func114 (by kernel_rfl) rfl Tryz.ntmps114 rfl rfl ?_
  intro G F R hE
  (refine go ?_)
  (first | refine J_callE rfl rfl rfl rfl (Mul64_any a b ha hb) entA ?_ (fun _ _ _ _ _ => trivial) | refine J_call0E rfl rfl rfl (Mul64_any a b ha hb) entA ?_ (fun _ _ _ _ _ => trivial) | (refine go ?_; first | refine J_callE rfl rfl rfl rfl (Mul64_any a b ha hb) entA ?_ (fun _ _ _ _ _ => trivial) | refine J_call0E rfl rfl rfl (Mul64_any a b ha hb) entA ?_ (fun _ _ _ _ _ => trivial)))
  rintro _ _ ⟨rfl, rfl⟩
  (refine go ?_)
  (first | refine K_return hE Tryz.func114 rfl _ rfl ⟨rfl, rfl⟩ entA | refine K_fallEnd hE Tryz.func114 rfl _ rfl ⟨rfl, rfl⟩ entA)
set_option maxRecDepth 20000 in
theorem Repeat2_any (v : Value) (bs : List UInt8) (h0 : 0 < bs.length) (hl : bs.length ≤ 1000) :
    Ctr Tryz.prog 95 [v, .int .i64 2] [slc 5 1 v bs.length (bV bs)] (fun r H => H = [slc 5 1 r (bs ++ bs).length (bV (bs ++ bs))]) := by
  refine Ctr.enter Tryz.func95 (by kernel_rfl) rfl Tryz.ntmps95 rfl rfl ?_
  intro G F R hE
  refine K_slcF 0 rfl h0 ?_
  rintro b o c rfl hc _ hvw
  (refine go ?_)
  (first | refine J_callE rfl rfl rfl rfl (Mul_any bs.length 2 (by omega) (by omega)) entA ?_ (fun _ _ _ _ _ => trivial) | refine J_call0E rfl rfl rfl (Mul_any bs.length 2 (by omega) (by omega)) entA ?_ (fun _ _ _ _ _ => trivial) | (refine go ?_; first | refine J_callE rfl rfl rfl rfl (Mul_any bs.length 2 (by omega) (by omega)) entA ?_ (fun _ _ _ _ _ => trivial) | refine J_call0E rfl rfl rfl (Mul_any bs.length 2 (by omega) (by omega)) entA ?_ (fun _ _ _ _ _ => trivial)))
  rintro _ _ ⟨rfl, rfl⟩
  repeat' (first | (with_reducible intro _hh) | refine go1 ?_ | refine J_fork ?_ ?_ | refine J_gsP rfl rfl rfl rfl ?_ ?_ | refine K_condP rfl rfl ?_ ?_)
  any_goals (exfalso; omega)
  obtain ⟨N, hN⟩ : ∃ N, N = bs.length * 2 := ⟨_, rfl⟩
  rw [← hN]
  refine J_makeNoZero (U := tab) (t := 40) (elem := 5) (q := N) rfl Tryz.func115 rfl rfl (by kernel_rfl) rfl rfl rfl rfl (by omega) (fun _ _ _ _ => trivial) ?_
  intro nb c2 l hc2 hl2
  (refine go ?_)
  refine J_slice3n (U := tab) (q := (N : Int)) (r := (N : Int)) rfl rfl rfl rfl rfl rfl rfl (by omega) (by omega) (by omega) ?_
  refine J_slot 57 (.slice (some ⟨nb, 0, none⟩) N N) rfl (by rw [show ((N : Int)).toNat = N from by omega]; rw [sliceAt_zero]) ?_
  (refine go ?_)
  refine J_copyT (U := tab) (src := bV bs) (mm := bs.length) (l' := bV bs ++ l.drop bs.length) 0 1 rfl rfl rfl rfl rfl rfl rfl rfl hvw (by show _ = _ * 1; rw [bV_length]; omega) (fun u hu => bV_one bs u (List.mem_of_mem_take hu)) (by show 0 + _ * 1 ≤ _; omega) ?_ rfl (fun _ _ => trivial) ?_
  · show _ = List.take 0 l ++ List.take (min bs.length N * 1) (bV bs) ++ List.drop (0 + min bs.length N * 1) l
    rw [show min bs.length N * 1 = bs.length from by omega, List.take_of_length_le (l := bV bs) (by rw [bV_length]; omega)]
    simp
  rw [show ((min bs.length N : Nat) : Int) = (bs.length : Int) from by omega]
  (refine go ?_)
  refine K_loop (fun _ : Bool => True) (fun s => bif s then 0 else 1)
    (fun s => [(7, .int .i64 (N : Int)), (8, .int .i64 (N : Int)), (9, .slice (some ⟨nb, 0, none⟩) N N), (10, .int .i64 ((bif s then N else bs.length : Nat) : Int))])
    (fun s => pts nb (cl (bif s then bV (bs ++ bs) ++ l.drop N else bV bs ++ l.drop bs.length) 5) :: F) false trivial rfl (by repeat (first | exact keep_nil | refine keep_cons rfl ?_)) entA ?_
  rintro s _ ih
  cases s with
  | true =>
    repeat' (first | (with_reducible intro _hh) | refine go1 ?_ | refine J_fork ?_ ?_ | refine J_gsP rfl rfl rfl rfl ?_ ?_ | refine K_condP rfl rfl ?_ ?_)
    any_goals (exfalso; simp only [cond_true] at *; omega)
    simp only [cond_true]
    refine K_ent (slc_row 5 1 nb N N (bV (bs ++ bs)) (l.drop N) _ (by rw [bV_length, List.length_append]; omega) (Nat.le_refl _) (by rw [bV_length, List.length_append, List.length_drop]; omega)) ?_
    rw [show N = (bs ++ bs).length from by rw [List.length_append]; omega]
    (first | refine K_return hE Tryz.func95 rfl _ rfl rfl entA | refine K_fallEnd hE Tryz.func95 rfl _ rfl rfl entA)
  | false =>
    repeat' (first | (with_reducible intro _hh) | refine go1 ?_ | refine J_fork ?_ ?_ | refine J_gsP rfl rfl rfl rfl ?_ ?_ | refine K_condP rfl rfl ?_ ?_)
    any_goals (exfalso; simp only [cond_false] at *; omega)
    simp only [cond_false]
    rw [show min (bs.length : Int) (N : Int) = (bs.length : Int) from by omega]
    refine K_drawA (fun w => Sat G w ([])) (sts 0 7 (.act 7 (sts 8 2 .nil))) rfl (by kernel_rfl) (by kernel_rfl) (by kernel_rfl) (fun w hw => hw.ent entA) ?_
    (refine go ?_)
    refine J_sliceAny (U := tab) (p := (bs.length : Int)) (q := (N : Int)) rfl rfl rfl rfl rfl rfl rfl (by omega) (by omega) (.inl rfl) ?_
    refine J_slot 70 (.slice (some ⟨nb, bs.length, none⟩) bs.length bs.length) rfl (by rw [show ((N : Int)).toNat = N from by omega, show ((bs.length : Int)).toNat = bs.length from by omega, show N - bs.length = bs.length from by omega]; show Value.slice (sliceAt _ N bs.length 1) _ _ = _; rw [sliceAt_some _ _ _ _ _ (by omega), Nat.zero_add, Nat.mul_one]) ?_
    (refine go ?_)
    refine J_sliceAny (U := tab) (p := 0) (q := (bs.length : Int)) rfl rfl rfl rfl rfl rfl rfl (by omega) (by omega) (.inr (by omega)) ?_
    refine J_slot 73 (.slice (some ⟨nb, 0, none⟩) bs.length N) rfl (by rw [show (0 : Int).toNat = 0 from rfl, show ((bs.length : Int)).toNat = bs.length from by omega, sliceAt_zero]; rfl) ?_
    refine J_copyT (U := tab) (src := bV bs) (mm := bs.length) (l' := bV (bs ++ bs) ++ l.drop N) 0 0 rfl rfl rfl rfl rfl rfl rfl rfl (Vw.pts (by simp)) (by show _ = _ * 1; rw [bV_length]; omega) (fun u hu => bV_one bs u (List.mem_of_mem_take hu)) (by show bs.length + _ * 1 ≤ _; rw [List.length_append, bV_length, List.length_drop]; omega) ?_ rfl (fun _ hw => hw.ent (Ent.toNil _)) ?_
    · show _ = List.take bs.length _ ++ List.take (min bs.length bs.length * 1) (bV bs) ++ List.drop (bs.length + min bs.length bs.length * 1) _
      rw [show min bs.length bs.length * 1 = bs.length from by omega, List.take_of_length_le (l := bV bs) (by rw [bV_length]; omega), List.take_left' (bV_length bs), List.drop_append, bV_length, show (bV bs).drop (bs.length + bs.length) = [] from List.drop_eq_nil_of_le (by rw [bV_length]; omega), List.drop_drop, show bs.length + (bs.length + bs.length - bs.length) = N from by omega]
      simp [bV]
    rw [show ((min bs.length bs.length : Nat) : Int) = (bs.length : Int) from by omega]
    (refine go ?_)
    refine K_slot 10 (.int .i64 (N : Int)) rfl (congrArg (Value.int .i64) (by omega)) ?_
    refine K_again ih true rfl trivial (by simp) (by repeat (first | exact keep_nil | refine keep_cons rfl ?_)) entA
/-- A head: of a number and of a length, twice. -/
def headL (n m : Nat) : List UInt8 := (le4 n ++ le4 m) ++ (le4 n ++ le4 m)
theorem headL_len (n m : Nat) : (headL n m).length = 16 := rfl
theorem head_any (n m : Nat) (h : n < 9223372036854775808) (h2 : m < 9223372036854775808) : Ctr Tryz.prog 54 [.int .i64 (n : Int), .int .i64 (m : Int)] [] (fun r H => H = [slc 5 1 r (headL n m).length (bV (headL n m))]) := by
  refine Ctr.enter Tryz.func54 (by kernel_rfl) rfl Tryz.ntmps54 rfl rfl ?_
  intro G F R hE
  (refine go ?_)
  (first | refine J_callE rfl rfl rfl rfl (number_any n h) entA ?_ (fun _ _ _ _ _ => trivial) | refine J_call0E rfl rfl rfl (number_any n h) entA ?_ (fun _ _ _ _ _ => trivial) | (refine go ?_; first | refine J_callE rfl rfl rfl rfl (number_any n h) entA ?_ (fun _ _ _ _ _ => trivial) | refine J_call0E rfl rfl rfl (number_any n h) entA ?_ (fun _ _ _ _ _ => trivial)))
  rintro _ _ ⟨b1, rfl, rfl⟩
  (refine go ?_)
  (first | refine J_callE rfl rfl rfl rfl (number_any m h2) entA ?_ (fun _ _ _ _ _ => trivial) | refine J_call0E rfl rfl rfl (number_any m h2) entA ?_ (fun _ _ _ _ _ => trivial) | (refine go ?_; first | refine J_callE rfl rfl rfl rfl (number_any m h2) entA ?_ (fun _ _ _ _ _ => trivial) | refine J_call0E rfl rfl rfl (number_any m h2) entA ?_ (fun _ _ _ _ _ => trivial)))
  rintro _ _ ⟨b2, rfl, rfl⟩
  (first | refine K_ent (Ent.pick [1] rfl) ?_ | refine J_ent (Ent.pick [1] rfl) ?_)
  (first | refine K_ent (slc_row 5 1 b1 4 4 (bV (le4 n)) [] _ rfl (Nat.le_refl _) (by simp [bV_length, le4_len])) ?_ | refine J_ent (slc_row 5 1 b1 4 4 (bV (le4 n)) [] _ rfl (Nat.le_refl _) (by simp [bV_length, le4_len])) ?_)
  refine J_append (U := tab) (mm := 4) (news := bV (le4 m)) 0 1 rfl rfl rfl rfl rfl rfl rfl rfl rfl rfl rfl rfl (Vw.pts rfl) rfl (bV_one _) (by omega) (by show (4 + 4) * 1 ≤ _; omega) (fun _ => rfl) (fun _ _ _ => trivial) ?_
  intro v1
  rw [show bV (le4 n) ++ bV (le4 m) = bV (le4 n ++ le4 m) from by simp [bV], show 4 + 4 = (le4 n ++ le4 m).length from rfl]
  (first | refine J_callE rfl rfl rfl rfl (Repeat2_any v1 (le4 n ++ le4 m) (by simp [le4_len]) (by simp [le4_len])) entA ?_ (fun _ _ _ _ _ => trivial) | refine J_call0E rfl rfl rfl (Repeat2_any v1 (le4 n ++ le4 m) (by simp [le4_len]) (by simp [le4_len])) entA ?_ (fun _ _ _ _ _ => trivial) | (refine go ?_; first | refine J_callE rfl rfl rfl rfl (Repeat2_any v1 (le4 n ++ le4 m) (by simp [le4_len]) (by simp [le4_len])) entA ?_ (fun _ _ _ _ _ => trivial) | refine J_call0E rfl rfl rfl (Repeat2_any v1 (le4 n ++ le4 m) (by simp [le4_len]) (by simp [le4_len])) entA ?_ (fun _ _ _ _ _ => trivial)))
  rintro r _ rfl
  (refine go ?_)
  (first | refine K_return hE Tryz.func54 rfl _ rfl rfl entA | refine K_fallEnd hE Tryz.func54 rfl _ rfl rfl entA)
end Go.Proofs.YtpdmbmnhgcnelaaGreat

/- journal, plain: numbers in groups of seven bits. Nothing here names a program. -/
set_option linter.unusedVariables false
set_option linter.unusedSimpArgs false
namespace Go.SL
/-- A number in groups of seven bits, the least first. -/
def uv (n : Nat) : List UInt8 := if n < 128 then [UInt8.ofNat n] else UInt8.ofNat (n % 128 + 128) :: uv (n / 128)
termination_by n
decreasing_by omega
theorem uv_small {n : Nat} (h : n < 128) : uv n = [UInt8.ofNat n] := by rw [uv, if_pos h]
theorem uv_big {n : Nat} (h : ¬ n < 128) : uv n = UInt8.ofNat (n % 128 + 128) :: uv (n / 128) := by rw [uv, if_neg h]
theorem uv_len : ∀ (k n : Nat), n < 128 ^ (k + 1) → (uv n).length ≤ k + 1
  | 0, n, h => by rw [uv_small (by simpa using h)]; simp
  | k + 1, n, h => by
    by_cases hn : n < 128
    · rw [uv_small hn]; simp
    · rw [uv_big hn, List.length_cons]
      have := uv_len k (n / 128) (Nat.div_lt_of_lt_mul (by rw [Nat.pow_succ, Nat.mul_comm] at h; exact h))
      omega
theorem uv_len10 {n : Nat} (h : n < 18446744073709551616) : (uv n).length ≤ 10 := uv_len 9 n (Nat.lt_of_lt_of_le h (by decide))
theorem uv_pos (n : Nat) : 0 < (uv n).length := by
  by_cases h : n < 128
  · rw [uv_small h]; simp
  · rw [uv_big h]; simp
theorem conv8 (m : Nat) : Value.int .u8 (IntKind.u8.wrap (m : Int)) = .int .u8 ((m % 256 : Nat) : Int) := by
  have h : IntKind.u8.wrap (m : Int) = (m : Int) % 256 := by simp [IntKind.wrap, IntKind.bits, IntKind.signed]
  rw [h]; congr 1
theorem more_u8 (m : Nat) : Value.int .u8 (IntKind.u8.wrap ((BitVec.ofInt IntKind.u8.bits ((m % 256 : Nat) : Int) ||| BitVec.ofInt IntKind.u8.bits 128).toNat : Int)) = u8 (UInt8.ofNat (m % 128 + 128)) := by
  rw [or128_u8 _ (by omega)]
  simp only [u8, UInt8.toNat_ofNat']
  congr 1
  omega
/-- What bytes begin with: a number, what is behind, whether it is as short as may be. -/
def cutL : Nat → Nat → List UInt8 → Option (Nat × List UInt8 × Bool)
  | _, _, [] => none
  | i, acc, c :: r => if i = 10 ∨ (i = 9 ∧ 1 < c.toNat) then none else if c.toNat < 128 then some (acc + c.toNat * 2 ^ (7 * i), r, decide (i = 0 ∨ 0 < c.toNat)) else cutL (i + 1) (acc + (c.toNat % 128) * 2 ^ (7 * i)) r
def cutA (bs : List UInt8) : Nat × List UInt8 × Bool := (cutL 0 0 bs).getD (0, [], false)
def toUintA (bs : List UInt8) : Option Nat := if (cutA bs).2.2 = true ∧ (cutA bs).2.1 = [] then some (cutA bs).1 else none
theorem step_lt {i acc c : Nat} (ha : acc < 2 ^ (7 * i)) (hc : c < 128) : acc + c * 2 ^ (7 * i) < 2 ^ (7 * (i + 1)) := by
  have h1 : acc + c * 2 ^ (7 * i) < (c + 1) * 2 ^ (7 * i) := by rw [Nat.add_mul, Nat.one_mul]; omega
  have h2 : (c + 1) * 2 ^ (7 * i) ≤ 128 * 2 ^ (7 * i) := Nat.mul_le_mul_right _ (by omega)
  have h3 : 2 ^ (7 * (i + 1)) = 128 * 2 ^ (7 * i) := by rw [show 7 * (i + 1) = 7 * i + 7 from by omega, Nat.pow_add, Nat.mul_comm]
  omega
theorem step_64 {i acc c : Nat} (hi : i ≤ 9) (ha : acc < 2 ^ (7 * i)) (hc : c < 128) (h9 : i = 9 → c ≤ 1) : acc + c * 2 ^ (7 * i) < 18446744073709551616 := by
  by_cases h : i = 9
  · subst h
    have := h9 rfl
    have h63 : (2 : Nat) ^ (7 * 9) = 9223372036854775808 := by decide
    rw [h63] at ha ⊢
    have : c * 9223372036854775808 ≤ 1 * 9223372036854775808 := Nat.mul_le_mul_right _ this
    omega
  · have h1 := step_lt ha hc
    have h2 : 2 ^ (7 * (i + 1)) ≤ 2 ^ 63 := Nat.pow_le_pow_right (by omega) (by omega)
    omega
theorem cutL_uv : ∀ (k n i acc : Nat) (rest : List UInt8), n < 128 ^ (k + 1) → i + k ≤ 8 → (i ≠ 0 → n ≠ 0) → cutL i acc (uv n ++ rest) = some (acc + n * 2 ^ (7 * i), rest, true)
  | k, n, i, acc, rest, hn, hik, h0 => by
    by_cases h : n < 128
    · rw [uv_small h]
      have e : (UInt8.ofNat n).toNat = n := by simp only [UInt8.toNat_ofNat']; omega
      simp only [List.cons_append, List.nil_append, cutL, e]
      rw [if_neg (by omega), if_pos h]
      have : (i = 0 ∨ 0 < n) := by
        by_cases hi : i = 0
        · exact .inl hi
        · exact .inr (by have := h0 hi; omega)
      rw [decide_eq_true this]
    · cases k with
      | zero => simp at hn; omega
      | succ k =>
        rw [uv_big h]
        have e : (UInt8.ofNat (n % 128 + 128)).toNat = n % 128 + 128 := by simp only [UInt8.toNat_ofNat']; omega
        simp only [List.cons_append, cutL, e]
        rw [if_neg (by omega), if_neg (by omega), show (n % 128 + 128) % 128 = n % 128 from by omega,
          cutL_uv k (n / 128) (i + 1) _ rest (Nat.div_lt_of_lt_mul (by rw [Nat.pow_succ, Nat.mul_comm] at hn; exact hn)) (by omega) (by intro _; omega)]
        have h3 : n / 128 * 2 ^ (7 * (i + 1)) = n / 128 * 128 * 2 ^ (7 * i) := by rw [show 7 * (i + 1) = 7 + 7 * i from by omega, Nat.pow_add, Nat.mul_assoc]
        have h4 : n % 128 * 2 ^ (7 * i) + n / 128 * 128 * 2 ^ (7 * i) = n * 2 ^ (7 * i) := by rw [← Nat.add_mul]; congr 1; omega
        rw [h3, Nat.add_assoc, h4]
theorem cutA_uv {n : Nat} (h : n < 9223372036854775808) (rest : List UInt8) : cutA (uv n ++ rest) = (n, rest, true) := by
  unfold cutA
  rw [cutL_uv 8 n 0 0 rest (Nat.lt_of_lt_of_le h (by decide)) (by omega) (by intro h; exact absurd rfl h)]
  simp
theorem toUint_uv {n : Nat} (h : n < 9223372036854775808) : toUintA (uv n) = some n := by
  have := cutA_uv h []
  rw [List.append_nil] at this
  unfold toUintA
  rw [this]; simp
/-- How long the number is that bytes begin with, and which it is, if it has two bytes at most. -/
def longA (bs : List UInt8) : Option (Nat × Nat) :=
  if 1 ≤ bs.length then match toUintA (bs.take 1) with
    | some n => some (1, n)
    | none => if 2 ≤ bs.length then (toUintA (bs.take 2)).map fun n => (2, n) else none
  else none
theorem toUint_small {bs : List UInt8} {n : Nat} (h : toUintA bs = some n) (hl : bs.length ≤ 2) : n < 16384 := by
  unfold toUintA cutA at h
  split at h
  · rename_i hh
    cases h
    match bs, hl with
    | [], _ => simp [cutL] at hh
    | [a], _ =>
      by_cases ha : a.toNat < 128
      · simp [cutL, ha]; omega
      · simp [cutL, ha] at hh
    | [a, b], _ =>
      by_cases ha : a.toNat < 128
      · simp [cutL, ha]; omega
      · by_cases hb : b.toNat < 128
        · simp [cutL, ha, hb]; omega
        · simp [cutL, ha, hb] at hh
  · cases h
end Go.SL

/- journal, part b: tlv's numbers; encoded; long. -/
set_option linter.unusedVariables false
set_option linter.unusedSimpArgs false
namespace Go.Proofs.YtpdmbmnhgcnelaaGreat
open Go Go.SL
attribute [local irreducible] J K Ctr Ends pts slc mapR mapI sbRow stock arrS loopP

theorem Uint_any (n : Nat) (h : n < 18446744073709551616) : Ctr Tryz.prog 90 [.int .u64 (n : Int)] [] (fun r H => H = [slc 5 1 r (uv n).length (bV (uv n))]) := by
  refine Ctr.enter Tryz.func90 (by kernel_rfl) rfl Tryz.ntmps90 rfl rfl ?_
  intro G F R hE
  (refine go ?_)
  (first | refine K_ent (slc_lift 5 1 none _) ?_ | refine J_ent (slc_lift 5 1 none _) ?_)
  have hu10 := uv_len10 h
  refine K_loop (fun s : Nat × List UInt8 × Value => s.2.1 ++ uv s.1 = uv n ∧ s.1 ≤ n) (fun s => s.1)
    (fun s => [(0, .int .u64 (s.1 : Int)), (3, s.2.2)])
    (fun s => slc 5 1 s.2.2 s.2.1.length (bV s.2.1) :: F) (n, [], .slice none 0 0) ⟨rfl, Nat.le_refl _⟩ rfl (by repeat (first | exact keep_nil | refine keep_cons rfl ?_)) entA ?_
  rintro ⟨m, done, v⟩ ⟨hm, hmn⟩ ih
  simp only at hm hmn
  have hlen : done.length + (uv m).length ≤ 10 := by rw [← List.length_append, hm]; exact hu10
  have hpos := uv_pos m
  (first | refine J_shape 0 rfl ?_ | refine K_shape 0 rfl ?_)
  rintro va vc hve
  simp only at hve
  subst hve
  (refine go ?_)
  refine K_condP rfl rfl ?_ ?_
  · intro hge
    simp only at hge
    have hbig : ¬ m < 128 := by omega
    (refine go ?_)
    refine J_convW (U := tab) rfl rfl rfl rfl rfl rfl ?_
    refine J_slot 10 (.int .u8 ((m % 256 : Nat) : Int)) rfl (conv8 m) ?_
    (refine go ?_)
    refine J_slot 11 (u8 (UInt8.ofNat (m % 128 + 128))) rfl (more_u8 m) ?_
    refine J_buildSlice1 (U := tab) (cs := bV [UInt8.ofNat (m % 128 + 128)]) rfl rfl rfl rfl rfl rfl rfl rfl rfl (fun _ _ _ => trivial) ?_
    intro b1
    refine J_append (U := tab) (mm := 1) (news := bV [UInt8.ofNat (m % 128 + 128)]) 1 0 rfl rfl rfl rfl rfl rfl rfl rfl rfl rfl rfl rfl (Vw.pts rfl) rfl (bV_one _) (by simp only; omega) (by show (_ + 1) * 1 ≤ _; simp only; omega) (fun _ => rfl) (fun _ _ _ => trivial) ?_
    intro v1
    rw [show bV done ++ bV [UInt8.ofNat (m % 128 + 128)] = bV (done ++ [UInt8.ofNat (m % 128 + 128)]) from by simp [bV], show done.length + 1 = (done ++ [UInt8.ofNat (m % 128 + 128)]).length from by simp]
    (first | refine J_shape 1 rfl ?_ | refine K_shape 1 rfl ?_)
    rintro wa wc rfl
    (refine go ?_)
    refine J_shr rfl rfl rfl (by omega) ?_
    refine J_slot 7 (.int .u64 ((m / 128 : Nat) : Int)) rfl (congrArg (Value.int .u64) (by show (m : Int) / 128 = _; omega)) ?_
    (refine go ?_)
    refine K_again ih (m / 128, done ++ [UInt8.ofNat (m % 128 + 128)], _) rfl ⟨by simp only [List.append_assoc, List.singleton_append]; rw [← uv_big hbig]; exact hm, by simp only; omega⟩ (by simp only; omega) (by repeat (first | exact keep_nil | refine keep_cons rfl ?_)) entA
  · intro hlt
    simp only at hlt
    have hsm : m < 128 := by omega
    (refine go ?_)
    refine J_slot 16 (u8 (UInt8.ofNat m)) rfl (by simp only [u8, UInt8.toNat_ofNat']; congr 1; omega) ?_
    refine J_buildSlice1 (U := tab) (cs := bV [UInt8.ofNat m]) rfl rfl rfl rfl rfl rfl rfl rfl rfl (fun _ _ _ => trivial) ?_
    intro b1
    refine J_append (U := tab) (mm := 1) (news := bV [UInt8.ofNat m]) 1 0 rfl rfl rfl rfl rfl rfl rfl rfl rfl rfl rfl rfl (Vw.pts rfl) rfl (bV_one _) (by simp only; omega) (by show (_ + 1) * 1 ≤ _; simp only; omega) (fun _ => rfl) (fun _ _ _ => trivial) ?_
    intro v1
    rw [show bV done ++ bV [UInt8.ofNat m] = bV (uv n) from by rw [← hm, uv_small hsm]; simp [bV], show done.length + 1 = (uv n).length from by rw [← hm, uv_small hsm]; simp]
    (refine go ?_)
    (first | refine K_return hE Tryz.func90 rfl _ rfl rfl entA | refine K_fallEnd hE Tryz.func90 rfl _ rfl rfl entA)
theorem shlU_slot {x q y : Nat} (hq : q ≤ 64) (h : x * 2 ^ q = y) (hy : y < 18446744073709551616) : Value.int .u64 (IntKind.u64.wrap ((x : Int) * 2 ^ (min ((q : Int).toNat) IntKind.u64.bits))) = .int .u64 (y : Int) := by
  have e : (x : Int) * 2 ^ (min ((q : Int).toNat) IntKind.u64.bits) = (y : Int) := by
    show (x : Int) * 2 ^ (min q 64) = _
    rw [Nat.min_eq_left hq, ← h]; push_cast; rfl
  rw [e, wrap_in (by simp only [inK]; omega)]
theorem nilVw (A : HP) : Vw A (.slice none 0 0) ([] : List UInt8).length (bV []) := ⟨none, 0, rfl, .inl rfl⟩
set_option maxRecDepth 20000 in
theorem cut_any (A : HP) (v : Value) (bs : List UInt8) (hv : Vw A v bs.length (bV bs)) (hcap : ∃ a c, v = .slice a bs.length c ∧ bs.length ≤ c) (hl : bs.length ≤ 9223372036854775807) :
    Ctr Tryz.prog 113 [v] [A] (fun r H => ∃ rv, r = .tuple #[.int .u64 ((cutA bs).1 : Int), rv, .bool (cutA bs).2.2] ∧ (Vw A rv (cutA bs).2.1.length (bV (cutA bs).2.1) ∧ ∃ a c, rv = .slice a (cutA bs).2.1.length c ∧ (cutA bs).2.1.length ≤ c) ∧ H = [A]) := by
  obtain ⟨a0, c0, rfl, hc0⟩ := hcap
  refine Ctr.enter Tryz.func113 (by kernel_rfl) rfl Tryz.ntmps113 rfl rfl ?_
  intro G F R hE
  (refine go ?_)
  refine K_loop (fun s : Nat × Nat => s.1 ≤ bs.length ∧ s.1 ≤ 10 ∧ (s.1 ≤ 9 → s.2 < 2 ^ (7 * s.1)) ∧ cutL 0 0 bs = cutL s.1 s.2 (bs.drop s.1)) (fun s => bs.length - s.1)
    (fun s => [(0, .slice a0 bs.length c0), (5, .int .u64 (s.2 : Int)), (8, .slice a0 bs.length c0), (9, .int .i64 bs.length), (10, .int .i64 s.1)])
    (fun _ => A :: F) (0, 0) ⟨Nat.zero_le _, by omega, by simp, by simp⟩ rfl (by repeat (first | exact keep_nil | refine keep_cons rfl ?_)) entA ?_
  rintro ⟨i, acc⟩ ⟨hi, hi10, hacc, hcut⟩ ih
  simp only at hi hi10 hacc hcut
  (refine go ?_)
  refine K_condP rfl rfl ?_ ?_
  case' refine_2 =>
    intro hge
    simp only at hge
    have hnil : cutA bs = (0, [], false) := by
      unfold cutA; rw [hcut, List.drop_eq_nil_of_le (by omega)]; simp [cutL]
    (refine go ?_)
    rw [hnil] at hE
    (first | refine K_return hE Tryz.func113 rfl _ rfl ⟨_, rfl, ⟨nilVw A, none, 0, rfl, Nat.le_refl _⟩, rfl⟩ entA | refine K_fallEnd hE Tryz.func113 rfl _ rfl ⟨_, rfl, ⟨nilVw A, none, 0, rfl, Nat.le_refl _⟩, rfl⟩ entA)
  intro hlt
  simp only at hlt
  have hi' : i < bs.length := by omega
  obtain ⟨ba, oa, ca, hsl⟩ := bV_at hv (by omega)
  simp only [Value.slice.injEq, true_and] at hsl
  obtain ⟨rfl, rfl⟩ := hsl
  obtain ⟨c, hc⟩ : ∃ c, bs[i]? = some c := ⟨bs[i], by simp⟩
  have hdr : bs.drop i = c :: bs.drop (i + 1) := by
    rw [List.drop_eq_getElem_cons hi']; congr 1
    rw [List.getElem?_eq_getElem hi'] at hc; exact Option.some.inj hc
  have hc256 : c.toNat < 256 := c.toNat_lt
  rw [hdr] at hcut
  simp only [cutL] at hcut
  (refine go ?_)
  refine J_at1 (U := tab) i rfl rfl rfl rfl rfl rfl rfl rfl hi' ?_
  refine J_loadAt (U := tab) 0 i rfl rfl rfl hv rfl (bV_get hc) rfl rfl ?_
  repeat' (first | (with_reducible intro _hh) | refine go1 ?_ | refine J_fork ?_ ?_ | refine J_gsP rfl rfl rfl rfl ?_ ?_ | refine K_condP rfl rfl ?_ ?_)
  case' refine_1 =>
    have hbad : (i = 10 ∨ (i = 9 ∧ 1 < c.toNat)) := by simp only at *; omega
  case' refine_2.refine_1.refine_1 =>
    have hbad : (i = 10 ∨ (i = 9 ∧ 1 < c.toNat)) := by simp only at *; omega
  case' refine_2.refine_1.refine_2 => 
    have hgood : ¬ (i = 10 ∨ (i = 9 ∧ 1 < c.toNat)) := by simp only at *; omega
  case' refine_2.refine_2 => 
    have hgood : ¬ (i = 10 ∨ (i = 9 ∧ 1 < c.toNat)) := by simp only at *; omega
  any_goals (
    have hnil : cutA bs = (0, [], false) := by unfold cutA; rw [hcut, if_pos hbad]; rfl
    rw [hnil] at hE
    (first | refine K_return hE Tryz.func113 rfl _ rfl ⟨_, rfl, ⟨nilVw A, none, 0, rfl, Nat.le_refl _⟩, rfl⟩ entA | refine K_fallEnd hE Tryz.func113 rfl _ rfl ⟨_, rfl, ⟨nilVw A, none, 0, rfl, Nat.le_refl _⟩, rfl⟩ entA))
  all_goals (
    have hi9 : i ≤ 9 := by omega
    have hac := hacc hi9
    have hm128 : c.toNat % 128 < 128 := Nat.mod_lt _ (by omega)
    have h64 := step_64 (c := c.toNat % 128) hi9 hac hm128 (by intro h; omega)
    refine J_slot 27 (.int .u8 ((c.toNat % 128 : Nat) : Int)) rfl (congrArg (Value.int .u8) (andNot128_u8 _ hc256)) ?_
    (refine go ?_)
    refine J_mul rfl rfl rfl (by simp only [inK]; omega) ?_
    refine J_slot 30 (.int .i64 ((7 * i : Nat) : Int)) rfl (congrArg (Value.int .i64) (by simp only; omega)) ?_
    refine J_shlW rfl rfl rfl (by omega) ?_
    refine J_slot 31 (.int .u64 ((c.toNat % 128 * 2 ^ (7 * i) : Nat) : Int)) rfl (shlU_slot (by omega) rfl (by omega)) ?_
    (refine go ?_)
    refine K_slot 5 (.int .u64 ((acc + c.toNat % 128 * 2 ^ (7 * i) : Nat) : Int)) rfl (congrArg (Value.int .u64) (or_u64 hac h64)) ?_
    (refine go ?_)
    refine K_condP rfl rfl ?_ ?_
    · intro hlow
      have hcm : c.toNat % 128 = c.toNat := by omega
      have hres : cutA bs = (acc + c.toNat % 128 * 2 ^ (7 * i), bs.drop (i + 1), decide (i = 0 ∨ 0 < c.toNat)) := by
        unfold cutA; rw [hcut, if_neg hgood, if_pos (by omega), hcm]; rfl
      refine K_drawA (fun w => Sat G w ([])) (sts 0 14 .nil) rfl (by kernel_rfl) (by kernel_rfl) (by kernel_rfl) (fun w hw => hw.ent entA) ?_
      (refine go ?_)
      refine J_sliceAny (U := tab) (p := (i : Int) + 1) (q := (bs.length : Int)) rfl rfl rfl rfl rfl rfl rfl (by omega) (by omega) (.inl rfl) ?_
      refine J_slot 39 (.slice (sliceAt (some ⟨ba, oa, none⟩) c0 (i + 1) 1) (bs.drop (i + 1)).length (c0 - (i + 1))) rfl (by rw [show ((i : Int) + 1).toNat = i + 1 from by omega, show ((bs.length : Int)).toNat = bs.length from by omega, List.length_drop]; rfl) ?_
      have hvr : Vw A (.slice (sliceAt (some ⟨ba, oa, none⟩) c0 (i + 1) 1) (bs.drop (i + 1)).length (c0 - (i + 1))) (bs.drop (i + 1)).length (bV (bs.drop (i + 1))) := by
        have := hv.cutk (s := 1) (by rw [bV_length]; omega) hc0 (i + 1) (by omega)
        rw [List.length_drop, show bV (bs.drop (i + 1)) = (bV bs).drop ((i + 1) * 1) from by simp [bV, List.map_drop]]
        exact this
      rw [hres] at hE
      repeat' (first | (with_reducible intro _hh) | refine go1 ?_ | refine J_fork ?_ ?_ | refine J_gsP rfl rfl rfl rfl ?_ ?_ | refine K_condP rfl rfl ?_ ?_)
      all_goals first
        | (have hi0 : i = 0 := (by simp only at _hh; omega)
           rw [decide_eq_true (Or.inl hi0 : i = 0 ∨ 0 < c.toNat)] at hE
           (first | refine K_return hE Tryz.func113 rfl _ rfl ⟨_, rfl, ⟨hvr, _, _, rfl, by simp only [List.length_drop]; omega⟩, rfl⟩ entA | refine K_fallEnd hE Tryz.func113 rfl _ rfl ⟨_, rfl, ⟨hvr, _, _, rfl, by simp only [List.length_drop]; omega⟩, rfl⟩ entA))
        | (have hi0 : ¬ i = 0 := (by simp only at _hh; omega)
           rw [show decide (i = 0 ∨ 0 < c.toNat) = decide ((0 : Int) < (c.toNat : Int)) from decide_eq_decide.2 ⟨fun h => by omega, fun h => .inr (by omega)⟩] at hE
           (first | refine K_return hE Tryz.func113 rfl _ rfl ⟨_, rfl, ⟨hvr, _, _, rfl, by simp only [List.length_drop]; omega⟩, rfl⟩ entA | refine K_fallEnd hE Tryz.func113 rfl _ rfl ⟨_, rfl, ⟨hvr, _, _, rfl, by simp only [List.length_drop]; omega⟩, rfl⟩ entA))
    · intro hhigh
      (refine go ?_)
      refine K_again ih (i + 1, acc + c.toNat % 128 * 2 ^ (7 * i)) rfl ⟨by simp only; omega, by simp only; omega, fun _ => step_lt hac hm128, by rw [hcut, if_neg hgood, if_neg (by omega)]⟩ (by simp only; omega) (by repeat (first | exact keep_nil | refine keep_cons rfl ?_)) entA)
end Go.Proofs.YtpdmbmnhgcnelaaGreat

/- tlv: ToUint; bytes that stand somewhere. -/
set_option linter.unusedVariables false
set_option linter.unusedSimpArgs false
namespace Go.Proofs.YtpdmbmnhgcnelaaGreat
open Go Go.SL
attribute [local irreducible] J K Ctr Ends pts slc mapR mapI sbRow stock arrS loopP

/-- Bytes that stand somewhere in A. -/
def BAt (A : HP) (v : Value) (bs : List UInt8) : Prop := Vw A v bs.length (bV bs) ∧ ∃ a c, v = .slice a bs.length c ∧ bs.length ≤ c
theorem BAt.cut {A : HP} {a : Option Addr} {n c : Nat} {bs : List UInt8} (h : BAt A (.slice a n c) bs) (p : Nat) (hp : p ≤ bs.length) : BAt A (.slice (sliceAt a c p 1) (bs.length - p) (c - p)) (bs.drop p) := by
  obtain ⟨hv, a', c', he, hc⟩ := h
  simp only [Value.slice.injEq] at he
  obtain ⟨rfl, rfl, rfl⟩ := he
  refine ⟨?_, _, _, by rw [List.length_drop], by rw [List.length_drop]; omega⟩
  have := hv.cutk (s := 1) (by rw [bV_length]; omega) hc p hp
  rw [List.length_drop, show bV (bs.drop p) = (bV bs).drop (p * 1) from by simp [bV, List.map_drop]]
  exact this
theorem BAt.front {A : HP} {a : Option Addr} {n c : Nat} {bs : List UInt8} (h : BAt A (.slice a n c) bs) (q : Nat) (hq : q ≤ bs.length) : BAt A (.slice (sliceAt a c 0 1) q c) (bs.take q) := by
  obtain ⟨hv, a', c', he, hc⟩ := h
  simp only [Value.slice.injEq] at he
  obtain ⟨rfl, rfl, rfl⟩ := he
  have hl : (bs.take q).length = q := by rw [List.length_take]; omega
  refine ⟨?_, _, _, by rw [hl], by rw [hl]; omega⟩
  have := hv.cut0 (s := 1) q
  rw [hl, show bV (bs.take q) = (bV bs).take (q * 1) from by simp [bV, List.map_take]]
  exact this
theorem BAt.mono {A B : HP} {v : Value} {bs : List UInt8} (h : BAt A v bs) (hAB : ∀ h, B h → ∃ h', sub h' h ∧ A h') : BAt B v bs := ⟨h.1.mono hAB, h.2⟩
theorem BAt.piece {A : HP} {a : Option Addr} {n c : Nat} {bs : List UInt8} (h : BAt A (.slice a n c) bs) (p q : Nat) (hp : p ≤ q) (hq : q ≤ bs.length) : BAt A (.slice (sliceAt a c p 1) (q - p) (c - p)) ((bs.drop p).take (q - p)) := by
  have h1 := h.cut p (by omega)
  obtain ⟨hv, a', c', he, hc⟩ := h1
  have hlen : ((bs.drop p).take (q - p)).length = q - p := by rw [List.length_take, List.length_drop]; omega
  refine ⟨?_, _, _, by rw [hlen], by rw [hlen]; obtain ⟨_, _, _, he2, hc2⟩ := h; simp only [Value.slice.injEq] at he2; omega⟩
  obtain ⟨a2, cap2, he2, h0 | ⟨b, o, ha, hc2⟩⟩ := hv
  · simp only [Value.slice.injEq] at he2
    have : (bs.drop p) = [] := by simpa [bV] using h0
    refine ⟨_, _, by rw [hlen], .inl ?_⟩
    rw [this]; simp [bV]
  · simp only [Value.slice.injEq] at he2
    refine ⟨_, _, by rw [hlen], .inr ⟨b, o, by rw [he2.1, ha], fun h' hA j x hj => ?_⟩⟩
    refine hc2 h' hA j x ?_
    rw [show bV ((bs.drop p).take (q - p)) = (bV (bs.drop p)).take (q - p) from by simp [bV, List.map_take]] at hj
    rw [List.getElem?_take] at hj
    split at hj
    · exact hj
    · cases hj
theorem ToUint_any (A : HP) (v : Value) (bs : List UInt8) (hv : BAt A v bs) (hl : bs.length ≤ 9223372036854775807) :
    Ctr Tryz.prog 94 [v] [A] (fun r H => r = (match toUintA bs with
      | some n => .tuple #[.int .u64 (n : Int), .int .i64 0]
      | none => .tuple #[.int .u64 0, .int .i64 2]) ∧ H = [A]) := by
  refine Ctr.enter Tryz.func94 (by kernel_rfl) rfl Tryz.ntmps94 rfl rfl ?_
  intro G F R hE
  (refine go ?_)
  (first | refine J_callE rfl rfl rfl rfl (cut_any A v bs hv.1 hv.2 hl) entA ?_ (fun _ _ _ _ _ => trivial) | refine J_call0E rfl rfl rfl (cut_any A v bs hv.1 hv.2 hl) entA ?_ (fun _ _ _ _ _ => trivial) | (refine go ?_; first | refine J_callE rfl rfl rfl rfl (cut_any A v bs hv.1 hv.2 hl) entA ?_ (fun _ _ _ _ _ => trivial) | refine J_call0E rfl rfl rfl (cut_any A v bs hv.1 hv.2 hl) entA ?_ (fun _ _ _ _ _ => trivial)))
  rintro _ _ ⟨rv, rfl, ⟨hvr, a, c, rfl, _⟩, rfl⟩
  cases hok : (cutA bs).2.2 with
  | false =>
    have hn : toUintA bs = none := by unfold toUintA; rw [if_neg (by rw [hok]; simp)]
    rw [hn] at hE
    (refine go ?_)
    (first | refine K_return hE Tryz.func94 rfl _ rfl ⟨rfl, rfl⟩ entA | refine K_fallEnd hE Tryz.func94 rfl _ rfl ⟨rfl, rfl⟩ entA)
  | true =>
    repeat' (first | (with_reducible intro _hh) | refine go1 ?_ | refine J_fork ?_ ?_ | refine J_gsP rfl rfl rfl rfl ?_ ?_ | refine K_condP rfl rfl ?_ ?_)
    · have hn : toUintA bs = none := by unfold toUintA; rw [if_neg (fun h => by rw [h.2] at _hh; simp at _hh)]
      rw [hn] at hE
      (first | refine K_return hE Tryz.func94 rfl _ rfl ⟨rfl, rfl⟩ entA | refine K_fallEnd hE Tryz.func94 rfl _ rfl ⟨rfl, rfl⟩ entA)
    · have hn : toUintA bs = some (cutA bs).1 := by unfold toUintA; rw [if_pos ⟨hok, List.eq_nil_of_length_eq_zero (by omega)⟩]
      rw [hn] at hE
      (first | refine K_return hE Tryz.func94 rfl _ rfl ⟨rfl, rfl⟩ entA | refine K_fallEnd hE Tryz.func94 rfl _ rfl ⟨rfl, rfl⟩ entA)
/-- A record as bytes. -/
def encL (bs : List UInt8) : List UInt8 := uv bs.length ++ bs
end Go.Proofs.YtpdmbmnhgcnelaaGreat
namespace Go.Proofs.YtpdmbmnhgcnelaaGreat
open Go Go.SL
theorem slc_BAt {e : TypeId} {v : Value} {bs : List UInt8} (h0 : ∃ h, slc e 1 v bs.length (bV bs) h) : BAt (slc e 1 v bs.length (bV bs)) v bs := by
  refine ⟨Vw.of_slc e 1 v bs.length (bV bs) h0, ?_⟩
  obtain ⟨h, hl, ⟨a, rfl, hn, _⟩ | ⟨b, o, cap, pre, junk, rfl, hp, hn, hc, _⟩⟩ := h0
  · exact ⟨a, 0, by rw [hn], by omega⟩
  · exact ⟨_, cap, rfl, hn⟩
section
variable {P : Program} {f : FuncId} {n : Nat} {R : Ending → World → Prop} {G : Glob} {k : List Item} {L : Lst} {H : List HP} {S : World → Prop} {all : Array Oper} {rest : Pl}
theorem J_slcB {e : TypeId} {v : Value} {bs : List UInt8} (i : Nat) (hi : getL H i = some (slc e 1 v bs.length (bV bs))) (h : BAt (slc e 1 v bs.length (bV bs)) v bs → J P f n R G S all rest k L H) : J P f n R G S all rest k L H :=
  J_sat fun w hw => by
    obtain ⟨h1, _, hA⟩ := hw.getA hi
    exact h (slc_BAt ⟨h1, hA⟩)
theorem K_slcB {e : TypeId} {v : Value} {bs : List UInt8} (i : Nat) (hi : getL H i = some (slc e 1 v bs.length (bV bs))) (h : BAt (slc e 1 v bs.length (bV bs)) v bs → K P f n R G k L H) : K P f n R G k L H :=
  K_sat fun ⟨w, hw⟩ => by
    obtain ⟨h1, _, hA⟩ := hw.getA hi
    exact h (slc_BAt ⟨h1, hA⟩)
end
theorem Sep_get {H : List HP} {i : Nat} {A : HP} (hi : getL H i = some A) : ∀ h, Sep H h → ∃ h', sub h' h ∧ A h' := fun h hs => by
  rw [getL_eq] at hi
  obtain ⟨h', hs', hA⟩ := Ent.perm (perm_of_get hi) h hs
  obtain ⟨h1, h2, ha, _, hd, hj⟩ := hA
  refine ⟨h1, fun b o hb => ?_, ha⟩
  refine hs' b o ?_
  rw [hj b, hb]; rfl

end Go.Proofs.YtpdmbmnhgcnelaaGreat

/- journal, part c: ToUint; encoded; long; found. -/
set_option linter.unusedVariables false
set_option linter.unusedSimpArgs false
namespace Go.Proofs.YtpdmbmnhgcnelaaGreat
open Go Go.SL
attribute [local irreducible] J K Ctr Ends pts slc mapR mapI sbRow stock arrS loopP

theorem encoded_any (A : HP) (v : Value) (bs : List UInt8) (hv : BAt A v bs) (hl : bs.length ≤ 1000000000000) : Ctr Tryz.prog 46 [v] [A] (fun r H => H = [slc 5 1 r (encL bs).length (bV (encL bs)), A]) := by
  obtain ⟨a, c, rfl, hc⟩ := hv.2
  refine Ctr.enter Tryz.func46 (by kernel_rfl) rfl Tryz.ntmps46 rfl rfl ?_
  intro G F R hE
  (refine go ?_)
  (first | refine J_callE rfl rfl rfl rfl (Uint_any bs.length (by omega)) entA ?_ (fun _ _ _ _ _ => trivial) | refine J_call0E rfl rfl rfl (Uint_any bs.length (by omega)) entA ?_ (fun _ _ _ _ _ => trivial) | (refine go ?_; first | refine J_callE rfl rfl rfl rfl (Uint_any bs.length (by omega)) entA ?_ (fun _ _ _ _ _ => trivial) | refine J_call0E rfl rfl rfl (Uint_any bs.length (by omega)) entA ?_ (fun _ _ _ _ _ => trivial)))
  rintro r _ rfl
  (first | refine J_shape 0 rfl ?_ | refine K_shape 0 rfl ?_)
  rintro ra rc rfl
  (refine go ?_)
  have hu := uv_len10 (n := bs.length) (by omega)
  refine J_append (U := tab) (mm := bs.length) (news := bV bs) 0 1 rfl rfl rfl rfl rfl rfl rfl rfl rfl rfl rfl rfl hv.1 (by show _ = _ * 1; rw [bV_length]; omega) (bV_one _) (by omega) (by show (_ + _) * 1 ≤ _; omega) (fun _ => rfl) (fun _ _ _ => trivial) ?_
  intro v1
  rw [show bV (uv bs.length) ++ bV bs = bV (encL bs) from by simp [bV, encL], show (uv bs.length).length + bs.length = (encL bs).length from by simp [encL]]
  (refine go ?_)
  (first | refine K_return hE Tryz.func46 rfl _ rfl rfl entA | refine K_fallEnd hE Tryz.func46 rfl _ rfl rfl entA)
set_option maxRecDepth 20000 in
theorem long_any (A : HP) (v : Value) (bs : List UInt8) (hv : BAt A v bs) (hl : bs.length ≤ 9223372036854775807) :
    Ctr Tryz.prog 51 [v] [A] (fun r H => r = (match longA bs with
      | some (k, n) => .tuple #[.int .i64 (k : Int), .int .i64 (n : Int), .bool (decide (n ≤ 4096))]
      | none => .tuple #[.int .i64 0, .int .i64 0, .bool false]) ∧ H = [A]) := by
  obtain ⟨a, c, rfl, hc⟩ := hv.2
  refine Ctr.enter Tryz.func51 (by kernel_rfl) rfl Tryz.ntmps51 rfl rfl ?_
  intro G F R hE
  (refine go ?_)
  refine K_loop (fun k : Nat => 1 ≤ k ∧ k ≤ 3 ∧ (2 ≤ k → 1 ≤ bs.length ∧ toUintA (bs.take 1) = none) ∧ (3 ≤ k → 2 ≤ bs.length ∧ toUintA (bs.take 2) = none)) (fun k => 3 - k)
    (fun k => [(0, .slice a bs.length c), (5, .int .i64 (k : Int))])
    (fun _ => A :: F) 1 ⟨by omega, by omega, by omega, by omega⟩ rfl (by repeat (first | exact keep_nil | refine keep_cons rfl ?_)) entA ?_
  rintro k ⟨hk1, hk2, h1, h2⟩ ih
  (refine go ?_)
  refine K_condP rfl rfl ?_ ?_
  case' refine_2 =>
    intro hge
    have hn : longA bs = none := by
      unfold longA
      split
      · obtain ⟨_, h3⟩ := h1 (by omega)
        rw [h3]
        simp only
        split
        · obtain ⟨_, h4⟩ := h2 (by omega)
          rw [h4]; rfl
        · rfl
      · rfl
    rw [hn] at hE
    (refine go ?_)
    (first | refine K_return hE Tryz.func51 rfl _ rfl ⟨rfl, rfl⟩ entA | refine K_fallEnd hE Tryz.func51 rfl _ rfl ⟨rfl, rfl⟩ entA)
  intro hlt
  have hkl : k ≤ bs.length := by omega
  (refine go ?_)
  refine J_sliceAny (U := tab) (p := 0) (q := (k : Int)) rfl rfl rfl rfl rfl rfl rfl (by omega) (by omega) (.inr (by omega)) ?_
  have hf := hv.front k hkl
  refine J_slot 18 (.slice (sliceAt a c 0 1) k c) rfl (by rw [show (0 : Int).toNat = 0 from rfl, show ((k : Int)).toNat = k from by omega]; rfl) ?_
  (first | refine J_callE rfl rfl rfl rfl (ToUint_any A _ (bs.take k) hf (by rw [List.length_take]; omega)) entA ?_ (fun _ _ _ _ _ => trivial) | refine J_call0E rfl rfl rfl (ToUint_any A _ (bs.take k) hf (by rw [List.length_take]; omega)) entA ?_ (fun _ _ _ _ _ => trivial) | (refine go ?_; first | refine J_callE rfl rfl rfl rfl (ToUint_any A _ (bs.take k) hf (by rw [List.length_take]; omega)) entA ?_ (fun _ _ _ _ _ => trivial) | refine J_call0E rfl rfl rfl (ToUint_any A _ (bs.take k) hf (by rw [List.length_take]; omega)) entA ?_ (fun _ _ _ _ _ => trivial)))
  cases hu : toUintA (bs.take k) with
  | none =>
    rintro _ _ ⟨rfl, rfl⟩
    (refine go ?_)
    refine K_again ih (k + 1) rfl ⟨by omega, by omega, fun h => by
      by_cases hk : k = 1
      · subst hk; exact ⟨by omega, hu⟩
      · exact h1 (by omega), fun h => by
      have hk : k = 2 := by omega
      subst hk; exact ⟨by omega, hu⟩⟩ (by omega) (by repeat (first | exact keep_nil | refine keep_cons rfl ?_)) entA
  | some n =>
    rintro _ _ ⟨rfl, rfl⟩
    have hn16 := toUint_small hu (by rw [List.length_take]; omega)
    have hres : longA bs = some (k, n) := by
      unfold longA
      rw [if_pos (by omega)]
      by_cases hk : k = 1
      · subst hk; rw [hu]
      · have hk : k = 2 := by omega
        subst hk
        obtain ⟨_, h3⟩ := h1 (by omega)
        rw [h3]
        simp only
        rw [if_pos (by omega), hu]; rfl
    rw [hres] at hE
    simp only at hE
    rw [show decide (n ≤ 4096) = decide ((n : Int) ≤ 4096) from decide_eq_decide.2 ⟨fun _ => by omega, fun _ => by omega⟩] at hE
    (refine go ?_)
    (first | refine K_return hE Tryz.func51 rfl _ rfl ⟨rfl, rfl⟩ entA | refine K_fallEnd hE Tryz.func51 rfl _ rfl ⟨rfl, rfl⟩ entA)
/-- Of a file's bytes those that count. -/
def headOk (b : List UInt8) (k last : Nat) : Bool :=
  let h := (b.drop (16 * k)).take 16
  decide (last < leN h ∧ leN h ≤ 1073741824 ∧ leN h % 2 = k ∧ leN (h.drop 4) + 32 ≤ b.length ∧ h = headL (leN h) (leN (h.drop 4)))
def lastOf2 (b : List UInt8) (k : Nat) (s : Nat × Nat) : Nat × Nat := if headOk b k s.1 then (leN ((b.drop (16 * k)).take 16), leN (((b.drop (16 * k)).take 16).drop 4)) else s
def foundL (b : List UInt8) : List UInt8 := if b.length < 32 then [] else (b.drop 32).take (lastOf2 b 1 (lastOf2 b 0 (0, 0))).2
theorem hd16 {b : List UInt8} {k : Nat} (hk : 16 * k + 16 ≤ b.length) : ((b.drop (16 * k)).take 16).length = 16 := by rw [List.length_take, List.length_drop]; omega
set_option maxRecDepth 20000 in
theorem found_any (A : HP) (v : Value) (b : List UInt8) (hv : BAt A v b) (hl : b.length ≤ 9223372036854775807) :
    Ctr Tryz.prog 23 [v] [A] (fun r H => BAt A r (foundL b) ∧ H = [A]) := by
  obtain ⟨a, c, rfl, hc⟩ := hv.2
  refine Ctr.enter Tryz.func23 (by kernel_rfl) rfl Tryz.ntmps23 rfl rfl ?_
  intro G F R hE
  repeat' (first | (with_reducible intro _hh) | refine go1 ?_ | refine J_fork ?_ ?_ | refine J_gsP rfl rfl rfl rfl ?_ ?_ | refine K_condP rfl rfl ?_ ?_)
  case' refine_1 =>
    have hn : foundL b = [] := by unfold foundL; rw [if_pos (by omega)]
    rw [hn] at hE
    (first | refine K_return hE Tryz.func23 rfl _ rfl ⟨⟨nilVw A, none, 0, rfl, Nat.le_refl _⟩, rfl⟩ entA | refine K_fallEnd hE Tryz.func23 rfl _ rfl ⟨⟨nilVw A, none, 0, rfl, Nat.le_refl _⟩, rfl⟩ entA)
  have hb32 : 32 ≤ b.length := by omega
  refine K_loop (fun s : Nat × Nat × Nat => s.1 ≤ 2 ∧ (s.1 = 0 → s.2 = (0, 0)) ∧ (s.1 = 1 → s.2 = lastOf2 b 0 (0, 0)) ∧ (s.1 = 2 → s.2 = lastOf2 b 1 (lastOf2 b 0 (0, 0))) ∧ s.2.2 + 32 ≤ b.length ∧ s.2.1 ≤ 1073741824) (fun s => 2 - s.1)
    (fun s => [(0, .slice a b.length c), (3, .int .i64 (s.2.1 : Int)), (4, .int .i64 (s.2.2 : Int)), (12, .int .i64 (s.1 : Int))])
    (fun _ => A :: F) (0, 0, 0) ⟨by omega, fun _ => rfl, by omega, by omega, by simp only; omega, by simp only; omega⟩ rfl (by repeat (first | exact keep_nil | refine keep_cons rfl ?_)) entA ?_
  rintro ⟨k, last, len⟩ ⟨hk, hk0, hk1, hk2, hlen, hlast⟩ ih
  simp only at hk hk0 hk1 hk2 hlen hlast
  (refine go ?_)
  refine K_condP rfl rfl ?_ ?_
  case' refine_2 =>
    intro hge
    simp only at hge
    have h2 := hk2 (by omega)
    have hf : foundL b = (b.drop 32).take len := by unfold foundL; rw [if_neg (by omega), ← h2]
    (refine go ?_)
    refine J_sliceAny (U := tab) (p := 32) (q := 32 + (len : Int)) rfl rfl rfl rfl rfl rfl rfl (by omega) (by omega) (.inr (by omega)) ?_
    have hp := hv.piece 32 (32 + len) (by omega) (by omega)
    rw [show 32 + len - 32 = len from by omega, ← hf] at hp
    refine J_slot 58 (.slice (sliceAt a c 32 1) len (c - 32)) rfl (by rw [show (32 : Int).toNat = 32 from rfl, show (32 + (len : Int)).toNat = 32 + len from by omega, show 32 + len - 32 = len from by omega]; rfl) ?_
    (refine go ?_)
    (first | refine K_return hE Tryz.func23 rfl _ rfl ⟨hp, rfl⟩ entA | refine K_fallEnd hE Tryz.func23 rfl _ rfl ⟨hp, rfl⟩ entA)
  intro hlt
  simp only at hlt
  have hk16 : 16 * k + 16 ≤ b.length := by omega
  (refine go ?_)
  refine J_mul rfl rfl rfl (by simp only [inK]; omega) ?_
  refine J_slot 17 (.int .i64 ((16 * k : Nat) : Int)) rfl (congrArg (Value.int .i64) (by simp only; omega)) ?_
  refine J_sliceAny (U := tab) (p := ((16 * k : Nat) : Int)) (q := (b.length : Int)) rfl rfl rfl rfl rfl rfl rfl (by omega) (by omega) (.inl rfl) ?_
  refine J_slot 18 (.slice (sliceAt a c (16 * k) 1) (b.length - 16 * k) (c - 16 * k)) rfl (by rw [show (((16 * k : Nat) : Int)).toNat = 16 * k from by omega, show ((b.length : Int)).toNat = b.length from by omega]; rfl) ?_
  have hh1 := hv.cut (16 * k) (by omega)
  refine J_sliceAny (U := tab) (p := 0) (q := 16) rfl rfl rfl rfl rfl rfl rfl (by omega) (by omega) (.inr (by omega)) ?_
  obtain ⟨hd, hhd⟩ : ∃ hd, hd = (b.drop (16 * k)).take 16 := ⟨_, rfl⟩
  have hdl : hd.length = 16 := by rw [hhd]; exact hd16 hk16
  obtain ⟨a1, ha1⟩ : ∃ a1, a1 = sliceAt (sliceAt a c (16 * k) 1) (c - 16 * k) 0 1 := ⟨_, rfl⟩
  have hh2 : BAt A (.slice a1 16 (c - 16 * k)) hd := by
    rw [show b.length - 16 * k = (b.drop (16 * k)).length from by rw [List.length_drop]] at hh1
    have := hh1.front 16 (by rw [List.length_drop]; omega)
    rw [ha1, hhd]; exact this
  refine J_slot 19 (.slice a1 16 (c - 16 * k)) rfl (by rw [show (0 : Int).toNat = 0 from rfl, show (16 : Int).toNat = 16 from rfl, ha1]; rfl) ?_
  (refine go ?_)
  refine K_drawA (fun w => Sat G w ([])) (.st 0 (.st 2 (.st 3 (.act 1 (.act 4 (.st 5 (.st 6 .nil))))))) rfl (by kernel_rfl) (by kernel_rfl) (by kernel_rfl) (fun w hw => hw.ent entA) ?_
  (refine go ?_)
  refine J_sliceAny (U := tab) (p := 4) (q := 16) rfl rfl rfl rfl rfl rfl rfl (by omega) (by omega) (.inl rfl) ?_
  have hh3 := (show BAt A (.slice a1 hd.length (c - 16 * k)) hd by rw [hdl]; exact hh2).cut 4 (by omega)
  rw [hdl] at hh3
  refine J_slot 23 (.slice (sliceAt a1 (c - 16 * k) 4 1) (16 - 4) (c - 16 * k - 4)) rfl (by rw [show (4 : Int).toNat = 4 from rfl, show (16 : Int).toNat = 16 from rfl]; rfl) ?_
  (first | refine J_callE rfl rfl rfl rfl (told_any A _ hd hh2.1 (by omega)) entA ?_ (fun _ _ w hp hw => by obtain ⟨_, rfl⟩ := hp; exact hw.ent entA) | refine J_call0E rfl rfl rfl (told_any A _ hd hh2.1 (by omega)) entA ?_ (fun _ _ w hp hw => by obtain ⟨_, rfl⟩ := hp; exact hw.ent entA))
  rintro _ _ ⟨rfl, rfl⟩
  (first | refine J_callE rfl rfl rfl rfl (told_any A _ (hd.drop 4) hh3.1 (by rw [List.length_drop]; omega)) entA ?_ (fun _ _ w hp hw => by obtain ⟨_, rfl⟩ := hp; exact hw.ent entA) | refine J_call0E rfl rfl rfl (told_any A _ (hd.drop 4) hh3.1 (by rw [List.length_drop]; omega)) entA ?_ (fun _ _ w hp hw => by obtain ⟨_, rfl⟩ := hp; exact hw.ent entA))
  rintro _ _ ⟨rfl, rfl⟩
  have hn := leN_lt hd
  have hm := leN_lt (hd.drop 4)
  have hok : headOk b k last = decide (last < leN hd ∧ leN hd ≤ 1073741824 ∧ leN hd % 2 = k ∧ leN (hd.drop 4) + 32 ≤ b.length ∧ hd = headL (leN hd) (leN (hd.drop 4))) := by unfold headOk; rw [← hhd]
  have hnx : ∀ s' : Nat × Nat, s' = lastOf2 b k (last, len) → s'.2 + 32 ≤ b.length ∧ s'.1 ≤ 1073741824 → (k + 1 ≤ 2 ∧ (k + 1 = 0 → s' = (0, 0)) ∧ (k + 1 = 1 → s' = lastOf2 b 0 (0, 0)) ∧ (k + 1 = 2 → s' = lastOf2 b 1 (lastOf2 b 0 (0, 0))) ∧ s'.2 + 32 ≤ b.length ∧ s'.1 ≤ 1073741824) := by
    intro s' h1 h2
    refine ⟨by omega, by omega, fun h => ?_, fun h => ?_, h2⟩
    · have : k = 0 := by omega
      subst this; rw [h1, hk0 rfl]
    · have : k = 1 := by omega
      subst this; rw [h1, hk1 rfl]
  have hbad : headOk b k last = false → (last, len) = lastOf2 b k (last, len) := fun h => by unfold lastOf2; rw [if_neg (by rw [h]; simp)]
  have hgood : headOk b k last = true → (leN hd, leN (hd.drop 4)) = lastOf2 b k (last, len) := fun h => by unfold lastOf2; rw [if_pos h, ← hhd]
  repeat' (first | (with_reducible intro _hh) | refine go1 ?_ | refine J_fork ?_ ?_ | refine J_gsP rfl rfl rfl rfl ?_ ?_ | refine K_condP rfl rfl ?_ ?_ | refine J_rem rfl rfl rfl (by omega) (by omega) ?_)
  any_goals (
    have hf : headOk b k last = false := by rw [hok]; exact decide_eq_false (fun h => by simp only at *; omega)
    refine K_again ih (k + 1, last, len) rfl (hnx _ (hbad hf) ⟨hlen, hlast⟩) (by simp only; omega) (by repeat (first | exact keep_nil | refine keep_cons rfl ?_)) entA)
  (first | refine J_callE rfl rfl rfl rfl (head_any (leN hd) (leN (hd.drop 4)) (by omega) (by omega)) entA ?_ (fun _ _ _ _ _ => trivial) | refine J_call0E rfl rfl rfl (head_any (leN hd) (leN (hd.drop 4)) (by omega) (by omega)) entA ?_ (fun _ _ _ _ _ => trivial) | (refine go ?_; first | refine J_callE rfl rfl rfl rfl (head_any (leN hd) (leN (hd.drop 4)) (by omega) (by omega)) entA ?_ (fun _ _ _ _ _ => trivial) | refine J_call0E rfl rfl rfl (head_any (leN hd) (leN (hd.drop 4)) (by omega) (by omega)) entA ?_ (fun _ _ _ _ _ => trivial)))
  rintro hv2 _ rfl
  refine J_slcVw 0 rfl ?_
  intro hvh
  (first | refine J_shape 0 rfl ?_ | refine K_shape 0 rfl ?_)
  rintro xa xc rfl
  (refine go ?_)
  (first | refine J_callE rfl rfl rfl rfl (Equal_any A (slc 5 1 (.slice xa (headL (leN hd) (leN (hd.drop 4))).length xc) (headL (leN hd) (leN (hd.drop 4))).length (bV (headL (leN hd) (leN (hd.drop 4))))) (.slice a1 16 (c - 16 * k)) (.slice xa (headL (leN hd) (leN (hd.drop 4))).length xc) hd (headL (leN hd) (leN (hd.drop 4))) hh2.1 hvh) entA ?_ (fun _ _ _ _ _ => trivial) | refine J_call0E rfl rfl rfl (Equal_any A (slc 5 1 (.slice xa (headL (leN hd) (leN (hd.drop 4))).length xc) (headL (leN hd) (leN (hd.drop 4))).length (bV (headL (leN hd) (leN (hd.drop 4))))) (.slice a1 16 (c - 16 * k)) (.slice xa (headL (leN hd) (leN (hd.drop 4))).length xc) hd (headL (leN hd) (leN (hd.drop 4))) hh2.1 hvh) entA ?_ (fun _ _ _ _ _ => trivial) | (refine go ?_; first | refine J_callE rfl rfl rfl rfl (Equal_any A (slc 5 1 (.slice xa (headL (leN hd) (leN (hd.drop 4))).length xc) (headL (leN hd) (leN (hd.drop 4))).length (bV (headL (leN hd) (leN (hd.drop 4))))) (.slice a1 16 (c - 16 * k)) (.slice xa (headL (leN hd) (leN (hd.drop 4))).length xc) hd (headL (leN hd) (leN (hd.drop 4))) hh2.1 hvh) entA ?_ (fun _ _ _ _ _ => trivial) | refine J_call0E rfl rfl rfl (Equal_any A (slc 5 1 (.slice xa (headL (leN hd) (leN (hd.drop 4))).length xc) (headL (leN hd) (leN (hd.drop 4))).length (bV (headL (leN hd) (leN (hd.drop 4))))) (.slice a1 16 (c - 16 * k)) (.slice xa (headL (leN hd) (leN (hd.drop 4))).length xc) hd (headL (leN hd) (leN (hd.drop 4))) hh2.1 hvh) entA ?_ (fun _ _ _ _ _ => trivial)))
  rintro _ _ ⟨rfl, rfl⟩
  repeat' (first | (with_reducible intro _hh) | refine go1 ?_ | refine J_fork ?_ ?_ | refine J_gsP rfl rfl rfl rfl ?_ ?_ | refine K_condP rfl rfl ?_ ?_)
  · have hf : headOk b k last = true := by rw [hok]; exact decide_eq_true (by refine ⟨?_, ?_, ?_, ?_, ‹_›⟩ <;> (simp only at *; omega))
    (refine go ?_)
    refine K_again ih (k + 1, leN hd, leN (hd.drop 4)) rfl (hnx _ (hgood hf) ⟨by simp only at *; omega, by simp only at *; omega⟩) (by simp only; omega) (by repeat (first | exact keep_nil | refine keep_cons rfl ?_)) entA
  · have hf : headOk b k last = false := by rw [hok]; exact decide_eq_false (fun h => ‹¬ _› h.2.2.2.2)
    refine K_again ih (k + 1, last, len) rfl (hnx _ (hbad hf) ⟨hlen, hlast⟩) (by simp only; omega) (by repeat (first | exact keep_nil | refine keep_cons rfl ?_)) entA
end Go.Proofs.YtpdmbmnhgcnelaaGreat

/- journal, part d: records. -/
set_option linter.unusedVariables false
set_option linter.unusedSimpArgs false
namespace Go.Proofs.YtpdmbmnhgcnelaaGreat
open Go Go.SL
attribute [local irreducible] J K Ctr Ends pts slc mapR mapI sbRow stock arrS loopP CtrY

theorem longA_pos {bs : List UInt8} {k n : Nat} (h : longA bs = some (k, n)) : 1 ≤ k ∧ k ≤ 2 ∧ k ≤ bs.length ∧ n < 16384 := by
  unfold longA at h
  split at h
  · rename_i h1
    split at h
    · rename_i m hm
      cases h
      exact ⟨by omega, by omega, h1, toUint_small hm (by rw [List.length_take]; omega)⟩
    · split at h
      · rename_i h2
        cases hu : toUintA (bs.take 2) with
        | none => rw [hu] at h; cases h
        | some m =>
          rw [hu] at h
          cases h
          exact ⟨by omega, by omega, h2, toUint_small hu (by rw [List.length_take]; omega)⟩
      · cases h
  · cases h
/-- The records with which bytes begin. -/
def recordsL : Nat → List UInt8 → List (List UInt8)
  | 0, _ => []
  | f + 1, bs => match longA bs with
    | none => []
    | some (k, n) => if n ≤ 4096 ∧ k + n ≤ bs.length then (bs.drop k).take n :: recordsL f (bs.drop (k + n)) else []
theorem recordsL_fuel : ∀ (f g : Nat) (bs : List UInt8), bs.length ≤ f → bs.length ≤ g → recordsL f bs = recordsL g bs
  | 0, 0, _, _, _ => rfl
  | 0, g + 1, bs, hf, _ => by
    have : bs = [] := List.eq_nil_of_length_eq_zero (by omega)
    subst this; rfl
  | f + 1, 0, bs, _, hg => by
    have : bs = [] := List.eq_nil_of_length_eq_zero (by omega)
    subst this; rfl
  | f + 1, g + 1, bs, hf, hg => by
    unfold recordsL
    split
    · rfl
    · rename_i k n hl
      have := longA_pos hl
      split
      · rw [recordsL_fuel f g _ (by rw [List.length_drop]; omega) (by rw [List.length_drop]; omega)]
      · rfl
def recordsA (bs : List UInt8) : List (List UInt8) := recordsL bs.length bs
theorem recordsA_none {bs : List UInt8} (h : longA bs = none) : recordsA bs = [] := by
  unfold recordsA
  cases hl : bs.length with
  | zero => rfl
  | succ f => unfold recordsL; rw [h]
theorem recordsA_bad {bs : List UInt8} {k n : Nat} (h : longA bs = some (k, n)) (hb : ¬ (n ≤ 4096 ∧ k + n ≤ bs.length)) : recordsA bs = [] := by
  unfold recordsA
  cases hl : bs.length with
  | zero => rfl
  | succ f => unfold recordsL; rw [h]; simp only; rw [if_neg hb]
theorem recordsA_cons {bs : List UInt8} {k n : Nat} (h : longA bs = some (k, n)) (hb : n ≤ 4096 ∧ k + n ≤ bs.length) : recordsA bs = (bs.drop k).take n :: recordsA (bs.drop (k + n)) := by
  have h1 := longA_pos h
  unfold recordsA
  obtain ⟨f, hf⟩ : ∃ f, bs.length = f + 1 := ⟨bs.length - 1, by omega⟩
  rw [hf]
  show recordsL (f + 1) bs = _
  rw [recordsL, h]
  simp only
  rw [if_pos hb, recordsL_fuel f _ _ (by rw [List.length_drop]; omega) (Nat.le_refl _)]

theorem records_any (a : Option Addr) (n c : Nat) : Ctr Tryz.prog 22 [.slice a n c] [] (fun r H => ∃ b, r = .func (.func 50) #[] #[ptr b] ∧ H = [pts b (cl [.slice a n c] 40)]) := by
  refine Ctr.enter Tryz.func22 (by kernel_rfl) rfl Tryz.ntmps22 rfl rfl ?_
  intro G F R hE
  (refine go ?_)
  refine J_box rfl rfl (fun _ _ _ => trivial) ?_
  intro b
  (refine go ?_)
  (first | refine K_return hE Tryz.func22 rfl _ rfl ⟨b, rfl, rfl⟩ entA | refine K_fallEnd hE Tryz.func22 rfl _ rfl ⟨b, rfl, rfl⟩ entA)

set_option maxRecDepth 20000 in
theorem records1_any (A : HP) (l bx : Nat) (v : Value) (bs : List UInt8) (hv : BAt A v bs) (hl : bs.length ≤ 1000000000) (Lp : HP) (Inv : Nat → HP)
    (hy : ∀ i x, (recordsA bs)[i]? = some x → ∀ r, CtrY Tryz.prog l [r] [Lp, Inv i, slc 5 1 r x.length (bV x)] (fun v H => v = .bool true ∧ H = [Lp, Inv (i + 1)])) :
    Ctr Tryz.prog 50 [.func (.yield l) #[] #[], ptr bx] [Lp, pts bx (cl [v] 40), A, Inv 0] (fun _ H => ∃ v', H = [Lp, pts bx (cl [v'] 40), A, Inv (recordsA bs).length]) := by
  refine Ctr.enter Tryz.func50 (by kernel_rfl) rfl Tryz.ntmps50 rfl rfl ?_
  intro G F R hE
  (refine go ?_)
  refine K_loop (fun y : Value × List UInt8 × Nat => BAt A y.1 y.2.1 ∧ y.2.1.length ≤ bs.length ∧ recordsA y.2.1 = (recordsA bs).drop y.2.2 ∧ y.2.2 ≤ (recordsA bs).length) (fun y => y.2.1.length)
    (fun _ => [(0, .func (.yield l) #[] #[]), (1, ptr bx)])
    (fun y => [Lp, pts bx (cl [y.1] 40), A, Inv y.2.2] ++ F) (v, bs, 0) ⟨hv, Nat.le_refl _, by simp, Nat.zero_le _⟩ rfl (by repeat (first | exact keep_nil | refine keep_cons rfl ?_)) entA ?_
  rintro ⟨v1, rest, i⟩ ⟨hv1, hr1, hr2, hr3⟩ ih
  simp only at hv1 hr1 hr2 hr3
  have hfin : recordsA rest = [] → i = (recordsA bs).length := fun h => by
    rw [hr2] at h
    have : (recordsA bs).length ≤ i := by simpa using h
    omega
  obtain ⟨a, c, rfl, hc⟩ := hv1.2
  (refine go ?_)
  (first | refine J_callE rfl rfl rfl rfl (long_any A _ rest hv1 (by omega)) entA ?_ (fun _ _ _ _ _ => trivial) | refine J_call0E rfl rfl rfl (long_any A _ rest hv1 (by omega)) entA ?_ (fun _ _ _ _ _ => trivial) | (refine go ?_; first | refine J_callE rfl rfl rfl rfl (long_any A _ rest hv1 (by omega)) entA ?_ (fun _ _ _ _ _ => trivial) | refine J_call0E rfl rfl rfl (long_any A _ rest hv1 (by omega)) entA ?_ (fun _ _ _ _ _ => trivial)))
  rintro _ _ ⟨rfl, rfl⟩
  cases hlo : longA rest with
  | none =>
    obtain rfl := hfin (recordsA_none hlo)
    (refine go ?_)
    (first | refine K_return hE Tryz.func50 rfl _ rfl ⟨_, rfl⟩ entA | refine K_fallEnd hE Tryz.func50 rfl _ rfl ⟨_, rfl⟩ entA)
  | some kn =>
    obtain ⟨k, n⟩ := kn
    have hp := longA_pos hlo
    by_cases hn : n ≤ 4096
    case neg =>
      have hend : recordsA rest = [] := recordsA_bad hlo (by omega)
      obtain rfl := hfin hend
      have hd : decide (n ≤ 4096) = false := decide_eq_false hn
      simp only [hd]
      (refine go ?_)
      (first | refine K_return hE Tryz.func50 rfl _ rfl ⟨_, rfl⟩ entA | refine K_fallEnd hE Tryz.func50 rfl _ rfl ⟨_, rfl⟩ entA)
    have hd : decide (n ≤ 4096) = true := decide_eq_true hn
    simp only [hd]
    (refine go ?_)
    by_cases hk : (rest.length : Int) < (k : Int) + n
    case pos =>
      obtain rfl := hfin (recordsA_bad hlo (by omega))
      have hd2 : decide ((rest.length : Int) < (k : Int) + n) = true := decide_eq_true hk
      simp only [hd2]
      (refine go ?_)
      (first | refine K_return hE Tryz.func50 rfl _ rfl ⟨_, rfl⟩ entA | refine K_fallEnd hE Tryz.func50 rfl _ rfl ⟨_, rfl⟩ entA)
    have hd2 : decide ((rest.length : Int) < (k : Int) + n) = false := decide_eq_false hk
    simp only [hd2]
    have hcons := recordsA_cons hlo ⟨hn, by omega⟩
    obtain ⟨x, hx⟩ : ∃ x, x = (rest.drop k).take n := ⟨_, rfl⟩
    have hxl : x.length = n := by rw [hx, List.length_take, List.length_drop]; omega
    rw [← hx] at hcons
    have hget : (recordsA bs)[i]? = some x := by
      have := congrArg (fun l => l[0]?) hr2
      simp only [List.getElem?_drop, hcons] at this
      simpa using this.symm
    have hnext : recordsA (rest.drop (k + n)) = (recordsA bs).drop (i + 1) := by
      have := congrArg (fun l => l.drop 1) hr2
      simp only [hcons, List.drop_drop] at this
      simpa using this
    have hi1 : i + 1 ≤ (recordsA bs).length := by
      have := (List.getElem?_eq_some_iff.1 hget).1
      omega
    have hpc := hv1.piece k (k + n) (by omega) (by omega)
    rw [show k + n - k = n from by omega, ← hx] at hpc
    (refine go ?_)
    refine J_sliceAny (U := tab) (p := (k : Int)) (q := ((k + n : Nat) : Int)) rfl rfl rfl rfl rfl rfl rfl (by omega) (by omega) (.inr (by omega)) ?_
    refine J_slot 29 (.slice (sliceAt a c k 1) n (c - k)) rfl (by rw [show ((k : Int)).toNat = k from by omega, show (((k + n : Nat) : Int)).toNat = k + n from by omega, show k + n - k = n from by omega]; rfl) ?_
    (refine go ?_)
    (first | refine J_callE rfl rfl rfl rfl (Clone_bytes A _ x hpc.1 (by omega)) entA ?_ (fun _ _ _ _ _ => trivial) | refine J_call0E rfl rfl rfl (Clone_bytes A _ x hpc.1 (by omega)) entA ?_ (fun _ _ _ _ _ => trivial) | (refine go ?_; first | refine J_callE rfl rfl rfl rfl (Clone_bytes A _ x hpc.1 (by omega)) entA ?_ (fun _ _ _ _ _ => trivial) | refine J_call0E rfl rfl rfl (Clone_bytes A _ x hpc.1 (by omega)) entA ?_ (fun _ _ _ _ _ => trivial)))
    rintro r _ rfl
    (refine go ?_)
    refine J_yield rfl rfl rfl (hy i x hget r) entA ?_ (fun _ _ _ _ _ => trivial)
    rintro _ _ ⟨rfl, rfl⟩
    (refine go ?_)
    refine J_sliceAny (U := tab) (p := ((k + n : Nat) : Int)) (q := (rest.length : Int)) rfl rfl rfl rfl rfl rfl rfl (by omega) (by omega) (.inl rfl) ?_
    have hcut := hv1.cut (k + n) (by omega)
    refine J_slot 38 (.slice (sliceAt a c (k + n) 1) (rest.length - (k + n)) (c - (k + n))) rfl (by rw [show (((k + n : Nat) : Int)).toNat = k + n from by omega, show ((rest.length : Int)).toNat = rest.length from by omega]; rfl) ?_
    (refine go ?_)
    refine K_again ih (.slice (sliceAt a c (k + n) 1) (rest.length - (k + n)) (c - (k + n)), rest.drop (k + n), i + 1) rfl (⟨hcut, by simp only [List.length_drop]; omega, hnext, hi1⟩) (by simp only [List.length_drop]; omega) (by repeat (first | exact keep_nil | refine keep_cons rfl ?_)) entA
end Go.Proofs.YtpdmbmnhgcnelaaGreat

/- journal, part e: Grow, Concat; the steps of put. -/
set_option linter.unusedVariables false
set_option linter.unusedSimpArgs false
namespace Go.Proofs.YtpdmbmnhgcnelaaGreat
open Go Go.SL

theorem slc_zero {e : TypeId} {sz n c : Nat} {a : Option Addr} {cs : List Value} (H : List HP) : Ent (slc e sz (.slice a n c) n cs :: H) (slc e sz (.slice (sliceAt a c 0 sz) 0 c) 0 [] :: H) :=
  Ent.fold (A := slc e sz (.slice (sliceAt a c 0 sz) 0 c) 0 []) (B := [slc e sz (.slice a n c) n cs]) fun h hs => by
    refine ⟨h, sub.refl h, ?_⟩
    obtain ⟨hl, ⟨a', he, hn, hem⟩ | ⟨b, o, cap, pre, junk, he, hp, hn, hc, hpt⟩⟩ := Sep_one hs
    · simp only [Value.slice.injEq] at he
      obtain ⟨rfl, rfl, rfl⟩ := he
      exact ⟨by simp, .inl ⟨_, rfl, rfl, hem⟩⟩
    · simp only [Value.slice.injEq] at he
      obtain ⟨rfl, -, rfl⟩ := he
      refine ⟨by simp, .inr ⟨b, o, c, pre, cs ++ junk, ?_, hp, Nat.zero_le _, by rw [List.length_append]; simpa using hc, by simpa using hpt⟩⟩
      unfold sliceAt
      split
      · rfl
      · simp [Addr.add]
attribute [local irreducible] J K Ctr Ends pts slc mapR mapI sbRow stock arrS loopP CtrY
theorem slices_len (ls : List (List UInt8)) (i : Nat) : ((ls.take i).flatten).length ≤ ls.flatten.length := by
  conv => rhs; rw [← List.take_append_drop i ls, List.flatten_append, List.length_append]
  omega
theorem Grow_any (n : Nat) (hn : n ≤ 1000000000) : Ctr Tryz.prog 97 [.slice none 0 0, .int .i64 (n : Int)] [] (fun r H => H = [slc 5 1 r 0 []]) := by
  refine Ctr.enter Tryz.func97 (by kernel_rfl) rfl Tryz.ntmps97 rfl rfl ?_
  intro G F R hE
  (repeat (first | refine go1 ?_ | refine J_fork ?_ ?_ | refine J_cap (U := tab) rfl rfl rfl rfl ?_))
  (first | refine J_slot 1 ((.int .i64 (n : Int))) rfl ((congrArg (Value.int .i64) (by omega))) ?_ | refine K_slot 1 ((.int .i64 (n : Int))) rfl ((congrArg (Value.int .i64) (by omega))) ?_)
  refine K_condP rfl rfl ?_ ?_
  · intro hpos
    have hp : 0 < n := by omega
    (repeat (first | refine go1 ?_ | refine J_fork ?_ ?_ | refine J_cap (U := tab) rfl rfl rfl rfl ?_))
    refine J_sliceAny (U := tab) (p := 0) (q := 0) rfl rfl rfl rfl rfl rfl rfl (by omega) (by omega) (.inr (by omega)) ?_
    refine J_slot 20 (.slice none 0 0) rfl rfl ?_
    refine J_ent (slc_lift 5 1 none _) ?_
    refine J_slcVw 0 rfl ?_
    intro hv0
    (refine go ?_)
    refine J_appendZ (U := tab) (mm := n) (cs := []) 0 rfl rfl rfl rfl rfl rfl rfl rfl rfl rfl rfl rfl hv0 rfl (by omega) hp (by omega) (by show _ * 1 ≤ _; omega) (by show _ * 1 ≤ _; omega) (fun _ _ _ => trivial) ?_
    intro v'
    (first | refine J_shape 0 rfl ?_ | refine K_shape 0 rfl ?_)
    rintro a' c' rfl
    (refine go ?_)
    refine J_sliceAny (U := tab) (p := 0) (q := 0) rfl rfl rfl rfl rfl rfl rfl (by omega) (by omega) (.inr (by omega)) ?_
    refine J_slot 25 (.slice (sliceAt a' c' 0 1) 0 c') rfl rfl ?_
    refine J_ent (slc_zero _) ?_
    (refine go ?_)
    (first | refine K_return hE Tryz.func97 rfl _ rfl rfl entA | refine K_fallEnd hE Tryz.func97 rfl _ rfl rfl entA)
  · intro hz
    have hz0 : n = 0 := by omega
    subst hz0
    (refine go ?_)
    refine K_ent (slc_lift 5 1 none _) ?_
    (first | refine K_return hE Tryz.func97 rfl _ rfl rfl entA | refine K_fallEnd hE Tryz.func97 rfl _ rfl rfl entA)
/-- A slice of slices of bytes, that stands in A with all that it tells. -/
def LAt (A : HP) (v : Value) (ls : List (List UInt8)) : Prop := ∃ cs : List Value, Vw A v ls.length cs ∧ cs.length = ls.length ∧ (∃ a c, v = .slice a ls.length c ∧ ls.length ≤ c) ∧ ∀ (i : Nat) (x : List UInt8), ls[i]? = some x → ∃ cv, cs[i]? = some cv ∧ BAt A cv x
theorem Concat_any (A : HP) (v : Value) (ls : List (List UInt8)) (hv : LAt A v ls) (hl : ls.flatten.length ≤ 1000000000) (hn : ls.length ≤ 1000000000) : Ctr Tryz.prog 55 [v] [A] (fun r H => H = [slc 5 1 r ls.flatten.length (bV ls.flatten), A]) := by
  obtain ⟨cs, hvw, hcl, ⟨a, c, rfl, hc⟩, hel⟩ := hv
  refine Ctr.enter Tryz.func55 (by kernel_rfl) rfl Tryz.ntmps55 rfl rfl ?_
  intro G F R hE
  (refine go ?_)
  refine K_loop (fun i : Nat => i ≤ ls.length) (fun i => ls.length - i)
    (fun i => [(0, .slice a ls.length c), (9, .slice a ls.length c), (10, .int .i64 (ls.length : Int)), (11, .int .i64 (i : Int)), (3, .int .i64 (((ls.take i).flatten.length : Nat) : Int))])
    (fun _ => A :: F) 0 (Nat.zero_le _) rfl (by repeat (first | exact keep_nil | refine keep_cons rfl ?_)) entA ?_
  rintro i hi ih
  (refine go ?_)
  refine K_condP rfl rfl ?_ ?_
  · intro hlt
    have hil : i < ls.length := by omega
    obtain ⟨x, hx⟩ : ∃ x, ls[i]? = some x := ⟨ls[i], List.getElem?_eq_getElem hil⟩
    obtain ⟨cv, hcv, hb⟩ := hel i x hx
    obtain ⟨b0, o0, c0, he0⟩ := hvw.some (by intro h; rw [h] at hcv; simp at hcv)
    simp only [Value.slice.injEq] at he0
    obtain ⟨rfl, -, rfl⟩ := he0
    (refine go ?_)
    refine J_at1 (U := tab) i rfl rfl rfl rfl rfl rfl rfl rfl hil ?_
    obtain ⟨ax, cx, rfl, hcx⟩ := hb.2
    have hsum : (ls.take (i + 1)).flatten.length = (ls.take i).flatten.length + x.length := by rw [List.take_add_one, hx]; simp
    have hle := slices_len ls (i + 1)
    refine J_loadAt (U := tab) 0 i rfl rfl rfl hvw rfl hcv rfl rfl ?_
    (refine go ?_)
    (first | refine J_slot 3 ((.int .i64 (((ls.take (i + 1)).flatten.length : Nat) : Int))) rfl ((congrArg (Value.int .i64) (by omega))) ?_ | refine K_slot 3 ((.int .i64 (((ls.take (i + 1)).flatten.length : Nat) : Int))) rfl ((congrArg (Value.int .i64) (by omega))) ?_)
    refine K_again ih (i + 1) rfl (by omega) (by omega) (by repeat (first | exact keep_nil | refine keep_cons rfl ?_)) entA
  intro hge
  have hi' : i = ls.length := by omega
  subst hi'
  rw [List.take_length]
  (first | refine J_callE rfl rfl rfl rfl (Grow_any ls.flatten.length hl) entA ?_ (fun _ _ _ _ _ => trivial) | refine J_call0E rfl rfl rfl (Grow_any ls.flatten.length hl) entA ?_ (fun _ _ _ _ _ => trivial) | (refine go ?_; first | refine J_callE rfl rfl rfl rfl (Grow_any ls.flatten.length hl) entA ?_ (fun _ _ _ _ _ => trivial) | refine J_call0E rfl rfl rfl (Grow_any ls.flatten.length hl) entA ?_ (fun _ _ _ _ _ => trivial)))
  rintro gv _ rfl
  (first | refine J_shape 0 rfl ?_ | refine K_shape 0 rfl ?_)
  rintro ga gc rfl
  (refine go ?_)
  refine K_loop (fun i : Value × Nat => i.2 ≤ ls.length) (fun i => ls.length - i.2)
    (fun i => [(0, .slice a ls.length c), (25, .slice a ls.length c), (26, .int .i64 (ls.length : Int)), (27, .int .i64 (i.2 : Int)), (6, i.1)])
    (fun i => slc 5 1 i.1 (ls.take i.2).flatten.length (bV (ls.take i.2).flatten) :: A :: F) (.slice ga 0 gc, 0) (Nat.zero_le _) rfl (by repeat (first | exact keep_nil | refine keep_cons rfl ?_)) entA ?_
  rintro ⟨v, i⟩ hi ih
  simp only at hi
  (refine go ?_)
  refine K_condP rfl rfl ?_ ?_
  · intro hlt
    simp only at hlt
    have hil : i < ls.length := by omega
    obtain ⟨x, hx⟩ : ∃ x, ls[i]? = some x := ⟨ls[i], List.getElem?_eq_getElem hil⟩
    obtain ⟨cv, hcv, hb⟩ := hel i x hx
    obtain ⟨b0, o0, c0, he0⟩ := hvw.some (by intro h; rw [h] at hcv; simp at hcv)
    simp only [Value.slice.injEq] at he0
    obtain ⟨rfl, -, rfl⟩ := he0
    (refine go ?_)
    refine J_at1 (U := tab) i rfl rfl rfl rfl rfl rfl rfl rfl hil ?_
    obtain ⟨ax, cx, rfl, hcx⟩ := hb.2
    have hsum : (ls.take (i + 1)).flatten = (ls.take i).flatten ++ x := by rw [List.take_add_one, hx]; simp
    have hsl : (ls.take (i + 1)).flatten.length = (ls.take i).flatten.length + x.length := by rw [hsum, List.length_append]
    have hle := slices_len ls (i + 1)
    refine J_loadAt (U := tab) 1 i rfl rfl rfl hvw rfl hcv rfl rfl ?_
    (first | refine J_shape 0 rfl ?_ | refine K_shape 0 rfl ?_)
    intro av cv hvv
    simp only at hvv
    subst hvv
    (refine go ?_)
    refine J_append (U := tab) (mm := x.length) (news := bV x) 0 1 rfl rfl rfl rfl rfl rfl rfl rfl rfl rfl rfl rfl hb.1 (by show _ = _ * 1; rw [bV_length]; omega) (bV_one _) (by simp only; omega) (by show (_ + _) * 1 ≤ _; simp only; omega) (fun _ => rfl) (fun _ _ _ => trivial) ?_
    intro v1
    simp only
    rw [show bV (ls.take i).flatten ++ bV x = bV (ls.take (i + 1)).flatten from by rw [hsum]; simp [bV], ← hsl]
    (refine go ?_)
    refine K_again ih (v1, i + 1) rfl (by simp only; omega) (by simp only; omega) (by repeat (first | exact keep_nil | refine keep_cons rfl ?_)) entA
  intro hge
  simp only at hge
  have hi' : i = ls.length := by omega
  subst hi'
  rw [List.take_length]
  (first | refine J_shape 0 rfl ?_ | refine K_shape 0 rfl ?_)
  intro av cv hvv
  simp only at hvv
  subst hvv
  (refine go ?_)
  (first | refine K_return hE Tryz.func55 rfl _ rfl rfl entA | refine K_fallEnd hE Tryz.func55 rfl _ rfl rfl entA)
end Go.Proofs.YtpdmbmnhgcnelaaGreat

