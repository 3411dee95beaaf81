/- Texts of one claim, joined: He, Hf, Hg, Hh, Hi, Bc, Ba, Bd. -/
import Derived.Test.YtpecmnaikjbanaaGreatDoorQBL4
import Derived.Test.YtpecmnaikjbanaaGreatDoorQBL6
import Derived.Test.YtpecmnaikjbanaaGreatDoorQBL8
import Derived.Test.YtpecmnaikjbanaaGreatDoorQBL9
/- The reference's digest, part 2: the state behind a chunk. -/
set_option linter.unusedVariables false
set_option linter.unusedSimpArgs false
namespace Go.SL
open Go
namespace Sha
def addUp (n o : List W32) (i : Nat) : List W32 := (List.zipWith (· + ·) n o).take i ++ n.drop i
theorem addUp_len {n o : List W32} {k i : Nat} (hn : n.length = k) (ho : o.length = k) (hi : i ≤ k) : (addUp n o i).length = k := by
 unfold addUp; rw [List.length_append, List.length_take, List.length_zipWith, List.length_drop]; omega
theorem addUp_get {n o : List W32} {k i : Nat} (hn : n.length = k) (ho : o.length = k) (hi : i < k) : (addUp n o i)[i]? = some (n.getD i 0) := by
 unfold addUp
 have h1 : ((List.zipWith (· + ·) n o).take i).length = i := by rw [List.length_take, List.length_zipWith]; omega
 rw [List.getElem?_append_right (by omega), h1, Nat.sub_self, List.getElem?_drop, Nat.add_zero, List.getD_eq_getElem?_getD, List.getElem?_eq_getElem (by omega)]; rfl
theorem addUp_set {n o : List W32} {k i : Nat} (hn : n.length = k) (ho : o.length = k) (hi : i < k) : (addUp n o i).set i (n.getD i 0 + o.getD i 0) = addUp n o (i + 1) := by
 unfold addUp
 have h1 : ((List.zipWith (· + ·) n o).take i).length = i := by rw [List.length_take, List.length_zipWith]; omega
 rw [List.set_append_right _ _ (by omega), h1, Nat.sub_self, List.take_add_one]
 have h2 : n.drop i = n[i] :: n.drop (i + 1) := List.drop_eq_getElem_cons (by omega)
 have h3 : (List.zipWith (· + ·) n o)[i]? = some (n.getD i 0 + o.getD i 0) := by
  rw [List.getElem?_zipWith, List.getD_eq_getElem?_getD, List.getD_eq_getElem?_getD, List.getElem?_eq_getElem (show i < n.length by omega), List.getElem?_eq_getElem (show i < o.length by omega)]; rfl
 rw [h2, List.set_cons_zero, h3]; simp
theorem addUp_end (s t : St) : addUp t.l s.l 8 = (plus s t).l := by
 unfold addUp
 simp only [St.l, plus, List.zipWith_cons_cons, List.zipWith_nil_left, List.take_succ_cons, List.take_zero, List.drop_succ_cons, List.drop_zero, List.append_nil, BitVec.add_comm]
end Sha
end Go.SL
namespace Go.Proofs.YtpecmnaikjbanaaGreatDoor
open Go Go.SL
attribute [local irreducible] J K Ctr Ends pts slc mapR mapI sbRow stock arrS loopP CtrY Sha.chunks Sha.chunk Sha.rounds Sha.sched sumL Sha.addUp
set_option maxRecDepth 20000 in
theorem chunk_ref (A : HP) (v : Value) (b : List UInt8) (hv : BAt A v b) (h64 : 64 ≤ b.length) (s : Sha.St) :
  Ctr Tryz.prog 91 [stV s, v] [A] (fun r H => r = stV (Sha.chunk s b) ∧ H = [A]) := by
 have hwd := words_ref A v b hv h64
 obtain ⟨a, c, rfl, hc⟩ := hv.2
 have hwl : (Sha.sched b 64).length = 64 := Sha.sched_len b 64
 have hch : Sha.chunk s b = Sha.plus s (Sha.rounds s (Sha.sched b 64) 64) := by unfold Sha.chunk; rfl
 rw [hch]
 generalize Sha.sched b 64 = W at hwd hwl ⊢
 have hl8 : ∀ s : Sha.St, (wV s.l).length = 8 := fun s => rfl
 have hl8' : ∀ s : Sha.St, s.l.length = 8 := fun s => rfl
 have hWV : (wV W).length = 64 := by rw [wV_len]; exact hwl
 have hne8 : ∀ s : Sha.St, wV s.l ≠ [] := fun s e => by have := congrArg List.length e; rw [hl8] at this; cases this
 unfold stV
 refine Ctr.enter Tryz.func91 (by kernel_rfl) rfl Tryz.ntmps91 rfl rfl ?_
 intro G F R hE
 refine K_regionA rfl ?_
 refine J_box rfl rfl (fun _ _ _ => trivial) ?_
 intro b2
 refine J_alloc (U := tab) rfl rfl rfl (fun _ _ _ => trivial) ?_
 intro b4
 refine go ?_
 ((try refine go ?_); first | refine J_callE rfl rfl rfl rfl (hwd) entA ?_ (fun _ _ _ _ _ => trivial) | refine J_call0E rfl rfl rfl (hwd) entA ?_ (fun _ _ _ _ _ => trivial))
 rintro _ _ ⟨rfl, rfl⟩
 refine J_alloc (U := tab) rfl rfl rfl (fun _ _ _ => trivial) ?_
 intro b5
 refine J_isStore ?_
 refine J_storeArr (U := tab) (l' := wV W) 0 (fun _ _ => trivial) rfl rfl rfl hWV (by intro e; rw [e] at hWV; cases hWV) (allOne_wV _) rfl (by rw [hWV]; rfl) rfl ?_
 refine go ?_
 ((try refine go ?_); first | refine J_callE rfl rfl rfl rfl (constants_ref) entA ?_ (fun _ _ _ _ _ => trivial) | refine J_call0E rfl rfl rfl (constants_ref) entA ?_ (fun _ _ _ _ _ => trivial))
 rintro _ _ ⟨rfl, rfl⟩
 refine J_alloc (U := tab) rfl rfl rfl (fun _ _ _ => trivial) ?_
 intro b6
 refine J_isStore ?_
 refine J_storeArr (U := tab) (l' := wV Sha.ks) 0 (fun _ _ => trivial) rfl rfl rfl rfl (by decide) (allOne_wV _) rfl rfl rfl ?_
 refine go ?_
 refine J_ent (H' := pts b2 (cl (wV s.l) 130) :: pts b6 (cl (wV Sha.ks) 161) :: pts b5 (cl (wV W) 161) :: pts b4 (cl (wV (List.replicate 8 0)) 130) :: A :: F) entA ?_
 refine J_loadArr (U := tab) (l := wV s.l) 0 rfl rfl rfl rfl rfl rfl ?_
 refine J_alloc (U := tab) rfl rfl rfl (fun _ _ _ => trivial) ?_
 intro b7
 refine J_isStore ?_
 refine J_storeArr (U := tab) (l' := wV s.l) 0 (fun _ _ => trivial) rfl rfl rfl rfl (hne8 s) (allOne_wV _) rfl rfl rfl ?_
 refine go ?_
 refine K_loop (fun t : Nat => t ≤ 64) (fun t => 64 - t)
  (fun t => [(2, ptr b2), (4, ptr b4), (5, ptr b5), (6, ptr b6), (7, ptr b7), (8, .int .i64 (t : Int))])
  (fun t => pts b7 (cl (wV (Sha.rounds s W t).l) 130) :: pts b2 (cl (wV s.l) 130) :: pts b6 (cl (wV Sha.ks) 161) :: pts b5 (cl (wV W) 161) :: pts b4 (cl (wV (List.replicate 8 0)) 130) :: A :: F) 0 (Nat.zero_le _) rfl (by repeat (first | exact keep_nil | refine keep_cons rfl ?_)) (by unfold Sha.rounds; exact entA) ?_
 rintro t ht ih
 refine go ?_
 refine K_condP rfl rfl ?_ ?_
 ·intro hlt
  have ht1 : t < 64 := by omega
  have hr : Sha.rounds s W (t + 1) = Sha.round (Sha.rounds s W t) (Sha.ks.getD t 0) (W.getD t 0) := by conv => lhs; unfold Sha.rounds
  generalize Sha.rounds s W t = T at hr ⊢
  obtain ⟨ta, tb, tc, td, te, tf, tg, th⟩ := T
  have hwg : (wV W)[t]? = some (u32 (W.getD t 0)) := wV_get (by rw [List.getD_eq_getElem?_getD, List.getElem?_eq_getElem (by omega)]; rfl)
  have hkg := wV_get (ks_get ht1)
  generalize Sha.ks.getD t 0 = kt at hr hkg
  generalize W.getD t 0 = wt at hr hwg
  rw [show wV (Sha.St.l ⟨ta, tb, tc, td, te, tf, tg, th⟩) = [u32 ta, u32 tb, u32 tc, u32 td, u32 te, u32 tf, u32 tg, u32 th] from rfl]
  have hround : wV (Sha.rounds s W (t + 1)).l = [u32 (th + (Sha.rot te 6 ^^^ Sha.rot te 11 ^^^ Sha.rot te 25) + (te &&& tf ||| ~~~te &&& tg) + kt + wt + ((Sha.rot ta 2 ^^^ Sha.rot ta 13 ^^^ Sha.rot ta 22) + Sha.maj ta tb tc)), u32 ta, u32 tb, u32 tc, u32 (td + (th + (Sha.rot te 6 ^^^ Sha.rot te 11 ^^^ Sha.rot te 25) + (te &&& tf ||| ~~~te &&& tg) + kt + wt)), u32 te, u32 tf, u32 tg] := by
   rw [hr, Sha.ch_ref]; rfl
  clear hr
  refine go ?_
  (repeat (first | refine go1 ?_ | refine J_fork ?_ ?_ | refine J_indexArr (U := tab) rfl rfl rfl rfl rfl rfl (by omega) (by omega) ?_))
  refine K_drawA (fun w => Sat G w ([pts b7 (cl [u32 ta, u32 tb, u32 tc, u32 td, u32 te, u32 tf, u32 tg, u32 th] 130), pts b6 (cl (wV Sha.ks) 161), pts b5 (cl (wV W) 161)])) (.st 0 (.st 1 (.st 2 (.st 4 (.st 7 (.st 11 (.st 12 (.st 13 (.st 14 (.st 15 (.st 16 (.st 17 (.st 18 (.st 19 (.st 20 (.st 22 (.st 23 (.st 24 (.st 26 (.st 27 (.st 28 (.act 3 (.act 5 (.st 6 (.act 8 (.st 9 (.st 10 (.st 21 (.st 25 (.st 29 (.st 30 .nil))))))))))))))))))))))))))))))) rfl (by kernel_rfl) (by kernel_rfl) (by kernel_rfl) (fun w hw => hw.ent entA) ?_
  refine go ?_
  (repeat (first | refine go1 ?_ | refine J_fork ?_ ?_ | refine J_arrAt (U := tab) t rfl rfl rfl rfl rfl rfl rfl rfl ht1 ?_ | refine J_indexArr (U := tab) rfl rfl rfl rfl rfl rfl (by omega) (by omega) ?_ | refine J_andU rfl rfl rfl ?_ | refine J_notU rfl rfl ?_ | refine J_orU rfl rfl rfl ?_ | (refine J_isLoad ?_; first | refine J_loadCellS (U := tab) 1 t rfl rfl rfl (Nat.zero_add _) hkg rfl rfl ?_ | refine J_loadCellS (U := tab) 2 t rfl rfl rfl (Nat.zero_add _) hwg rfl rfl ?_)))
  (first | refine J_callE rfl rfl rfl rfl ((turned_ref te 6 (by omega) (by omega))) entA ?_ (fun _ _ w hp hw => by obtain ⟨rfl, rfl⟩ := hp; exact hw.ent entA) | refine J_call0E rfl rfl rfl ((turned_ref te 6 (by omega) (by omega))) entA ?_ (fun _ _ w hp hw => by obtain ⟨rfl, rfl⟩ := hp; exact hw.ent entA))
  rintro _ _ ⟨rfl, rfl⟩
  (first | refine J_callE rfl rfl rfl rfl ((turned_ref te 11 (by omega) (by omega))) entA ?_ (fun _ _ w hp hw => by obtain ⟨rfl, rfl⟩ := hp; exact hw.ent entA) | refine J_call0E rfl rfl rfl ((turned_ref te 11 (by omega) (by omega))) entA ?_ (fun _ _ w hp hw => by obtain ⟨rfl, rfl⟩ := hp; exact hw.ent entA))
  rintro _ _ ⟨rfl, rfl⟩
  refine J_xorU rfl rfl rfl ?_
  (first | refine J_callE rfl rfl rfl rfl ((turned_ref te 25 (by omega) (by omega))) entA ?_ (fun _ _ w hp hw => by obtain ⟨rfl, rfl⟩ := hp; exact hw.ent entA) | refine J_call0E rfl rfl rfl ((turned_ref te 25 (by omega) (by omega))) entA ?_ (fun _ _ w hp hw => by obtain ⟨rfl, rfl⟩ := hp; exact hw.ent entA))
  rintro _ _ ⟨rfl, rfl⟩
  (repeat (first | refine go1 ?_ | refine J_fork ?_ ?_ | refine J_xorU rfl rfl rfl ?_ | refine J_addU rfl rfl rfl ?_))
  refine K_drawA (fun w => Sat G w ([pts b7 (cl [u32 ta, u32 tb, u32 tc, u32 td, u32 te, u32 tf, u32 tg, u32 th] 130)])) (.st 0 (.st 2 (.st 5 (.st 8 (.st 9 (.st 10 (.st 11 (.st 12 (.act 1 (.act 3 (.st 4 (.act 6 (.st 7 (.act 13 (.st 14 (.st 15 .nil)))))))))))))))) rfl (by kernel_rfl) (by kernel_rfl) (by kernel_rfl) (fun w hw => hw.ent entA) ?_
  refine go ?_
  (repeat (first | refine go1 ?_ | refine J_fork ?_ ?_ | refine J_indexArr (U := tab) rfl rfl rfl rfl rfl rfl (by omega) (by omega) ?_))
  (first | refine J_callE rfl rfl rfl rfl ((turned_ref ta 2 (by omega) (by omega))) entA ?_ (fun _ _ w hp hw => by obtain ⟨rfl, rfl⟩ := hp; exact hw.ent entA) | refine J_call0E rfl rfl rfl ((turned_ref ta 2 (by omega) (by omega))) entA ?_ (fun _ _ w hp hw => by obtain ⟨rfl, rfl⟩ := hp; exact hw.ent entA))
  rintro _ _ ⟨rfl, rfl⟩
  (first | refine J_callE rfl rfl rfl rfl ((turned_ref ta 13 (by omega) (by omega))) entA ?_ (fun _ _ w hp hw => by obtain ⟨rfl, rfl⟩ := hp; exact hw.ent entA) | refine J_call0E rfl rfl rfl ((turned_ref ta 13 (by omega) (by omega))) entA ?_ (fun _ _ w hp hw => by obtain ⟨rfl, rfl⟩ := hp; exact hw.ent entA))
  rintro _ _ ⟨rfl, rfl⟩
  refine J_xorU rfl rfl rfl ?_
  (first | refine J_callE rfl rfl rfl rfl ((turned_ref ta 22 (by omega) (by omega))) entA ?_ (fun _ _ w hp hw => by obtain ⟨rfl, rfl⟩ := hp; exact hw.ent entA) | refine J_call0E rfl rfl rfl ((turned_ref ta 22 (by omega) (by omega))) entA ?_ (fun _ _ w hp hw => by obtain ⟨rfl, rfl⟩ := hp; exact hw.ent entA))
  rintro _ _ ⟨rfl, rfl⟩
  refine J_xorU rfl rfl rfl ?_
  (first | refine J_callE rfl rfl rfl rfl ((two_ref ta tb tc)) entA ?_ (fun _ _ w hp hw => by obtain ⟨rfl, rfl⟩ := hp; exact hw.ent entA) | refine J_call0E rfl rfl rfl ((two_ref ta tb tc)) entA ?_ (fun _ _ w hp hw => by obtain ⟨rfl, rfl⟩ := hp; exact hw.ent entA))
  rintro _ _ ⟨rfl, rfl⟩
  refine J_addU rfl rfl rfl ?_
  (repeat (first | refine go1 ?_ | refine J_fork ?_ ?_ | refine J_indexArr (U := tab) rfl rfl rfl rfl rfl rfl (by omega) (by omega) ?_ | refine J_addU rfl rfl rfl ?_))
  refine J_buildArr (U := tab) (cs := wV (Sha.rounds s W (t + 1)).l) rfl rfl rfl rfl rfl (by rw [hround]; rfl) ?_
  refine J_isStore ?_
  refine J_storeArr (U := tab) (l' := wV (Sha.rounds s W (t + 1)).l) 0 (fun _ _ => trivial) rfl rfl rfl rfl (hne8 _) (allOne_wV _) rfl rfl rfl ?_
  refine go ?_
  refine K_again ih (t + 1) rfl (by omega) (by omega) (by repeat (first | exact keep_nil | refine keep_cons rfl ?_)) entA
 intro hge
 have ht64 : t = 64 := by omega
 subst ht64
 clear ih
 rw [← Sha.addUp_end] at hE
 generalize Sha.rounds s W 64 = T at hE ⊢
 refine go ?_
 have hT8 := hl8' T
 have hs8 := hl8' s
 refine K_loop (fun i : Nat => i ≤ 8) (fun i => 8 - i)
  (fun i => [(2, ptr b2), (4, ptr b4), (7, ptr b7), (13, .int .i64 (i : Int))])
  (fun i => pts b7 (cl (wV (Sha.addUp T.l s.l i)) 130) :: pts b2 (cl (wV s.l) 130) :: pts b4 (cl (wV (List.replicate 8 0)) 130) :: A :: F) 0 (Nat.zero_le _) rfl (by repeat (first | exact keep_nil | refine keep_cons rfl ?_)) (by unfold Sha.addUp; exact entA) ?_
 rintro i hi ih
 have hal := Sha.addUp_len hT8 hs8 hi
 refine go ?_
 refine K_condP rfl rfl ?_ ?_
 ·intro hlt
  have hi8 : i < 8 := by omega
  have hg1 := Sha.addUp_get hT8 hs8 hi8
  have hg2 : s.l[i]? = some (s.l.getD i 0) := by rw [List.getD_eq_getElem?_getD, List.getElem?_eq_getElem (by omega)]; rfl
  have hset := Sha.addUp_set hT8 hs8 hi8
  generalize T.l.getD i 0 = x at hg1 hset
  generalize s.l.getD i 0 = y at hg2 hset
  refine go ?_
  refine K_drawA (fun w => Sat G w ([pts b7 (cl (wV (Sha.addUp T.l s.l i)) 130), pts b2 (cl (wV s.l) 130)])) (.st 0 (.st 1 (.st 2 (.st 3 (.st 4 (.st 5 (.st 6 (.st 7 (.st 8 (.act 9 .nil)))))))))) rfl (by kernel_rfl) (by kernel_rfl) (by kernel_rfl) (fun w hw => hw.ent entA) ?_
  refine go ?_
  (repeat (first | refine go1 ?_ | refine J_fork ?_ ?_ | refine J_arrAt (U := tab) i rfl rfl rfl rfl rfl rfl rfl rfl hi8 ?_ | (refine J_isLoad ?_; first | refine J_loadCellS (U := tab) 0 i rfl rfl rfl (Nat.zero_add _) (wV_get hg1) rfl rfl ?_ | refine J_loadCellS (U := tab) 1 i rfl rfl rfl (Nat.zero_add _) (wV_get hg2) rfl rfl ?_) | refine J_addU rfl rfl rfl ?_))
  refine J_isStore ?_
  refine J_storeCell (U := tab) 0 (fun _ _ => trivial) rfl rfl rfl rfl rfl rfl rfl (by rw [wV_len, hal]; omega) rfl ?_
  rw [show 0 + i = i from Nat.zero_add _]
  refine go ?_
  have hset2 := (wV_set (Sha.addUp T.l s.l i) i _).trans (congrArg wV hset)
  refine K_ent (H' := pts b7 (cl (wV (Sha.addUp T.l s.l (i + 1))) 130) :: pts b2 (cl (wV s.l) 130) :: pts b4 (cl (wV (List.replicate 8 0)) 130) :: A :: F) (by rw [← hset2]; exact Ent.refl _) ?_
  refine K_again ih (i + 1) rfl (by omega) (by omega) (by repeat (first | exact keep_nil | refine keep_cons rfl ?_)) entA
 intro hge
 have hi8 : i = 8 := by omega
 subst hi8
 clear ih
 have hone := allOne_wV (Sha.addUp T.l s.l 8)
 have hXl : (wV (Sha.addUp T.l s.l 8)).length = 8 := by rw [wV_len]; exact hal
 generalize wV (Sha.addUp T.l s.l 8) = X at hone hXl hE ⊢
 refine go ?_
 refine J_loadArr (U := tab) 0 rfl rfl rfl rfl rfl hXl ?_
 refine J_storeArr (U := tab) 2 (fun _ _ => trivial) rfl rfl rfl hXl (by intro e; rw [e] at hXl; cases hXl) hone rfl (by rw [hXl]; rfl) rfl ?_
 refine go ?_
 refine K_return1C (U := tab) 2 hE Tryz.func91 rfl rfl rfl rfl rfl hXl rfl ⟨rfl, rfl⟩ entA
end Go.Proofs.YtpecmnaikjbanaaGreatDoor
/- The reference's digest, part 3: the sum. -/
namespace Go.Proofs.YtpecmnaikjbanaaGreatDoor
open Go Go.SL
attribute [local irreducible] J K Ctr Ends pts slc mapR mapI sbRow stock arrS loopP CtrY Sha.chunks Sha.chunk Sha.rounds Sha.sched sumL
set_option maxRecDepth 20000 in
theorem Sum_ref (A : HP) (v : Value) (b : List UInt8) (hv : BAt A v b) (hl : b.length ≤ 1000000000) :
  Ctr Tryz.prog 41 [v] [A] (fun r H => r = dV (sumL b) ∧ H = [A]) := by
 obtain ⟨a, c, rfl, hc⟩ := hv.2
 refine Ctr.enter Tryz.func41 (by kernel_rfl) rfl Tryz.ntmps41 rfl rfl ?_
 intro G F R hE
 refine K_regionA rfl ?_
 refine J_alloc (U := tab) rfl rfl rfl (fun _ _ _ => trivial) ?_
 intro b2
 (refine goR ?_)
 (refine K_regionA rfl ?_; refine goR ?_)
 refine J_buildSlice1 (U := tab) (cs := []) rfl rfl rfl rfl rfl rfl rfl rfl rfl (fun _ _ _ => trivial) ?_
 intro b0
 refine go ?_
 (refine J_ent (slc_row 5 1 b0 0 0 [] [] _ rfl (Nat.le_refl _) (by simp)) ?_; refine J_append (U := tab) (mm := (b).length) (news := bV (b)) 0 2 rfl rfl rfl rfl rfl rfl rfl rfl rfl rfl rfl rfl (hv.1) (by show _ = _ * 1; rw [bV_length]; omega) (bV_one _) (by omega) (by show (_ + _) * 1 ≤ _; omega) (fun _ => rfl) (fun _ _ _ => trivial) ?_; intro vA; rw [Nat.zero_add, List.nil_append]; (first | refine J_shape 0 rfl ?_ | refine K_shape 0 rfl ?_); rintro aA cA rfl)
 refine go ?_
 (refine J_buildSlice1 (U := tab) (cs := bV [(128 : UInt8)]) rfl rfl rfl rfl rfl rfl rfl rfl rfl (fun _ _ _ => trivial) ?_; intro bA; refine J_append (U := tab) (mm := 1) (news := bV [(128 : UInt8)]) 1 0 rfl rfl rfl rfl rfl rfl rfl rfl rfl rfl rfl rfl (Vw.pts rfl) rfl (bV_one _) (by omega) (by show (_ + _) * 1 ≤ _; omega) (fun _ => rfl) (fun _ _ _ => trivial) ?_; intro vA; rw [show bV (b) ++ bV [(128 : UInt8)] = bV ((b) ++ [(128 : UInt8)]) from by simp [bV], show (b).length + 1 = ((b) ++ [(128 : UInt8)]).length from (@List.length_append _ (b) [(128 : UInt8)]).symm]; (first | refine J_shape 1 rfl ?_ | refine K_shape 1 rfl ?_); rintro aA cA rfl)
 refine go ?_
 obtain ⟨z, hz⟩ : ∃ z, z = (119 - b.length % 64) % 64 := ⟨_, rfl⟩
 have hz1 : (b.length + 1 + z) % 64 = 56 := by omega
 have hz2 : z < 64 := by omega
 have hl2 : ∀ j : Nat, (b ++ 128 :: List.replicate j (0 : UInt8)).length = b.length + 1 + j := fun j => by simp; omega
 refine K_loop (fun y : Nat × Option Addr × Nat => y.1 ≤ z) (fun y => z - y.1)
  (fun y => [(0, .slice a b.length c), (2, ptr b2), (3, .slice y.2.1 (b ++ 128 :: List.replicate y.1 (0 : UInt8)).length y.2.2)])
  (fun y => slc 5 1 (.slice y.2.1 (b ++ 128 :: List.replicate y.1 (0 : UInt8)).length y.2.2) (b ++ 128 :: List.replicate y.1 (0 : UInt8)).length (bV (b ++ 128 :: List.replicate y.1 (0 : UInt8))) :: A :: pts b2 (cl (dC Dg.zero) 30) :: F) (0, aA, cA) (Nat.zero_le _) rfl (by repeat (first | exact keep_nil | refine keep_cons rfl ?_)) entA ?_
 rintro ⟨j, a2, c2⟩ hj ih
 simp only at hj
 have hlj := hl2 j
 dsimp only
 refine go ?_
 refine J_rem rfl rfl rfl (by omega) (by omega) ?_
 refine go ?_
 refine K_condP rfl rfl ?_ ?_
 ·intro hne
  have hjz : j < z := by
   rcases Nat.lt_or_ge j z with h | h
   ·exact h
   ·exfalso
    apply hne
    rw [hlj]
    have : j = z := by omega
    subst this
    omega
  refine go ?_
  (refine J_buildSlice1 (U := tab) (cs := bV [(0 : UInt8)]) rfl rfl rfl rfl rfl rfl rfl rfl rfl (fun _ _ _ => trivial) ?_; intro bA; refine J_append (U := tab) (mm := 1) (news := bV [(0 : UInt8)]) 1 0 rfl rfl rfl rfl rfl rfl rfl rfl rfl rfl rfl rfl (Vw.pts rfl) rfl (bV_one _) (by (rw [hlj]; omega)) (by show (_ + _) * 1 ≤ _; (rw [hlj]; omega)) (fun _ => rfl) (fun _ _ _ => trivial) ?_; intro vA; rw [show bV ((b ++ 128 :: List.replicate j (0 : UInt8))) ++ bV [(0 : UInt8)] = bV (((b ++ 128 :: List.replicate j (0 : UInt8))) ++ [(0 : UInt8)]) from by simp [bV], show ((b ++ 128 :: List.replicate j (0 : UInt8))).length + 1 = (((b ++ 128 :: List.replicate j (0 : UInt8))) ++ [(0 : UInt8)]).length from (@List.length_append _ ((b ++ 128 :: List.replicate j (0 : UInt8))) [(0 : UInt8)]).symm]; (first | refine J_shape 1 rfl ?_ | refine K_shape 1 rfl ?_); rintro aA cA rfl)
  rw [show b ++ 128 :: List.replicate j (0 : UInt8) ++ [0] = b ++ 128 :: List.replicate (j + 1) (0 : UInt8) from by rw [List.replicate_succ']; simp]
  refine go ?_
  refine K_again ih (j + 1, aA, cA) rfl (by simp only; omega) (by simp only; omega) (by repeat (first | exact keep_nil | refine keep_cons rfl ?_)) entA
 intro heq
 have hjz : j = z := by
  have heq2 : ((b.length + 1 + j : Nat) : Int) % 64 = 56 := by rw [← hlj]; exact Decidable.not_not.1 heq
  omega
 subst hjz
 clear ih
 obtain ⟨T0, hT0⟩ : ∃ T0, T0 = b ++ 128 :: List.replicate j (0 : UInt8) := ⟨_, rfl⟩
 rw [← hT0] at hlj ⊢
 have hl3 : ∀ i : Nat, i ≤ 8 → (T0 ++ (Sha.be8 (8 * b.length)).take i).length = T0.length + i := fun i hi => by
  rw [List.length_append, List.length_take]; simp only [Sha.be8, List.length_map, List.length_range]; omega
 refine go ?_
 refine J_mul rfl rfl rfl (by simp only [inK]; omega) ?_
 (first | refine J_slot 24 ((.int .u64 ((8 * b.length : Nat) : Int))) rfl ((congrArg (Value.int .u64) (by omega))) ?_ | refine K_slot 24 ((.int .u64 ((8 * b.length : Nat) : Int))) rfl ((congrArg (Value.int .u64) (by omega))) ?_)
 refine go ?_
 refine K_loop (fun y : Nat × Option Addr × Nat => y.1 ≤ 8) (fun y => 8 - y.1)
  (fun y => [(2, ptr b2), (3, .slice y.2.1 (T0 ++ (Sha.be8 (8 * b.length)).take y.1).length y.2.2), (4, .int .u64 ((8 * b.length : Nat) : Int)), (5, .int .i64 (y.1 : Int))])
  (fun y => slc 5 1 (.slice y.2.1 (T0 ++ (Sha.be8 (8 * b.length)).take y.1).length y.2.2) (T0 ++ (Sha.be8 (8 * b.length)).take y.1).length (bV (T0 ++ (Sha.be8 (8 * b.length)).take y.1)) :: A :: pts b2 (cl (dC Dg.zero) 30) :: F) (0, a2, c2) (Nat.zero_le _) rfl (by simp only [List.take_zero, List.append_nil]; exact (by repeat (first | exact keep_nil | refine keep_cons rfl ?_))) (by simp only [List.take_zero, List.append_nil]; exact entA) ?_
 rintro ⟨i, a3, c3⟩ hi ih
 simp only at hi
 have hli := hl3 i hi
 dsimp only
 refine go ?_
 refine K_condP rfl rfl ?_ ?_
 ·intro hlt
  have hi8 : i < 8 := by omega
  have hbe : (Sha.be8 (8 * b.length)).take (i + 1) = (Sha.be8 (8 * b.length)).take i ++ [UInt8.ofNat (8 * b.length / 2 ^ (56 - 8 * i))] := by
   rw [List.take_add_one]; simp [Sha.be8, hi8]
  refine go ?_
  refine J_mul rfl rfl rfl (by simp only [inK]; omega) ?_
  refine go ?_
  (first | refine J_slot 34 ((.int .u64 ((56 - 8 * i : Nat) : Int))) rfl ((congrArg (Value.int .u64) (by omega))) ?_ | refine K_slot 34 ((.int .u64 ((56 - 8 * i : Nat) : Int))) rfl ((congrArg (Value.int .u64) (by omega))) ?_)
  refine J_shr rfl rfl rfl (by omega) ?_
  (first | refine J_slot 35 ((.int .u64 ((8 * b.length / 2 ^ (56 - 8 * i) : Nat) : Int))) rfl ((congrArg (Value.int .u64) (by rw [Int.toNat_natCast, show min (56 - 8 * i) IntKind.u64.bits = 56 - 8 * i from by show min (56 - 8 * i) 64 = _; omega]; simp))) ?_ | refine K_slot 35 ((.int .u64 ((8 * b.length / 2 ^ (56 - 8 * i) : Nat) : Int))) rfl ((congrArg (Value.int .u64) (by rw [Int.toNat_natCast, show min (56 - 8 * i) IntKind.u64.bits = 56 - 8 * i from by show min (56 - 8 * i) 64 = _; omega]; simp))) ?_)
  refine J_isConv ?_
  refine J_convW (U := tab) rfl rfl rfl rfl rfl rfl ?_
  (first | refine J_slot 36 ((u8 (UInt8.ofNat (8 * b.length / 2 ^ (56 - 8 * i))))) rfl ((conv_u8 _)) ?_ | refine K_slot 36 ((u8 (UInt8.ofNat (8 * b.length / 2 ^ (56 - 8 * i))))) rfl ((conv_u8 _)) ?_)
  (refine J_buildSlice1 (U := tab) (cs := bV [(UInt8.ofNat (8 * b.length / 2 ^ (56 - 8 * i)))]) rfl rfl rfl rfl rfl rfl rfl rfl rfl (fun _ _ _ => trivial) ?_; intro bA; refine J_append (U := tab) (mm := 1) (news := bV [(UInt8.ofNat (8 * b.length / 2 ^ (56 - 8 * i)))]) 1 0 rfl rfl rfl rfl rfl rfl rfl rfl rfl rfl rfl rfl (Vw.pts rfl) rfl (bV_one _) (by (rw [hli]; omega)) (by show (_ + _) * 1 ≤ _; (rw [hli]; omega)) (fun _ => rfl) (fun _ _ _ => trivial) ?_; intro vA; rw [show bV ((T0 ++ (Sha.be8 (8 * b.length)).take i)) ++ bV [(UInt8.ofNat (8 * b.length / 2 ^ (56 - 8 * i)))] = bV (((T0 ++ (Sha.be8 (8 * b.length)).take i)) ++ [(UInt8.ofNat (8 * b.length / 2 ^ (56 - 8 * i)))]) from by simp [bV], show ((T0 ++ (Sha.be8 (8 * b.length)).take i)).length + 1 = (((T0 ++ (Sha.be8 (8 * b.length)).take i)) ++ [(UInt8.ofNat (8 * b.length / 2 ^ (56 - 8 * i)))]).length from (@List.length_append _ ((T0 ++ (Sha.be8 (8 * b.length)).take i)) [(UInt8.ofNat (8 * b.length / 2 ^ (56 - 8 * i)))]).symm]; (first | refine J_shape 1 rfl ?_ | refine K_shape 1 rfl ?_); rintro aA cA rfl)
  rw [show T0 ++ (Sha.be8 (8 * b.length)).take i ++ [UInt8.ofNat (8 * b.length / 2 ^ (56 - 8 * i))] = T0 ++ (Sha.be8 (8 * b.length)).take (i + 1) from by rw [hbe, List.append_assoc]]
  refine go ?_
  refine K_again ih (i + 1, aA, cA) rfl (by simp only; omega) (by simp only; omega) (by repeat (first | exact keep_nil | refine keep_cons rfl ?_)) entA
 intro hge
 have hi8 : i = 8 := by omega
 subst hi8
 clear ih
 have hmsg : T0 ++ (Sha.be8 (8 * b.length)).take 8 = Sha.msg b := by
  rw [hT0, List.take_of_length_le (by simp [Sha.be8])]
  unfold Sha.msg Sha.pad
  rw [← hz]; simp
 have hsum : (sumL b).bs = Sha.out (Sha.chunks Sha.start (Sha.msg b) ((Sha.msg b).length / 64)) := sumL_bs b
 rw [← hmsg] at hsum
 generalize T0 ++ (Sha.be8 (8 * b.length)).take 8 = T at hli hsum ⊢
 have hT64 : T.length % 64 = 0 := by omega
 have hTl : T.length ≤ 1000000200 := by omega
 clear hlj hl3 hT0 hl2 hz hz1 hz2 hli hmsg
 have hl8 : ∀ s : Sha.St, (wV s.l).length = 8 := fun s => rfl
 have hne8 : ∀ s : Sha.St, wV s.l ≠ [] := fun s e => by have := congrArg List.length e; rw [hl8] at this; cases this
 refine K_slcB (bs := T) 0 rfl ?_
 intro hvT
 have hvT2 : BAt (Sep [slc 5 1 (.slice a3 T.length c3) T.length (bV T), A]) (.slice a3 T.length c3) T := hvT.mono (Sep_get (i := 0) rfl)
 refine K_ent (Ent.resep [_, _] _) ?_
 refine go ?_
 refine J_buildArr (U := tab) (cs := wV Sha.start.l) rfl rfl rfl rfl rfl rfl ?_
 refine J_alloc (U := tab) rfl rfl rfl (fun _ _ _ => trivial) ?_
 intro b6
 refine J_isStore ?_
 refine J_storeArr (U := tab) (l' := wV Sha.start.l) 0 (fun _ _ => trivial) rfl rfl rfl rfl (by decide) (allOne_wV _) rfl rfl rfl ?_
 refine go ?_
 refine K_loop (fun y : Nat × Option Addr × Nat => 64 * y.1 ≤ T.length ∧ BAt (Sep [slc 5 1 (.slice a3 T.length c3) T.length (bV T), A]) (.slice y.2.1 (T.length - 64 * y.1) y.2.2) (T.drop (64 * y.1))) (fun y => T.length - 64 * y.1)
  (fun y => [(2, ptr b2), (6, ptr b6), (3, .slice y.2.1 (T.length - 64 * y.1) y.2.2)])
  (fun y => pts b6 (cl (wV (Sha.chunks Sha.start T y.1).l) 130) :: Sep [slc 5 1 (.slice a3 T.length c3) T.length (bV T), A] :: pts b2 (cl (dC Dg.zero) 30) :: F) (0, a3, c3) ⟨by omega, hvT2⟩ rfl (by repeat (first | exact keep_nil | refine keep_cons rfl ?_)) (by unfold Sha.chunks; exact entA) ?_
 rintro ⟨q, a4, c4⟩ ⟨hq, hbq⟩ ih
 simp only at hq hbq
 dsimp only
 refine go ?_
 refine K_condP rfl rfl ?_ ?_
 ·intro hlt
  have hq1 : 64 * q + 64 ≤ T.length := by omega
  have hdl : (T.drop (64 * q)).length = T.length - 64 * q := List.length_drop
  have hfr := hbq.front 64 (by rw [hdl]; omega)
  have hct := hbq.cut 64 (by rw [hdl]; omega)
  have htk : ((T.drop (64 * q)).take 64).length = 64 := by rw [List.length_take, hdl]; omega
  have hch := chunk_ref _ _ _ hfr (by rw [htk]; omega) (Sha.chunks Sha.start T q)
  have hnx : Sha.chunk (Sha.chunks Sha.start T q) ((T.drop (64 * q)).take 64) = Sha.chunks Sha.start T (q + 1) := by
   have h1 := Sha.chunk_app (Sha.chunks Sha.start T q) ((T.drop (64 * q)).take 64) ((T.drop (64 * q)).drop 64) (by rw [htk]; omega)
   rw [List.take_append_drop] at h1
   rw [← h1]
   conv => rhs; unfold Sha.chunks
  rw [hnx] at hch
  refine go ?_
  refine K_drawA (fun w => Sat G w ([pts b6 (cl (wV (Sha.chunks Sha.start T q).l) 130)])) (.st 0 (.st 1 (.st 2 (.act 3 (.act 4 .nil))))) rfl (by kernel_rfl) (by kernel_rfl) (by kernel_rfl) (fun w hw => hw.ent entA) ?_
  refine go ?_
  refine J_loadArrS (U := tab) 0 rfl rfl rfl rfl rfl rfl ?_
  refine go ?_
  refine J_sliceAny (U := tab) (p := 0) (q := 64) rfl rfl rfl rfl rfl rfl rfl (by omega) (by omega) (.inr (by obtain ⟨_, _, _, he, hcc⟩ := hbq; simp only [Value.slice.injEq] at he; rw [hdl] at hcc; omega)) ?_
  (first | refine J_slot 45 ((.slice (sliceAt a4 c4 0 1) 64 c4)) rfl (rfl) ?_ | refine K_slot 45 ((.slice (sliceAt a4 c4 0 1) 64 c4)) rfl (rfl) ?_)
  (first | refine J_callE rfl rfl rfl rfl (hch) entA ?_ (fun _ _ w hp hw => by obtain ⟨rfl, rfl⟩ := hp; exact hw.ent entA) | refine J_call0E rfl rfl rfl (hch) entA ?_ (fun _ _ w hp hw => by obtain ⟨rfl, rfl⟩ := hp; exact hw.ent entA))
  rintro _ _ ⟨rfl, rfl⟩
  unfold stV
  refine J_isStore ?_
  refine J_storeArr (U := tab) 1 (fun _ _ => trivial) rfl rfl rfl rfl (hne8 _) (allOne_wV _) rfl (by rw [hl8, hl8]) rfl ?_
  refine go ?_
  refine J_sliceAny (U := tab) (p := 64) (q := ((T.length - 64 * q : Nat) : Int)) rfl rfl rfl rfl rfl rfl rfl (by omega) (by omega) (.inl rfl) ?_
  (first | refine J_slot 48 ((.slice (sliceAt a4 c4 64 1) (T.length - 64 * (q + 1)) (c4 - 64))) rfl ((by rw [show (((T.length - 64 * q : Nat) : Int)).toNat - (64 : Int).toNat = T.length - 64 * (q + 1) from by omega]; rfl)) ?_ | refine K_slot 48 ((.slice (sliceAt a4 c4 64 1) (T.length - 64 * (q + 1)) (c4 - 64))) rfl ((by rw [show (((T.length - 64 * q : Nat) : Int)).toNat - (64 : Int).toNat = T.length - 64 * (q + 1) from by omega]; rfl)) ?_)
  refine go ?_
  rw [List.drop_drop, hdl, show T.length - 64 * q - 64 = T.length - 64 * (q + 1) from by omega, show 64 * q + 64 = 64 * (q + 1) from by omega] at hct
  refine K_again ih (q + 1, sliceAt a4 c4 64 1, c4 - 64) rfl ⟨by simp only; omega, hct⟩ (by simp only; omega) (by repeat (first | exact keep_nil | refine keep_cons rfl ?_)) entA
 intro hge
 have hqe : q = T.length / 64 := by omega
 subst hqe
 clear ih
 generalize Sha.chunks Sha.start T (T.length / 64) = S2 at hsum ⊢
 refine K_ent (Ent.trans (Ent.pick [1] rfl) (Ent.unsep _ _)) ?_
 refine go ?_
 refine J_alloc (U := tab) rfl rfl rfl (fun _ _ _ => trivial) ?_
 intro b9
 refine go ?_
 have hol := Sha.out_len S2
 have hdl : ∀ i, i ≤ 32 → ((Sha.out S2).take i ++ List.replicate (32 - i) (0 : UInt8)).length = 32 := fun i hi => by
  rw [List.length_append, List.length_take, List.length_replicate, hol]; omega
 refine K_loop (fun i : Nat => i ≤ 32) (fun i => 32 - i)
  (fun i => [(2, ptr b2), (6, ptr b6), (7, ptr b9), (8, .int .i64 (i : Int))])
  (fun i => pts b9 (cl (bV ((Sha.out S2).take i ++ List.replicate (32 - i) (0 : UInt8))) 30) :: pts b6 (cl (wV S2.l) 130) :: pts b2 (cl (dC Dg.zero) 30) :: A :: F) 0 (Nat.zero_le _) rfl (by repeat (first | exact keep_nil | refine keep_cons rfl ?_)) entA ?_
 rintro i hi ih
 refine go ?_
 refine K_condP rfl rfl ?_ ?_
 ·intro hlt
  have hi32 : i < 32 := by omega
  have hq4 : (i : Int) / 4 = ((i / 4 : Nat) : Int) := by omega
  have hr4 : 24 - 8 * ((i : Int) % 4) = ((24 - 8 * (i % 4) : Nat) : Int) := by omega
  have hwg : (wV S2.l)[i / 4]? = some (u32 (S2.l.getD (i / 4) 0)) := wV_get (by rw [List.getD_eq_getElem?_getD, List.getElem?_eq_getElem (show i / 4 < S2.l.length from by show i / 4 < 8; omega)]; rfl)
  have hout : (Sha.out S2)[i]? = some (UInt8.ofNat ((S2.l.getD (i / 4) 0) >>> (24 - 8 * (i % 4))).toNat) := by simp [Sha.out, hi32]
  (repeat (first | refine go1 ?_ | refine J_fork ?_ ?_ | refine J_quo rfl rfl rfl (by omega) (by omega) (by simp only [inK]; omega) ?_ | refine J_rem rfl rfl rfl (by omega) (by omega) ?_ | refine J_mul rfl rfl rfl (by simp only [inK]; omega) ?_ | refine J_arrAt (U := tab) (i / 4) rfl rfl rfl rfl rfl rfl rfl hq4 (by omega) ?_ | (refine J_isLoad ?_; refine J_loadCell (U := tab) 1 (i / 4) rfl rfl rfl (Nat.zero_add _) hwg rfl rfl ?_) | refine J_shrU (24 - 8 * (i % 4)) rfl rfl rfl hr4 (by omega) ?_ | (refine J_isConv ?_; refine J_byteOfU (U := tab) rfl rfl rfl rfl rfl rfl ?_) | refine J_arrAt (U := tab) i rfl rfl rfl rfl rfl rfl rfl rfl hi32 ?_))
  refine J_isStore ?_
  refine J_storeCell (U := tab) 0 (fun _ _ => trivial) rfl rfl rfl rfl rfl rfl rfl (by rw [bV_length, hdl i (by omega)]; omega) rfl ?_
  rw [show 0 + i = i from Nat.zero_add _, put_byte hol hout]
  refine go ?_
  refine K_again ih (i + 1) rfl (by omega) (by omega) (by repeat (first | exact keep_nil | refine keep_cons rfl ?_)) entA
 intro hge
 have hi32 : i = 32 := by omega
 subst hi32
 rw [List.take_of_length_le (by omega), show 32 - 32 = 0 from rfl, List.replicate_zero, List.append_nil, ← hsum, ← dC_bV]
 clear ih hdl hol hsum
 refine go ?_
 refine J_loadArr (U := tab) (l := dC (sumL b)) 0 rfl rfl rfl rfl rfl rfl ?_
 refine J_storeArr (U := tab) (l' := dC (sumL b)) 2 (fun _ _ => trivial) rfl rfl rfl rfl (by intro e; cases e) (by rw [dC_bV]; exact allOne_bV _) rfl rfl rfl ?_
 refine go ?_
 (refine K_noMarks hE ?_; apply K_returnV (U := tab) hE Tryz.func41 rfl (Ent.refl _); (repeat (first | exact ResOk.nil | apply ResOk.tmp rfl | apply ResOk.agg 0 rfl rfl rfl rfl rfl | apply ResOk.agg 1 rfl rfl rfl rfl rfl | apply ResOk.agg 2 rfl rfl rfl rfl rfl | apply ResOk.agg 3 rfl rfl rfl rfl rfl | apply ResOk.agg 4 rfl rfl rfl rfl rfl | apply ResOk.agg 5 rfl rfl rfl rfl rfl | apply ResOk.agg 6 rfl rfl rfl rfl rfl | apply ResOk.agg 7 rfl rfl rfl rfl rfl | apply ResOk.agg 8 rfl rfl rfl rfl rfl | apply ResOk.one 0 rfl rfl rfl rfl | apply ResOk.one 1 rfl rfl rfl rfl | apply ResOk.one 2 rfl rfl rfl rfl | apply ResOk.one 3 rfl rfl rfl rfl | apply ResOk.one 4 rfl rfl rfl rfl | apply ResOk.one 5 rfl rfl rfl rfl | apply ResOk.one 6 rfl rfl rfl rfl)); exact ⟨rfl, rfl⟩; exact entA)
end Go.Proofs.YtpecmnaikjbanaaGreatDoor
/- The reference's digest, part 4: text, parts; the reference's merkle. -/
namespace Go.Proofs.YtpecmnaikjbanaaGreatDoor
open Go Go.SL
attribute [local irreducible] J K Ctr Ends pts slc mapR mapI sbRow stock arrS loopP CtrY Sha.chunks Sha.chunk Sha.rounds Sha.sched sumL taggedL
theorem sgn_u8 {n : Nat} (h : n < 16) : u8 (sgn n) = .int .u8 ((if n < 10 then 48 + n else 87 + n : Nat) : Int) := by
 unfold u8 sgn
 rw [UInt8.toNat_ofNat']
 congr 2
 split <;> omega
theorem sign_ref (n : Nat) (h : n < 16) : Ctr Tryz.prog 131 [.int .u8 (n : Int)] [] (fun r H => r = u8 (sgn n) ∧ H = []) := by
 have hs := sgn_u8 h
 rw [hs]
 refine Ctr.enter Tryz.func131 (by kernel_rfl) rfl Tryz.ntmps131 rfl rfl ?_
 intro G F R hE
 repeat' (first | (with_reducible intro _hh) | refine go1 ?_ | refine J_fork ?_ ?_ | refine J_gsP rfl rfl rfl rfl ?_ ?_ | refine K_condP rfl rfl ?_ ?_)
 ·rw [if_pos (by omega)] at hE
  (first | refine J_slot 2 ((.int .u8 ((48 + n : Nat) : Int))) rfl ((congrArg (Value.int .u8) (by omega))) ?_ | refine K_slot 2 ((.int .u8 ((48 + n : Nat) : Int))) rfl ((congrArg (Value.int .u8) (by omega))) ?_)
  (first | refine K_return hE Tryz.func131 rfl _ rfl ⟨rfl, rfl⟩ entA | refine K_fallEnd hE Tryz.func131 rfl _ rfl ⟨rfl, rfl⟩ entA)
 ·rw [if_neg (by omega)] at hE
  (first | refine J_slot 2 ((.int .u8 ((87 + n : Nat) : Int))) rfl ((congrArg (Value.int .u8) (by omega))) ?_ | refine K_slot 2 ((.int .u8 ((87 + n : Nat) : Int))) rfl ((congrArg (Value.int .u8) (by omega))) ?_)
  (first | refine K_return hE Tryz.func131 rfl _ rfl ⟨rfl, rfl⟩ entA | refine K_fallEnd hE Tryz.func131 rfl _ rfl ⟨rfl, rfl⟩ entA)
set_option maxRecDepth 20000 in
theorem Text_ref (d : Dg) : Ctr Tryz.prog 89 [dV d] [] (fun r H => r = .string (strOf (textL d)) ∧ H = []) := by
 unfold dV
 refine Ctr.enter Tryz.func89 (by kernel_rfl) rfl Tryz.ntmps89 rfl rfl ?_
 intro G F R hE
 refine K_regionA rfl ?_
 refine J_box rfl rfl (fun _ _ _ => trivial) ?_
 intro b1
 refine go ?_
 refine K_ent (slc_lift 5 1 none _) ?_
 refine K_loop (fun y : Nat × Option Addr × Nat => y.1 ≤ 32) (fun y => 32 - y.1)
  (fun y => [(1, ptr b1), (3, .slice y.2.1 ((textL d).take (2 * y.1)).length y.2.2), (4, .int .i64 (y.1 : Int))])
  (fun y => slc 5 1 (.slice y.2.1 ((textL d).take (2 * y.1)).length y.2.2) ((textL d).take (2 * y.1)).length (bV ((textL d).take (2 * y.1))) :: pts b1 (cl (dC d) 30) :: F) (0, none, 0) (Nat.zero_le _) rfl (by repeat (first | exact keep_nil | refine keep_cons rfl ?_)) entA ?_
 rintro ⟨i, a1, c1⟩ hi ih
 simp only at hi
 dsimp only
 have hlen : ((textL d).take (2 * i)).length = 2 * i := by rw [List.length_take, textL_len]; omega
 refine go ?_
 refine K_condP rfl rfl ?_ ?_
 ·intro hlt
  have hi32 : i < 32 := by omega
  have hg := dC_get d hi32
  have htk := textL_take (d := d) hi32
  have hx := (d.at i).toNat_lt
  generalize d.at i = x at htk hx hg
  unfold u8 at hg
  refine go ?_
  refine K_drawA (fun w => Sat G w ([pts b1 (cl (dC d) 30)])) (.st 0 (.st 1 (.st 2 (.st 3 (.st 4 (.st 6 (.st 7 (.st 8 (.st 9 (.act 5 (.act 10 (.act 11 (.act 12 (.st 13 .nil)))))))))))))) rfl (by kernel_rfl) (by kernel_rfl) (by kernel_rfl) (fun w hw => hw.ent entA) ?_
  refine go ?_
  refine J_arrAt (U := tab) i rfl rfl rfl rfl rfl rfl rfl rfl hi32 ?_
  refine J_isLoad ?_
  refine J_loadCellS (U := tab) 0 i rfl rfl rfl (Nat.zero_add _) hg rfl rfl ?_
  refine J_quo rfl rfl rfl (by omega) (by omega) (by simp only [inK]; omega) ?_
  (first | refine J_slot 13 ((.int .u8 ((x.toNat / 16 : Nat) : Int))) rfl ((congrArg (Value.int .u8) (by omega))) ?_ | refine K_slot 13 ((.int .u8 ((x.toNat / 16 : Nat) : Int))) rfl ((congrArg (Value.int .u8) (by omega))) ?_)
  refine go ?_
  refine J_arrAt (U := tab) i rfl rfl rfl rfl rfl rfl rfl rfl hi32 ?_
  refine J_isLoad ?_
  refine J_loadCellS (U := tab) 0 i rfl rfl rfl (Nat.zero_add _) hg rfl rfl ?_
  refine J_rem rfl rfl rfl (by omega) (by omega) ?_
  (first | refine J_slot 18 ((.int .u8 ((x.toNat % 16 : Nat) : Int))) rfl ((congrArg (Value.int .u8) (by omega))) ?_ | refine K_slot 18 ((.int .u8 ((x.toNat % 16 : Nat) : Int))) rfl ((congrArg (Value.int .u8) (by omega))) ?_)
  (first | refine J_callE rfl rfl rfl rfl ((sign_ref (x.toNat / 16) (by omega))) entA ?_ (fun _ _ w hp hw => by obtain ⟨rfl, rfl⟩ := hp; exact hw.ent entA) | refine J_call0E rfl rfl rfl ((sign_ref (x.toNat / 16) (by omega))) entA ?_ (fun _ _ w hp hw => by obtain ⟨rfl, rfl⟩ := hp; exact hw.ent entA))
  rintro _ _ ⟨rfl, rfl⟩
  (first | refine J_callE rfl rfl rfl rfl ((sign_ref (x.toNat % 16) (by omega))) entA ?_ (fun _ _ w hp hw => by obtain ⟨rfl, rfl⟩ := hp; exact hw.ent entA) | refine J_call0E rfl rfl rfl ((sign_ref (x.toNat % 16) (by omega))) entA ?_ (fun _ _ w hp hw => by obtain ⟨rfl, rfl⟩ := hp; exact hw.ent entA))
  rintro _ _ ⟨rfl, rfl⟩
  refine J_buildSlice1 (U := tab) (cs := bV [sgn (x.toNat / 16), sgn (x.toNat % 16)]) rfl rfl rfl rfl rfl rfl rfl rfl rfl (fun _ _ hw => hw.ent entA) ?_
  intro bA
  refine J_append (U := tab) (mm := 2) (news := bV [sgn (x.toNat / 16), sgn (x.toNat % 16)]) 1 0 rfl rfl rfl rfl rfl rfl rfl rfl rfl rfl rfl rfl (Vw.pts rfl) rfl (bV_one _) (by rw [hlen]; omega) (by show (_ + _) * 1 ≤ _; rw [hlen]; omega) (fun _ => rfl) (fun _ _ hw => hw.ent entA) ?_
  intro vA
  rw [show bV ((textL d).take (2 * i)) ++ bV [sgn (x.toNat / 16), sgn (x.toNat % 16)] = bV ((textL d).take (2 * (i + 1))) from by rw [htk]; simp [bV], show ((textL d).take (2 * i)).length + 2 = ((textL d).take (2 * (i + 1))).length from by rw [htk, List.length_append]; rfl]
  (first | refine J_shape 1 rfl ?_ | refine K_shape 1 rfl ?_)
  rintro aA cA rfl
  refine go ?_
  refine K_again ih (i + 1, aA, cA) rfl (by simp only; omega) (by simp only; omega) (by repeat (first | exact keep_nil | refine keep_cons rfl ?_)) entA
 intro hge
 have hi32 : i = 32 := by omega
 subst hi32
 rw [List.take_of_length_le (by rw [textL_len]; omega)]
 refine K_slcB (bs := textL d) 0 rfl ?_
 intro hvT
 refine go ?_
 refine J_toStr (U := tab) 0 rfl rfl rfl rfl rfl rfl rfl rfl rfl hvT.1 ?_
 refine go ?_
 (first | refine K_return hE Tryz.func89 rfl _ rfl ⟨rfl, rfl⟩ entA | refine K_fallEnd hE Tryz.func89 rfl _ rfl ⟨rfl, rfl⟩ entA)
set_option maxRecDepth 20000 in
theorem Parts_ref (A : HP) (tag : UInt8) (v : Value) (ps : List (List UInt8)) (hv : LAt A v ps) (hl : (partsL tag ps).length ≤ 1000000000) :
  Ctr Tryz.prog 136 [u8 tag, v] [A] (fun r H => H = [slc 5 1 r (partsL tag ps).length (bV (partsL tag ps)), A]) := by
 obtain ⟨cs, hvw, hcl, ⟨a, c, rfl, hc⟩, hel⟩ := hv
 have hcnt := partsL_count tag ps
 refine Ctr.enter Tryz.func136 (by kernel_rfl) rfl Tryz.ntmps136 rfl rfl ?_
 intro G F R hE
 refine go ?_
 refine J_buildSlice1 (U := tab) (cs := bV [tag]) rfl rfl rfl rfl rfl rfl rfl rfl rfl (fun _ _ _ => trivial) ?_
 intro b0
 refine go ?_
 refine K_ent (slc_row 5 1 b0 1 1 (bV [tag]) [] _ rfl (Nat.le_refl _) (by simp [bV])) ?_
 refine K_loop (fun y : Nat × Option Addr × Nat => y.1 ≤ ps.length) (fun y => ps.length - y.1)
  (fun y => [(1, .slice a ps.length c), (6, .int .i64 (y.1 : Int)), (5, .slice y.2.1 (partsL tag (ps.take y.1)).length y.2.2)])
  (fun y => slc 5 1 (.slice y.2.1 (partsL tag (ps.take y.1)).length y.2.2) (partsL tag (ps.take y.1)).length (bV (partsL tag (ps.take y.1))) :: A :: F) (0, some ⟨b0, 0, none⟩, 1) (Nat.zero_le _) rfl (by repeat (first | exact keep_nil | refine keep_cons rfl ?_)) entA ?_
 rintro ⟨i, a1, c1⟩ hi ih
 simp only at hi
 dsimp only
 refine go ?_
 refine K_condP rfl rfl ?_ ?_
 ·intro hlt
  have hil : i < ps.length := by omega
  obtain ⟨p, hp⟩ : ∃ p, ps[i]? = some p := ⟨ps[i], List.getElem?_eq_getElem hil⟩
  obtain ⟨cv, hcv, hb⟩ := hel i p hp
  obtain ⟨b1, o1, c0, he0⟩ := hvw.some (by intro h; rw [h] at hcv; simp at hcv)
  simp only [Value.slice.injEq] at he0
  obtain ⟨rfl, -, rfl⟩ := he0
  have htk := partsL_take (tag := tag) hp
  have hle := partsL_le tag ps (i + 1)
  have hlen8 := le8_len p.length
  rw [htk] at hle
  simp only [List.length_append] at hle
  obtain ⟨T0, hT0⟩ : ∃ T0, T0 = partsL tag (ps.take i) := ⟨_, rfl⟩
  rw [← hT0] at htk hle ⊢
  obtain ⟨ax, cx, rfl, hcx⟩ := hb.2
  have hl3 : ∀ j : Nat, j ≤ 8 → (T0 ++ (le8 p.length).take j).length = T0.length + j := fun j hj => by
   rw [List.length_append, List.length_take]; omega
  refine go ?_
  refine J_at1 (U := tab) i rfl rfl rfl rfl rfl rfl rfl rfl hil ?_
  refine J_isLoad ?_
  refine J_loadAt (U := tab) 1 i rfl rfl rfl hvw rfl hcv rfl rfl ?_
  refine go ?_
  refine K_loop (fun y : Nat × Option Addr × Nat => y.1 ≤ 8) (fun y => 8 - y.1)
   (fun y => [(1, .slice (some ⟨b1, o1, none⟩) ps.length c), (6, .int .i64 (i : Int)), (7, .int .u64 ((p.length / 2 ^ (8 * y.1) : Nat) : Int)), (5, .slice y.2.1 (T0 ++ (le8 p.length).take y.1).length y.2.2), (8, .int .i64 (y.1 : Int))])
   (fun y => slc 5 1 (.slice y.2.1 (T0 ++ (le8 p.length).take y.1).length y.2.2) (T0 ++ (le8 p.length).take y.1).length (bV (T0 ++ (le8 p.length).take y.1)) :: A :: F) (0, a1, c1) (Nat.zero_le _) rfl (by simp only [List.take_zero, List.append_nil, Nat.mul_zero, Nat.pow_zero, Nat.div_one]; exact (by repeat (first | exact keep_nil | refine keep_cons rfl ?_))) (by simp only [List.take_zero, List.append_nil]; exact entA) ?_
  rintro ⟨j, a2, c2⟩ hj ih2
  simp only at hj
  have hlj := hl3 j hj
  dsimp only
  refine go ?_
  refine K_condP rfl rfl ?_ ?_
  ·intro hj8
   have hj8' : j < 8 := by omega
   have htj := le8_take (n := p.length) hj8'
   obtain ⟨m, hm⟩ : ∃ m, m = p.length / 2 ^ (8 * j) := ⟨_, rfl⟩
   have hmle : m ≤ p.length := by rw [hm]; exact Nat.div_le_self _ _
   have hmn : p.length / 2 ^ (8 * (j + 1)) = m / 256 := by
    rw [hm, Nat.div_div_eq_div_mul, show 8 * (j + 1) = 8 * j + 8 from by omega, Nat.pow_add]
   rw [← hm] at htj ⊢
   refine go ?_
   refine J_rem rfl rfl rfl (by omega) (by omega) ?_
   refine J_isConv ?_
   refine J_convW (U := tab) rfl rfl rfl rfl rfl rfl ?_
   (first | refine J_slot 30 ((u8 (UInt8.ofNat m))) rfl ((by rw [show ((m : Int) % 256) = ((m % 256 : Nat) : Int) from by omega, conv_u8]; congr 1; apply UInt8.toNat.inj; simp only [UInt8.toNat_ofNat']; omega)) ?_ | refine K_slot 30 ((u8 (UInt8.ofNat m))) rfl ((by rw [show ((m : Int) % 256) = ((m % 256 : Nat) : Int) from by omega, conv_u8]; congr 1; apply UInt8.toNat.inj; simp only [UInt8.toNat_ofNat']; omega)) ?_)
   (refine J_buildSlice1 (U := tab) (cs := bV [(UInt8.ofNat m)]) rfl rfl rfl rfl rfl rfl rfl rfl rfl (fun _ _ _ => trivial) ?_; intro bA; refine J_append (U := tab) (mm := 1) (news := bV [(UInt8.ofNat m)]) 1 0 rfl rfl rfl rfl rfl rfl rfl rfl rfl rfl rfl rfl (Vw.pts rfl) rfl (bV_one _) (by (rw [hlj]; omega)) (by show (_ + _) * 1 ≤ _; (rw [hlj]; omega)) (fun _ => rfl) (fun _ _ _ => trivial) ?_; intro vA; rw [show bV ((T0 ++ (le8 p.length).take j)) ++ bV [(UInt8.ofNat m)] = bV (((T0 ++ (le8 p.length).take j)) ++ [(UInt8.ofNat m)]) from by simp [bV], show ((T0 ++ (le8 p.length).take j)).length + 1 = (((T0 ++ (le8 p.length).take j)) ++ [(UInt8.ofNat m)]).length from (@List.length_append _ ((T0 ++ (le8 p.length).take j)) [(UInt8.ofNat m)]).symm]; (first | refine J_shape 1 rfl ?_ | refine K_shape 1 rfl ?_); rintro aA cA rfl)
   rw [show T0 ++ (le8 p.length).take j ++ [UInt8.ofNat m] = T0 ++ (le8 p.length).take (j + 1) from by rw [htj, List.append_assoc]]
   refine go ?_
   refine J_quo rfl rfl rfl (by omega) (by omega) (by simp only [inK]; omega) ?_
   (first | refine J_slot 34 ((.int .u64 ((p.length / 2 ^ (8 * (j + 1)) : Nat) : Int))) rfl ((congrArg (Value.int .u64) (by rw [hmn]; omega))) ?_ | refine K_slot 34 ((.int .u64 ((p.length / 2 ^ (8 * (j + 1)) : Nat) : Int))) rfl ((congrArg (Value.int .u64) (by rw [hmn]; omega))) ?_)
   refine go ?_
   refine K_again ih2 (j + 1, aA, cA) rfl (by simp only; omega) (by simp only; omega) (by repeat (first | exact keep_nil | refine keep_cons rfl ?_)) entA
  intro hge
  have hj8 : j = 8 := by omega
  subst hj8
  rw [List.take_of_length_le (by omega)] at hlj ⊢
  refine go ?_
  refine J_at1 (U := tab) i rfl rfl rfl rfl rfl rfl rfl rfl hil ?_
  refine J_isLoad ?_
  refine J_loadAt (U := tab) 1 i rfl rfl rfl hvw rfl hcv rfl rfl ?_
  (refine J_append (U := tab) (mm := (p).length) (news := bV (p)) 0 1 rfl rfl rfl rfl rfl rfl rfl rfl rfl rfl rfl rfl (hb.1) (by show _ = _ * 1; rw [bV_length]; omega) (bV_one _) (by (rw [hlj]; omega)) (by show (_ + _) * 1 ≤ _; (rw [hlj]; omega)) (fun _ => rfl) (fun _ _ _ => trivial) ?_; intro vA; rw [show bV ((T0 ++ le8 p.length)) ++ bV (p) = bV (((T0 ++ le8 p.length)) ++ (p)) from by simp [bV], show ((T0 ++ le8 p.length)).length + (p).length = (((T0 ++ le8 p.length)) ++ (p)).length from (@List.length_append _ ((T0 ++ le8 p.length)) (p)).symm]; (first | refine J_shape 0 rfl ?_ | refine K_shape 0 rfl ?_); rintro aA cA rfl)
  rw [show T0 ++ le8 p.length ++ p = partsL tag (ps.take (i + 1)) from by rw [htk, List.append_assoc]]
  refine go ?_
  refine K_again ih (i + 1, aA, cA) rfl (by simp only; omega) (by simp only; omega) (by repeat (first | exact keep_nil | refine keep_cons rfl ?_)) entA
 intro hge
 have hi' : i = ps.length := by omega
 subst hi'
 rw [List.take_length]
 refine go ?_
 (first | refine K_return hE Tryz.func136 rfl _ rfl rfl entA | refine K_fallEnd hE Tryz.func136 rfl _ rfl rfl entA)
set_option maxRecDepth 20000 in
theorem Tagged_ref (A : HP) (tag : UInt8) (v : Value) (ps : List (List UInt8)) (hv : LAt A v ps) (hl : (partsL tag ps).length ≤ 1000000000) :
  Ctr Tryz.prog 92 [u8 tag, v] [A] (fun r H => r = dV (taggedL tag ps) ∧ H = [A]) := by
 have hps := Parts_ref A tag v ps hv hl
 obtain ⟨cs, hvw, hcl, ⟨a, c, rfl, hc⟩, hel⟩ := hv
 have htg : taggedL tag ps = sumL (partsL tag ps) := by unfold taggedL; rfl
 rw [htg]
 refine Ctr.enter Tryz.func92 (by kernel_rfl) rfl Tryz.ntmps92 rfl rfl ?_
 intro G F R hE
 refine K_regionA rfl ?_
 refine J_alloc (U := tab) rfl rfl rfl (fun _ _ _ => trivial) ?_
 intro b4
 refine go ?_
 ((try refine go ?_); first | refine J_callE rfl rfl rfl rfl (hps) entA ?_ (fun _ _ _ _ _ => trivial) | refine J_call0E rfl rfl rfl (hps) entA ?_ (fun _ _ _ _ _ => trivial))
 rintro r _ rfl
 refine J_slcB (bs := partsL tag ps) 0 rfl ?_
 intro hvT
 refine J_ent (Ent.resep [_, _] _) ?_
 ((try refine go ?_); first | refine J_callE rfl rfl rfl rfl (Sum_ref _ _ (partsL tag ps) (hvT.mono (Sep_get (H := [slc 5 1 r (partsL tag ps).length (bV (partsL tag ps)), A]) (i := 0) rfl)) hl) entA ?_ (fun _ _ _ _ _ => trivial) | refine J_call0E rfl rfl rfl (Sum_ref _ _ (partsL tag ps) (hvT.mono (Sep_get (H := [slc 5 1 r (partsL tag ps).length (bV (partsL tag ps)), A]) (i := 0) rfl)) hl) entA ?_ (fun _ _ _ _ _ => trivial))
 rintro _ _ ⟨rfl, rfl⟩
 refine J_ent (Ent.unsep _ _) ?_
 refine go ?_
 (refine K_noMarks hE ?_; apply K_returnV (U := tab) hE Tryz.func92 rfl (Ent.refl _); (repeat (first | exact ResOk.nil | apply ResOk.tmp rfl | apply ResOk.agg 0 rfl rfl rfl rfl rfl | apply ResOk.agg 1 rfl rfl rfl rfl rfl | apply ResOk.agg 2 rfl rfl rfl rfl rfl | apply ResOk.agg 3 rfl rfl rfl rfl rfl | apply ResOk.agg 4 rfl rfl rfl rfl rfl | apply ResOk.agg 5 rfl rfl rfl rfl rfl | apply ResOk.agg 6 rfl rfl rfl rfl rfl | apply ResOk.agg 7 rfl rfl rfl rfl rfl | apply ResOk.agg 8 rfl rfl rfl rfl rfl | apply ResOk.one 0 rfl rfl rfl rfl | apply ResOk.one 1 rfl rfl rfl rfl | apply ResOk.one 2 rfl rfl rfl rfl | apply ResOk.one 3 rfl rfl rfl rfl | apply ResOk.one 4 rfl rfl rfl rfl | apply ResOk.one 5 rfl rfl rfl rfl | apply ResOk.one 6 rfl rfl rfl rfl)); exact ⟨rfl, rfl⟩; exact entA)
end Go.Proofs.YtpecmnaikjbanaaGreatDoor
/- The reference's merkle: leaves, nodes, the row above one, the root; are two lists of hashes the same. -/
namespace Go.Proofs.YtpecmnaikjbanaaGreatDoor
open Go Go.SL
attribute [local irreducible] J K Ctr Ends pts slc mapR mapI sbRow stock arrS loopP CtrY Sha.chunks Sha.chunk Sha.rounds Sha.sched sumL taggedL
set_option maxRecDepth 20000 in
theorem Leaf_ref (A : HP) (v : Value) (b : List UInt8) (hv : BAt A v b) (hl : b.length ≤ 900000000) : Ctr Tryz.prog 90 [v] [A] (fun r H => r = dV (leafL b) ∧ H = [A]) := by
 obtain ⟨a, c, rfl, hc⟩ := hv.2
 refine Ctr.enter Tryz.func90 (by kernel_rfl) rfl Tryz.ntmps90 rfl rfl ?_
 intro G F R hE
 refine K_regionA rfl ?_
 refine J_alloc (U := tab) rfl rfl rfl (fun _ _ _ => trivial) ?_
 intro b2
 (refine goR ?_)
 (refine K_regionA rfl ?_; refine goR ?_)
 refine J_buildSlice1 (U := tab) (cs := [.slice a b.length c]) rfl rfl rfl rfl rfl rfl rfl rfl rfl (fun _ _ _ => trivial) ?_
 intro b0
 refine J_ent (Ent.trans (Ent.pick [0, 2] rfl) (Ent.resep [_, _] _)) ?_
 ((try refine go ?_); first | refine J_callE rfl rfl rfl rfl (Tagged_ref (Sep [pts b0 (cl [.slice a b.length c] 22), A]) 0 _ [b] (LAt.row rfl rfl (fun i x hx => by cases i with | zero => (simp at hx; subst hx; exact ⟨_, rfl, hv⟩) | succ i => simp at hx)) (by simp [partsL, le8]; omega)) entA ?_ (fun _ _ _ _ _ => trivial) | refine J_call0E rfl rfl rfl (Tagged_ref (Sep [pts b0 (cl [.slice a b.length c] 22), A]) 0 _ [b] (LAt.row rfl rfl (fun i x hx => by cases i with | zero => (simp at hx; subst hx; exact ⟨_, rfl, hv⟩) | succ i => simp at hx)) (by simp [partsL, le8]; omega)) entA ?_ (fun _ _ _ _ _ => trivial))
 rintro _ _ ⟨rfl, rfl⟩
 refine J_ent (Ent.unsep _ _) ?_
 refine go ?_
 (refine K_noMarks hE ?_; apply K_returnV (U := tab) hE Tryz.func90 rfl (Ent.refl _); (repeat (first | exact ResOk.nil | apply ResOk.tmp rfl | apply ResOk.agg 0 rfl rfl rfl rfl rfl | apply ResOk.agg 1 rfl rfl rfl rfl rfl | apply ResOk.agg 2 rfl rfl rfl rfl rfl | apply ResOk.agg 3 rfl rfl rfl rfl rfl | apply ResOk.agg 4 rfl rfl rfl rfl rfl | apply ResOk.agg 5 rfl rfl rfl rfl rfl | apply ResOk.agg 6 rfl rfl rfl rfl rfl | apply ResOk.agg 7 rfl rfl rfl rfl rfl | apply ResOk.agg 8 rfl rfl rfl rfl rfl | apply ResOk.one 0 rfl rfl rfl rfl | apply ResOk.one 1 rfl rfl rfl rfl | apply ResOk.one 2 rfl rfl rfl rfl | apply ResOk.one 3 rfl rfl rfl rfl | apply ResOk.one 4 rfl rfl rfl rfl | apply ResOk.one 5 rfl rfl rfl rfl | apply ResOk.one 6 rfl rfl rfl rfl)); exact ⟨rfl, rfl⟩; exact entA)
set_option maxRecDepth 20000 in
theorem Node_ref (l r : Dg) : Ctr Tryz.prog 137 [dV l, dV r] [] (fun x H => x = dV (nodeL l r) ∧ H = []) := by
 unfold dV
 refine Ctr.enter Tryz.func137 (by kernel_rfl) rfl Tryz.ntmps137 rfl rfl ?_
 intro G F R hE
 refine K_regionA rfl ?_
 refine J_box rfl rfl (fun _ _ _ => trivial) ?_
 intro b2
 refine J_box rfl rfl (fun _ _ _ => trivial) ?_
 intro b3
 refine J_alloc (U := tab) rfl rfl rfl (fun _ _ _ => trivial) ?_
 intro b4
 refine go ?_
 refine K_drawA (fun w => Sat G w ([])) (.st 0 (.st 1 (.act 2 (.act 3 (.act 4 .nil))))) rfl (by kernel_rfl) (by kernel_rfl) (by kernel_rfl) (fun w hw => hw.ent entA) ?_
 refine go ?_
 refine J_sliceArr (U := tab) rfl rfl rfl rfl rfl ?_
 refine go ?_
 refine J_sliceArr (U := tab) rfl rfl rfl rfl rfl ?_
 refine J_buildSlice1 (U := tab) (cs := [.slice (some ⟨b2, 0, none⟩) 32 32, .slice (some ⟨b3, 0, none⟩) 32 32]) rfl rfl rfl rfl rfl rfl rfl rfl rfl (fun _ _ hw => hw.ent entA) ?_
 intro b0
 refine J_ent (Ent.trans (Ent.pick [3, 2] rfl) (Ent.trans (Ent.resep [_, _] _) (Ent.trans (Ent.pick [1, 0] rfl) (Ent.resep [_, _] _)))) ?_
 have hlat : LAt (Sep [pts b0 (cl [.slice (some ⟨b2, 0, none⟩) 32 32, .slice (some ⟨b3, 0, none⟩) 32 32] 22), Sep [pts b2 (cl (dC l) 30), pts b3 (cl (dC r) 30)] ]) (.slice (some ⟨b0, 0, none⟩) 2 2) [l.bs, r.bs] := by
  refine LAt.row rfl rfl (fun i x hx => ?_)
  match i, hx with
  | 0, hx =>
   simp at hx
   subst hx
   exact ⟨_, rfl, (BAt.block l.len (dC_bV l)).mono (Sep_get (i := 0) rfl)⟩
  | 1, hx =>
   simp at hx
   subst hx
   exact ⟨_, rfl, (BAt.block r.len (dC_bV r)).mono (Sep_get (i := 1) rfl)⟩
  | i + 2, hx => simp at hx
 have htag := Tagged_ref _ 1 _ [l.bs, r.bs] hlat (by simp [partsL, le8, l.len, r.len])
 (first | refine J_callE rfl rfl rfl rfl (htag) entA ?_ (fun _ _ w hp hw => by obtain ⟨rfl, rfl⟩ := hp; exact hw.ent entA) | refine J_call0E rfl rfl rfl (htag) entA ?_ (fun _ _ w hp hw => by obtain ⟨rfl, rfl⟩ := hp; exact hw.ent entA))
 rintro _ _ ⟨rfl, rfl⟩
 refine J_ent (Ent.trans (Ent.unsep _ _) (Ent.trans (Ent.pick [1] rfl) (Ent.unsep _ _))) ?_
 refine go ?_
 (refine K_noMarks hE ?_; apply K_returnV (U := tab) hE Tryz.func137 rfl (Ent.refl _); (repeat (first | exact ResOk.nil | apply ResOk.tmp rfl | apply ResOk.agg 0 rfl rfl rfl rfl rfl | apply ResOk.agg 1 rfl rfl rfl rfl rfl | apply ResOk.agg 2 rfl rfl rfl rfl rfl | apply ResOk.agg 3 rfl rfl rfl rfl rfl | apply ResOk.agg 4 rfl rfl rfl rfl rfl | apply ResOk.agg 5 rfl rfl rfl rfl rfl | apply ResOk.agg 6 rfl rfl rfl rfl rfl | apply ResOk.agg 7 rfl rfl rfl rfl rfl | apply ResOk.agg 8 rfl rfl rfl rfl rfl | apply ResOk.one 0 rfl rfl rfl rfl | apply ResOk.one 1 rfl rfl rfl rfl | apply ResOk.one 2 rfl rfl rfl rfl | apply ResOk.one 3 rfl rfl rfl rfl | apply ResOk.one 4 rfl rfl rfl rfl | apply ResOk.one 5 rfl rfl rfl rfl | apply ResOk.one 6 rfl rfl rfl rfl)); exact ⟨rfl, rfl⟩; exact entA)
theorem dgE {l : List Dg} {i : Nat} {x : Dg} (hx : l[i]? = some x) (q : Nat) (v : Value) (hq : (dC x)[q]? = some v) : (l.flatMap dC)[i * 32 + q]? = some v := by
 rw [chunk_get dC_len hx q (by rcases Nat.lt_or_ge q 32 with h | h; exact h; rw [List.getElem?_eq_none (by rw [dC_len]; exact h)] at hq; cases hq)]
 exact hq
theorem dgNe {l : List Dg} {i : Nat} (h : i < l.length) : l.flatMap dC ≠ [] := by
 rw [← List.length_pos_iff, chunk_len dC_len]; omega
set_option maxRecDepth 20000 in
theorem above_ref (A : HP) (v : Value) (l : List Dg) (hv : Vw A v l.length (l.flatMap dC)) (hl : l.length ≤ 1000000) :
  Ctr Tryz.prog 93 [v] [A] (fun r H => H = [slc 30 32 r (aboveL l).length ((aboveL l).flatMap dC), A]) := by
 obtain ⟨a, c, rfl⟩ := hv.shape
 have hal := aboveL_len l
 refine Ctr.enter Tryz.func93 (by kernel_rfl) rfl Tryz.ntmps93 rfl rfl ?_
 intro G F R hE
 refine go ?_
 refine K_ent (slc_lift 30 32 none _) ?_
 refine K_loop (fun y : Nat × Option Addr × Nat => y.1 ≤ (l.length + 1) / 2) (fun y => (l.length + 1) / 2 - y.1)
  (fun y => [(0, .slice a l.length c), (3, .slice y.2.1 ((aboveL l).take y.1).length y.2.2), (4, .int .i64 ((2 * y.1 : Nat) : Int))])
  (fun y => slc 30 32 (.slice y.2.1 ((aboveL l).take y.1).length y.2.2) ((aboveL l).take y.1).length (((aboveL l).take y.1).flatMap dC) :: A :: F) (0, none, 0) (Nat.zero_le _) rfl (by repeat (first | exact keep_nil | refine keep_cons rfl ?_)) entA ?_
 rintro ⟨q, oa, oc⟩ hq ih
 simp only at hq
 dsimp only
 have htl : ((aboveL l).take q).length = q := by rw [List.length_take]; omega
 refine go ?_
 refine K_condP rfl rfl ?_ ?_
 ·intro hlt
  have hql : 2 * q < l.length := by omega
  obtain ⟨x, hx⟩ : ∃ x, l[2 * q]? = some x := ⟨l[2 * q], by simp⟩
  obtain ⟨b, o, cap', hsl⟩ := hv.some (dgNe hql)
  simp only [Value.slice.injEq] at hsl
  obtain ⟨rfl, _, rfl⟩ := hsl
  refine go ?_
  refine K_condP rfl rfl ?_ ?_
  ·intro hlt2
   have hql2 : 2 * q + 1 < l.length := by omega
   obtain ⟨y, hy⟩ : ∃ x, l[2 * q + 1]? = some x := ⟨l[2 * q + 1], by simp⟩
   have hab := aboveL_at hx hy
   have htk : (aboveL l).take (q + 1) = (aboveL l).take q ++ [nodeL x y] := by rw [List.take_add_one, hab]; rfl
   refine go ?_
   refine K_drawA (fun w => Sat G w ([A])) (.st 0 (.st 1 (.st 2 (.st 3 (.st 4 (.st 5 (.st 6 (.st 7 (.st 8 (.st 9 (.act 10 (.act 11 (.act 12 (.st 13 .nil)))))))))))))) rfl (by kernel_rfl) (by kernel_rfl) (by kernel_rfl) (fun w hw => hw.ent entA) ?_
   refine go ?_
   refine J_at (U := tab) (2 * q) 32 rfl rfl rfl rfl rfl rfl rfl rfl hql ?_
   refine J_isLoad ?_
   refine J_loadElemS (U := tab) (es := dC x) 0 ((2 * q) * 32) rfl rfl rfl hv rfl (dgE hx) rfl rfl rfl ?_
   refine go ?_
   refine J_at (U := tab) (2 * q + 1) 32 rfl rfl rfl rfl rfl rfl rfl rfl hql2 ?_
   refine J_isLoad ?_
   refine J_loadElemS (U := tab) (es := dC y) 0 ((2 * q + 1) * 32) rfl rfl rfl hv rfl (dgE hy) rfl rfl rfl ?_
   (first | refine J_callE rfl rfl rfl rfl ((Node_ref x y)) entA ?_ (fun _ _ w hp hw => by obtain ⟨rfl, rfl⟩ := hp; exact hw.ent entA) | refine J_call0E rfl rfl rfl ((Node_ref x y)) entA ?_ (fun _ _ w hp hw => by obtain ⟨rfl, rfl⟩ := hp; exact hw.ent entA))
   rintro _ _ ⟨rfl, rfl⟩
   refine J_buildSlice1 (U := tab) (cs := dC (nodeL x y)) rfl rfl rfl rfl rfl rfl rfl rfl rfl (fun _ _ hw => hw.ent entA) ?_
   intro row
   refine go ?_
   refine J_append (U := tab) (mm := 1) (news := dC (nodeL x y)) 1 0 rfl rfl rfl rfl rfl rfl rfl rfl rfl rfl rfl rfl (Vw.pts rfl) rfl (by rw [dC_bV]; exact bV_one _) (by rw [htl]; omega) (by show (_ + _) * 32 ≤ _; rw [htl]; omega) (fun _ => rfl) (fun _ _ hw => hw.ent entA) ?_
   intro v1
   rw [show ((aboveL l).take q).flatMap dC ++ dC (nodeL x y) = ((aboveL l).take (q + 1)).flatMap dC from by rw [htk]; simp, show ((aboveL l).take q).length + 1 = ((aboveL l).take (q + 1)).length from by rw [htk]; simp]
   (first | refine J_shape 1 rfl ?_ | refine K_shape 1 rfl ?_)
   rintro ja jc rfl
   refine go ?_
   (first | refine J_slot 4 ((.int .i64 ((2 * (q + 1) : Nat) : Int))) rfl ((congrArg (Value.int .i64) (by omega))) ?_ | refine K_slot 4 ((.int .i64 ((2 * (q + 1) : Nat) : Int))) rfl ((congrArg (Value.int .i64) (by omega))) ?_)
   refine K_again ih (q + 1, ja, jc) rfl (by simp only; omega) (by simp only; omega) (by repeat (first | exact keep_nil | refine keep_cons rfl ?_)) entA
  ·intro hge2
   have hab := aboveL_last hx (by omega)
   have htk : (aboveL l).take (q + 1) = (aboveL l).take q ++ [x] := by rw [List.take_add_one, hab]; rfl
   refine go ?_
   refine J_at (U := tab) (2 * q) 32 rfl rfl rfl rfl rfl rfl rfl rfl hql ?_
   refine J_isLoad ?_
   refine J_loadElem (U := tab) (es := dC x) 1 ((2 * q) * 32) rfl rfl rfl hv rfl (dgE hx) rfl rfl rfl ?_
   refine J_buildSlice1 (U := tab) (cs := dC x) rfl rfl rfl rfl rfl rfl rfl rfl rfl (fun _ _ _ => trivial) ?_
   intro row
   refine go ?_
   refine J_append (U := tab) (mm := 1) (news := dC x) 1 0 rfl rfl rfl rfl rfl rfl rfl rfl rfl rfl rfl rfl (Vw.pts rfl) rfl (by rw [dC_bV]; exact bV_one _) (by rw [htl]; omega) (by show (_ + _) * 32 ≤ _; rw [htl]; omega) (fun _ => rfl) (fun _ _ _ => trivial) ?_
   intro v1
   rw [show ((aboveL l).take q).flatMap dC ++ dC x = ((aboveL l).take (q + 1)).flatMap dC from by rw [htk]; simp, show ((aboveL l).take q).length + 1 = ((aboveL l).take (q + 1)).length from by rw [htk]; simp]
   (first | refine J_shape 1 rfl ?_ | refine K_shape 1 rfl ?_)
   rintro ja jc rfl
   refine go ?_
   (first | refine J_slot 4 ((.int .i64 ((2 * (q + 1) : Nat) : Int))) rfl ((congrArg (Value.int .i64) (by omega))) ?_ | refine K_slot 4 ((.int .i64 ((2 * (q + 1) : Nat) : Int))) rfl ((congrArg (Value.int .i64) (by omega))) ?_)
   refine K_again ih (q + 1, ja, jc) rfl (by simp only; omega) (by simp only; omega) (by repeat (first | exact keep_nil | refine keep_cons rfl ?_)) entA
 intro hge
 have hqe : (aboveL l).take q = aboveL l := by rw [List.take_of_length_le]; omega
 rw [hqe]
 refine go ?_
 (first | refine K_return hE Tryz.func93 rfl _ rfl rfl entA | refine K_fallEnd hE Tryz.func93 rfl _ rfl rfl entA)
set_option maxRecDepth 20000 in
theorem Root_ref (A : HP) (v : Value) (l0 : List Dg) (hv : Vw A v l0.length (l0.flatMap dC)) (hl0 : l0.length ≤ 1000000) (hne : l0 ≠ []) : Ctr Tryz.prog 42 [v] [A] (fun r H => r = dV (rootL l0) ∧ H = [A]) := by
  obtain ⟨a, c, rfl⟩ := hv.shape
  have hpos : 0 < l0.length := List.length_pos_iff.2 hne
  refine Ctr.enter Tryz.func42 (by kernel_rfl) rfl Tryz.ntmps42 rfl rfl ?_
  intro G F R hE
  refine K_regionA rfl ?_
  refine J_alloc (U := tab) rfl rfl rfl (fun _ _ _ => trivial) ?_
  intro b2
  refine go ?_
  refine K_condP rfl rfl ?_ ?_
  · intro h0; exfalso; omega
  intro _
  refine go ?_
  refine K_loop (fun y : Nat × HP × Option Addr × Nat => (∀ i, i < y.1 → 1 < (rowN i l0).length) ∧ Vw y.2.1 (.slice y.2.2.1 (rowN y.1 l0).length y.2.2.2) (rowN y.1 l0).length ((rowN y.1 l0).flatMap dC) ∧ ∀ h, y.2.1 h → ∃ h', sub h' h ∧ A h') (fun y => (rowN y.1 l0).length)
    (fun y => [(2, ptr b2), (3, .slice y.2.2.1 (rowN y.1 l0).length y.2.2.2)])
    (fun y => y.2.1 :: pts b2 (cl (dC Dg.zero) 30) :: F) (0, A, a, c) ⟨fun i h => by omega, hv, fun h hA => ⟨h, sub.refl h, hA⟩⟩ rfl (by repeat (first | exact keep_nil | refine keep_cons rfl ?_)) entA ?_
  rintro ⟨j, X, xa, xc⟩ ⟨hI, hX, hXA⟩ ih
  simp only at hI hX hXA
  dsimp only
  have hle := rowN_le l0 j
  refine go ?_
  refine K_condP rfl rfl ?_ ?_
  · intro hgt
    have hgt' : 1 < (rowN j l0).length := by omega
    have hnx : rowN (j + 1) l0 = aboveL (rowN j l0) := rfl
    have hab := aboveL_len (rowN j l0)
    have habv := above_ref X _ _ hX (by omega)
    rw [← hnx] at habv hab
    refine go ?_
    ((try refine go ?_); first | refine J_callE rfl rfl rfl rfl (habv) entA ?_ (fun _ _ _ _ _ => trivial) | refine J_call0E rfl rfl rfl (habv) entA ?_ (fun _ _ _ _ _ => trivial))
    rintro r _ rfl
    (first | refine J_shape 0 rfl ?_ | refine K_shape 0 rfl ?_)
    rintro ra rc rfl
    refine J_slcSep fun hvw => ?_
    refine go ?_
    refine K_again ih (j + 1, Sep [slc 30 32 (.slice ra (rowN (j + 1) l0).length rc) (rowN (j + 1) l0).length ((rowN (j + 1) l0).flatMap dC), X], ra, rc) rfl ⟨fun i hi => by
      rcases Nat.lt_or_ge i j with h | h
      · exact hI i h
      · rw [show i = j from by simp only at hi; omega]; exact hgt', hvw.mono (Sep_get (i := 0) rfl), fun h hs => by
      obtain ⟨h1, s1, hx1⟩ := Sep_get (H := [slc 30 32 (.slice ra (rowN (j + 1) l0).length rc) (rowN (j + 1) l0).length ((rowN (j + 1) l0).flatMap dC), X]) (i := 1) rfl h hs
      obtain ⟨h2, s2, hx2⟩ := hXA h1 hx1
      exact ⟨h2, s2.trans s1, hx2⟩⟩ (by simp only; omega) (by repeat (first | exact keep_nil | refine keep_cons rfl ?_)) entA
  intro hle1
  have hpj := rowN_pos l0 hpos j
  obtain ⟨x, hx⟩ : ∃ x, rowN j l0 = [x] := by
    match h : rowN j l0, hpj, (show (rowN j l0).length ≤ 1 by omega) with
    | [x], _, _ => exact ⟨x, rfl⟩
  have hroot := root_row hne hI hx
  rw [hroot] at hE
  rw [hx] at hX ⊢
  obtain ⟨b, o, cap', hsl⟩ := hX.some (by simp [dC])
  simp only [Value.slice.injEq] at hsl
  obtain ⟨rfl, _, rfl⟩ := hsl
  refine go ?_
  refine J_at (U := tab) 0 32 rfl rfl rfl rfl rfl rfl rfl rfl (by simp) ?_
  refine J_isLoad ?_
  refine J_loadElem (U := tab) (es := dC x) 0 (0 * 32) rfl rfl rfl hX rfl (dgE (l := [x]) rfl) rfl rfl rfl ?_
  (refine J_isStore ?_; first | refine J_store (U := tab) 0 (fun _ _ => trivial) rfl rfl rfl rfl rfl rfl rfl rfl rfl ?_ | refine J_store (U := tab) 1 (fun _ _ => trivial) rfl rfl rfl rfl rfl rfl rfl rfl rfl ?_ | refine J_store (U := tab) 2 (fun _ _ => trivial) rfl rfl rfl rfl rfl rfl rfl rfl rfl ?_ | refine J_store (U := tab) 3 (fun _ _ => trivial) rfl rfl rfl rfl rfl rfl rfl rfl rfl ?_ | refine J_store (U := tab) 4 (fun _ _ => trivial) rfl rfl rfl rfl rfl rfl rfl rfl rfl ?_ | refine J_store (U := tab) 5 (fun _ _ => trivial) rfl rfl rfl rfl rfl rfl rfl rfl rfl ?_ | refine J_store (U := tab) 6 (fun _ _ => trivial) rfl rfl rfl rfl rfl rfl rfl rfl rfl ?_ | refine J_store (U := tab) 7 (fun _ _ => trivial) rfl rfl rfl rfl rfl rfl rfl rfl rfl ?_ | refine J_store (U := tab) 8 (fun _ _ => trivial) rfl rfl rfl rfl rfl rfl rfl rfl rfl ?_)
  refine go ?_
  refine K_ent (Ent.head (B := [A]) fun h hs => by obtain ⟨h', s1, hx1⟩ := hXA h hs; exact ⟨h', s1, Sep_one' hx1⟩) ?_
  (refine K_noMarks hE ?_; apply K_returnV (U := tab) hE Tryz.func42 rfl (Ent.refl _); (repeat (first | exact ResOk.nil | apply ResOk.tmp rfl | apply ResOk.agg 0 rfl rfl rfl rfl rfl | apply ResOk.agg 1 rfl rfl rfl rfl rfl | apply ResOk.agg 2 rfl rfl rfl rfl rfl | apply ResOk.agg 3 rfl rfl rfl rfl rfl | apply ResOk.agg 4 rfl rfl rfl rfl rfl | apply ResOk.agg 5 rfl rfl rfl rfl rfl | apply ResOk.agg 6 rfl rfl rfl rfl rfl | apply ResOk.agg 7 rfl rfl rfl rfl rfl | apply ResOk.agg 8 rfl rfl rfl rfl rfl | apply ResOk.one 0 rfl rfl rfl rfl | apply ResOk.one 1 rfl rfl rfl rfl | apply ResOk.one 2 rfl rfl rfl rfl | apply ResOk.one 3 rfl rfl rfl rfl | apply ResOk.one 4 rfl rfl rfl rfl | apply ResOk.one 5 rfl rfl rfl rfl | apply ResOk.one 6 rfl rfl rfl rfl)); exact ⟨rfl, rfl⟩; exact entA)
end Go.Proofs.YtpecmnaikjbanaaGreatDoor
/- The reference's manifest, part 1: which blobs are right, where pieces begin, leaves, blobs. -/
namespace Go.Proofs.YtpecmnaikjbanaaGreatDoor
open Go Go.SL
attribute [local irreducible] J K Ctr Ends pts slc mapR mapI sbRow stock arrS loopP CtrY Sha.chunks Sha.chunk Sha.rounds Sha.sched sumL taggedL GI leafL
theorem quo_in {s p : Int} (hs : 1 ≤ s ∧ s ≤ 1048576) (hp : 1 ≤ p ∧ p ≤ 16384) : inK .i64 ((s + p - 1) / p) := by
 have h1 : 0 ≤ (s + p - 1) / p := Int.ediv_nonneg (by omega) (by omega)
 have h2 : (s + p - 1) / p ≤ s + p - 1 := Int.ediv_le_self _ (by omega)
 simp only [inK]; omega
theorem Right_ref (x : Bl) : Ctr Tryz.prog 58 [blV x] [] (fun r H => r = .bool (rightB x) ∧ H = []) := by
 have hF : ¬ (1 ≤ x.size ∧ x.size ≤ 1048576 ∧ 16 ≤ x.piece ∧ x.piece ≤ 16384) → Value.bool false = .bool (rightB x) := fun h => congrArg Value.bool (by unfold rightB; rw [decide_eq_false (by rintro ⟨a, b, c, e, _⟩; exact h ⟨a, b, c, e⟩)])
 have hT : (1 ≤ x.size ∧ x.size ≤ 1048576 ∧ 16 ≤ x.piece ∧ x.piece ≤ 16384) → Value.bool (decide ((x.size + x.piece - 1) / x.piece ≤ 1024)) = .bool (rightB x) := fun h => congrArg Value.bool (by unfold rightB; rw [decide_eq_decide]; exact ⟨fun g => ⟨h.1, h.2.1, h.2.2.1, h.2.2.2, g⟩, fun g => g.2.2.2.2⟩)
 unfold blV
 refine Ctr.enter Tryz.func58 (by kernel_rfl) rfl Tryz.ntmps58 rfl rfl ?_
 intro G F R hE
 refine K_regionA rfl ?_
 refine J_box rfl rfl (fun _ _ _ => trivial) ?_
 intro b1
 repeat' (first | (with_reducible intro _hh) | refine go1 ?_ | refine J_fork ?_ ?_ | refine J_gsP rfl rfl rfl rfl ?_ ?_ | refine K_condP rfl rfl ?_ ?_ | (refine J_isBin ?_; refine J_quo rfl rfl rfl (by omega) (by omega) (quo_in (by omega) (by omega)) ?_))
 all_goals (first | (first | refine K_return hE Tryz.func58 rfl _ rfl ⟨hF (by omega), rfl⟩ entA | refine K_fallEnd hE Tryz.func58 rfl _ rfl ⟨hF (by omega), rfl⟩ entA) | (first | refine K_return hE Tryz.func58 rfl _ rfl ⟨hT (by omega), rfl⟩ entA | refine K_fallEnd hE Tryz.func58 rfl _ rfl ⟨hT (by omega), rfl⟩ entA))
theorem Count_ref (x : Bl) : Ctr Tryz.prog 16 [blV x] [] (fun r H => r = .int .i64 (countB x) ∧ H = []) := by
 unfold blV
 refine Ctr.enter Tryz.func16 (by kernel_rfl) rfl Tryz.ntmps16 rfl rfl ?_
 intro G F R hE
 refine K_regionA rfl ?_
 refine J_box rfl rfl (fun _ _ _ => trivial) ?_
 intro b1
 refine go ?_
 refine J_loadArr (U := tab) 0 rfl rfl rfl rfl rfl rfl ?_
 ((try refine go ?_); first | refine J_callE rfl rfl rfl rfl (Right_ref x) entA ?_ (fun _ _ _ _ _ => trivial) | refine J_call0E rfl rfl rfl (Right_ref x) entA ?_ (fun _ _ _ _ _ => trivial))
 rintro _ _ ⟨rfl, rfl⟩
 cases hr : rightB x with
 | false =>
  have hc : countB x = 0 := by unfold countB; rw [if_neg (by rw [hr]; simp)]
  rw [hc] at hE
  refine go ?_
  (first | refine K_return hE Tryz.func16 rfl _ rfl ⟨rfl, rfl⟩ entA | refine K_fallEnd hE Tryz.func16 rfl _ rfl ⟨rfl, rfl⟩ entA)
 | true =>
  have hc : countB x = (x.size + x.piece - 1) / x.piece := by unfold countB; rw [if_pos hr]
  rw [hc] at hE
  simp only [rightB, decide_eq_true_eq] at hr
  refine go ?_
  refine J_quo rfl rfl rfl (by omega) (by omega) (quo_in (by omega) (by omega)) ?_
  refine go ?_
  (first | refine K_return hE Tryz.func16 rfl _ rfl ⟨rfl, rfl⟩ entA | refine K_fallEnd hE Tryz.func16 rfl _ rfl ⟨rfl, rfl⟩ entA)
theorem guDg : Tryz.prog.eqGuardType Tryz.prog.depth 30 = false := by kernel_rfl
theorem eqDg (a b : Dg) (w : World) : (Op.equal 30 (.agg (dC a).toArray) (.agg (dC b).toArray)).run Tryz.prog w = .ok (decide (a = b)) w :=
 run_equalD Tryz.underlying30 Tryz.underlying5 blU8 a b 9998 w
set_option maxRecDepth 20000 in
theorem Leaves_ref (A : HP) (v : Value) (b : List UInt8) (hv : BAt A v b) (hl : b.length ≤ 900000000) (k : Int) :
  Ctr Tryz.prog 40 [v, .int .i64 k] [A] (fun r H => (leavesB b k = none ∧ r = .tuple #[.slice none 0 0, .int .i64 1] ∧ H = [A]) ∨ ∃ ls rv, leavesB b k = some ls ∧ r = .tuple #[rv, .int .i64 0] ∧ H = [slc 30 32 rv ls.length (ls.flatMap dC), A]) := by
 obtain ⟨a, c, rfl, hc⟩ := hv.2
 refine Ctr.enter Tryz.func40 (by kernel_rfl) rfl Tryz.ntmps40 rfl rfl ?_
 intro G F R hE
 refine go ?_
 ((try refine go ?_); first | refine J_callE rfl rfl rfl rfl (Count_ref ⟨Dg.zero, b.length, k, Dg.zero⟩) entA ?_ (fun _ _ _ _ _ => trivial) | refine J_call0E rfl rfl rfl (Count_ref ⟨Dg.zero, b.length, k, Dg.zero⟩) entA ?_ (fun _ _ _ _ _ => trivial))
 rintro _ _ ⟨rfl, rfl⟩
 cases hr : rightB ⟨Dg.zero, b.length, k, Dg.zero⟩ with
 | false =>
  have hn : leavesB b k = none := by unfold leavesB; rw [if_neg (by rw [hr]; simp)]
  have hc0 : countB ⟨Dg.zero, b.length, k, Dg.zero⟩ = 0 := by unfold countB; rw [if_neg (by rw [hr]; simp)]
  rw [hc0]
  refine go ?_
  (first | refine K_return hE Tryz.func40 rfl _ rfl (.inl ⟨hn, rfl, rfl⟩) entA | refine K_fallEnd hE Tryz.func40 rfl _ rfl (.inl ⟨hn, rfl, rfl⟩) entA)
 | true =>
  have hs : leavesB b k = some ((piecesL k.toNat b.length b).map leafL) := by unfold leavesB; rw [if_pos hr]
  have hcr : countB ⟨Dg.zero, b.length, k, Dg.zero⟩ = ((b.length : Int) + k - 1) / k := by unfold countB; rw [if_pos hr]
  have hln := leavesB_len hs
  simp only [rightB, decide_eq_true_eq] at hr
  obtain ⟨k, rfl⟩ : ∃ m : Nat, k = m := ⟨k.toNat, by omega⟩
  rw [Int.toNat_natCast] at hs hln
  have hpl := piecesL_len k (show 0 < k by omega) b
  have hpg := piecesL_get k (show 0 < k by omega) b.length b
  rw [hcr, show ((b.length : Int) + (k : Int) - 1) / (k : Int) = (((piecesL k b.length b).length : Nat) : Int) from by rw [hpl, Int.natCast_ediv]; congr 1; omega]
  rw [List.length_map] at hln
  obtain ⟨ps, hps⟩ : ∃ ps, ps = piecesL k b.length b := ⟨_, rfl⟩
  rw [← hps] at hs hln hpl hpg ⊢
  refine go ?_
  refine K_condP rfl rfl ?_ ?_
  ·intro h; exfalso; omega
  intro _
  refine go ?_
  refine K_ent (slc_lift 30 32 none _) ?_
  refine K_loop (fun y : Nat × Option Addr × Nat => y.1 ≤ ps.length) (fun y => ps.length - y.1)
   (fun y => [(0, .slice a b.length c), (1, .int .i64 (k : Int)), (6, .int .i64 (ps.length : Int)), (7, .slice y.2.1 ((ps.take y.1).map leafL).length y.2.2), (8, .int .i64 (y.1 : Int))])
   (fun y => slc 30 32 (.slice y.2.1 ((ps.take y.1).map leafL).length y.2.2) ((ps.take y.1).map leafL).length (((ps.take y.1).map leafL).flatMap dC) :: A :: F) (0, none, 0) (Nat.zero_le _) rfl (by repeat (first | exact keep_nil | refine keep_cons rfl ?_)) entA ?_
  rintro ⟨i, oa, oc⟩ hi ih
  simp only at hi
  dsimp only
  have htl : ((ps.take i).map leafL).length = i := by rw [List.length_map, List.length_take]; omega
  refine go ?_
  refine K_condP rfl rfl ?_ ?_
  ·intro hlt
   have hi' : i < ps.length := by omega
   obtain ⟨p, hp⟩ : ∃ p, ps[i]? = some p := ⟨ps[i], by simp⟩
   have hpi := hpg i (Nat.le_refl _)
   rw [hp] at hpi
   have hik : i * k < b.length := by
    rcases Nat.lt_or_ge (i * k) b.length with h | h
    ·exact h
    ·rw [if_neg (by omega)] at hpi; cases hpi
   rw [if_pos hik] at hpi
   have hpe : p = (b.drop (i * k)).take k := Option.some.inj hpi
   have hplen : p.length = min k (b.length - i * k) := by rw [hpe, List.length_take, List.length_drop]
   have hik1 : (i + 1) * k = i * k + k := by rw [Nat.add_mul, Nat.one_mul]
   have hcast : (i : Int) * (k : Int) = ((i * k : Nat) : Int) := (Int.natCast_mul i k).symm
   have hcast1 : ((i : Int) + 1) * (k : Int) = ((i * k : Nat) : Int) + k := by rw [Int.add_mul, Int.one_mul, hcast]
   obtain ⟨ik, hike⟩ : ∃ ik, ik = i * k := ⟨_, rfl⟩
   rw [← hike] at hik hpe hplen hcast hcast1
   have hbp := hv.piece ik (ik + p.length) (by omega) (by omega)
   rw [show ik + p.length - ik = p.length from by omega] at hbp
   have hpe2 : (b.drop ik).take p.length = p := by
    rw [hplen, hpe, List.take_eq_take_iff, List.length_drop]; omega
   rw [hpe2] at hbp
   have htk : (ps.take (i + 1)).map leafL = (ps.take i).map leafL ++ [leafL p] := by rw [List.take_add_one, hp]; simp
   refine go ?_
   refine J_mul rfl rfl rfl (by rw [hcast]; simp only [inK]; omega) ?_
   rw [hcast]
   refine go ?_
   refine J_mul rfl rfl rfl (by rw [hcast1]; simp only [inK]; omega) ?_
   rw [hcast1]
   refine go ?_
   have hmin : min (b.length : Int) (((ik : Nat) : Int) + (k : Int)) = ((ik + p.length : Nat) : Int) := by rw [hplen]; omega
   refine J_sliceAny (U := tab) (p := ((ik : Nat) : Int)) (q := min (b.length : Int) (((ik : Nat) : Int) + (k : Int))) rfl rfl rfl rfl rfl rfl rfl (by omega) (by omega) (.inr (by omega)) ?_
   (first | refine J_slot 33 ((.slice (sliceAt a c ik 1) p.length (c - ik))) rfl ((by rw [hmin, Int.toNat_natCast, Int.toNat_natCast, show ik + p.length - ik = p.length from by omega]; rfl)) ?_ | refine K_slot 33 ((.slice (sliceAt a c ik 1) p.length (c - ik))) rfl ((by rw [hmin, Int.toNat_natCast, Int.toNat_natCast, show ik + p.length - ik = p.length from by omega]; rfl)) ?_)
   ((try refine go ?_); first | refine J_callE rfl rfl rfl rfl (Leaf_ref A _ p hbp (by omega)) entA ?_ (fun _ _ _ _ _ => trivial) | refine J_call0E rfl rfl rfl (Leaf_ref A _ p hbp (by omega)) entA ?_ (fun _ _ _ _ _ => trivial))
   rintro _ _ ⟨rfl, rfl⟩
   refine J_buildSlice1 (U := tab) (cs := dC (leafL p)) rfl rfl rfl rfl rfl rfl rfl rfl rfl (fun _ _ _ => trivial) ?_
   intro row
   refine J_append (U := tab) (mm := 1) (news := dC (leafL p)) 2 0 rfl rfl rfl rfl rfl rfl rfl rfl rfl rfl rfl rfl (Vw.pts rfl) rfl (by rw [dC_bV]; exact bV_one _) (by rw [htl]; omega) (by show (_ + _) * 32 ≤ _; rw [htl]; omega) (fun _ => rfl) (fun _ _ _ => trivial) ?_
   intro v1
   rw [show ((ps.take i).map leafL).flatMap dC ++ dC (leafL p) = ((ps.take (i + 1)).map leafL).flatMap dC from by rw [htk]; simp, show ((ps.take i).map leafL).length + 1 = ((ps.take (i + 1)).map leafL).length from by rw [htk]; simp]
   (first | refine J_shape 2 rfl ?_ | refine K_shape 2 rfl ?_)
   rintro ja jc rfl
   refine go ?_
   refine K_again ih (i + 1, ja, jc) rfl (by simp only; omega) (by simp only; omega) (by repeat (first | exact keep_nil | refine keep_cons rfl ?_)) entA
  ·intro hge
   have hie : i = ps.length := by omega
   subst hie
   rw [List.take_length]
   refine go ?_
   (first | refine K_return hE Tryz.func40 rfl _ rfl (.inr ⟨_, _, hs, rfl, rfl⟩) entA | refine K_fallEnd hE Tryz.func40 rfl _ rfl (.inr ⟨_, _, hs, rfl, rfl⟩) entA)
set_option maxRecDepth 20000 in
theorem Blob_ref (A : HP) (v : Value) (b : List UInt8) (hv : BAt A v b) (hl : b.length ≤ 900000000) (k : Int) :
  Ctr Tryz.prog 12 [v, .int .i64 k] [A] (fun r H => r = (match blobB b k with
   | none => .tuple #[blV Bl.zero, .int .i64 1]
   | some x => .tuple #[blV x, .int .i64 0]) ∧ H = [A]) := by
 have hvv := hv
 obtain ⟨a, c, rfl, hc⟩ := hv.2
 refine Ctr.enter Tryz.func12 (by kernel_rfl) rfl Tryz.ntmps12 rfl rfl ?_
 intro G F R hE
 refine K_regionA rfl ?_
 refine J_alloc (U := tab) rfl rfl rfl (fun _ _ _ => trivial) ?_
 intro b4
 refine go ?_
 ((try refine go ?_); first | refine J_callE rfl rfl rfl rfl (Leaves_ref A _ b hv hl k) entA ?_ (fun _ _ _ _ _ => trivial) | refine J_call0E rfl rfl rfl (Leaves_ref A _ b hv hl k) entA ?_ (fun _ _ _ _ _ => trivial))
 rintro _ _ (⟨hn, rfl, rfl⟩ | ⟨ls, rv, hs, rfl, rfl⟩)
 ·have hb : blobB b k = none := by unfold blobB; rw [hn]; rfl
  rw [hb] at hE
  refine go ?_
  (refine K_noMarks hE ?_; apply K_returnV (U := tab) hE Tryz.func12 rfl (Ent.refl _); (repeat (first | exact ResOk.nil | apply ResOk.tmp rfl | apply ResOk.agg 0 rfl rfl rfl rfl rfl | apply ResOk.agg 1 rfl rfl rfl rfl rfl | apply ResOk.agg 2 rfl rfl rfl rfl rfl | apply ResOk.agg 3 rfl rfl rfl rfl rfl | apply ResOk.agg 4 rfl rfl rfl rfl rfl | apply ResOk.agg 5 rfl rfl rfl rfl rfl | apply ResOk.agg 6 rfl rfl rfl rfl rfl | apply ResOk.agg 7 rfl rfl rfl rfl rfl | apply ResOk.agg 8 rfl rfl rfl rfl rfl | apply ResOk.one 0 rfl rfl rfl rfl | apply ResOk.one 1 rfl rfl rfl rfl | apply ResOk.one 2 rfl rfl rfl rfl | apply ResOk.one 3 rfl rfl rfl rfl | apply ResOk.one 4 rfl rfl rfl rfl | apply ResOk.one 5 rfl rfl rfl rfl | apply ResOk.one 6 rfl rfl rfl rfl)); exact ⟨rfl, rfl⟩; exact entA)
 ·have hb : blobB b k = some ⟨sumL b, b.length, k, rootL ls⟩ := by unfold blobB; rw [hs]; rfl
  rw [hb] at hE
  have hln := leavesB_len hs
  (first | refine J_shape 0 rfl ?_ | refine K_shape 0 rfl ?_)
  rintro ra rc rfl
  refine go ?_
  ((try refine go ?_); first | refine J_callE rfl rfl rfl rfl (Sum_ref A _ b hv (by omega)) entA ?_ (fun _ _ _ _ _ => trivial) | refine J_call0E rfl rfl rfl (Sum_ref A _ b hv (by omega)) entA ?_ (fun _ _ _ _ _ => trivial))
  rintro _ _ ⟨rfl, rfl⟩
  refine go ?_
  refine J_ent (Ent.pick [1, 0] rfl) ?_
  refine J_slcSep fun hvw => ?_
  ((try refine go ?_); first | refine J_callE rfl rfl rfl rfl (Root_ref _ _ ls (hvw.mono (Sep_get (i := 0) rfl)) (by omega) (by intro e; rw [e] at hln; simp at hln)) entA ?_ (fun _ _ _ _ _ => trivial) | refine J_call0E rfl rfl rfl (Root_ref _ _ ls (hvw.mono (Sep_get (i := 0) rfl)) (by omega) (by intro e; rw [e] at hln; simp at hln)) entA ?_ (fun _ _ _ _ _ => trivial))
  rintro _ _ ⟨rfl, rfl⟩
  refine J_ent (Ent.unsep _ _) ?_
  refine go ?_
  (refine K_noMarks hE ?_; apply K_returnV (U := tab) hE Tryz.func12 rfl (Ent.refl _); (repeat (first | exact ResOk.nil | apply ResOk.tmp rfl | apply ResOk.agg 0 rfl rfl rfl rfl rfl | apply ResOk.agg 1 rfl rfl rfl rfl rfl | apply ResOk.agg 2 rfl rfl rfl rfl rfl | apply ResOk.agg 3 rfl rfl rfl rfl rfl | apply ResOk.agg 4 rfl rfl rfl rfl rfl | apply ResOk.agg 5 rfl rfl rfl rfl rfl | apply ResOk.agg 6 rfl rfl rfl rfl rfl | apply ResOk.agg 7 rfl rfl rfl rfl rfl | apply ResOk.agg 8 rfl rfl rfl rfl rfl | apply ResOk.one 0 rfl rfl rfl rfl | apply ResOk.one 1 rfl rfl rfl rfl | apply ResOk.one 2 rfl rfl rfl rfl | apply ResOk.one 3 rfl rfl rfl rfl | apply ResOk.one 4 rfl rfl rfl rfl | apply ResOk.one 5 rfl rfl rfl rfl | apply ResOk.one 6 rfl rfl rfl rfl)); exact ⟨rfl, rfl⟩; exact entA)
end Go.Proofs.YtpecmnaikjbanaaGreatDoor
/- blobs, part c: what is whole, images, what is complete. -/
namespace Go.Proofs.YtpecmnaikjbanaaGreatDoor
open Go Go.SL
attribute [local irreducible] J K Ctr Ends pts slc mapR mapI sbRow stock arrS loopP CtrY Sha.chunks Sha.chunk Sha.rounds Sha.sched sumL taggedL GI leafL diskA
theorem bytesF_len {A : Ab} (h : DOk A) (nm : ByteArray) : ((bytesF A nm).getD []).length ≤ 1048576 := by
 unfold bytesF
 cases A.look nm with
 | none => simp
 | some f =>
  cases A.off with
  | true => simp
  | false => simpa using h.now f
set_option maxRecDepth 20000 in
theorem whole_any (X : HP) (hK : KAt X) (bs bd : Nat) (q : Int) (mb : Nat) (brk : Bool) (A : Ab) (d : Dg) : Ctr Tryz.prog 47 [ptr bs, dV d] [pts bs (cl (stC bd q mb brk) 92), diskA bd A, X]
  (fun r H => r = .bool (wholeF A d) ∧ H = [pts bs (cl (stC bd q mb brk) 92), diskA bd A, X]) := by
 have hf := file_any kB d (by decide)
 have hbl := @bytesF_len A
 unfold dV at hf ⊢
 refine Ctr.enter Tryz.func47 (by kernel_rfl) rfl Tryz.ntmps47 rfl rfl ?_
 intro G F R hE
 refine K_regionA rfl ?_
 refine J_box rfl rfl (fun _ _ _ => trivial) ?_
 intro b3
 refine J_diskA (bd := bd) (A := A) 2 rfl ?_
 intro hdk
 refine go ?_
 refine J_loadArr (U := tab) (l := dC d) 0 rfl rfl rfl rfl rfl rfl ?_
 ((try refine go ?_); first | refine J_callE rfl rfl rfl rfl (hf) entA ?_ (fun _ _ _ _ _ => trivial) | refine J_call0E rfl rfl rfl (hf) entA ?_ (fun _ _ _ _ _ => trivial))
 rintro _ _ ⟨rfl, rfl⟩
 ((try refine go ?_); first | refine J_callE rfl rfl rfl rfl (bytes_any bs bd q mb brk A (fileN kB d)) entA ?_ (fun _ _ _ _ _ => trivial) | refine J_call0E rfl rfl rfl (bytes_any bs bd q mb brk A (fileN kB d)) entA ?_ (fun _ _ _ _ _ => trivial))
 rintro _ _ ⟨rv, rfl, rfl⟩
 have hw : wholeF A d = match bytesF A (fileN kB d) with | none => false | some b => decide (sumL b = d) := rfl
 have hbl := bytesF_len hdk (fileN kB d)
 cases hb : bytesF A (fileN kB d) with
 | none =>
  rw [hb] at hw
  rw [hw] at hE
  refine go ?_
  refine K_drawA (fun w => Sat G w ([])) (.st 0 (.st 1 (.st 2 (.st 4 (.act 3 (.st 5 (.st 6 (.st 7 .nil)))))))) rfl (by kernel_rfl) (by kernel_rfl) (by kernel_rfl) (fun w hw => hw.ent entA) ?_
  refine go ?_
  (first | refine K_return hE Tryz.func47 rfl _ rfl ⟨rfl, rfl⟩ entA | refine K_fallEnd hE Tryz.func47 rfl _ rfl ⟨rfl, rfl⟩ entA)
 | some b =>
  rw [hb] at hw hbl
  rw [hw] at hE
  simp only [Option.getD_some, Option.isSome_some] at hbl ⊢
  refine J_slcB (bs := b) 0 rfl ?_
  intro hbb
  refine J_ent (Ent.trans (Ent.pick [0, 4] rfl) (Ent.resep [slc 5 1 rv b.length (bV b), X] _)) ?_
  have hsum := Sum_any _ (hK.mono (Sep_get (H := [slc 5 1 rv b.length (bV b), X]) (i := 1) rfl)) rv b (hbb.mono (Sep_get (i := 0) rfl)) (by omega)
  unfold dV at hsum
  refine go ?_
  refine K_drawA (fun w => Sat G w ([pts b3 (cl (dC d) 30)])) (.st 0 (.st 1 (.st 2 (.st 4 (.act 3 (.st 5 (.st 6 (.st 7 .nil)))))))) rfl (by kernel_rfl) (by kernel_rfl) (by kernel_rfl) (fun w hw => hw.ent entA) ?_
  refine go ?_
  refine J_loadArrS (U := tab) (l := dC d) 0 rfl rfl rfl rfl rfl rfl ?_
  refine go ?_
  (first | refine J_callE rfl rfl rfl rfl (hsum) entA ?_ (fun _ _ w hp hw => by obtain ⟨rfl, rfl⟩ := hp; exact hw.ent entA) | refine J_call0E rfl rfl rfl (hsum) entA ?_ (fun _ _ w hp hw => by obtain ⟨rfl, rfl⟩ := hp; exact hw.ent entA))
  rintro _ _ ⟨rfl, rfl⟩
  refine go ?_
  refine J_eqAgg (b := decide (sumL b = d)) rfl rfl rfl guDg (fun w => eqDg (sumL b) d w) ?_
  refine go ?_
  refine K_ent (Ent.unsep _ _) ?_
  (first | refine K_return hE Tryz.func47 rfl _ rfl ⟨rfl, rfl⟩ entA | refine K_fallEnd hE Tryz.func47 rfl _ rfl ⟨rfl, rfl⟩ entA)
set_option maxRecDepth 20000 in
theorem ImageS_any (bs bd : Nat) (q : Int) (mb : Nat) (brk : Bool) (A : Ab) (d : Dg) : Ctr Tryz.prog 34 [ptr bs, dV d] [pts bs (cl (stC bd q mb brk) 92), diskA bd A]
  (fun r H => ∃ rv, r = .tuple #[imV rv, .bool (imageF A d).isSome] ∧ H = [slc 32 66 rv ((imageF A d).getD []).length (((imageF A d).getD []).flatMap blC), pts bs (cl (stC bd q mb brk) 92), diskA bd A]) := by
 have hf := file_any kI d (by decide)
 unfold dV at hf ⊢
 refine Ctr.enter Tryz.func34 (by kernel_rfl) rfl Tryz.ntmps34 rfl rfl ?_
 intro G F R hE
 refine K_regionA rfl ?_
 refine J_box rfl rfl (fun _ _ _ => trivial) ?_
 intro b3
 refine J_alloc (U := tab) rfl rfl rfl (fun _ _ _ => trivial) ?_
 intro b4
 refine J_diskA (bd := bd) (A := A) 3 rfl ?_
 intro hdk
 refine go ?_
 refine J_loadArr (U := tab) (l := dC d) 1 rfl rfl rfl rfl rfl rfl ?_
 ((try refine go ?_); first | refine J_callE rfl rfl rfl rfl (hf) entA ?_ (fun _ _ _ _ _ => trivial) | refine J_call0E rfl rfl rfl (hf) entA ?_ (fun _ _ _ _ _ => trivial))
 rintro _ _ ⟨rfl, rfl⟩
 ((try refine go ?_); first | refine J_callE rfl rfl rfl rfl (bytes_any bs bd q mb brk A (fileN kI d)) entA ?_ (fun _ _ _ _ _ => trivial) | refine J_call0E rfl rfl rfl (bytes_any bs bd q mb brk A (fileN kI d)) entA ?_ (fun _ _ _ _ _ => trivial))
 rintro _ _ ⟨rv, rfl, rfl⟩
 have hw : imageF A d = (bytesF A (fileN kI d)).bind decB := rfl
 have hbl := bytesF_len hdk (fileN kI d)
 cases hb : bytesF A (fileN kI d) with
 | none =>
  rw [hb] at hw
  rw [hw] at hE
  refine go ?_
  refine K_ent (slc_lift 32 66 none _) ?_
  (refine K_noMarks hE ?_; apply K_returnV (U := tab) hE Tryz.func34 rfl (Ent.refl _); (repeat (first | exact ResOk.nil | apply ResOk.tmp rfl | apply ResOk.agg 0 rfl rfl rfl rfl rfl | apply ResOk.agg 1 rfl rfl rfl rfl rfl | apply ResOk.agg 2 rfl rfl rfl rfl rfl | apply ResOk.agg 3 rfl rfl rfl rfl rfl | apply ResOk.agg 4 rfl rfl rfl rfl rfl | apply ResOk.agg 5 rfl rfl rfl rfl rfl | apply ResOk.agg 6 rfl rfl rfl rfl rfl | apply ResOk.agg 7 rfl rfl rfl rfl rfl | apply ResOk.agg 8 rfl rfl rfl rfl rfl | apply ResOk.one 0 rfl rfl rfl rfl | apply ResOk.one 1 rfl rfl rfl rfl | apply ResOk.one 2 rfl rfl rfl rfl | apply ResOk.one 3 rfl rfl rfl rfl | apply ResOk.one 4 rfl rfl rfl rfl | apply ResOk.one 5 rfl rfl rfl rfl | apply ResOk.one 6 rfl rfl rfl rfl)); exact ⟨_, rfl, rfl⟩; exact entA)
 | some b =>
  rw [hb] at hw hbl
  simp only [Option.getD_some, Option.isSome_some, Option.bind_some] at hbl hw ⊢
  rw [hw] at hE
  refine J_slcB (bs := b) 0 rfl ?_
  intro hbb
  refine go ?_
  ((try refine go ?_); first | refine J_callE rfl rfl rfl rfl (mDecode_any _ rv b hbb (by omega)) entA ?_ (fun _ _ _ _ _ => trivial) | refine J_call0E rfl rfl rfl (mDecode_any _ rv b hbb (by omega)) entA ?_ (fun _ _ _ _ _ => trivial))
  rintro _ _ (⟨hn, ⟨e, he, rfl⟩, rfl⟩ | ⟨l, lv, hs, rfl, rfl⟩)
  ·rw [hn] at hE
   unfold imV
   refine go ?_
   refine J_alloc (U := tab) rfl rfl rfl (fun _ _ _ => trivial) ?_
   intro b8
   refine go ?_
   refine J_loadArr (U := tab) (l := [.slice none 0 0]) 0 rfl rfl rfl rfl rfl rfl ?_
   refine go ?_
   (first | refine J_slot 27 ((.bool false)) rfl ((congrArg Value.bool (decide_eq_false he))) ?_ | refine K_slot 27 ((.bool false)) rfl ((congrArg Value.bool (decide_eq_false he))) ?_)
   refine go ?_
   (refine J_isStore ?_; first | refine J_store (U := tab) 0 (fun _ _ => trivial) rfl rfl rfl rfl rfl rfl rfl rfl rfl ?_ | refine J_store (U := tab) 1 (fun _ _ => trivial) rfl rfl rfl rfl rfl rfl rfl rfl rfl ?_ | refine J_store (U := tab) 2 (fun _ _ => trivial) rfl rfl rfl rfl rfl rfl rfl rfl rfl ?_ | refine J_store (U := tab) 3 (fun _ _ => trivial) rfl rfl rfl rfl rfl rfl rfl rfl rfl ?_ | refine J_store (U := tab) 4 (fun _ _ => trivial) rfl rfl rfl rfl rfl rfl rfl rfl rfl ?_ | refine J_store (U := tab) 5 (fun _ _ => trivial) rfl rfl rfl rfl rfl rfl rfl rfl rfl ?_ | refine J_store (U := tab) 6 (fun _ _ => trivial) rfl rfl rfl rfl rfl rfl rfl rfl rfl ?_ | refine J_store (U := tab) 7 (fun _ _ => trivial) rfl rfl rfl rfl rfl rfl rfl rfl rfl ?_ | refine J_store (U := tab) 8 (fun _ _ => trivial) rfl rfl rfl rfl rfl rfl rfl rfl rfl ?_)
   refine go ?_
   refine K_ent (slc_lift 32 66 none _) ?_
   (refine K_noMarks hE ?_; apply K_returnV (U := tab) hE Tryz.func34 rfl (Ent.refl _); (repeat (first | exact ResOk.nil | apply ResOk.tmp rfl | apply ResOk.agg 0 rfl rfl rfl rfl rfl | apply ResOk.agg 1 rfl rfl rfl rfl rfl | apply ResOk.agg 2 rfl rfl rfl rfl rfl | apply ResOk.agg 3 rfl rfl rfl rfl rfl | apply ResOk.agg 4 rfl rfl rfl rfl rfl | apply ResOk.agg 5 rfl rfl rfl rfl rfl | apply ResOk.agg 6 rfl rfl rfl rfl rfl | apply ResOk.agg 7 rfl rfl rfl rfl rfl | apply ResOk.agg 8 rfl rfl rfl rfl rfl | apply ResOk.one 0 rfl rfl rfl rfl | apply ResOk.one 1 rfl rfl rfl rfl | apply ResOk.one 2 rfl rfl rfl rfl | apply ResOk.one 3 rfl rfl rfl rfl | apply ResOk.one 4 rfl rfl rfl rfl | apply ResOk.one 5 rfl rfl rfl rfl | apply ResOk.one 6 rfl rfl rfl rfl)); exact ⟨_, rfl, rfl⟩; exact entA)
  ·rw [hs] at hE
   unfold imV
   (first | refine J_shape 0 rfl ?_ | refine K_shape 0 rfl ?_)
   rintro la lc rfl
   refine go ?_
   refine J_alloc (U := tab) rfl rfl rfl (fun _ _ _ => trivial) ?_
   intro b8
   refine go ?_
   refine J_loadArr (U := tab) (l := [.slice la l.length lc]) 0 rfl rfl rfl rfl rfl rfl ?_
   refine go ?_
   (refine J_isStore ?_; first | refine J_store (U := tab) 0 (fun _ _ => trivial) rfl rfl rfl rfl rfl rfl rfl rfl rfl ?_ | refine J_store (U := tab) 1 (fun _ _ => trivial) rfl rfl rfl rfl rfl rfl rfl rfl rfl ?_ | refine J_store (U := tab) 2 (fun _ _ => trivial) rfl rfl rfl rfl rfl rfl rfl rfl rfl ?_ | refine J_store (U := tab) 3 (fun _ _ => trivial) rfl rfl rfl rfl rfl rfl rfl rfl rfl ?_ | refine J_store (U := tab) 4 (fun _ _ => trivial) rfl rfl rfl rfl rfl rfl rfl rfl rfl ?_ | refine J_store (U := tab) 5 (fun _ _ => trivial) rfl rfl rfl rfl rfl rfl rfl rfl rfl ?_ | refine J_store (U := tab) 6 (fun _ _ => trivial) rfl rfl rfl rfl rfl rfl rfl rfl rfl ?_ | refine J_store (U := tab) 7 (fun _ _ => trivial) rfl rfl rfl rfl rfl rfl rfl rfl rfl ?_ | refine J_store (U := tab) 8 (fun _ _ => trivial) rfl rfl rfl rfl rfl rfl rfl rfl rfl ?_)
   refine go ?_
   (refine K_noMarks hE ?_; apply K_returnV (U := tab) hE Tryz.func34 rfl (Ent.refl _); (repeat (first | exact ResOk.nil | apply ResOk.tmp rfl | apply ResOk.agg 0 rfl rfl rfl rfl rfl | apply ResOk.agg 1 rfl rfl rfl rfl rfl | apply ResOk.agg 2 rfl rfl rfl rfl rfl | apply ResOk.agg 3 rfl rfl rfl rfl rfl | apply ResOk.agg 4 rfl rfl rfl rfl rfl | apply ResOk.agg 5 rfl rfl rfl rfl rfl | apply ResOk.agg 6 rfl rfl rfl rfl rfl | apply ResOk.agg 7 rfl rfl rfl rfl rfl | apply ResOk.agg 8 rfl rfl rfl rfl rfl | apply ResOk.one 0 rfl rfl rfl rfl | apply ResOk.one 1 rfl rfl rfl rfl | apply ResOk.one 2 rfl rfl rfl rfl | apply ResOk.one 3 rfl rfl rfl rfl | apply ResOk.one 4 rfl rfl rfl rfl | apply ResOk.one 5 rfl rfl rfl rfl | apply ResOk.one 6 rfl rfl rfl rfl)); exact ⟨_, rfl, rfl⟩; exact entA)
set_option maxRecDepth 20000 in
theorem compl1_any (X : HP) (hK : KAt X) (b2 bs bd : Nat) (q : Int) (mb : Nat) (brk : Bool) (A : Ab) (y : Bl) :
  Ctr Tryz.prog 95 [blV y, ptr b2] [Sep [pts b2 (cl [ptr bs] 35), pts bs (cl (stC bd q mb brk) 92), diskA bd A, X] ]
  (fun r H => r = .bool (!wholeF A y.d) ∧ H = [Sep [pts b2 (cl [ptr bs] 35), pts bs (cl (stC bd q mb brk) 92), diskA bd A, X] ]) := by
 have hw := whole_any X hK bs bd q mb brk A y.d
 unfold dV at hw
 unfold blV
 refine Ctr.enter Tryz.func95 (by kernel_rfl) rfl Tryz.ntmps95 rfl rfl ?_
 intro G F R hE
 refine K_regionA rfl ?_
 refine J_box rfl rfl (fun _ _ _ => trivial) ?_
 intro b0
 refine J_ent (Ent.trans (Ent.pick [1] rfl) (Ent.unsep [_, _, _, _] _)) ?_
 refine go ?_
 refine J_loadAgg (U := tab) 4 rfl rfl rfl rfl rfl rfl ?_
 ((try refine go ?_); first | refine J_callE rfl rfl rfl rfl (hw) entA ?_ (fun _ _ _ _ _ => trivial) | refine J_call0E rfl rfl rfl (hw) entA ?_ (fun _ _ _ _ _ => trivial))
 rintro _ _ ⟨rfl, rfl⟩
 refine go ?_
 refine K_ent (Ent.trans (Ent.pick [3, 0, 1, 2] rfl) (Ent.resep [_, _, _, _] _)) ?_
 (first | refine K_return hE Tryz.func95 rfl _ rfl ⟨rfl, rfl⟩ entA | refine K_fallEnd hE Tryz.func95 rfl _ rfl ⟨rfl, rfl⟩ entA)
theorem completeF_none {A : Ab} {d : Dg} (h : imageF A d = none) : completeF A d = false := by unfold completeF; rw [h]
theorem completeF_some {A : Ab} {d : Dg} {l : List Bl} (h : imageF A d = some l) : completeF A d = (decide (nameB l = d) && !l.any fun y => !wholeF A y.d) := by
 unfold completeF; rw [h]
 simp only
 congr 1
 rw [List.not_any_eq_all_not]
 simp
theorem imageF_ok {A : Ab} {d : Dg} {l : List Bl} (h : imageF A d = some l) : imageB l = 0 := by
 unfold imageF at h
 obtain ⟨b, _, hb⟩ := Option.bind_eq_some_iff.1 h
 exact decB_image hb
set_option maxRecDepth 20000 in
set_option maxHeartbeats 1000000 in
theorem complete_any (X : HP) (hK : KAt X) (bs bd : Nat) (q : Int) (mb : Nat) (brk : Bool) (A : Ab) (d : Dg) : Ctr Tryz.prog 50 [ptr bs, dV d] [pts bs (cl (stC bd q mb brk) 92), diskA bd A, X]
  (fun r H => r = .bool (completeF A d) ∧ H = [pts bs (cl (stC bd q mb brk) 92), diskA bd A, X]) := by
 have hi := ImageS_any bs bd q mb brk A d
 unfold dV at hi ⊢
 refine Ctr.enter Tryz.func50 (by kernel_rfl) rfl Tryz.ntmps50 rfl rfl ?_
 intro G F R hE
 refine K_regionA rfl ?_
 refine J_box rfl rfl (fun _ _ _ => trivial) ?_
 intro b2
 refine J_box rfl rfl (fun _ _ _ => trivial) ?_
 intro b3
 refine go ?_
 refine J_loadArr (U := tab) (l := dC d) 0 rfl rfl rfl rfl rfl rfl ?_
 ((try refine go ?_); first | refine J_callE rfl rfl rfl rfl (hi) entA ?_ (fun _ _ _ _ _ => trivial) | refine J_call0E rfl rfl rfl (hi) entA ?_ (fun _ _ _ _ _ => trivial))
 rintro _ _ ⟨rv, rfl, rfl⟩
 unfold imV
 (first | refine J_shape 0 rfl ?_ | refine K_shape 0 rfl ?_)
 rintro ra rc rfl
 refine go ?_
 refine J_alloc (U := tab) rfl rfl rfl (fun _ _ _ => trivial) ?_
 intro b5
 refine go ?_
 cases him : imageF A d with
 | none =>
  rw [completeF_none him] at hE
  simp only [Option.getD_none, Option.isSome_none]
  have hnm := Name_any X hK (.slice ra 0 rc) [] (Vw.nil X ra rc) (by simp)
  unfold imV at hnm
  rw [if_neg (by decide)] at hnm
  refine J_loadArr (U := tab) (l := [.slice ra 0 rc]) 0 rfl rfl rfl rfl rfl rfl ?_
  ((try refine go ?_); first | refine J_callE rfl rfl rfl rfl (hnm) entA ?_ (fun _ _ _ _ _ => trivial) | refine J_call0E rfl rfl rfl (hnm) entA ?_ (fun _ _ _ _ _ => trivial))
  rintro _ _ ⟨rfl, rfl⟩
  unfold dV
  refine go ?_
  refine J_alloc (U := tab) rfl rfl rfl (fun _ _ _ => trivial) ?_
  intro b7
  refine go ?_
  (first | refine K_return hE Tryz.func50 rfl _ rfl ⟨rfl, rfl⟩ entA | refine K_fallEnd hE Tryz.func50 rfl _ rfl ⟨rfl, rfl⟩ entA)
 | some l =>
  have hok := imageF_ok him
  have hlr := imageB_right hok
  rw [completeF_some him] at hE
  simp only [Option.getD_some, Option.isSome_some]
  refine J_slcVC 1 rfl ?_
  intro hvw hcap
  refine J_ent (H' := Sep [slc 32 66 (.slice ra l.length rc) l.length (l.flatMap blC), X] :: pts b5 (cl [.slice ra l.length rc] 55) :: pts bs (cl (stC bd q mb brk) 92) :: diskA bd A :: pts b3 (cl (dC d) 30) :: pts b2 (cl [ptr bs] 35) :: F) (Ent.trans (H2 := slc 32 66 (.slice ra l.length rc) l.length (l.flatMap blC) :: X :: pts b5 (cl [.slice ra l.length rc] 55) :: pts bs (cl (stC bd q mb brk) 92) :: diskA bd A :: pts b3 (cl (dC d) 30) :: pts b2 (cl [ptr bs] 35) :: F) entA (Ent.resep [_, _] _)) ?_
  have hnm := Name_any _ (hK.mono (Sep_get (H := [slc 32 66 (.slice ra l.length rc) l.length (l.flatMap blC), X]) (i := 1) rfl)) _ l (hvw.mono (Sep_get (i := 0) rfl)) (by omega)
  unfold imV at hnm
  rw [if_pos hok] at hnm
  refine J_loadArr (U := tab) (l := [.slice ra l.length rc]) 1 rfl rfl rfl rfl rfl rfl ?_
  ((try refine go ?_); first | refine J_callE rfl rfl rfl rfl (hnm) entA ?_ (fun _ _ _ _ _ => trivial) | refine J_call0E rfl rfl rfl (hnm) entA ?_ (fun _ _ _ _ _ => trivial))
  rintro _ _ ⟨rfl, rfl⟩
  unfold dV
  refine go ?_
  refine J_alloc (U := tab) rfl rfl rfl (fun _ _ _ => trivial) ?_
  intro b7
  refine go ?_
  refine J_loadArr (U := tab) (l := dC (nameB l)) 0 rfl rfl rfl rfl rfl rfl ?_
  refine go ?_
  refine J_loadArr (U := tab) (l := dC d) 5 rfl rfl rfl rfl rfl rfl ?_
  refine go ?_
  refine J_eqAgg (b := decide (nameB l = d)) rfl rfl rfl guDg (fun w => eqDg (nameB l) d w) ?_
  by_cases hnd : nameB l = d
  ·rw [decide_eq_true hnd] at hE ⊢
   rw [Bool.true_and] at hE
   refine go ?_
   refine J_ent (H' := slc 32 66 (.slice ra l.length rc) l.length (l.flatMap blC) :: Sep [pts b2 (cl [ptr bs] 35), pts bs (cl (stC bd q mb brk) 92), diskA bd A, X] :: F) (Ent.trans (Ent.trans (Ent.pick [1] rfl) (Ent.unsep [_, _] _)) (Ent.trans (H2 := pts b2 (cl [ptr bs] 35) :: pts bs (cl (stC bd q mb brk) 92) :: diskA bd A :: X :: slc 32 66 (.slice ra l.length rc) l.length (l.flatMap blC) :: F) entA (Ent.trans (Ent.resep [_, _, _, _] _) entA))) ?_
   ((try refine go ?_); first | refine J_callE rfl rfl rfl rfl (ContainsFunc_bl _ (Sep [pts b2 (cl [ptr bs] 35), pts bs (cl (stC bd q mb brk) 92), diskA bd A, X]) _ l hvw (by omega) 95 [ptr b2] (fun y => !wholeF A y.d) (fun y _ => compl1_any X hK b2 bs bd q mb brk A y)) entA ?_ (fun _ _ _ _ _ => trivial) | refine J_call0E rfl rfl rfl (ContainsFunc_bl _ (Sep [pts b2 (cl [ptr bs] 35), pts bs (cl (stC bd q mb brk) 92), diskA bd A, X]) _ l hvw (by omega) 95 [ptr b2] (fun y => !wholeF A y.d) (fun y _ => compl1_any X hK b2 bs bd q mb brk A y)) entA ?_ (fun _ _ _ _ _ => trivial))
   rintro _ _ ⟨rfl, rfl⟩
   refine go ?_
   refine K_ent (Ent.trans (Ent.pick [1] rfl) (Ent.unsep [_, _, _, _] _)) ?_
   (first | refine K_return hE Tryz.func50 rfl _ rfl ⟨rfl, rfl⟩ entA | refine K_fallEnd hE Tryz.func50 rfl _ rfl ⟨rfl, rfl⟩ entA)
  ·rw [decide_eq_false hnd] at hE ⊢
   rw [Bool.false_and] at hE
   refine go ?_
   refine K_ent (Ent.trans (Ent.pick [1] rfl) (Ent.unsep [_, _] _)) ?_
   (first | refine K_return hE Tryz.func50 rfl _ rfl ⟨rfl, rfl⟩ entA | refine K_fallEnd hE Tryz.func50 rfl _ rfl ⟨rfl, rfl⟩ entA)
def RightC (g : FuncId) (fi : List Value) (Y : Ab → HP) (right : Ab → Dg → Bool) : Prop := ∀ (A : Ab) (d : Dg), Ctr Tryz.prog g (fi ++ [dV d]) [Y A] (fun r H => r = .bool (right A d) ∧ H = [Y A])
end Go.Proofs.YtpecmnaikjbanaaGreatDoor
/- blobs: all. -/
namespace Go.Proofs.YtpecmnaikjbanaaGreatDoor
open Go Go.SL
attribute [local irreducible] J K Ctr Ends pts slc mapR mapI sbRow stock arrS loopP CtrY
theorem all_any {σ : Type} (I : σ → HP) (V : HP) (v : Value) (fvs : List Value) (hv : Vw V v fvs.length fvs) (hn : fvs.length ≤ 1000000000) (ss : List (σ → Nat → σ → Prop)) (hlen : ss.length = fvs.length) (Q : Nat → σ → Prop)
  (hst : ∀ (i : Nat) (fv : Value) (s : σ → Nat → σ → Prop), fvs[i]? = some fv → ss[i]? = some s → ∃ g fi cap, fv = .func (.func g) fi cap ∧ ∀ x, Q i x → Ctr Tryz.prog g (fi.toList ++ cap.toList) [I x] (fun r H => ∃ (e : Nat) (x' : σ), r = .int .i64 (e : Int) ∧ H = [I x'] ∧ s x e x' ∧ (e = 0 → Q (i + 1) x')))
  (x0 : σ) (hQ : Q 0 x0) :
  Ctr Tryz.prog 44 [v] [V, I x0] (fun r H => ∃ (e : Nat) (x' : σ), r = .int .i64 (e : Int) ∧ H = [V, I x'] ∧ Runs ss x0 e x' ∧ (e = 0 → Q fvs.length x')) := by
 obtain ⟨a, c, rfl⟩ := hv.shape
 refine Ctr.enter Tryz.func44 (by kernel_rfl) rfl Tryz.ntmps44 rfl rfl ?_
 intro G F R hE
 refine go ?_
 refine K_loop (fun y : Nat × σ => y.1 ≤ fvs.length ∧ Q y.1 y.2 ∧ ∀ e x', Runs (ss.drop y.1) y.2 e x' → Runs ss x0 e x') (fun y => fvs.length - y.1)
  (fun y => [(0, .slice a fvs.length c), (6, .slice a fvs.length c), (7, .int .i64 (fvs.length : Int)), (8, .int .i64 (y.1 : Int))])
  (fun y => V :: I y.2 :: F) (0, x0) ⟨Nat.zero_le _, hQ, fun _ _ h => h⟩ rfl (by repeat (first | exact keep_nil | refine keep_cons rfl ?_)) entA ?_
 rintro ⟨i, x⟩ ⟨hi, hq, hr⟩ ih
 simp only at hi hq hr
 refine go ?_
 refine K_condP rfl rfl ?_ ?_
 ·intro hlt
  simp only at hlt
  have hil : i < fvs.length := by omega
  obtain ⟨fv, hfv⟩ : ∃ fv, fvs[i]? = some fv := ⟨fvs[i], List.getElem?_eq_getElem hil⟩
  obtain ⟨s, hs⟩ : ∃ s, ss[i]? = some s := ⟨ss[i], List.getElem?_eq_getElem (by omega)⟩
  obtain ⟨g, fi, cap, rfl, hc⟩ := hst i fv s hfv hs
  have hdrop : ss.drop i = s :: ss.drop (i + 1) := by
   rw [List.drop_eq_getElem_cons (by omega)]
   congr 1
   have := List.getElem?_eq_some_iff.1 hs
   exact this.2
  obtain ⟨b0, o0, c0, he0⟩ := hv.some (by intro h; rw [h] at hil; simp at hil)
  simp only [Value.slice.injEq] at he0
  obtain ⟨rfl, -, rfl⟩ := he0
  refine go ?_
  refine J_at1 (U := tab) i rfl rfl rfl rfl rfl rfl rfl rfl hil ?_
  refine J_loadAt (U := tab) 0 i rfl rfl rfl hv rfl hfv rfl rfl ?_
  refine go ?_
  refine J_callF rfl rfl rfl (by simp) (hc x hq) entA ?_ (fun _ _ _ _ _ => trivial)
  rintro _ _ ⟨e, x', rfl, rfl, hsx, hq'⟩
  refine go ?_
  refine K_condP rfl rfl ?_ ?_
  ·intro hne
   have he : e ≠ 0 := by omega
   refine go ?_
   (first | refine K_return hE Tryz.func44 rfl _ rfl ⟨e, x', rfl, rfl, hr e x' (by rw [hdrop]; exact ⟨e, x', hsx, .inl ⟨he, rfl, rfl⟩⟩), fun h => absurd h he⟩ entA | refine K_fallEnd hE Tryz.func44 rfl _ rfl ⟨e, x', rfl, rfl, hr e x' (by rw [hdrop]; exact ⟨e, x', hsx, .inl ⟨he, rfl, rfl⟩⟩), fun h => absurd h he⟩ entA)
  ·intro heq
   have he : e = 0 := by omega
   refine go ?_
   refine K_again ih (i + 1, x') rfl (⟨by simp only; omega, hq' he, fun e2 x2 h2 => hr e2 x2 (by rw [hdrop]; exact ⟨e, x', hsx, .inr ⟨he, h2⟩⟩)⟩) (by simp only; omega) (by repeat (first | exact keep_nil | refine keep_cons rfl ?_)) entA
 ·intro hge
  simp only at hge
  have hi' : i = fvs.length := by omega
  subst hi'
  refine go ?_
  (first | refine K_return hE Tryz.func44 rfl _ rfl ⟨0, x, rfl, rfl, hr 0 x (by rw [List.drop_eq_nil_of_le (by omega)]; exact ⟨rfl, rfl⟩), fun _ => hq⟩ entA | refine K_fallEnd hE Tryz.func44 rfl _ rfl ⟨0, x, rfl, rfl, hr 0 x (by rw [List.drop_eq_nil_of_le (by omega)]; exact ⟨rfl, rfl⟩), fun _ => hq⟩ entA)
end Go.Proofs.YtpecmnaikjbanaaGreatDoor
/- blobs, part d: files of a kind that are not right are taken away; Open. -/
namespace Go.Proofs.YtpecmnaikjbanaaGreatDoor
open Go Go.SL
attribute [local irreducible] J K Ctr Ends pts slc mapR mapI sbRow stock arrS loopP CtrY Sha.chunks Sha.chunk Sha.rounds Sha.sched sumL taggedL GI leafL
theorem Names_dB (bd : Nat) (A : Ab) : Ctr Tryz.prog 30 [ptr bd] [diskA bd A] (fun r H => H = [slc 9 1 r (namesF A).length ((namesF A).map Value.string), diskA bd A]) := by
 have hl : (namesF A).length = (keysA A).length := by unfold namesF; rw [List.length_map, sortB_len]
 have hm : (namesF A).map Value.string = nS (sortB (keysA A)) := by unfold namesF nS; rw [List.map_map]; rfl
 rw [hl, hm]
 exact ctr_disk (Post := fun v H => ∃ D, Rel D A ∧ H = [slc 9 1 v (keysA A).length (nS (sortB (keysA A))), disk bd D]) (by kernel_rfl) (fun D hR => (Names_any bd D A hR).post (fun v H h => ⟨D, hR, h⟩)) (by rintro v H ⟨D', hR, rfl⟩; exact ⟨_, rfl, Ent.cons _ (diskA_in hR [])⟩)
attribute [local irreducible] diskA
theorem namesF_len {A : Ab} (h : DOk A) : (namesF A).length ≤ 200 := by
 unfold namesF keysA
 rw [List.length_map, sortB_len, List.length_map]
 exact h.smallN _ (List.mem_cons_self ..)
def stX (bs bd : Nat) (q : Int) (mb : Nat) (brk : Bool) (X : HP) (A : Ab) : HP := Sep [pts bs (cl (stC bd q mb brk) 92), diskA bd A, X]
theorem grow_stRemove {A B : Ab} {nm : ByteArray} {e : Nat} (h : stRemove nm A e B) : Grow1 A B := by
 have := grow_remove A (isName nm) nm
 rw [← h] at this
 exact this
set_option maxRecDepth 20000 in
set_option maxHeartbeats 1000000 in
theorem scrub_any (bs bd : Nat) (q : Int) (mb : Nat) (brk : Bool) (X : HP) (kind : List UInt8) (hk : kind.length ≤ 1000) (g : FuncId) (fi : List Value) (right : Ab → Dg → Bool) (hr : RightC g fi (stX bs bd q mb brk X) right) (A : Ab) (hst : A.states.length ≤ 900000000) :
  Ctr Tryz.prog 46 [ptr bs, .string (strOf kind), .func (.func g) fi.toArray #[] ] [stX bs bd q mb brk X A]
  (fun r H => ∃ (e : Nat) (B : Ab), r = .int .i64 (e : Int) ∧ H = [stX bs bd q mb brk X B] ∧ stScrub kind right A e B ∧ B.states.length ≤ A.states.length + 200) := by
 refine Ctr.enter Tryz.func46 (by kernel_rfl) rfl Tryz.ntmps46 rfl rfl ?_
 intro G F R hE
 refine K_ent (Ent.unsep [_, _, _] _) ?_
 refine K_diskA (bd := bd) (A := A) 1 rfl ?_
 intro hdk
 have hn200 := namesF_len hdk
 obtain ⟨l, hl⟩ : ∃ l, l = namesF A := ⟨_, rfl⟩
 have hsd : ∀ e B, Scrub kind right l A e B → stScrub kind right A e B := fun e B h => by unfold stScrub; rw [← hl]; exact h
 refine go ?_
 have hnm := Names_dB bd A
 rw [← hl] at hnm hn200
 ((try refine go ?_); first | refine J_callE rfl rfl rfl rfl (hnm) entA ?_ (fun _ _ _ _ _ => trivial) | refine J_call0E rfl rfl rfl (hnm) entA ?_ (fun _ _ _ _ _ => trivial))
 rintro r _ rfl
 (first | refine J_shape 0 rfl ?_ | refine K_shape 0 rfl ?_)
 rintro ra rc rfl
 refine J_slcVw 0 rfl ?_
 intro hvw
 refine go ?_
 refine K_loop (fun y : Nat × Ab => y.1 ≤ l.length ∧ y.2.states.length ≤ A.states.length + y.1 ∧ ∀ e B, Scrub kind right (l.drop y.1) y.2 e B → stScrub kind right A e B) (fun y => l.length - y.1)
  (fun y => [(0, ptr bs), (1, .string (strOf kind)), (2, .func (.func g) fi.toArray #[]), (16, .slice ra l.length rc), (17, .int .i64 (l.length : Int)), (18, .int .i64 (y.1 : Int))])
  (fun y => slc 9 1 (.slice ra l.length rc) l.length (l.map Value.string) :: pts bs (cl (stC bd q mb brk) 92) :: diskA bd y.2 :: X :: F) (0, A) ⟨Nat.zero_le _, by simp, hsd⟩ rfl (by repeat (first | exact keep_nil | refine keep_cons rfl ?_)) entA ?_
 rintro ⟨i, B⟩ ⟨hi, hbs, hsc⟩ ih
 simp only at hi hbs hsc
 dsimp only
 refine go ?_
 refine K_condP rfl rfl ?_ ?_
 ·intro hlt
  have hi' : i < l.length := by omega
  obtain ⟨nm, hx⟩ : ∃ x, l[i]? = some x := ⟨l[i], by simp⟩
  have hdrop : l.drop i = nm :: l.drop (i + 1) := by
   rw [List.drop_eq_getElem_cons hi']
   congr 1
   exact (List.getElem?_eq_some_iff.1 hx).2
  rw [hdrop] at hsc
  have hcell : (l.map Value.string)[i]? = some (.string nm) := by rw [List.getElem?_map, hx]; rfl
  obtain ⟨b, o, cap', hsl⟩ := hvw.some (by intro h; rw [h] at hcell; simp at hcell)
  simp only [Value.slice.injEq] at hsl
  obtain ⟨rfl, _, rfl⟩ := hsl
  refine go ?_
  refine J_at (U := tab) i 1 rfl rfl rfl rfl rfl rfl rfl rfl hi' ?_
  refine J_isLoad ?_
  refine J_loadAt (U := tab) 0 (i * 1) rfl rfl rfl hvw rfl (by rw [Nat.mul_one]; exact hcell) rfl rfl ?_
  refine go ?_
  ((try refine go ?_); first | refine J_callE rfl rfl rfl rfl (hash_any kind nm hk) entA ?_ (fun _ _ _ _ _ => trivial) | refine J_call0E rfl rfl rfl (hash_any kind nm hk) entA ?_ (fun _ _ _ _ _ => trivial))
  rintro _ _ ⟨rfl, rfl⟩
  cases hh : hashN kind nm with
  | none =>
   have hsc2 : ∀ e B', Scrub kind right (l.drop (i + 1)) B e B' → stScrub kind right A e B' := fun e B' h => hsc e B' (by unfold Scrub; rw [hh]; exact h)
   simp only [hashV]
   unfold dV
   refine go ?_
   refine J_alloc (U := tab) rfl rfl rfl (fun _ _ _ => trivial) ?_
   intro b9
   refine go ?_
   refine K_again ih (i + 1, B) rfl ⟨by simp only; omega, by simp only; omega, hsc2⟩ (by simp only; omega) (by repeat (first | exact keep_nil | refine keep_cons rfl ?_)) entA
  | some d =>
   have hrc := hr B d
   simp only [hashV]
   unfold dV
   refine go ?_
   refine J_alloc (U := tab) rfl rfl rfl (fun _ _ _ => trivial) ?_
   intro b9
   refine go ?_
   refine J_loadArr (U := tab) (l := dC d) 0 rfl rfl rfl rfl rfl rfl ?_
   refine go ?_
   refine J_ent (Ent.trans (Ent.pick [2, 3, 4] rfl) (Ent.resep [pts bs (cl (stC bd q mb brk) 92), diskA bd B, X] _)) ?_
   refine J_callF rfl rfl rfl (by simp; rfl) hrc entA ?_ (fun _ _ _ _ _ => trivial)
   rintro _ _ ⟨rfl, rfl⟩
   refine J_ent (Ent.unsep [pts bs (cl (stC bd q mb brk) 92), diskA bd B, X] _) ?_
   cases hri : right B d with
   | true =>
    have hsc2 : ∀ e B', Scrub kind right (l.drop (i + 1)) B e B' → stScrub kind right A e B' := fun e B' h => hsc e B' (by unfold Scrub; rw [hh]; simp only; rw [if_pos hri]; exact h)
    refine go ?_
    refine K_again ih (i + 1, B) rfl ⟨by simp only; omega, by simp only; omega, hsc2⟩ (by simp only; omega) (by repeat (first | exact keep_nil | refine keep_cons rfl ?_)) entA
   | false =>
    have hrem := Remove_dA bd B nm (by omega)
    obtain ⟨e1, B1, hrb⟩ : ∃ e1 B1, B.remove (isName nm) nm = (e1, B1) := ⟨_, _, rfl⟩
    rw [hrb] at hrem
    have hgr := grow_stRemove (A := B) (B := B1) (nm := nm) (e := e1) hrb.symm
    have hsc2 : ∀ e B', ((e1 ≠ 0 ∧ e = e1 ∧ B' = B1) ∨ (e1 = 0 ∧ Scrub kind right (l.drop (i + 1)) B1 e B')) → stScrub kind right A e B' := fun e B' h => hsc e B' (by unfold Scrub; rw [hh]; simp only; rw [if_neg (by rw [hri]; simp)]; exact ⟨e1, B1, hrb.symm, h⟩)
    have hg1 := hgr.1
    refine go ?_
    ((try refine go ?_); first | refine J_callE rfl rfl rfl rfl (hrem) entA ?_ (fun _ _ _ _ _ => trivial) | refine J_call0E rfl rfl rfl (hrem) entA ?_ (fun _ _ _ _ _ => trivial))
    rintro _ _ ⟨rfl, rfl⟩
    refine go ?_
    refine K_condP rfl rfl ?_ ?_
    ·intro hne
     have hne' : e1 ≠ 0 := by simp only at hne; omega
     refine go ?_
     refine K_ent (H' := stX bs bd q mb brk X B1 :: F) (Ent.trans (H2 := pts bs (cl (stC bd q mb brk) 92) :: diskA bd B1 :: X :: F) entA (Ent.resep [pts bs (cl (stC bd q mb brk) 92), diskA bd B1, X] _)) ?_
     (first | refine K_return hE Tryz.func46 rfl _ rfl ⟨e1, B1, rfl, rfl, hsc2 e1 B1 (.inl ⟨hne', rfl, rfl⟩), by omega⟩ entA | refine K_fallEnd hE Tryz.func46 rfl _ rfl ⟨e1, B1, rfl, rfl, hsc2 e1 B1 (.inl ⟨hne', rfl, rfl⟩), by omega⟩ entA)
    ·intro heq
     have heq' : e1 = 0 := by simp only at heq; omega
     refine go ?_
     refine K_again ih (i + 1, B1) rfl ⟨by simp only; omega, by simp only; omega, fun e B' h => hsc2 e B' (.inr ⟨heq', h⟩)⟩ (by simp only; omega) (by repeat (first | exact keep_nil | refine keep_cons rfl ?_)) entA
 ·intro hge
  have hie : i = l.length := by omega
  rw [hie, List.drop_length] at hsc
  refine go ?_
  refine K_ent (H' := stX bs bd q mb brk X B :: F) (Ent.trans (H2 := pts bs (cl (stC bd q mb brk) 92) :: diskA bd B :: X :: F) entA (Ent.resep [pts bs (cl (stC bd q mb brk) 92), diskA bd B, X] _)) ?_
  (first | refine K_return hE Tryz.func46 rfl _ rfl ⟨0, B, rfl, rfl, hsc 0 B (by unfold Scrub; exact ⟨rfl, rfl⟩), by omega⟩ entA | refine K_fallEnd hE Tryz.func46 rfl _ rfl ⟨0, B, rfl, rfl, hsc 0 B (by unfold Scrub; exact ⟨rfl, rfl⟩), by omega⟩ entA)
end Go.Proofs.YtpecmnaikjbanaaGreatDoor
