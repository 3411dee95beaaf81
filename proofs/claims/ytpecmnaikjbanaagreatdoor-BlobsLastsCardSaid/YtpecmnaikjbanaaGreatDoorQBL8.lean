/- Texts of one claim, joined: Df, Dh, EngBl, Di, Te, Dj. -/
import Derived.Test.YtpecmnaikjbanaaGreatDoorQBL3
import Derived.Test.YtpecmnaikjbanaaGreatDoorQBL5
import Derived.Test.YtpecmnaikjbanaaGreatDoorQBL6
import Derived.Test.YtpecmnaikjbanaaGreatDoorQBL7
import Derived.Laws.StructEq
/- merkle: leaves, nodes, rows, the root. -/
set_option linter.unusedVariables false
set_option linter.unusedSimpArgs false
namespace Go.Proofs.YtpecmnaikjbanaaGreatDoor
open Go Go.SL
attribute [local irreducible] J K Ctr Ends pts slc mapR mapI sbRow stock arrS loopP CtrY Sha.chunks Sha.chunk Sha.rounds Sha.sched sumL taggedL
theorem BAt.block {b n : Nat} {bs : List UInt8} {l : List Value} {e : TypeId} (hn : bs.length = n) (hl : l = bV bs) : BAt (pts b (cl l e)) (.slice (some ⟨b, 0, none⟩) n n) bs := by
 subst hn hl
 exact ⟨Vw.pts (by rw [List.drop_zero, List.take_length]), _, _, rfl, Nat.le_refl _⟩
set_option maxRecDepth 20000 in
theorem Leaf_any (A : HP) (hK : KAt A) (v : Value) (b : List UInt8) (hv : BAt A v b) (hl : b.length ≤ 900000000) : Ctr Tryz.prog 191 [v] [A] (fun r H => r = dV (leafL b) ∧ H = [A]) := by
 obtain ⟨a, c, rfl, hc⟩ := hv.2
 refine Ctr.enter Tryz.func191 (by kernel_rfl) rfl Tryz.ntmps191 rfl rfl ?_
 intro G F R hE
 refine K_regionA rfl ?_
 refine J_alloc (U := tab) rfl rfl rfl (fun _ _ _ => trivial) ?_
 intro b2
 (refine goR ?_)
 (refine K_regionA rfl ?_; refine goR ?_)
 refine J_buildSlice1 (U := tab) (cs := [.slice a b.length c]) rfl rfl rfl rfl rfl rfl rfl rfl rfl (fun _ _ _ => trivial) ?_
 intro b0
 refine J_ent (Ent.trans (Ent.pick [0, 2] rfl) (Ent.resep [_, _] _)) ?_
 ((try refine go ?_); first | refine J_callE rfl rfl rfl rfl (Tagged_any (Sep [pts b0 (cl [.slice a b.length c] 22), A]) (hK.mono (Sep_get (i := 1) rfl)) 0 _ [b] (LAt.row rfl rfl (fun i x hx => by cases i with | zero => (simp at hx; subst hx; exact ⟨_, rfl, hv⟩) | succ i => simp at hx)) (by simp [partsL, le8]; omega)) entA ?_ (fun _ _ _ _ _ => trivial) | refine J_call0E rfl rfl rfl (Tagged_any (Sep [pts b0 (cl [.slice a b.length c] 22), A]) (hK.mono (Sep_get (i := 1) rfl)) 0 _ [b] (LAt.row rfl rfl (fun i x hx => by cases i with | zero => (simp at hx; subst hx; exact ⟨_, rfl, hv⟩) | succ i => simp at hx)) (by simp [partsL, le8]; omega)) entA ?_ (fun _ _ _ _ _ => trivial))
 rintro _ _ ⟨rfl, rfl⟩
 refine J_ent (Ent.unsep _ _) ?_
 refine go ?_
 (refine K_noMarks hE ?_; apply K_returnV (U := tab) hE Tryz.func191 rfl (Ent.refl _); (repeat (first | exact ResOk.nil | apply ResOk.tmp rfl | apply ResOk.agg 0 rfl rfl rfl rfl rfl | apply ResOk.agg 1 rfl rfl rfl rfl rfl | apply ResOk.agg 2 rfl rfl rfl rfl rfl | apply ResOk.agg 3 rfl rfl rfl rfl rfl | apply ResOk.agg 4 rfl rfl rfl rfl rfl | apply ResOk.agg 5 rfl rfl rfl rfl rfl | apply ResOk.agg 6 rfl rfl rfl rfl rfl | apply ResOk.agg 7 rfl rfl rfl rfl rfl | apply ResOk.agg 8 rfl rfl rfl rfl rfl | apply ResOk.one 0 rfl rfl rfl rfl | apply ResOk.one 1 rfl rfl rfl rfl | apply ResOk.one 2 rfl rfl rfl rfl | apply ResOk.one 3 rfl rfl rfl rfl | apply ResOk.one 4 rfl rfl rfl rfl | apply ResOk.one 5 rfl rfl rfl rfl | apply ResOk.one 6 rfl rfl rfl rfl)); exact ⟨rfl, rfl⟩; exact entA)
set_option maxRecDepth 20000 in
theorem Node_any (A : HP) (hK : KAt A) (l r : Dg) : Ctr Tryz.prog 194 [dV l, dV r] [A] (fun x H => x = dV (nodeL l r) ∧ H = [A]) := by
 unfold dV
 refine Ctr.enter Tryz.func194 (by kernel_rfl) rfl Tryz.ntmps194 rfl rfl ?_
 intro G F R hE
 refine K_regionA rfl ?_
 refine J_box rfl rfl (fun _ _ _ => trivial) ?_
 intro b2
 refine J_box rfl rfl (fun _ _ _ => trivial) ?_
 intro b3
 refine J_alloc (U := tab) rfl rfl rfl (fun _ _ _ => trivial) ?_
 intro b4
 refine go ?_
 refine K_drawA (fun w => Sat G w ([])) (.st 0 (.st 1 (.act 2 (.act 3 (.act 4 .nil))))) rfl (by kernel_rfl) (by kernel_rfl) (by kernel_rfl) (fun w hw => hw.ent entA) ?_
 refine go ?_
 refine J_sliceArr (U := tab) rfl rfl rfl rfl rfl ?_
 refine go ?_
 refine J_sliceArr (U := tab) rfl rfl rfl rfl rfl ?_
 refine J_buildSlice1 (U := tab) (cs := [.slice (some ⟨b2, 0, none⟩) 32 32, .slice (some ⟨b3, 0, none⟩) 32 32]) rfl rfl rfl rfl rfl rfl rfl rfl rfl (fun _ _ hw => hw.ent entA) ?_
 intro b0
 refine J_ent (Ent.trans (Ent.pick [3, 2, 4] rfl) (Ent.trans (Ent.resep [_, _, _] _) (Ent.trans (Ent.pick [1, 0] rfl) (Ent.resep [_, _] _)))) ?_
 have hlat : LAt (Sep [pts b0 (cl [.slice (some ⟨b2, 0, none⟩) 32 32, .slice (some ⟨b3, 0, none⟩) 32 32] 22), Sep [pts b2 (cl (dC l) 30), pts b3 (cl (dC r) 30), A] ]) (.slice (some ⟨b0, 0, none⟩) 2 2) [l.bs, r.bs] := by
  refine LAt.row rfl rfl (fun i x hx => ?_)
  match i, hx with
  | 0, hx =>
   simp at hx
   subst hx
   exact ⟨_, rfl, (BAt.block l.len (dC_bV l)).mono (Sep_get (i := 0) rfl)⟩
  | 1, hx =>
   simp at hx
   subst hx
   exact ⟨_, rfl, (BAt.block r.len (dC_bV r)).mono (Sep_get (i := 1) rfl)⟩
  | i + 2, hx => simp at hx
 have htag := Tagged_any _ ((hK.mono (Sep_get (H := [pts b2 (cl (dC l) 30), pts b3 (cl (dC r) 30), A]) (i := 2) rfl)).mono (Sep_get (i := 1) rfl)) 1 _ [l.bs, r.bs] hlat (by simp [partsL, le8, l.len, r.len])
 (first | refine J_callE rfl rfl rfl rfl (htag) entA ?_ (fun _ _ w hp hw => by obtain ⟨rfl, rfl⟩ := hp; exact hw.ent entA) | refine J_call0E rfl rfl rfl (htag) entA ?_ (fun _ _ w hp hw => by obtain ⟨rfl, rfl⟩ := hp; exact hw.ent entA))
 rintro _ _ ⟨rfl, rfl⟩
 refine J_ent (Ent.trans (Ent.unsep _ _) (Ent.trans (Ent.pick [1] rfl) (Ent.unsep _ _))) ?_
 refine go ?_
 refine J_isStore ?_
 refine J_storeArr (U := tab) (l' := dC (taggedL 1 [l.bs, r.bs])) 4 (fun _ _ => trivial) rfl rfl rfl rfl (by intro e; cases e) (by rw [dC_bV]; exact allOne_bV _) rfl rfl rfl ?_
 refine go ?_
 (refine K_noMarks hE ?_; apply K_returnV (U := tab) hE Tryz.func194 rfl (Ent.refl _); (repeat (first | exact ResOk.nil | apply ResOk.tmp rfl | apply ResOk.agg 0 rfl rfl rfl rfl rfl | apply ResOk.agg 1 rfl rfl rfl rfl rfl | apply ResOk.agg 2 rfl rfl rfl rfl rfl | apply ResOk.agg 3 rfl rfl rfl rfl rfl | apply ResOk.agg 4 rfl rfl rfl rfl rfl | apply ResOk.agg 5 rfl rfl rfl rfl rfl | apply ResOk.agg 6 rfl rfl rfl rfl rfl | apply ResOk.agg 7 rfl rfl rfl rfl rfl | apply ResOk.agg 8 rfl rfl rfl rfl rfl | apply ResOk.one 0 rfl rfl rfl rfl | apply ResOk.one 1 rfl rfl rfl rfl | apply ResOk.one 2 rfl rfl rfl rfl | apply ResOk.one 3 rfl rfl rfl rfl | apply ResOk.one 4 rfl rfl rfl rfl | apply ResOk.one 5 rfl rfl rfl rfl | apply ResOk.one 6 rfl rfl rfl rfl)); exact ⟨rfl, rfl⟩; exact entA)
theorem dC_one (l : List Dg) : ∀ v ∈ l.flatMap dC, v.oneCell' = true := by
 intro v hv
 obtain ⟨d, _, hd⟩ := List.mem_flatMap.1 hv
 rw [dC_bV] at hd
 exact bV_one _ v hd
theorem Clone_dg (A : HP) (v : Value) (W : List Dg) (hv : Vw A v W.length (W.flatMap dC)) (hlen : W.length ≤ 1000000) :
  Ctr Tryz.prog 193 [v] [A] (fun r H => H = [slc 30 32 r W.length (W.flatMap dC), A]) := by
 obtain ⟨a, c0, rfl⟩ := hv.shape
 cases a with
 | none =>
  have hb : W = [] := by
   obtain ⟨a, cap, h1, h2 | ⟨b, o, h2, _⟩⟩ := hv
   ·have := congrArg List.length h2
    rw [chunk_len dC_len] at this
    exact List.eq_nil_of_length_eq_zero (by simp at this; omega)
   ·simp only [Value.slice.injEq] at h1; rw [← h1.1] at h2; cases h2
  subst hb
  refine Ctr.enter Tryz.func193 (by kernel_rfl) rfl Tryz.ntmps193 rfl rfl ?_
  intro G F R hR
  refine go ?_
  refine K_ent (slc_lift 30 32 none _) ?_
  refine K_return hR Tryz.func193 rfl _ rfl rfl (Ent.fin [0, 1] 0 rfl rfl)
 | some a =>
  refine Ctr.enter Tryz.func193 (by kernel_rfl) rfl Tryz.ntmps193 rfl rfl ?_
  intro G F R hR
  refine go ?_
  refine J_buildSlice1 (U := tab) (cs := []) rfl rfl rfl rfl rfl rfl rfl rfl rfl (fun _ _ _ => trivial) ?_
  intro b0
  refine go ?_
  refine J_ent (slc_row 30 32 b0 0 0 [] [] _ rfl (Nat.le_refl _) (by simp)) ?_
  refine J_append (U := tab) (mm := W.length) (news := W.flatMap dC) 0 1 rfl rfl rfl rfl rfl rfl rfl rfl rfl rfl rfl rfl hv (by rw [chunk_len dC_len]; rfl) (dC_one W) (by omega) (by show _ * 32 ≤ _; omega) (fun _ => rfl) (fun _ _ _ => trivial) ?_
  intro v'
  have e1 : (0 : Nat) + W.length = W.length := by omega
  rw [e1, List.nil_append]
  refine go ?_
  refine K_return hR Tryz.func193 rfl _ rfl rfl (Ent.fin [0, 1] 0 rfl rfl)
theorem rows_any (a : Option Addr) (n c : Nat) : Ctr Tryz.prog 163 [.slice a n c] [] (fun r H => ∃ b, r = .func (.func 192) #[] #[ptr b] ∧ H = [pts b (cl [.slice a n c] 60)]) := by
 refine Ctr.enter Tryz.func163 (by kernel_rfl) rfl Tryz.ntmps163 rfl rfl ?_
 intro G F R hE
 refine go ?_
 refine J_box rfl rfl (fun _ _ _ => trivial) ?_
 intro bx
 refine go ?_
 (first | refine K_return hE Tryz.func163 rfl _ rfl ⟨bx, rfl, rfl⟩ entA | refine K_fallEnd hE Tryz.func163 rfl _ rfl ⟨bx, rfl, rfl⟩ entA)
theorem half_i64 (n : Nat) : (n : Int) / 2 ^ (min ((1 : Int).toNat) IntKind.i64.bits) = ((n / 2 : Nat) : Int) := by
 show (n : Int) / 2 ^ 1 = _
 omega
theorem dbl_i64 (n : Nat) (h : n < 1000000000) : IntKind.i64.wrap ((n : Int) * 2 ^ (min ((1 : Int).toNat) IntKind.i64.bits)) = ((2 * n : Nat) : Int) := by
 show IntKind.i64.wrap ((n : Int) * 2 ^ 1) = _
 rw [wrap_in (by simp only [inK]; omega)]; omega
theorem or1_i64 (n : Nat) (h : n < 1000000000) : IntKind.i64.wrap ((BitVec.ofInt IntKind.i64.bits ((2 * n : Nat) : Int) ||| BitVec.ofInt IntKind.i64.bits 1).toNat : Int) = ((2 * n + 1 : Nat) : Int) := by
 have h1 := or_disj (a := 1) (c := n) (k := 1) (by decide)
 have e1 : (BitVec.ofInt IntKind.i64.bits (1 : Int)).toNat = 1 := by decide
 rw [BitVec.toNat_or, ofNat64 (by omega), e1, Nat.or_comm, show 2 * n = n * 2 ^ 1 from by omega, h1]
 exact (wrap_in (by simp only [inK]; omega)).trans (congrArg _ (by omega))
theorem and1_i64 (n : Nat) (h : n < 1000000000) : IntKind.i64.wrap ((BitVec.ofInt IntKind.i64.bits (n : Int) &&& BitVec.ofInt IntKind.i64.bits 1).toNat : Int) = ((n % 2 : Nat) : Int) := and_mask_i64 n 1 (by omega) (by omega)
theorem sliceAt_zero {b o c m m' : Nat} (h : 0 < c) (hm : m' = m) : Value.slice (sliceAt (some ⟨b, o, none⟩) c (0 : Int).toNat 32) (((m : Nat) : Int).toNat - (0 : Int).toNat) (c - (0 : Int).toNat) = .slice (some ⟨b, o, none⟩) m' c := by
 subst hm
 unfold sliceAt
 rw [if_neg (by show ¬ (0 = c); omega)]
 simp [Addr.add]
theorem rowClose {b o c n : Nat} {pre junk : List Value} {row' W : List Dg} {e : TypeId} (hp : pre.length = o) (hn : n ≤ c) (hc : c * 32 ≤ (row'.flatMap dC).length + junk.length) (hl : (row'.flatMap dC).length = n * 32) (V : List Dg) (hV : V.length = n) (hW : W = V.take W.length) (H : List HP) :
  Ent (pts b (cl (pre ++ V.flatMap dC ++ junk) e) :: H) (slc e 32 (.slice (some ⟨b, o, none⟩) W.length c) W.length (W.flatMap dC) :: H) := by
 have h1 : V.flatMap dC = W.flatMap dC ++ (V.drop W.length).flatMap dC := by
  conv => lhs; rw [← List.take_append_drop W.length V]
  rw [List.flatMap_append, ← hW]
 have hwl : W.length ≤ n := by
  have := congrArg List.length hW
  rw [List.length_take] at this; omega
 have h2 : ((V.drop W.length).flatMap dC).length = (n - W.length) * 32 := by rw [chunk_len dC_len, List.length_drop, hV]
 have h3 := chunk_len dC_len W
 rw [h1, List.append_assoc, List.append_assoc, ← List.append_assoc]
 refine slc_closeN hp (by omega) ?_ h3 H
 rw [List.length_append, h2, h3]; omega
set_option maxRecDepth 20000 in
set_option maxHeartbeats 1000000 in
theorem rows1_any (A : HP) (hK : KAt A) (bx : Nat) (v : Value) (l0 : List Dg) (hv : Vw A v l0.length (l0.flatMap dC)) (hl0 : l0.length ≤ 1000000) (l : Nat) (Lp : HP) (Inv : Nat → HP)
  (hy : ∀ j va vc, (∀ i, i < j → 1 < (rowN i l0).length) → CtrY Tryz.prog l [.slice va (rowN j l0).length vc] [Lp, Inv j, slc 30 32 (.slice va (rowN j l0).length vc) (rowN j l0).length ((rowN j l0).flatMap dC)] (fun r H => r = .bool true ∧ H = [Lp, Inv (j + 1), slc 30 32 (.slice va (rowN j l0).length vc) (rowN j l0).length ((rowN j l0).flatMap dC)])) :
  Ctr Tryz.prog 192 [.func (.yield l) #[] #[], ptr bx] [Lp, Inv 0, pts bx (cl [v] 60), A] (fun _ H => ∃ j, (∀ i, i < j → 1 < (rowN i l0).length) ∧ (rowN j l0).length ≤ 1 ∧ H = [Lp, Inv (j + 1), A]) := by
 refine Ctr.enter Tryz.func192 (by kernel_rfl) rfl Tryz.ntmps192 rfl rfl ?_
 intro G F R hE
 refine go ?_
 ((try refine go ?_); first | refine J_callE rfl rfl rfl rfl (Clone_dg A v l0 hv hl0) entA ?_ (fun _ _ _ _ _ => trivial) | refine J_call0E rfl rfl rfl (Clone_dg A v l0 hv hl0) entA ?_ (fun _ _ _ _ _ => trivial))
 rintro r _ rfl
 (first | refine J_shape 0 rfl ?_ | refine K_shape 0 rfl ?_)
 rintro ra rc rfl
 refine go ?_
 refine K_loop (fun y : Nat × Option Addr × Nat => ∀ i, i < y.1 → 1 < (rowN i l0).length) (fun y => (rowN y.1 l0).length)
  (fun y => [(0, .func (.yield l) #[] #[]), (3, .slice y.2.1 (rowN y.1 l0).length y.2.2)])
  (fun y => slc 30 32 (.slice y.2.1 (rowN y.1 l0).length y.2.2) (rowN y.1 l0).length ((rowN y.1 l0).flatMap dC) :: Lp :: Inv y.1 :: A :: F) (0, ra, rc) (fun i h => by omega) rfl (by repeat (first | exact keep_nil | refine keep_cons rfl ?_)) entA ?_
 rintro ⟨j, a1, c1⟩ hI ih
 simp only at hI
 dsimp only
 have hle := rowN_le l0 j
 refine go ?_
 refine K_condP rfl rfl ?_ ?_
 ·intro hgt
  have hgt' : 1 < (rowN j l0).length := by omega
  have hI2 : ∀ i, i < j + 1 → 1 < (rowN i l0).length := fun i hi => by
   rcases Nat.lt_or_ge i j with h | h
   ·exact hI i h
   ·rw [show i = j from by omega]; exact hgt'
  have hnx : rowN (j + 1) l0 = aboveL (rowN j l0) := rfl
  have hyj := hy j a1 c1 hI
  obtain ⟨row, hrow⟩ : ∃ row, row = rowN j l0 := ⟨_, rfl⟩
  rw [← hrow] at hle hgt hgt' hnx hyj ⊢
  have hab := aboveL_len row
  refine go ?_
  refine J_yield rfl rfl rfl hyj entA ?_ (fun _ _ _ _ _ => trivial)
  rintro _ _ ⟨rfl, rfl⟩
  refine go ?_
  refine J_shr rfl rfl rfl (by omega) ?_
  (first | refine J_slot 16 ((.int .i64 ((row.length / 2 : Nat) : Int))) rfl ((congrArg (Value.int .i64) (half_i64 row.length))) ?_ | refine K_slot 16 ((.int .i64 ((row.length / 2 : Nat) : Int))) rfl ((congrArg (Value.int .i64) (half_i64 row.length))) ?_)
  refine go ?_
  refine K_ent (Ent.pick [2, 0, 1] rfl) ?_
  refine K_slcCases (fun a hv0 hn _ => by omega) ?_
  rintro b o cc pre junk hvv hpre hnc hcap hcl
  simp only [Value.slice.injEq, true_and] at hvv
  obtain ⟨rfl, rfl⟩ := hvv
  have hfl : ∀ i, i ≤ row.length / 2 → ((rowIn row i).flatMap dC).length = row.length * 32 := fun i hi => by rw [chunk_len dC_len, rowIn_len row hi]
  refine K_loop (fun i : Nat => i ≤ row.length / 2) (fun i => row.length / 2 - i)
   (fun i => [(0, .func (.yield l) #[] #[]), (3, .slice (some ⟨b, o, none⟩) row.length c1), (16, .int .i64 ((row.length / 2 : Nat) : Int)), (17, .int .i64 (i : Int))])
   (fun i => pts b (cl (pre ++ (rowIn row i).flatMap dC ++ junk) 30) :: Lp :: Inv (j + 1) :: A :: F) 0 (Nat.zero_le _) rfl (by repeat (first | exact keep_nil | refine keep_cons rfl ?_)) entA ?_
  rintro i hi ih2
  have hrl := rowIn_len row hi
  refine go ?_
  refine K_condP rfl rfl ?_ ?_
  ·intro hlt
   have hi2 : i < row.length / 2 := by omega
   obtain ⟨x, hx⟩ : ∃ x, row[2 * i]? = some x := ⟨row[2 * i]'(by omega), by simp⟩
   obtain ⟨y, hy2⟩ : ∃ x, row[2 * i + 1]? = some x := ⟨row[2 * i + 1]'(by omega), by simp⟩
   have hgx := (rowIn_get row hi (show i ≤ 2 * i by omega)).trans hx
   have hgy := (rowIn_get row hi (show i ≤ 2 * i + 1 by omega)).trans hy2
   have hset := rowIn_set row hi2 (aboveL_at hx hy2)
   have hvw : Vw (pts b (cl (pre ++ (rowIn row i).flatMap dC ++ junk) 30)) (.slice (some ⟨b, o, none⟩) row.length c1) row.length ((rowIn row i).flatMap dC) := Vw.pts (by rw [← hpre, List.append_assoc, List.drop_left, List.take_left])
   refine go ?_
   refine K_drawA (fun w => Sat G w ([pts b (cl (pre ++ (rowIn row i).flatMap dC ++ junk) 30)])) (.st 0 (.st 1 (.st 2 (.st 3 (.st 4 (.st 5 (.st 6 (.st 7 (.st 8 (.st 9 (.st 10 (.st 11 (.st 12 (.act 13 (.st 14 (.act 15 .nil)))))))))))))))) rfl (by kernel_rfl) (by kernel_rfl) (by kernel_rfl) (fun w hw => hw.ent entA) ?_
   refine go ?_
   refine J_shlW rfl rfl rfl (by omega) ?_
   (first | refine J_slot 24 ((.int .i64 ((2 * i : Nat) : Int))) rfl ((congrArg (Value.int .i64) (dbl_i64 i (by omega)))) ?_ | refine K_slot 24 ((.int .i64 ((2 * i : Nat) : Int))) rfl ((congrArg (Value.int .i64) (dbl_i64 i (by omega)))) ?_)
   refine J_at (U := tab) (2 * i) 32 rfl rfl rfl rfl rfl rfl rfl rfl (by omega) ?_
   refine J_isLoad ?_
   refine J_loadElemS (U := tab) (es := dC x) 0 ((2 * i) * 32) rfl rfl rfl hvw rfl (fun q v hq => ?_) rfl rfl rfl ?_
   ·rw [chunk_get dC_len hgx q (by rcases Nat.lt_or_ge q 32 with h | h; exact h; rw [List.getElem?_eq_none (by rw [dC_len]; exact h)] at hq; cases hq)]; exact hq
   refine go ?_
   refine J_shlW rfl rfl rfl (by omega) ?_
   (first | refine J_slot 29 ((.int .i64 ((2 * i : Nat) : Int))) rfl ((congrArg (Value.int .i64) (dbl_i64 i (by omega)))) ?_ | refine K_slot 29 ((.int .i64 ((2 * i : Nat) : Int))) rfl ((congrArg (Value.int .i64) (dbl_i64 i (by omega)))) ?_)
   refine go ?_
   (first | refine J_slot 30 ((.int .i64 ((2 * i + 1 : Nat) : Int))) rfl ((congrArg (Value.int .i64) (or1_i64 i (by omega)))) ?_ | refine K_slot 30 ((.int .i64 ((2 * i + 1 : Nat) : Int))) rfl ((congrArg (Value.int .i64) (or1_i64 i (by omega)))) ?_)
   refine J_at (U := tab) (2 * i + 1) 32 rfl rfl rfl rfl rfl rfl rfl rfl (by omega) ?_
   refine J_isLoad ?_
   refine J_loadElemS (U := tab) (es := dC y) 0 ((2 * i + 1) * 32) rfl rfl rfl hvw rfl (fun q v hq => ?_) rfl rfl rfl ?_
   ·rw [chunk_get dC_len hgy q (by rcases Nat.lt_or_ge q 32 with h | h; exact h; rw [List.getElem?_eq_none (by rw [dC_len]; exact h)] at hq; cases hq)]; exact hq
   refine go ?_
   (first | refine J_callE rfl rfl rfl rfl ((Node_any A hK x y)) entA ?_ (fun _ _ w hp hw => by obtain ⟨rfl, rfl⟩ := hp; exact hw.ent entA) | refine J_call0E rfl rfl rfl ((Node_any A hK x y)) entA ?_ (fun _ _ w hp hw => by obtain ⟨rfl, rfl⟩ := hp; exact hw.ent entA))
   rintro _ _ ⟨rfl, rfl⟩
   refine go ?_
   refine J_at (U := tab) i 32 rfl rfl rfl rfl rfl rfl rfl rfl (by omega) ?_
   refine J_isStore ?_
   refine J_storeRow (U := tab) (l' := pre ++ (rowIn row (i + 1)).flatMap dC ++ junk) 1 (fun _ _ => trivial) rfl rfl rfl rfl rfl rfl rfl ?_ ?_ rfl ?_
   ·show o + i * 32 + 32 ≤ _
    rw [List.length_append, List.length_append, hfl i hi]; omega
   ·show _ = List.take (o + i * 32) (pre ++ (rowIn row i).flatMap dC ++ junk) ++ dC (nodeL x y) ++ List.drop (o + i * 32 + (dC (nodeL x y)).length) (pre ++ (rowIn row i).flatMap dC ++ junk)
    rw [← hpre, splice_mid _ _ _ _ _ (by rw [dC_len, hfl i hi]; omega), ← hset, chunk_set dC_len (by omega)]
    rfl
   refine go ?_
   refine K_again ih2 (i + 1) rfl (by omega) (by omega) (by repeat (first | exact keep_nil | refine keep_cons rfl ?_)) entA
  intro hge
  have hie : i = row.length / 2 := by omega
  subst hie
  clear ih2
  have hfle := hfl (row.length / 2) (Nat.le_refl _)
  have hrl := rowIn_len row (Nat.le_refl (row.length / 2))
  refine go ?_
  (first | refine J_slot 38 ((.int .i64 ((row.length % 2 : Nat) : Int))) rfl ((congrArg (Value.int .i64) (and1_i64 row.length (by omega)))) ?_ | refine K_slot 38 ((.int .i64 ((row.length % 2 : Nat) : Int))) rfl ((congrArg (Value.int .i64) (and1_i64 row.length (by omega)))) ?_)
  refine K_condP rfl rfl ?_ ?_
  ·intro hodd
   have hodd' : row.length % 2 = 1 := by rw [and1_i64 _ (by omega)] at hodd; omega
   obtain ⟨x, hx⟩ : ∃ x, row[row.length - 1]? = some x := ⟨row[row.length - 1]'(by omega), by simp⟩
   have hgx := (rowIn_get row (Nat.le_refl (row.length / 2)) (show row.length / 2 ≤ row.length - 1 by omega)).trans hx
   have hvw : Vw (pts b (cl (pre ++ (rowIn row (row.length / 2)).flatMap dC ++ junk) 30)) (.slice (some ⟨b, o, none⟩) row.length c1) row.length ((rowIn row (row.length / 2)).flatMap dC) := Vw.pts (by rw [← hpre, List.append_assoc, List.drop_left, List.take_left])
   have hend := rowIn_odd row hodd' hx
   refine go ?_
   refine J_shr rfl rfl rfl (by omega) ?_
   (first | refine J_slot 43 ((.int .i64 ((row.length / 2 : Nat) : Int))) rfl ((congrArg (Value.int .i64) (half_i64 row.length))) ?_ | refine K_slot 43 ((.int .i64 ((row.length / 2 : Nat) : Int))) rfl ((congrArg (Value.int .i64) (half_i64 row.length))) ?_)
   refine go ?_
   (first | refine J_slot 47 ((.int .i64 ((row.length - 1 : Nat) : Int))) rfl ((congrArg (Value.int .i64) (by omega))) ?_ | refine K_slot 47 ((.int .i64 ((row.length - 1 : Nat) : Int))) rfl ((congrArg (Value.int .i64) (by omega))) ?_)
   refine J_at (U := tab) (row.length - 1) 32 rfl rfl rfl rfl rfl rfl rfl rfl (by omega) ?_
   refine J_isLoad ?_
   refine J_loadElem (U := tab) (es := dC x) 0 ((row.length - 1) * 32) rfl rfl rfl hvw rfl (fun q v hq => ?_) rfl rfl rfl ?_
   ·rw [chunk_get dC_len hgx q (by rcases Nat.lt_or_ge q 32 with h | h; exact h; rw [List.getElem?_eq_none (by rw [dC_len]; exact h)] at hq; cases hq)]; exact hq
   refine J_at (U := tab) (row.length / 2) 32 rfl rfl rfl rfl rfl rfl rfl rfl (by omega) ?_
   refine J_isStore ?_
   refine J_storeRow (U := tab) (l' := pre ++ ((rowIn row (row.length / 2)).set (row.length / 2) x).flatMap dC ++ junk) 0 (fun _ _ => trivial) rfl rfl rfl rfl rfl rfl rfl ?_ ?_ rfl ?_
   ·show o + row.length / 2 * 32 + 32 ≤ _
    rw [List.length_append, List.length_append, hfle]; omega
   ·show _ = List.take (o + row.length / 2 * 32) (pre ++ (rowIn row (row.length / 2)).flatMap dC ++ junk) ++ dC x ++ List.drop (o + row.length / 2 * 32 + (dC x).length) (pre ++ (rowIn row (row.length / 2)).flatMap dC ++ junk)
    rw [← hpre, splice_mid _ _ _ _ _ (by rw [dC_len, hfle]; omega), chunk_set dC_len (by omega)]
    rfl
   (refine go ?_; refine J_shr rfl rfl rfl (by omega) ?_; (first | refine J_slot 55 ((.int .i64 (((row.length + 1) / 2 : Nat) : Int))) rfl ((congrArg (Value.int .i64) (by show ((row.length : Int) + 1) / 2 ^ 1 = _; omega))) ?_ | refine K_slot 55 ((.int .i64 (((row.length + 1) / 2 : Nat) : Int))) rfl ((congrArg (Value.int .i64) (by show ((row.length : Int) + 1) / 2 ^ 1 = _; omega))) ?_); refine J_sliceAny (U := tab) (p := 0) (q := (((row.length + 1) / 2 : Nat) : Int)) rfl rfl rfl rfl rfl rfl rfl (by omega) (by omega) (.inr (by omega)) ?_; (first | refine J_slot 56 ((.slice (some ⟨b, o, none⟩) (rowN (j + 1) l0).length c1)) rfl ((sliceAt_zero (by omega) (by rw [hnx, hab]))) ?_ | refine K_slot 56 ((.slice (some ⟨b, o, none⟩) (rowN (j + 1) l0).length c1)) rfl ((sliceAt_zero (by omega) (by rw [hnx, hab]))) ?_); (first | refine K_ent (rowClose (W := rowN (j + 1) l0) hpre hnc hcap hcl ((rowIn row (row.length / 2)).set (row.length / 2) x) (by rw [List.length_set]; exact hrl) (by rw [hnx, hab]; exact hend.symm) _) ?_ | refine J_ent (rowClose (W := rowN (j + 1) l0) hpre hnc hcap hcl ((rowIn row (row.length / 2)).set (row.length / 2) x) (by rw [List.length_set]; exact hrl) (by rw [hnx, hab]; exact hend.symm) _) ?_); refine go ?_; refine K_again ih (j + 1, some ⟨b, o, none⟩, c1) rfl hI2 (by simp only; rw [hnx, ← hrow]; omega) (by repeat (first | exact keep_nil | refine keep_cons rfl ?_)) entA)
  ·intro heven
   have heven' : row.length % 2 = 0 := by rw [and1_i64 _ (by omega)] at heven; omega
   have hend := rowIn_even row heven'
   (refine go ?_; refine J_shr rfl rfl rfl (by omega) ?_; (first | refine J_slot 55 ((.int .i64 (((row.length + 1) / 2 : Nat) : Int))) rfl ((congrArg (Value.int .i64) (by show ((row.length : Int) + 1) / 2 ^ 1 = _; omega))) ?_ | refine K_slot 55 ((.int .i64 (((row.length + 1) / 2 : Nat) : Int))) rfl ((congrArg (Value.int .i64) (by show ((row.length : Int) + 1) / 2 ^ 1 = _; omega))) ?_); refine J_sliceAny (U := tab) (p := 0) (q := (((row.length + 1) / 2 : Nat) : Int)) rfl rfl rfl rfl rfl rfl rfl (by omega) (by omega) (.inr (by omega)) ?_; (first | refine J_slot 56 ((.slice (some ⟨b, o, none⟩) (rowN (j + 1) l0).length c1)) rfl ((sliceAt_zero (by omega) (by rw [hnx, hab]))) ?_ | refine K_slot 56 ((.slice (some ⟨b, o, none⟩) (rowN (j + 1) l0).length c1)) rfl ((sliceAt_zero (by omega) (by rw [hnx, hab]))) ?_); (first | refine K_ent (rowClose (W := rowN (j + 1) l0) hpre hnc hcap hcl (rowIn row (row.length / 2)) hrl (by rw [hnx, hab]; exact hend.symm) _) ?_ | refine J_ent (rowClose (W := rowN (j + 1) l0) hpre hnc hcap hcl (rowIn row (row.length / 2)) hrl (by rw [hnx, hab]; exact hend.symm) _) ?_); refine go ?_; refine K_again ih (j + 1, some ⟨b, o, none⟩, c1) rfl hI2 (by simp only; rw [hnx, ← hrow]; omega) (by repeat (first | exact keep_nil | refine keep_cons rfl ?_)) entA)
 ·intro hle1
  have hle1' : (rowN j l0).length ≤ 1 := by omega
  refine go ?_
  refine J_yield rfl rfl rfl (hy j a1 c1 hI) entA ?_ (fun _ _ _ _ _ => trivial)
  rintro _ _ ⟨rfl, rfl⟩
  refine go ?_
  (first | refine K_return hE Tryz.func192 rfl _ rfl ⟨j, hI, hle1', rfl⟩ entA | refine K_fallEnd hE Tryz.func192 rfl _ rfl ⟨j, hI, hle1', rfl⟩ entA)
set_option maxRecDepth 20000 in
theorem Root_any (A : HP) (hK : KAt A) (v : Value) (l0 : List Dg) (hv : Vw A v l0.length (l0.flatMap dC)) (hl0 : l0.length ≤ 1000000) (hne : l0 ≠ []) : Ctr Tryz.prog 144 [v] [A] (fun r H => r = dV (rootL l0) ∧ H = [A]) := by
 obtain ⟨a, c, rfl⟩ := hv.shape
 have hpos : 0 < l0.length := List.length_pos_iff.2 hne
 refine Ctr.enter Tryz.func144 (by kernel_rfl) rfl Tryz.ntmps144 rfl rfl ?_
 intro G F R hE
 refine K_regionA rfl ?_
 refine J_alloc (U := tab) rfl rfl rfl (fun _ _ _ => trivial) ?_
 intro b2
 refine go ?_
 refine K_condP rfl rfl ?_ ?_
 ·intro h0; exfalso; omega
 intro _
 (refine K_regionA rfl ?_; refine goR ?_)
 refine J_alloc (U := tab) rfl rfl rfl (fun _ _ _ => trivial) ?_
 intro b3
 refine go ?_
 ((try refine go ?_); first | refine J_callE rfl rfl rfl rfl (rows_any a l0.length c) entA ?_ (fun _ _ _ _ _ => trivial) | refine J_call0E rfl rfl rfl (rows_any a l0.length c) entA ?_ (fun _ _ _ _ _ => trivial))
 rintro _ _ ⟨bx, rfl, rfl⟩
 refine go ?_
 refine K_adv1 rfl ?_
 let rt : Nat → Dg := fun j => match j with | 0 => Dg.zero | j + 1 => ((rowN j l0).head?).getD Dg.zero
 refine K_ent (Ent.trans (Ent.pick [2, 1] rfl) (Ent.resep [pts b2 (cl (dC Dg.zero) 30), pts b3 (cl (dC (rt 0)) 30)] _)) ?_
 refine K_rangeP (Fr := F) (Pre := fun _ _ => [Sep [pts b2 (cl (dC Dg.zero) 30), pts b3 (cl (dC (rt 0)) 30)], pts bx (cl [.slice a l0.length c] 60), A]) (fun _ _ Lp v H => ∃ j, (∀ i, i < j → 1 < (rowN i l0).length) ∧ (rowN j l0).length ≤ 1 ∧ H = [Lp .ready none, Sep [pts b2 (cl (dC Dg.zero) 30), pts b3 (cl (dC (rt (j + 1))) 30)], A]) rfl hE.1.1 rfl ?c (fun l r => entA) ?hend
 case c =>
  intro l r
  refine rows1_any A hK bx _ l0 hv hl0 l _ (fun j => Sep [pts b2 (cl (dC Dg.zero) 30), pts b3 (cl (dC (rt j)) 30)]) ?_
  intro j va vc hI
  refine CtrY.of_K rfl rfl ?_
  intro G2 F2 R2 hY
  have hpj := rowN_pos l0 hpos j
  have hrt : rt (j + 1) = ((rowN j l0).head?).getD Dg.zero := rfl
  obtain ⟨x, row, hrow⟩ : ∃ x row, rowN j l0 = x :: row := by
   cases h : rowN j l0 with
   | nil => rw [h] at hpj; simp at hpj
   | cons x row => exact ⟨x, row, rfl⟩
  rw [hrow] at hrt hpj
  simp only [List.head?_cons, Option.getD_some] at hrt
  rw [hrow] at hY ⊢
  rw [hrt] at hY
  clear_value rt
  refine go ?_
  refine K_beginRound rfl hY ?_
  refine K_ent (Ent.trans (Ent.pick [1] rfl) (Ent.unsep [_, _] _)) ?_
  refine K_slcVw 3 rfl ?_
  intro hvw
  obtain ⟨b, o, cc, he0⟩ := hvw.some (by rw [List.flatMap_cons]; intro h; simp [dC] at h)
  simp only [Value.slice.injEq, true_and] at he0
  obtain ⟨rfl, rfl⟩ := he0
  refine go ?_
  refine J_at (U := tab) 0 32 rfl rfl rfl rfl rfl rfl rfl rfl (by simp) ?_
  refine J_isLoad ?_
  refine J_loadElem (U := tab) (es := dC x) 3 0 rfl rfl rfl hvw rfl (fun q v hq => ?_) rfl rfl rfl ?_
  ·rw [Nat.zero_add, List.flatMap_cons, List.getElem?_append_left]
   ·exact hq
   ·exact (List.getElem?_eq_some_iff.1 hq).1
  refine J_isStore ?_
  refine J_storeArr (U := tab) (l' := dC x) 1 (fun _ _ => trivial) rfl rfl rfl rfl (by intro e; cases e) (by rw [dC_bV]; exact allOne_bV _) rfl rfl rfl ?_
  refine go ?_
  refine K_ent (Ent.resep [_, _] _) ?_
  refine K_roundEnd hY rfl entA ⟨rfl, rfl⟩
 rintro l r v H' ⟨j, hI, hj, rfl⟩
 refine ⟨_, _, _, rfl, by decide, ?_⟩
 have hpj := rowN_pos l0 hpos j
 obtain ⟨x, hx⟩ : ∃ x, rowN j l0 = [x] := by
  match h : rowN j l0, hpj, hj with
  | [x], _, _ => exact ⟨x, rfl⟩
 have hroot := root_row hne hI hx
 have hrt : rt (j + 1) = x := by show ((rowN j l0).head?).getD Dg.zero = x; rw [hx]; rfl
 rw [hrt, hE.1.2]
 rw [hroot] at hE
 clear_value rt
 refine K_ent (Ent.unsep [_, _] _) ?_
 refine go ?_
 refine J_loadArr (U := tab) 1 rfl rfl rfl rfl rfl rfl ?_
 refine J_storeArr (U := tab) (l' := dC x) 0 (fun _ _ => trivial) rfl rfl rfl rfl (by intro e; cases e) (by rw [dC_bV]; exact allOne_bV _) rfl rfl rfl ?_
 refine go ?_
 (apply K_returnV (U := tab) hE Tryz.func144 rfl entA; (repeat (first | exact ResOk.nil | apply ResOk.tmp rfl | apply ResOk.agg 0 rfl rfl rfl rfl rfl | apply ResOk.agg 1 rfl rfl rfl rfl rfl | apply ResOk.agg 2 rfl rfl rfl rfl rfl | apply ResOk.agg 3 rfl rfl rfl rfl rfl | apply ResOk.agg 4 rfl rfl rfl rfl rfl | apply ResOk.agg 5 rfl rfl rfl rfl rfl | apply ResOk.agg 6 rfl rfl rfl rfl rfl | apply ResOk.agg 7 rfl rfl rfl rfl rfl | apply ResOk.agg 8 rfl rfl rfl rfl rfl | apply ResOk.one 0 rfl rfl rfl rfl | apply ResOk.one 1 rfl rfl rfl rfl | apply ResOk.one 2 rfl rfl rfl rfl | apply ResOk.one 3 rfl rfl rfl rfl | apply ResOk.one 4 rfl rfl rfl rfl | apply ResOk.one 5 rfl rfl rfl rfl | apply ResOk.one 6 rfl rfl rfl rfl)); exact ⟨rfl, rfl⟩; exact entA)
end Go.Proofs.YtpecmnaikjbanaaGreatDoor
/- manifest: which blobs are right, where pieces begin; the leaves of bytes. -/
namespace Go.Proofs.YtpecmnaikjbanaaGreatDoor
open Go Go.SL
def blV (x : Bl) : Value := .agg (blC x).toArray
def IterD (g : FuncId) (cap : List Value) (ds : List Dg) (Pre Post : List HP) : Prop :=
 ∀ (l : Nat) (Lp : HP) (Inv : Nat → HP), (∀ j d, ds[j]? = some d → CtrY Tryz.prog l [dV d] [Lp, Inv j] (fun v H => v = .bool true ∧ H = [Lp, Inv (j + 1)])) →
  Ctr Tryz.prog g (.func (.yield l) #[] #[] :: cap) (Lp :: Inv 0 :: Pre) (fun _ H => H = Lp :: Inv ds.length :: Post)
def GI (bs : Nat) (ks : List Dg) : HP := fun h => ∃ v : Value, True ∧ Sep [pts bs (cl [v] 60), slc 30 32 v ks.length (ks.flatMap dC)] h
theorem GI_open (bs : Nat) (ks : List Dg) : ∀ h, GI bs ks h → ∃ v, True ∧ Sep [pts bs (cl [v] 60), slc 30 32 v ks.length (ks.flatMap dC)] h := fun h hs => hs
theorem GI_close (bs : Nat) (ks : List Dg) (v : Value) (H : List HP) : Ent (pts bs (cl [v] 60) :: slc 30 32 v ks.length (ks.flatMap dC) :: H) (GI bs ks :: H) :=
 Ent.fold (A := GI bs ks) (B := [pts bs (cl [v] 60), slc 30 32 v ks.length (ks.flatMap dC)]) fun h hs => ⟨h, sub.refl h, v, trivial, hs⟩
attribute [local irreducible] J K Ctr Ends pts slc mapR mapI sbRow stock arrS loopP CtrY Sha.chunks Sha.chunk Sha.rounds Sha.sched sumL taggedL GI
theorem AppendSeqD_any (g : FuncId) (cap : List Value) (ds : List Dg) (Pre Post : List HP) (hN : ds.length ≤ 1000000) (hi : IterD g cap ds Pre Post) :
  Ctr Tryz.prog 188 [.slice none 0 0, .func (.func g) #[] cap.toArray] Pre (fun r H => H = slc 30 32 r ds.length (ds.flatMap dC) :: Post) := by
 refine Ctr.enter Tryz.func188 (by kernel_rfl) rfl Tryz.ntmps188 rfl rfl ?_
 intro G F R hE
 refine K_regionA rfl ?_
 refine J_box rfl rfl (fun _ _ _ => trivial) ?_
 intro bs
 refine go ?_
 refine K_adv1 rfl ?_
 refine K_ent (Ent.trans (Ent.cons _ (slc_lift 30 32 none _)) (GI_close bs [] (.slice none 0 0) _)) ?_
 refine K_range (Fr := F) (Pre := fun _ _ => GI bs [] :: Pre) (Post := ?Po) rfl hE.1.1 rfl ?c (fun l r => Ent.refl _) ?hend
 case c =>
  intro l r
  refine hi l _ (fun j => GI bs (ds.take j)) ?_
  intro j k hjk
  have hjl := (List.getElem?_eq_some_iff.1 hjk).1
  have htl : (ds.take j).length = j := by rw [List.length_take]; omega
  have htk : ds.take (j + 1) = ds.take j ++ [k] := by rw [List.take_add_one, hjk]; rfl
  refine CtrY.of_K rfl rfl ?_
  intro G2 F2 R2 hY
  refine K_regionA rfl ?_
  refine J_alloc (U := tab) rfl rfl rfl (fun _ _ _ => trivial) ?_
  intro b5
  refine go ?_
  refine K_ent (Ent.pick [1] rfl) ?_
  refine K_beginRound rfl hY ?_
  refine K_ent (Ent.pick [2] rfl) ?_
  refine K_open (GI_open bs (ds.take j)) ?_
  rintro v -
  refine K_shape 1 rfl ?_
  rintro va vc rfl
  refine go ?_
  refine J_loadArr (U := tab) 3 rfl rfl rfl rfl rfl rfl ?_
  refine J_buildSlice1 (U := tab) (cs := dC k) rfl rfl rfl rfl rfl rfl rfl rfl rfl (fun _ _ _ => trivial) ?_
  intro row
  refine go ?_
  refine J_append (U := tab) (mm := 1) (news := dC k) 2 0 rfl rfl rfl rfl rfl rfl rfl rfl rfl rfl rfl rfl (Vw.pts rfl) rfl (by rw [dC_bV]; exact bV_one _) (by rw [htl]; omega) (by show (_ + 1) * 32 ≤ _; rw [htl]; omega) (fun _ => rfl) (fun _ _ _ => trivial) ?_
  intro v1
  rw [show (ds.take j).flatMap dC ++ dC k = (ds.take (j + 1)).flatMap dC from by rw [htk]; simp, show (ds.take j).length + 1 = (ds.take (j + 1)).length from by rw [htk]; simp]
  (first | refine J_shape 2 rfl ?_ | refine K_shape 2 rfl ?_)
  rintro va2 vc2 rfl
  refine go ?_
  refine K_ent (Ent.trans entA (GI_close bs (ds.take (j + 1)) (.slice va2 (ds.take (j + 1)).length vc2) _)) ?_
  refine K_roundEnd hY rfl entA ⟨rfl, rfl⟩
 intro l r v H hpost
 subst hpost
 refine ⟨_, _, _, rfl, by decide, ?_⟩
 rw [hE.1.2, List.take_length]
 refine K_open (GI_open bs ds) ?_
 rintro w -
 refine go ?_
 refine K_returnM hE Tryz.func188 rfl _ rfl rfl ?_
 exact (Ent.drop _ _).trans (Ent.perm (((List.perm_middle (a := pts r (.deferred (some []))) (l₁ := Post) (l₂ := F)).cons _).trans (List.Perm.swap _ _ _)))
theorem CollectD_any (g : FuncId) (cap : List Value) (ds : List Dg) (Pre Post : List HP) (hN : ds.length ≤ 1000000) (hi : IterD g cap ds Pre Post) :
  Ctr Tryz.prog 160 [.func (.func g) #[] cap.toArray] Pre (fun r H => H = slc 30 32 r ds.length (ds.flatMap dC) :: Post) := by
 refine Ctr.enter Tryz.func160 (by kernel_rfl) rfl Tryz.ntmps160 rfl rfl ?_
 intro G F R hE
 refine go ?_
 ((try refine go ?_); first | refine J_callE rfl rfl rfl rfl (AppendSeqD_any g cap ds Pre Post hN hi) entA ?_ (fun _ _ _ _ _ => trivial) | refine J_call0E rfl rfl rfl (AppendSeqD_any g cap ds Pre Post hN hi) entA ?_ (fun _ _ _ _ _ => trivial))
 rintro w _ rfl
 refine go ?_
 (first | refine K_return hE Tryz.func160 rfl _ rfl rfl entA | refine K_fallEnd hE Tryz.func160 rfl _ rfl rfl entA)
theorem count_any (s p : Int) (hs : 1 ≤ s ∧ s ≤ 1048576) (hp : 1 ≤ p ∧ p ≤ 16384) : Ctr Tryz.prog 97 [.int .i64 s, .int .i64 p] [] (fun r H => r = .int .i64 ((s + p - 1) / p) ∧ H = []) := by
 have h1 : 0 ≤ (s + p - 1) / p := Int.ediv_nonneg (by omega) (by omega)
 have h2 : (s + p - 1) / p ≤ s + p - 1 := Int.ediv_le_self _ (by omega)
 refine Ctr.enter Tryz.func97 (by kernel_rfl) rfl Tryz.ntmps97 rfl rfl ?_
 intro G F R hE
 refine go ?_
 refine J_quo rfl rfl rfl (by omega) (by omega) (by simp only [inK]; omega) ?_
 refine go ?_
 (first | refine K_return hE Tryz.func97 rfl _ rfl ⟨rfl, rfl⟩ entA | refine K_fallEnd hE Tryz.func97 rfl _ rfl ⟨rfl, rfl⟩ entA)
theorem Right_any (x : Bl) : Ctr Tryz.prog 52 [blV x] [] (fun r H => r = .bool (rightB x) ∧ H = []) := by
 have hF : ¬ (1 ≤ x.size ∧ x.size ≤ 1048576 ∧ 16 ≤ x.piece ∧ x.piece ≤ 16384) → Value.bool false = .bool (rightB x) := fun h => congrArg Value.bool (by unfold rightB; rw [decide_eq_false (by rintro ⟨a, b, c, e, _⟩; exact h ⟨a, b, c, e⟩)])
 have hT : (1 ≤ x.size ∧ x.size ≤ 1048576 ∧ 16 ≤ x.piece ∧ x.piece ≤ 16384) → Value.bool (decide ((x.size + x.piece - 1) / x.piece ≤ 1024)) = .bool (rightB x) := fun h => congrArg Value.bool (by unfold rightB; rw [decide_eq_decide]; exact ⟨fun g => ⟨h.1, h.2.1, h.2.2.1, h.2.2.2, g⟩, fun g => g.2.2.2.2⟩)
 unfold blV
 refine Ctr.enter Tryz.func52 (by kernel_rfl) rfl Tryz.ntmps52 rfl rfl ?_
 intro G F R hE
 refine K_regionA rfl ?_
 refine J_box rfl rfl (fun _ _ _ => trivial) ?_
 intro b1
 repeat' (first | (with_reducible intro _hh) | refine go1 ?_ | refine J_fork ?_ ?_ | refine J_gsP rfl rfl rfl rfl ?_ ?_ | refine K_condP rfl rfl ?_ ?_ | (refine J_callE rfl rfl rfl rfl (count_any x.size x.piece (by omega) (by omega)) entA ?_ (fun _ _ _ _ _ => trivial); rintro _ _ ⟨rfl, rfl⟩))
 all_goals (first | (first | refine K_return hE Tryz.func52 rfl _ rfl ⟨hF (by omega), rfl⟩ entA | refine K_fallEnd hE Tryz.func52 rfl _ rfl ⟨hF (by omega), rfl⟩ entA) | (first | refine K_return hE Tryz.func52 rfl _ rfl ⟨hT (by omega), rfl⟩ entA | refine K_fallEnd hE Tryz.func52 rfl _ rfl ⟨hT (by omega), rfl⟩ entA))
theorem Count_any (x : Bl) : Ctr Tryz.prog 103 [blV x] [] (fun r H => r = .int .i64 (countB x) ∧ H = []) := by
 unfold blV
 refine Ctr.enter Tryz.func103 (by kernel_rfl) rfl Tryz.ntmps103 rfl rfl ?_
 intro G F R hE
 refine K_regionA rfl ?_
 refine J_box rfl rfl (fun _ _ _ => trivial) ?_
 intro b1
 refine go ?_
 refine J_loadArr (U := tab) 0 rfl rfl rfl rfl rfl rfl ?_
 ((try refine go ?_); first | refine J_callE rfl rfl rfl rfl (Right_any x) entA ?_ (fun _ _ _ _ _ => trivial) | refine J_call0E rfl rfl rfl (Right_any x) entA ?_ (fun _ _ _ _ _ => trivial))
 rintro _ _ ⟨rfl, rfl⟩
 cases hr : rightB x with
 | false =>
  have hc : countB x = 0 := by unfold countB; rw [if_neg (by rw [hr]; simp)]
  rw [hc] at hE
  refine go ?_
  (first | refine K_return hE Tryz.func103 rfl _ rfl ⟨rfl, rfl⟩ entA | refine K_fallEnd hE Tryz.func103 rfl _ rfl ⟨rfl, rfl⟩ entA)
 | true =>
  have hc : countB x = (x.size + x.piece - 1) / x.piece := by unfold countB; rw [if_pos hr]
  rw [hc] at hE
  simp only [rightB, decide_eq_true_eq] at hr
  refine go ?_
  ((try refine go ?_); first | refine J_callE rfl rfl rfl rfl (count_any x.size x.piece (by omega) (by omega)) entA ?_ (fun _ _ _ _ _ => trivial) | refine J_call0E rfl rfl rfl (count_any x.size x.piece (by omega) (by omega)) entA ?_ (fun _ _ _ _ _ => trivial))
  rintro _ _ ⟨rfl, rfl⟩
  refine go ?_
  (first | refine K_return hE Tryz.func103 rfl _ rfl ⟨rfl, rfl⟩ entA | refine K_fallEnd hE Tryz.func103 rfl _ rfl ⟨rfl, rfl⟩ entA)
theorem span_lt {x : Bl} {i : Int} (h0 : 0 ≤ i) (h1 : i < countB x) : rightB x = true ∧ 0 ≤ i * x.piece ∧ i * x.piece < x.size := by
 unfold countB at h1
 split at h1
 ·rename_i hr
  have hr' := hr
  simp only [rightB, decide_eq_true_eq] at hr
  refine ⟨hr', Int.mul_nonneg h0 (by omega), ?_⟩
  have h2 : (i + 1) * x.piece ≤ x.size + x.piece - 1 := by
   have := (Int.le_ediv_iff_mul_le (a := i + 1) (b := x.size + x.piece - 1) (c := x.piece) (by omega)).1 (by omega)
   exact this
  rw [Int.add_mul, Int.one_mul] at h2
  omega
 ·omega
theorem Span_any (x : Bl) (i : Int) : Ctr Tryz.prog 60 [blV x, .int .i64 i] [] (fun r H => r = (match spanB x i with
  | none => .tuple #[.int .i64 0, .int .i64 0, .int .i64 1]
  | some (a, n) => .tuple #[.int .i64 a, .int .i64 n, .int .i64 0]) ∧ H = []) := by
 unfold blV
 refine Ctr.enter Tryz.func60 (by kernel_rfl) rfl Tryz.ntmps60 rfl rfl ?_
 intro G F R hE
 refine K_regionA rfl ?_
 refine J_box rfl rfl (fun _ _ _ => trivial) ?_
 intro b1
 have hN : (i < 0 ∨ countB x ≤ i) → spanB x i = none := fun h => by unfold spanB; rw [if_pos h]
 repeat' (first | (with_reducible intro _hh) | refine go1 ?_ | refine J_fork ?_ ?_ | refine J_gsP rfl rfl rfl rfl ?_ ?_ | refine K_condP rfl rfl ?_ ?_ | refine J_loadArr (U := tab) 0 rfl rfl rfl rfl rfl rfl ?_ | (refine J_callE rfl rfl rfl rfl (Count_any x) entA ?_ (fun _ _ _ _ _ => trivial); rintro _ _ ⟨rfl, rfl⟩))
 all_goals (first | (rw [hN (by omega)] at hE; (first | refine K_return hE Tryz.func60 rfl _ rfl ⟨rfl, rfl⟩ entA | refine K_fallEnd hE Tryz.func60 rfl _ rfl ⟨rfl, rfl⟩ entA)) | skip)
 have hs : spanB x i = some (i * x.piece, min x.piece (x.size - i * x.piece)) := by unfold spanB; rw [if_neg (by omega)]
 rw [hs] at hE
 obtain ⟨hr, hm0, hms⟩ := span_lt (x := x) (i := i) (by omega) (by omega)
 simp only [rightB, decide_eq_true_eq] at hr
 obtain ⟨q, hq⟩ : ∃ q, q = i * x.piece := ⟨_, rfl⟩
 rw [← hq] at hm0 hms hE
 refine K_drawA (fun w => Sat G w ([pts b1 (cl (blC x) 32)])) (.st 0 (.st 1 (.st 2 (.st 3 (.st 4 (.st 5 (.st 6 (.st 7 (.st 8 (.st 9 (.st 10 (.st 11 (.st 12 (.st 13 (.st 14 (.st 15 (.st 16 .nil))))))))))))))))) rfl (by kernel_rfl) (by kernel_rfl) (by kernel_rfl) (fun w hw => hw.ent entA) ?_
 (repeat (first | refine go1 ?_ | refine J_fork ?_ ?_ | (refine J_isBin ?_; refine J_mul rfl rfl rfl (by rw [← hq]; simp only [inK]; omega) ?_; rw [← hq])))
 (first | refine K_return hE Tryz.func60 rfl _ rfl ⟨rfl, rfl⟩ entA | refine K_fallEnd hE Tryz.func60 rfl _ rfl ⟨rfl, rfl⟩ entA)
theorem Chunk_any (a : Option Addr) (n c : Nat) (k : Int) (hk : 1 ≤ k) : Ctr Tryz.prog 190 [.slice a n c, .int .i64 k] [] (fun r H => ∃ b1 b2, r = .func (.func 204) #[] #[ptr b1, ptr b2] ∧ H = [pts b1 (cl [.slice a n c] 22), pts b2 (cl [.int .i64 k] 3)]) := by
 refine Ctr.enter Tryz.func190 (by kernel_rfl) rfl Tryz.ntmps190 rfl rfl ?_
 intro G F R hE
 refine K_regionA rfl ?_
 refine J_box rfl rfl (fun _ _ _ => trivial) ?_
 intro b1
 refine J_box rfl rfl (fun _ _ _ => trivial) ?_
 intro b2
 refine go ?_
 refine K_condP rfl rfl ?_ ?_
 ·intro h; exfalso; omega
 intro _
 refine go ?_
 (first | refine K_return hE Tryz.func190 rfl _ rfl ⟨b1, b2, rfl, rfl⟩ entA | refine K_fallEnd hE Tryz.func190 rfl _ rfl ⟨b1, b2, rfl, rfl⟩ entA)
set_option maxRecDepth 20000 in
theorem Chunk1_any (A : HP) (b1 b2 : Nat) (v : Value) (b : List UInt8) (hv : BAt A v b) (hl : b.length ≤ 1000000000) (k : Nat) (hk : 1 ≤ k) (hk2 : k ≤ 1000000000) (l : Nat) (Lp : HP) (Inv : Nat → HP)
  (hy : ∀ j p rv, (piecesL k b.length b)[j]? = some p → BAt A rv p → CtrY Tryz.prog l [rv] [Lp, Inv j, A] (fun r H => r = .bool true ∧ H = [Lp, Inv (j + 1), A])) :
  Ctr Tryz.prog 204 [.func (.yield l) #[] #[], ptr b1, ptr b2] [Lp, Inv 0, pts b1 (cl [v] 22), pts b2 (cl [.int .i64 (k : Int)] 3), A] (fun _ H => H = [Lp, Inv (piecesL k b.length b).length, A]) := by
 obtain ⟨a, c, rfl, hc⟩ := hv.2
 have hpg := piecesL_get k hk b.length b
 have hpl := piecesL_len k hk b
 refine Ctr.enter Tryz.func204 (by kernel_rfl) rfl Tryz.ntmps204 rfl rfl ?_
 intro G F R hE
 refine go ?_
 refine K_loop (fun j : Nat => j ≤ (b.length + k - 1) / k) (fun j => (b.length + k - 1) / k - j)
  (fun j => [(0, .func (.yield l) #[] #[]), (1, ptr b1), (2, ptr b2), (4, .int .i64 ((j * k : Nat) : Int))])
  (fun j => Lp :: Inv j :: pts b1 (cl [.slice a b.length c] 22) :: pts b2 (cl [.int .i64 (k : Int)] 3) :: A :: F) 0 (Nat.zero_le _) rfl (by rw [Nat.zero_mul]; exact (by repeat (first | exact keep_nil | refine keep_cons rfl ?_))) entA ?_
 rintro j hj ih
 have hjk : j * k ≤ b.length + k - 1 := by
  have := (Nat.le_div_iff_mul_le hk).1 hj
  exact this
 refine go ?_
 refine K_condP rfl rfl ?_ ?_
 ·intro hlt
  have hlt' : j * k < b.length := by omega
  have hj1 : j + 1 ≤ (b.length + k - 1) / k := by
   rw [Nat.le_div_iff_mul_le hk, Nat.add_mul, Nat.one_mul]; omega
  have hp := hpg j (Nat.le_refl _)
  rw [if_pos hlt'] at hp
  obtain ⟨p, hpe⟩ : ∃ p, p = (b.drop (j * k)).take k := ⟨_, rfl⟩
  rw [← hpe] at hp
  have hplen : p.length = min k (b.length - j * k) := by rw [hpe, List.length_take, List.length_drop]
  obtain ⟨jk, hjke⟩ : ∃ jk, jk = j * k := ⟨_, rfl⟩
  rw [← hjke] at hlt' hpe hplen hjk ⊢
  refine go ?_
  refine K_drawA (fun w => Sat G w ([pts b1 (cl [.slice a b.length c] 22), pts b2 (cl [.int .i64 (k : Int)] 3)])) (.st 0 (.st 1 (.st 2 (.st 3 (.st 4 (.st 5 (.st 6 .nil))))))) rfl (by kernel_rfl) (by kernel_rfl) (by kernel_rfl) (fun w hw => hw.ent entA) ?_
  refine go ?_
  refine J_sliceAny (U := tab) (p := ((jk : Nat) : Int)) (q := (b.length : Int)) rfl rfl rfl rfl rfl rfl rfl (by omega) (by omega) (.inl rfl) ?_
  refine go ?_
  have hmin : (jk : Int) + min (k : Int) (((((b.length : Int)).toNat - ((jk : Nat) : Int).toNat : Nat)) : Int) = ((jk + p.length : Nat) : Int) := by rw [hplen]; omega
  refine J_slice3T (U := tab) rfl rfl rfl rfl rfl rfl rfl rfl (by omega) (by omega) (by omega) (by omega) ?_
  have hbp := hv.piece jk (jk + p.length) (by omega) (by omega)
  rw [show jk + p.length - jk = p.length from by omega] at hbp
  have hpe2 : (b.drop jk).take p.length = p := by
   rw [hplen, hpe, List.take_eq_take_iff, List.length_drop]; omega
  rw [hpe2] at hbp
  have hbp2 : BAt A (.slice (sliceAt a (jk + p.length) jk 1) p.length p.length) p := by
   obtain ⟨hv1, a2, c2, he2, hc2⟩ := hbp
   refine ⟨?_, _, _, rfl, Nat.le_refl _⟩
   obtain ⟨a3, c3, he3, hcase⟩ := hv1
   simp only [Value.slice.injEq, true_and] at he3
   have e : sliceAt a (jk + p.length) jk 1 = sliceAt a c jk 1 := by
    unfold sliceAt
    rw [if_neg (by omega), if_neg (by omega)]
   rw [e]
   exact ⟨_, _, rfl, by rw [he3.1]; exact hcase⟩
  refine J_slot 28 (.slice (sliceAt a (jk + p.length) jk 1) p.length p.length) rfl (by rw [hmin, Int.toNat_natCast, Int.toNat_natCast, show jk + p.length - jk = p.length from by omega]; rfl) ?_
  refine go ?_
  refine J_yield rfl rfl rfl (hy j p _ hp hbp2) entA ?_ (fun _ _ _ _ _ => trivial)
  rintro _ _ ⟨rfl, rfl⟩
  refine go ?_
  (first | refine J_slot 4 ((.int .i64 (((j + 1) * k : Nat) : Int))) rfl ((congrArg (Value.int .i64) (by rw [Nat.add_mul, Nat.one_mul, ← hjke]; omega))) ?_ | refine K_slot 4 ((.int .i64 (((j + 1) * k : Nat) : Int))) rfl ((congrArg (Value.int .i64) (by rw [Nat.add_mul, Nat.one_mul, ← hjke]; omega))) ?_)
  refine K_again ih (j + 1) rfl hj1 (by omega) (by repeat (first | exact keep_nil | refine keep_cons rfl ?_)) entA
 intro hge
 have hje : j = (b.length + k - 1) / k := by
  rcases Nat.lt_or_ge j ((b.length + k - 1) / k) with h | h
  ·exfalso
   have h2 := (Nat.le_div_iff_mul_le (x := j + 1) hk).1 h
   rw [Nat.add_mul, Nat.one_mul] at h2
   omega
  ·omega
 refine go ?_
 rw [hpl, ← hje] at hE
 (first | refine K_return hE Tryz.func204 rfl _ rfl rfl entA | refine K_fallEnd hE Tryz.func204 rfl _ rfl rfl entA)
end Go.Proofs.YtpecmnaikjbanaaGreatDoor
/- Engine, part Bl: equality of a struct of a hash, two numbers, a hash. Nothing here names a program. -/
namespace Go.SL
open Go
section
variable {P : Program}
theorem part_dg {t e : TypeId} (hu : P.underlying t = some (.array 32 e)) (hc : P.cellsOf t = 32) (xs : List Value) (off : Nat) (d : Dg) (h : (xs.drop off).take 32 = dC d) (w : World) : (part t xs.toArray off).run P w = .ok (dV d) w := by
 obtain ⟨i, hi⟩ := info_of_underlying hu
 have hs := Go.run_sizeOf w hi
 rw [hc] at hs
 simp only [part, isAgg, Sem.run_bind, Go.run_underlying hu, Result.andThen_ok, Sem.run_pure, if_true, hs]
 have : xs.toArray.extract off (off + 32) = (dC d).toArray := by
  apply Array.ext'
  rw [← h]
  simp
 rw [this]
 rfl
theorem run_eqI64 {t : TypeId} (hu : P.underlying t = some (.int .i64)) (a b : Int) (D : Nat) (w : World) : (Op.equalIn (D + 1) t (.int .i64 a) (.int .i64 b)).run P w = .ok (decide (a = b)) w := by
 simp only [Op.equalIn, Sem.run_bind, Go.run_underlying hu, Result.andThen_ok, if_true, Sem.run_pure]
 rfl
theorem run_eqFields4 {td ti : TypeId} {f1 f2 f3 f4 : Field} (n1 : f1.name ≠ "_") (n2 : f2.name ≠ "_") (n3 : f3.name ≠ "_") (n4 : f4.name ≠ "_") (E : Nat) (w : World) (c1 c2 : List Value) (d1 d2 r1 r2 : Dg) (s1 s2 p1 p2 : Int)
  (eD : ∀ a b : Dg, (Op.equalIn E td (dV a) (dV b)).run P w = .ok (decide (a = b)) w) (eI : ∀ a b : Int, (Op.equalIn E ti (.int .i64 a) (.int .i64 b)).run P w = .ok (decide (a = b)) w)
  (t1 : f1.type = td) (t2 : f2.type = ti) (t3 : f3.type = ti) (t4 : f4.type = td)
  (p01 : (part td c1.toArray f1.offset).run P w = .ok (dV d1) w) (p02 : (part td c2.toArray f1.offset).run P w = .ok (dV d2) w)
  (p11 : (part ti c1.toArray f2.offset).run P w = .ok (.int .i64 s1) w) (p12 : (part ti c2.toArray f2.offset).run P w = .ok (.int .i64 s2) w) (p21 : (part ti c1.toArray f3.offset).run P w = .ok (.int .i64 p1) w) (p22 : (part ti c2.toArray f3.offset).run P w = .ok (.int .i64 p2) w)
  (p31 : (part td c1.toArray f4.offset).run P w = .ok (dV r1) w) (p32 : (part td c2.toArray f4.offset).run P w = .ok (dV r2) w) :
  (Op.eqFields E c1.toArray c2.toArray [f1, f2, f3, f4]).run P w = .ok (decide (d1 = d2 ∧ s1 = s2 ∧ p1 = p2 ∧ r1 = r2)) w := by
 by_cases h1 : d1 = d2
 ·by_cases h2 : s1 = s2
  ·by_cases h3 : p1 = p2
   ·simp [Op.eqFields, n1, n2, n3, n4, t1, t2, t3, t4, p01, p02, p11, p12, p21, p22, p31, p32, eD, eI, h1, h2, h3]
    by_cases h4 : r1 = r2 <;> simp [h4]
   ·simp [Op.eqFields, n1, n2, n3, n4, t1, t2, t3, t4, p01, p02, p11, p12, p21, p22, p31, p32, eD, eI, h1, h2, h3]
  ·simp [Op.eqFields, n1, n2, n3, n4, t1, t2, t3, t4, p01, p02, p11, p12, p21, p22, p31, p32, eD, eI, h1, h2]
 ·simp [Op.eqFields, n1, n2, n3, n4, t1, t2, t3, t4, p01, p02, p11, p12, p21, p22, p31, p32, eD, eI, h1]
end
end Go.SL
/- manifest: leaves, blobs, whether bytes are all. -/
namespace Go.Proofs.YtpecmnaikjbanaaGreatDoor
open Go Go.SL
attribute [local irreducible] J K Ctr Ends pts slc mapR mapI sbRow stock arrS loopP CtrY Sha.chunks Sha.chunk Sha.rounds Sha.sched sumL taggedL GI leafL
set_option maxRecDepth 20000 in
theorem leaves1_any (A : HP) (hK : KAt A) (b1 b2 : Nat) (v : Value) (b : List UInt8) (hv : BAt A v b) (hl : b.length ≤ 900000000) (k : Nat) (hk : 1 ≤ k) (hk2 : k ≤ 1000000000) :
  IterD 189 [ptr b1, ptr b2] ((piecesL k b.length b).map leafL) [pts b1 (cl [v] 22), pts b2 (cl [.int .i64 (k : Int)] 3), A] [A] := by
 intro l Lp Inv hy
 obtain ⟨a, c, rfl, hc⟩ := hv.2
 refine Ctr.enter Tryz.func189 (by kernel_rfl) rfl Tryz.ntmps189 rfl rfl ?_
 intro G F R hE
 refine K_regionA rfl ?_
 refine J_box rfl rfl (fun _ _ _ => trivial) ?_
 intro b3
 refine go ?_
 ((try refine go ?_); first | refine J_callE rfl rfl rfl rfl (Chunk_any a b.length c (k : Int) (by omega)) entA ?_ (fun _ _ _ _ _ => trivial) | refine J_call0E rfl rfl rfl (Chunk_any a b.length c (k : Int) (by omega)) entA ?_ (fun _ _ _ _ _ => trivial))
 rintro _ _ ⟨c1, c2, rfl, rfl⟩
 refine go ?_
 refine K_adv1 rfl ?_
 refine K_ent (Ent.trans (Ent.pick [3, 4, 2] rfl) (Ent.resep [Lp, Inv 0, pts b3 (cl [.func (.yield l) #[] #[] ] 45)] _)) ?_
 refine K_rangeP (Fr := F) (Pre := fun _ _ => [Sep [Lp, Inv 0, pts b3 (cl [.func (.yield l) #[] #[] ] 45)], pts c1 (cl [.slice a b.length c] 22), pts c2 (cl [.int .i64 (k : Int)] 3), A]) (fun _ _ Lp2 v H => H = [Lp2 .ready none, Sep [Lp, Inv (piecesL k b.length b).length, pts b3 (cl [.func (.yield l) #[] #[] ] 45)], A]) rfl hE.1.1 rfl ?c (fun l r => entA) ?hend
 case c =>
  intro l2 r2
  refine Chunk1_any A c1 c2 _ b hv (by omega) k hk hk2 l2 _ (fun j => Sep [Lp, Inv j, pts b3 (cl [.func (.yield l) #[] #[] ] 45)]) ?_
  intro j p rv hp hbp
  have hyj := hy j (leafL p) (by rw [List.getElem?_map, hp]; rfl)
  have hpl : p.length ≤ 900000000 := by
   have h1 := piecesL_get k hk b.length b j (Nat.le_refl _)
   rw [hp] at h1
   split at h1
   ·cases h1; rw [List.length_take, List.length_drop]; omega
   ·cases h1
  refine CtrY.of_K rfl rfl ?_
  intro G F2 R2 hY
  refine go ?_
  refine K_beginRound rfl hY ?_
  refine K_ent (Ent.trans (Ent.pick [1] rfl) (Ent.unsep [_, _, _] _)) ?_
  refine K_drawA (fun w => Sat G w ([pts b3 (cl [.func (.yield l) #[] #[] ] 45)])) (.st 0 (.st 1 (.act 2 (.act 3 (.st 4 .nil))))) rfl (by kernel_rfl) (by kernel_rfl) (by kernel_rfl) (fun w hw => hw.ent entA) ?_
  refine go ?_
  (first | refine J_callE rfl rfl rfl rfl ((Leaf_any A hK rv p hbp hpl)) entA ?_ (fun _ _ w hp hw => by obtain ⟨rfl, rfl⟩ := hp; exact hw.ent entA) | refine J_call0E rfl rfl rfl ((Leaf_any A hK rv p hbp hpl)) entA ?_ (fun _ _ w hp hw => by obtain ⟨rfl, rfl⟩ := hp; exact hw.ent entA))
  rintro _ _ ⟨rfl, rfl⟩
  refine go ?_
  refine J_yield rfl rfl rfl hyj entA ?_ (fun _ _ w hp hw => by obtain ⟨_, rfl⟩ := hp; exact hw.ent entA)
  rintro _ _ ⟨rfl, rfl⟩
  refine go ?_
  refine K_ent (Ent.trans (Ent.pick [0, 1, 3] rfl) (Ent.resep [Lp, Inv (j + 1), pts b3 (cl [.func (.yield l) #[] #[] ] 45)] _)) ?_
  refine K_roundEnd hY rfl entA ⟨rfl, rfl⟩
 rintro l2 r2 v2 H' rfl
 refine ⟨_, _, _, rfl, by decide, ?_⟩
 rw [hE.1.2]
 rw [List.length_map] at hE
 refine K_ent (Ent.unsep [_, _, _] _) ?_
 refine go ?_
 apply K_fallEndM hE Tryz.func189 rfl _ rfl rfl
 exact entA
theorem leaves_any (a : Option Addr) (n c : Nat) (k : Int) : Ctr Tryz.prog 161 [.slice a n c, .int .i64 k] [] (fun r H => ∃ b1 b2, r = .func (.func 189) #[] #[ptr b1, ptr b2] ∧ H = [pts b1 (cl [.slice a n c] 22), pts b2 (cl [.int .i64 k] 3)]) := by
 refine Ctr.enter Tryz.func161 (by kernel_rfl) rfl Tryz.ntmps161 rfl rfl ?_
 intro G F R hE
 refine K_regionA rfl ?_
 refine J_box rfl rfl (fun _ _ _ => trivial) ?_
 intro b1
 refine J_box rfl rfl (fun _ _ _ => trivial) ?_
 intro b2
 refine go ?_
 (first | refine K_return hE Tryz.func161 rfl _ rfl ⟨b1, b2, rfl, rfl⟩ entA | refine K_fallEnd hE Tryz.func161 rfl _ rfl ⟨b1, b2, rfl, rfl⟩ entA)
theorem leavesB_len {b : List UInt8} {k : Int} {ls : List Dg} (h : leavesB b k = some ls) : 1 ≤ ls.length ∧ ls.length ≤ 1024 := by
 unfold leavesB at h
 split at h
 ·rename_i hr
  cases h
  simp only [rightB, decide_eq_true_eq] at hr
  obtain ⟨k, rfl⟩ : ∃ m : Nat, k = m := ⟨k.toNat, by omega⟩
  rw [List.length_map, Int.toNat_natCast, piecesL_len k (by omega)]
  have h2 := hr.2.2.2.2
  have h3 : ((b.length : Int) + (k : Int) - 1) / (k : Int) = (((b.length + k - 1) / k : Nat) : Int) := by
   rw [Int.natCast_ediv]; congr 1; omega
  rw [h3] at h2
  have h4 : 1 ≤ (b.length + k - 1) / k := by rw [Nat.le_div_iff_mul_le (by omega)]; omega
  omega
 ·cases h
set_option maxRecDepth 20000 in
theorem Leaves_any (A : HP) (hK : KAt A) (v : Value) (b : List UInt8) (hv : BAt A v b) (hl : b.length ≤ 900000000) (k : Int) :
  Ctr Tryz.prog 143 [v, .int .i64 k] [A] (fun r H => (leavesB b k = none ∧ r = .tuple #[.slice none 0 0, .int .i64 1] ∧ H = [A]) ∨ ∃ ls rv, leavesB b k = some ls ∧ r = .tuple #[rv, .int .i64 0] ∧ H = [slc 30 32 rv ls.length (ls.flatMap dC), A]) := by
 obtain ⟨a, c, rfl, hc⟩ := hv.2
 refine Ctr.enter Tryz.func143 (by kernel_rfl) rfl Tryz.ntmps143 rfl rfl ?_
 intro G F R hE
 ((try refine go ?_); first | refine J_callE rfl rfl rfl rfl (Right_any ⟨Dg.zero, b.length, k, Dg.zero⟩) entA ?_ (fun _ _ _ _ _ => trivial) | refine J_call0E rfl rfl rfl (Right_any ⟨Dg.zero, b.length, k, Dg.zero⟩) entA ?_ (fun _ _ _ _ _ => trivial))
 rintro _ _ ⟨rfl, rfl⟩
 cases hr : rightB ⟨Dg.zero, b.length, k, Dg.zero⟩ with
 | false =>
  have hn : leavesB b k = none := by unfold leavesB; rw [if_neg (by rw [hr]; simp)]
  refine go ?_
  (first | refine K_return hE Tryz.func143 rfl _ rfl (.inl ⟨hn, rfl, rfl⟩) entA | refine K_fallEnd hE Tryz.func143 rfl _ rfl (.inl ⟨hn, rfl, rfl⟩) entA)
 | true =>
  have hs : leavesB b k = some ((piecesL k.toNat b.length b).map leafL) := by unfold leavesB; rw [if_pos hr]
  have hln := leavesB_len hs
  simp only [rightB, decide_eq_true_eq] at hr
  obtain ⟨k, rfl⟩ : ∃ m : Nat, k = m := ⟨k.toNat, by omega⟩
  rw [Int.toNat_natCast] at hs hln
  refine go ?_
  ((try refine go ?_); first | refine J_callE rfl rfl rfl rfl (leaves_any a b.length c (k : Int)) entA ?_ (fun _ _ _ _ _ => trivial) | refine J_call0E rfl rfl rfl (leaves_any a b.length c (k : Int)) entA ?_ (fun _ _ _ _ _ => trivial))
  rintro _ _ ⟨b1, b2, rfl, rfl⟩
  refine go ?_
  ((try refine go ?_); first | refine J_callE rfl rfl rfl rfl (CollectD_any 189 [ptr b1, ptr b2] _ [pts b1 (cl [.slice a b.length c] 22), pts b2 (cl [.int .i64 (k : Int)] 3), A] [A] (by omega) (leaves1_any A hK b1 b2 _ b hv hl k (by omega) (by omega))) entA ?_ (fun _ _ _ _ _ => trivial) | refine J_call0E rfl rfl rfl (CollectD_any 189 [ptr b1, ptr b2] _ [pts b1 (cl [.slice a b.length c] 22), pts b2 (cl [.int .i64 (k : Int)] 3), A] [A] (by omega) (leaves1_any A hK b1 b2 _ b hv hl k (by omega) (by omega))) entA ?_ (fun _ _ _ _ _ => trivial))
  rintro rv _ rfl
  refine go ?_
  (first | refine K_return hE Tryz.func143 rfl _ rfl (.inr ⟨_, _, hs, rfl, rfl⟩) entA | refine K_fallEnd hE Tryz.func143 rfl _ rfl (.inr ⟨_, _, hs, rfl, rfl⟩) entA)
theorem J_slcSep {P : Program} {f : FuncId} {n : Nat} {R : Ending → World → Prop} {G : Glob} {k : List Item} {L : Lst} {H : List HP} {S : World → Prop} {all : Array Oper} {rest : Pl} {e : TypeId} {sz nn : Nat} {v : Value} {cs : List Value} {A : HP}
  (h : Vw (slc e sz v nn cs) v nn cs → J P f n R G S all rest k L (Sep [slc e sz v nn cs, A] :: H)) : J P f n R G S all rest k L (slc e sz v nn cs :: A :: H) :=
 J_sat fun w hw => by
  obtain ⟨h1, _, hA⟩ := hw.getA (i := 0) rfl
  exact J_ent (Ent.resep [_, _] _) (h (Vw.of_slc e sz v nn cs ⟨h1, hA⟩))
set_option maxRecDepth 20000 in
theorem Blob_any (A : HP) (hK : KAt A) (v : Value) (b : List UInt8) (hv : BAt A v b) (hl : b.length ≤ 900000000) (k : Int) :
  Ctr Tryz.prog 106 [v, .int .i64 k] [A] (fun r H => r = (match blobB b k with
   | none => .tuple #[blV Bl.zero, .int .i64 1]
   | some x => .tuple #[blV x, .int .i64 0]) ∧ H = [A]) := by
 have hvv := hv
 obtain ⟨a, c, rfl, hc⟩ := hv.2
 refine Ctr.enter Tryz.func106 (by kernel_rfl) rfl Tryz.ntmps106 rfl rfl ?_
 intro G F R hE
 refine K_regionA rfl ?_
 refine J_alloc (U := tab) rfl rfl rfl (fun _ _ _ => trivial) ?_
 intro b4
 refine go ?_
 ((try refine go ?_); first | refine J_callE rfl rfl rfl rfl (Leaves_any A hK _ b hv hl k) entA ?_ (fun _ _ _ _ _ => trivial) | refine J_call0E rfl rfl rfl (Leaves_any A hK _ b hv hl k) entA ?_ (fun _ _ _ _ _ => trivial))
 rintro _ _ (⟨hn, rfl, rfl⟩ | ⟨ls, rv, hs, rfl, rfl⟩)
 ·have hb : blobB b k = none := by unfold blobB; rw [hn]; rfl
  rw [hb] at hE
  refine go ?_
  (refine K_noMarks hE ?_; apply K_returnV (U := tab) hE Tryz.func106 rfl (Ent.refl _); (repeat (first | exact ResOk.nil | apply ResOk.tmp rfl | apply ResOk.agg 0 rfl rfl rfl rfl rfl | apply ResOk.agg 1 rfl rfl rfl rfl rfl | apply ResOk.agg 2 rfl rfl rfl rfl rfl | apply ResOk.agg 3 rfl rfl rfl rfl rfl | apply ResOk.agg 4 rfl rfl rfl rfl rfl | apply ResOk.agg 5 rfl rfl rfl rfl rfl | apply ResOk.agg 6 rfl rfl rfl rfl rfl | apply ResOk.agg 7 rfl rfl rfl rfl rfl | apply ResOk.agg 8 rfl rfl rfl rfl rfl | apply ResOk.one 0 rfl rfl rfl rfl | apply ResOk.one 1 rfl rfl rfl rfl | apply ResOk.one 2 rfl rfl rfl rfl | apply ResOk.one 3 rfl rfl rfl rfl | apply ResOk.one 4 rfl rfl rfl rfl | apply ResOk.one 5 rfl rfl rfl rfl | apply ResOk.one 6 rfl rfl rfl rfl)); exact ⟨rfl, rfl⟩; exact entA)
 ·have hb : blobB b k = some ⟨sumL b, b.length, k, rootL ls⟩ := by unfold blobB; rw [hs]; rfl
  rw [hb] at hE
  have hln := leavesB_len hs
  (first | refine J_shape 0 rfl ?_ | refine K_shape 0 rfl ?_)
  rintro ra rc rfl
  refine go ?_
  ((try refine go ?_); first | refine J_callE rfl rfl rfl rfl (Sum_any A hK _ b hv (by omega)) entA ?_ (fun _ _ _ _ _ => trivial) | refine J_call0E rfl rfl rfl (Sum_any A hK _ b hv (by omega)) entA ?_ (fun _ _ _ _ _ => trivial))
  rintro _ _ ⟨rfl, rfl⟩
  refine go ?_
  refine J_ent (Ent.pick [1, 0] rfl) ?_
  refine J_slcSep fun hvw => ?_
  ((try refine go ?_); first | refine J_callE rfl rfl rfl rfl (Root_any _ (hK.mono (Sep_get (i := 1) rfl)) _ ls (hvw.mono (Sep_get (i := 0) rfl)) (by omega) (by intro e; rw [e] at hln; simp at hln)) entA ?_ (fun _ _ _ _ _ => trivial) | refine J_call0E rfl rfl rfl (Root_any _ (hK.mono (Sep_get (i := 1) rfl)) _ ls (hvw.mono (Sep_get (i := 0) rfl)) (by omega) (by intro e; rw [e] at hln; simp at hln)) entA ?_ (fun _ _ _ _ _ => trivial))
  rintro _ _ ⟨rfl, rfl⟩
  refine J_ent (Ent.unsep _ _) ?_
  refine go ?_
  (refine K_noMarks hE ?_; apply K_returnV (U := tab) hE Tryz.func106 rfl (Ent.refl _); (repeat (first | exact ResOk.nil | apply ResOk.tmp rfl | apply ResOk.agg 0 rfl rfl rfl rfl rfl | apply ResOk.agg 1 rfl rfl rfl rfl rfl | apply ResOk.agg 2 rfl rfl rfl rfl rfl | apply ResOk.agg 3 rfl rfl rfl rfl rfl | apply ResOk.agg 4 rfl rfl rfl rfl rfl | apply ResOk.agg 5 rfl rfl rfl rfl rfl | apply ResOk.agg 6 rfl rfl rfl rfl rfl | apply ResOk.agg 7 rfl rfl rfl rfl rfl | apply ResOk.agg 8 rfl rfl rfl rfl rfl | apply ResOk.one 0 rfl rfl rfl rfl | apply ResOk.one 1 rfl rfl rfl rfl | apply ResOk.one 2 rfl rfl rfl rfl | apply ResOk.one 3 rfl rfl rfl rfl | apply ResOk.one 4 rfl rfl rfl rfl | apply ResOk.one 5 rfl rfl rfl rfl | apply ResOk.one 6 rfl rfl rfl rfl)); exact ⟨rfl, rfl⟩; exact entA)
theorem blp0 (x : Bl) : ((blC x).drop 0).take 32 = dC x.d := rfl
theorem blp3 (x : Bl) : ((blC x).drop 34).take 32 = dC x.root := rfl
theorem blp1 (x : Bl) : (blC x).toArray[32]? = some (.int .i64 x.size) := rfl
theorem blp2 (x : Bl) : (blC x).toArray[33]? = some (.int .i64 x.piece) := rfl
theorem blFlds : Tryz.prog.fieldsOf 32 = #[{ name := "Digest", type := 30, offset := 0, embedded := false, tag := "", pkgPath := "", byteOffset := 0 },
        { name := "Size", type := 3, offset := 32, embedded := false, tag := "", pkgPath := "", byteOffset := 32 },
        { name := "Piece", type := 3, offset := 33, embedded := false, tag := "", pkgPath := "", byteOffset := 40 },
        { name := "Root", type := 30, offset := 34, embedded := false, tag := "", pkgPath := "", byteOffset := 48 }] := by kernel_rfl
theorem blFldu : Tryz.prog.underlying 32 = some (.struct (Tryz.prog.fieldsOf 32)) := by kernel_rfl
theorem blFldst : Tryz.prog.stoodInHeld 32 = false := by kernel_rfl
theorem blDg : Tryz.prog.cellsOf 30 = 32 := by kernel_rfl
theorem blU8 : Tryz.prog.cellsOf 5 = 1 := by kernel_rfl
theorem blPi : Tryz.prog.plainKey 3 = true := by kernel_rfl
theorem guBl : Tryz.prog.eqGuardType Tryz.prog.depth 32 = false := by kernel_rfl
theorem eqBlP {P : Program} (h1 : P.fieldsOf 32 = #[{ name := "Digest", type := 30, offset := 0, embedded := false, tag := "", pkgPath := "", byteOffset := 0 },
        { name := "Size", type := 3, offset := 32, embedded := false, tag := "", pkgPath := "", byteOffset := 32 },
        { name := "Piece", type := 3, offset := 33, embedded := false, tag := "", pkgPath := "", byteOffset := 40 },
        { name := "Root", type := 30, offset := 34, embedded := false, tag := "", pkgPath := "", byteOffset := 48 }])
    (h2 : P.underlying 32 = some (.struct (P.fieldsOf 32))) (h3 : P.stoodInHeld 32 = false) (h4 : P.cellsOf 30 = 32) (h5 : P.cellsOf 5 = 1) (h6 : P.plainKey 3 = true)
    (h7 : P.underlying 30 = some (.array 32 5)) (h8 : P.underlying 5 = some (.int .u8)) (h9 : P.underlying 3 = some (.int .i64)) (x y : Bl) (D : Nat) (w : World) :
    (Op.equalIn (D + 2 + 1) 32 (blV x) (blV y)).run P w = .ok (decide (x = y)) w := by
  unfold blV
  rw [run_equalIn_struct w (D + 2) 32 _ _ h2 h3, h1]
  have h := run_eqFields4 (P := P) (td := 30) (ti := 3) (f1 := { name := "Digest", type := 30, offset := 0, embedded := false, tag := "", pkgPath := "", byteOffset := 0 })
    (f2 := { name := "Size", type := 3, offset := 32, embedded := false, tag := "", pkgPath := "", byteOffset := 32 }) (f3 := { name := "Piece", type := 3, offset := 33, embedded := false, tag := "", pkgPath := "", byteOffset := 40 })
    (f4 := { name := "Root", type := 30, offset := 34, embedded := false, tag := "", pkgPath := "", byteOffset := 48 }) (by decide) (by decide) (by decide) (by decide) (D + 2) w (blC x) (blC y) x.d y.d x.root y.root x.size y.size x.piece y.piece
    (fun a b => run_equalD h7 h8 h5 a b D w) (fun a b => run_eqI64 h9 a b (D + 1) w) rfl rfl rfl rfl
    (part_dg h7 h4 _ 0 _ (blp0 x) w) (part_dg h7 h4 _ 0 _ (blp0 y) w) (Go.run_part_plain w h6 (blp1 x)) (Go.run_part_plain w h6 (blp1 y)) (Go.run_part_plain w h6 (blp2 x)) (Go.run_part_plain w h6 (blp2 y)) (part_dg h7 h4 _ 34 _ (blp3 x) w) (part_dg h7 h4 _ 34 _ (blp3 y) w)
  refine Eq.trans h ?_
  congr 1
  rw [decide_eq_decide]
  obtain ⟨d1, s1, p1, r1⟩ := x
  obtain ⟨d2, s2, p2, r2⟩ := y
  simp
theorem eqBl (x y : Bl) (w : World) : (Op.equal 32 (blV x) (blV y)).run Tryz.prog w = .ok (decide (x = y)) w :=
 eqBlP blFlds blFldu blFldst blDg blU8 blPi Tryz.underlying30 Tryz.underlying5 Tryz.underlying3 x y 9997 w
set_option maxRecDepth 20000 in
theorem Whole_any (A : HP) (hK : KAt A) (x : Bl) (v : Value) (b : List UInt8) (hv : BAt A v b) (hl : b.length ≤ 900000000) :
  Ctr Tryz.prog 64 [blV x, v] [A] (fun r H => r = .bool (wholeB x b) ∧ H = [A]) := by
 have hvv := hv
 obtain ⟨a, c, rfl, hc⟩ := hv.2
 have hbl := Blob_any A hK _ b hv hl x.piece
 unfold blV at hbl ⊢
 refine Ctr.enter Tryz.func64 (by kernel_rfl) rfl Tryz.ntmps64 rfl rfl ?_
 intro G F R hE
 refine K_regionA rfl ?_
 refine J_box rfl rfl (fun _ _ _ => trivial) ?_
 intro b2
 refine go ?_
 ((try refine go ?_); first | refine J_callE rfl rfl rfl rfl (hbl) entA ?_ (fun _ _ _ _ _ => trivial) | refine J_call0E rfl rfl rfl (hbl) entA ?_ (fun _ _ _ _ _ => trivial))
 rintro _ _ ⟨rfl, rfl⟩
 cases hb : blobB b x.piece with
 | none =>
  have hw : wholeB x b = false := by unfold wholeB; rw [hb]; rfl
  rw [hw] at hE
  refine go ?_
  refine J_alloc (U := tab) rfl rfl rfl (fun _ _ _ => trivial) ?_
  intro b5
  refine go ?_
  (first | refine K_return hE Tryz.func64 rfl _ rfl ⟨rfl, rfl⟩ entA | refine K_fallEnd hE Tryz.func64 rfl _ rfl ⟨rfl, rfl⟩ entA)
 | some y =>
  have hw : wholeB x b = decide (x = y) := by unfold wholeB; rw [hb]; simp only [Option.some.injEq]; rw [decide_eq_decide]; exact eq_comm
  rw [hw] at hE
  simp only
  refine go ?_
  refine J_alloc (U := tab) rfl rfl rfl (fun _ _ _ => trivial) ?_
  intro b5
  refine go ?_
  (repeat (first | refine go1 ?_ | refine J_fork ?_ ?_ | refine J_loadArr (U := tab) (l := blC x) 2 rfl rfl rfl rfl rfl rfl ?_ | refine J_loadArr (U := tab) (l := blC y) 0 rfl rfl rfl rfl rfl rfl ?_ | refine J_eqAgg (b := decide (x = y)) rfl rfl rfl guBl (fun w => eqBl x y w) ?_))
  (first | refine K_return hE Tryz.func64 rfl _ rfl ⟨rfl, rfl⟩ entA | refine K_fallEnd hE Tryz.func64 rfl _ rfl ⟨rfl, rfl⟩ entA)
end Go.Proofs.YtpecmnaikjbanaaGreatDoor
/- tlv: Encode; the items of bytes; Decode. -/
namespace Go.Proofs.YtpecmnaikjbanaaGreatDoor
open Go Go.SL
attribute [local irreducible] J K Ctr Ends pts slc mapR mapI sbRow stock arrS loopP CtrY
set_option maxRecDepth 20000 in
theorem tlvEncode_any (X : HP) (v : Value) (l : List It) (hv : ItemsAt X v l) (hl : l.length ≤ 100) (hr : riseOk 0 (l.map It.p) = true) (hs : (recL (l.map It.p)).length ≤ 65536) :
    Ctr Tryz.prog 116 [v] [X] (fun r H => ∃ rv, r = .tuple #[rv, .int .i64 0] ∧ H = [slc 5 1 rv (recL (l.map It.p)).length (bV (recL (l.map It.p))), X]) := by
  obtain ⟨hvw, hvb⟩ := hv
  obtain ⟨a, c, rfl⟩ := hvw.shape
  refine Ctr.enter Tryz.func116 (by kernel_rfl) rfl Tryz.ntmps116 rfl rfl ?_
  intro G F R hE
  refine go ?_
  refine K_ent (slc_lift 5 1 none _) ?_
  refine K_loop (fun y : Nat × List UInt8 × Option Addr × Nat => y.1 ≤ l.length ∧ y.2.1 = recL ((l.map It.p).take y.1)) (fun y => l.length - y.1)
    (fun y => [(4, .slice y.2.2.1 y.2.1.length y.2.2.2), (5, .int .i64 (lastN (l.map It.p) y.1)), (8, .slice a l.length c), (9, .int .i64 (l.length : Int)), (10, .int .i64 (y.1 : Int))])
    (fun y => slc 5 1 (.slice y.2.2.1 y.2.1.length y.2.2.2) y.2.1.length (bV y.2.1) :: X :: F) (0, [], none, 0) ⟨Nat.zero_le _, rfl⟩ rfl (by repeat (first | exact keep_nil | refine keep_cons rfl ?_)) entA ?_
  rintro ⟨i, acc, a1, c1⟩ ⟨hi, hacc⟩ ih
  simp only at hi hacc
  have hal := recL_take (l.map It.p) i
  rw [← hacc] at hal
  refine go ?_
  refine K_condP rfl rfl ?_ ?_
  case' refine_2 =>
    intro hge
    simp only at hge
    have hend : acc = recL (l.map It.p) := by rw [hacc, List.take_of_length_le (by rw [List.length_map]; omega)]
    subst hend
    refine go ?_
    (first | refine K_return hE Tryz.func116 rfl _ rfl ⟨_, rfl, rfl⟩ entA | refine K_fallEnd hE Tryz.func116 rfl _ rfl ⟨_, rfl, rfl⟩ entA)
  intro hlt
  simp only at hlt
  have hi' : i < l.length := by omega
  obtain ⟨x, hx⟩ : ∃ x, l[i]? = some x := ⟨l[i], by simp⟩
  have hxp : (l.map It.p)[i]? = some x.p := by rw [List.getElem?_map, hx]; rfl
  obtain ⟨hr1, hr2⟩ := rise_get _ 0 i x.p hr hxp
  have hr1 : lastN (l.map It.p) i < x.n := hr1
  have hr2 : x.n ≤ 63 := hr2
  have hl2 := lastN_succ hxp
  have hbx := hvb x (List.mem_of_getElem? hx)
  obtain ⟨xn, xv, xb⟩ := x
  simp only at hr1 hr2 hbx
  have hl2 : lastN (l.map It.p) (i + 1) = xn := hl2
  obtain ⟨xa, xc, rfl, hxc⟩ := hbx.2
  have ht : recL ((l.map It.p).take (i + 1)) = acc ++ itemL (xn, xb) := by
    rw [List.take_add_one, hxp, Option.toList_some, recL_app, ← hacc]; simp [recL, It.p]
  have hal1 := recL_take (l.map It.p) (i + 1)
  rw [ht, List.length_append] at hal1
  have hit : (itemL (xn, xb)).length = 1 + (uv xb.length).length + xb.length := by simp only [itemL, List.length_cons, List.length_append]; omega
  obtain ⟨b, o, c', he⟩ := hvw.some (by rw [← List.length_pos_iff, chunk_len itC_len]; omega)
  simp only [Value.slice.injEq, true_and] at he
  obtain ⟨rfl, rfl⟩ := he
  refine go ?_
  refine J_at (U := tab) i 2 rfl rfl rfl rfl rfl rfl rfl rfl hi' ?_
  refine J_loadElem (U := tab) (es := itC ⟨xn, .slice xa xb.length xc, xb⟩) 1 (i * 2) rfl rfl rfl hvw rfl (fun j v hj => ?_) rfl rfl rfl ?_
  · have hj3 : j < 2 := by
      rcases Nat.lt_or_ge j 2 with h | h
      · exact h
      · rw [List.getElem?_eq_none (by rw [itC_len]; exact h)] at hj; cases hj
    rw [chunk_get itC_len hx j hj3]; exact hj
  refine J_alloc (U := tab) rfl rfl rfl (fun _ _ _ => trivial) ?_
  intro bd
  repeat' (first | (with_reducible intro _hh) | refine go1 ?_ | refine J_fork ?_ ?_ | refine J_gsP rfl rfl rfl rfl ?_ ?_ | refine K_condP rfl rfl ?_ ?_)
  any_goals (exfalso; simp only at *; omega)
  rename_i h1 h2 h3
  simp only at h1 h2 h3
  obtain ⟨xm, rfl⟩ : ∃ m : Nat, xn = m := ⟨xn.toNat, by
    have : 0 < xn := rise_pos _ 0 hr (Int.le_refl _) _ (List.mem_of_getElem? hxp)
    omega⟩
  refine go ?_
  refine K_drawA (fun w => Sat G w ([X, pts bd (cl [.int .i64 (xm : Int), .slice xa xb.length xc] 149)])) (.st 0 (.st 1 (.st 2 (.st 5 (.st 6 (.st 7 (.st 8 (.st 11 (.st 12 (.act 3 (.act 4 (.act 9 (.act 10 (.act 13 (.st 14 .nil))))))))))))))) rfl (by kernel_rfl) (by kernel_rfl) (by kernel_rfl) (fun w hw => hw.ent entA) ?_
  refine J_adv (U := tab) rfl ?_
  refine J_isConv ?_
  refine J_convW (U := tab) rfl rfl rfl rfl rfl rfl ?_
  (first | refine J_slot 36 ((u8 (UInt8.ofNat xm))) rfl ((conv_u8 xm)) ?_ | refine K_slot 36 ((u8 (UInt8.ofNat xm))) rfl ((conv_u8 xm)) ?_)
  refine go ?_
  refine J_buildSlice1 (U := tab) (cs := bV [UInt8.ofNat xm]) rfl rfl rfl rfl rfl rfl rfl rfl rfl (fun _ w hw => hw.ent entA) ?_
  intro row
  refine go ?_
  refine J_append (U := tab) (mm := 1) (news := bV [UInt8.ofNat xm]) 2 0 rfl rfl rfl rfl rfl rfl rfl rfl rfl rfl rfl rfl (Vw.pts rfl) rfl (bV_one _) (by simp only; omega) (by show (_ + _) * 1 ≤ _; simp only; omega) (fun _ => rfl) (fun _ w hw => hw.ent entA) ?_
  intro v1
  simp only
  rw [show bV acc ++ bV [UInt8.ofNat xm] = bV (acc ++ [UInt8.ofNat xm]) from by simp [bV], show acc.length + 1 = (acc ++ [UInt8.ofNat xm]).length from by simp]
  (first | refine J_shape 2 rfl ?_ | refine K_shape 2 rfl ?_)
  rintro a2 c2 rfl
  refine go ?_
  (first | refine J_callE rfl rfl rfl rfl (Uint_any xb.length (by omega)) entA ?_ (fun _ _ w hp hw => by obtain rfl := hp; exact hw.ent entA) | refine J_call0E rfl rfl rfl (Uint_any xb.length (by omega)) entA ?_ (fun _ _ w hp hw => by obtain rfl := hp; exact hw.ent entA))
  rintro r _ rfl
  (first | refine J_shape 0 rfl ?_ | refine K_shape 0 rfl ?_)
  rintro ra rc rfl
  refine J_slcVw 0 rfl ?_
  intro hbr
  refine go ?_
  refine J_append (U := tab) (mm := (uv xb.length).length) (news := bV (uv xb.length)) 3 0 rfl rfl rfl rfl rfl rfl rfl rfl rfl rfl rfl rfl hbr (by show _ = _ * 1; rw [bV_length]; omega) (bV_one _) (by simp only [List.length_append, List.length_singleton]; omega) (by show (_ + _) * 1 ≤ _; simp only [List.length_append, List.length_singleton]; omega) (fun _ => rfl) (fun _ w hw => hw.ent entA) ?_
  intro v2
  rw [show bV (acc ++ [UInt8.ofNat xm]) ++ bV (uv xb.length) = bV (acc ++ [UInt8.ofNat xm] ++ uv xb.length) from by simp [bV], show (acc ++ [UInt8.ofNat xm]).length + (uv xb.length).length = (acc ++ [UInt8.ofNat xm] ++ uv xb.length).length from by simp; omega]
  (first | refine J_shape 3 rfl ?_ | refine K_shape 3 rfl ?_)
  rintro a3 c3 rfl
  refine go ?_
  refine J_append (U := tab) (mm := xb.length) (news := bV xb) 3 4 rfl rfl rfl rfl rfl rfl rfl rfl rfl rfl rfl rfl hbx.1 (by show _ = _ * 1; rw [bV_length]; omega) (bV_one _) (by simp only [List.length_append, List.length_singleton]; omega) (by show (_ + _) * 1 ≤ _; simp only [List.length_append, List.length_singleton]; omega) (fun _ => rfl) (fun _ w hw => hw.ent entA) ?_
  intro v3
  rw [show bV (acc ++ [UInt8.ofNat xm] ++ uv xb.length) ++ bV xb = bV (acc ++ itemL (xm, xb)) from by simp [bV, itemL], show (acc ++ [UInt8.ofNat xm] ++ uv xb.length).length + xb.length = (acc ++ itemL (xm, xb)).length from by simp [itemL]; omega]
  (first | refine J_shape 3 rfl ?_ | refine K_shape 3 rfl ?_)
  rintro a4 c4 rfl
  refine go ?_
  refine K_condP rfl rfl ?_ ?_
  · intro hbig; exfalso; simp only [List.length_append] at hbig; omega
  intro _
  refine go ?_
  (first | refine J_slot 5 ((.int .i64 (lastN (l.map It.p) (i + 1)))) rfl ((congrArg (Value.int .i64) hl2.symm)) ?_ | refine K_slot 5 ((.int .i64 (lastN (l.map It.p) (i + 1)))) rfl ((congrArg (Value.int .i64) hl2.symm)) ?_)
  refine K_again ih (i + 1, acc ++ itemL (xm, xb), a4, c4) rfl ⟨by simp only; omega, by simp only; rw [ht]⟩ (by simp only; omega) (by repeat (first | exact keep_nil | refine keep_cons rfl ?_)) entA
theorem items_any (v : Value) (h1 : ∃ a n c, v = .slice a n c) : Ctr Tryz.prog 154 [v] [] (fun r H => ∃ b, r = .func (.func 185) #[] #[ptr b] ∧ H = [pts b (cl [v] 22)]) := by
 obtain ⟨a, n, c, rfl⟩ := h1
 refine Ctr.enter Tryz.func154 (by kernel_rfl) rfl Tryz.ntmps154 rfl rfl ?_
 intro G F R hE
 refine go ?_
 refine J_box rfl rfl (fun _ _ _ => trivial) ?_
 intro b
 refine go ?_
 (first | refine K_return hE Tryz.func154 rfl _ rfl ⟨b, rfl, rfl⟩ entA | refine K_fallEnd hE Tryz.func154 rfl _ rfl ⟨b, rfl, rfl⟩ entA)
set_option maxRecDepth 20000 in
set_option maxHeartbeats 1000000 in
theorem items1_any (A : HP) (bx : Nat) (v : Value) (bs : List UInt8) (hv : BAt A v bs) (hl : bs.length ≤ 1000000000) (l : Nat) (Lp LpD InvE : HP) (Inv : Nat → HP) (good : Nat → Bool)
    (hy : ∀ i x, (tlvI bs)[i]? = some x → (∀ j, j < i → good j = true) → ∀ r, (∃ a n c, r = .slice a n c) → CtrY Tryz.prog l [.agg #[.int .i64 x.1, r] ] [Lp, Inv i, slc 5 1 r x.2.length (bV x.2)]
      (fun v H => (good i = true ∧ v = .bool true ∧ H = [Lp, Inv (i + 1)]) ∨ (good i = false ∧ v = .bool false ∧ H = [LpD, InvE]))) :
    Ctr Tryz.prog 185 [.func (.yield l) #[] #[], ptr bx] [Lp, Inv 0, pts bx (cl [v] 22), A]
      (fun _ H => ((∀ i, i < (tlvI bs).length → good i = true) ∧ H = [Lp, Inv (tlvI bs).length, A]) ∨ ((∃ i, i < (tlvI bs).length ∧ good i = false) ∧ H = [LpD, InvE, A])) := by
  refine Ctr.enter Tryz.func185 (by kernel_rfl) rfl Tryz.ntmps185 rfl rfl ?_
  intro G F R hE
  refine K_loop (fun y : Value × List UInt8 × Nat => BAt A y.1 y.2.1 ∧ y.2.1.length ≤ bs.length ∧ (tlvI bs).drop y.2.2 = tlvI y.2.1 ∧ y.2.2 ≤ (tlvI bs).length ∧ ∀ j, j < y.2.2 → good j = true) (fun y => y.2.1.length)
    (fun _ => [(0, .func (.yield l) #[] #[]), (1, ptr bx)])
    (fun y => Lp :: Inv y.2.2 :: pts bx (cl [y.1] 22) :: A :: F) (v, bs, 0) ⟨hv, Nat.le_refl _, by simp, Nat.zero_le _, fun j hj => absurd hj (Nat.not_lt_zero j)⟩ rfl (by repeat (first | exact keep_nil | refine keep_cons rfl ?_)) entA ?_
  rintro ⟨v1, rest, i⟩ ⟨hv1, hr1, hr2, hr3, hgd⟩ ih
  simp only at hv1 hr1 hr2 hr3 hgd
  obtain ⟨a, c, rfl, hc⟩ := hv1.2
  refine go ?_
  match rest, hr2, hv1, hr1, hc, ih with
  | [], hr2, hv1, hr1, hc, ih =>
    have hfin : i = (tlvI bs).length := by
      rw [tlvI_nil] at hr2
      have : (tlvI bs).length ≤ i := by simpa using hr2
      omega
    subst hfin
    refine go ?_
    (first | refine K_return hE Tryz.func185 rfl _ rfl (.inl ⟨hgd, rfl⟩) entA | refine K_fallEnd hE Tryz.func185 rfl _ rfl (.inl ⟨hgd, rfl⟩) entA)
  | c0 :: rst, hr2, hv1, hr1, hc, ih =>
    have hcut := hv1.cut 1 (by simp)
    rw [List.drop_succ_cons, List.drop_zero] at hcut
    (first | refine J_slot 8 ((.bool true)) rfl ((congrArg Value.bool (decide_eq_true (by simp only [List.length_cons]; omega)))) ?_ | refine K_slot 8 ((.bool true)) rfl ((congrArg Value.bool (decide_eq_true (by simp only [List.length_cons]; omega)))) ?_)
    refine go ?_
    refine J_sliceAny (U := tab) (p := 1) (q := ((c0 :: rst).length : Int)) rfl rfl rfl rfl rfl rfl rfl (by omega) (by simp only [List.length_cons]; omega) (.inl rfl) ?_
    (first | refine J_slot 11 ((.slice (sliceAt a c 1 1) rst.length (c - 1))) rfl ((by rw [show ((c0 :: rst).length : Int).toNat = rst.length + 1 from by simp [List.length_cons], show (1 : Int).toNat = 1 from rfl, show rst.length + 1 - 1 = rst.length by omega]; rfl)) ?_ | refine K_slot 11 ((.slice (sliceAt a c 1 1) rst.length (c - 1))) rfl ((by rw [show ((c0 :: rst).length : Int).toNat = rst.length + 1 from by simp [List.length_cons], show (1 : Int).toNat = 1 from rfl, show rst.length + 1 - 1 = rst.length by omega]; rfl)) ?_)
    ((try refine go ?_); first | refine J_callE rfl rfl rfl rfl (cut_any A _ rst hcut.1 hcut.2 (by simp only [List.length_cons] at hr1; omega)) entA ?_ (fun _ _ _ _ _ => trivial) | refine J_call0E rfl rfl rfl (cut_any A _ rst hcut.1 hcut.2 (by simp only [List.length_cons] at hr1; omega)) entA ?_ (fun _ _ _ _ _ => trivial))
    rintro _ _ ⟨rv, rfl, hrv, rfl⟩
    have hrv : BAt A rv (cutA rst).2.1 := hrv
    have hcl := cutA_len rst
    have hrl : rst.length < 1000000000 := by simp only [List.length_cons] at hr1; omega
    have hget : ∀ x, tlvI (c0 :: rst) = x :: tlvI ((cutA rst).2.1.drop (cutA rst).1) ∨ tlvI (c0 :: rst) = [x] → (tlvI bs)[i]? = some x := by
      intro x hx
      have := congrArg (fun l => l[0]?) hr2
      simp only [List.getElem?_drop, Nat.add_zero] at this
      rw [this]
      rcases hx with h | h <;> rw [h] <;> rfl
    obtain ⟨ra, rc, rfl, hrc⟩ := hrv.2
    by_cases hok : (cutA rst).2.2 = true ∧ (cutA rst).1 ≤ (cutA rst).2.1.length
    · have hcons := tlvI_cons (c := c0) hok
      have hx := hget _ (.inl hcons)
      rw [hok.1]
      have hfr := hrv.front (cutA rst).1 hok.2
      have hct := hrv.cut (cutA rst).1 hok.2
      have hil := (List.getElem?_eq_some_iff.1 hx).1
      refine go ?_
      refine K_condP rfl rfl ?_ ?_
      · intro hbig; exfalso; omega
      intro _
      have hpos : 0 < (c0 :: rst).length := by simp only [List.length_cons]; omega
      obtain ⟨ba, oa, ca, hsl⟩ := bV_at hv1.1 hpos
      simp only [Value.slice.injEq, true_and] at hsl
      obtain ⟨rfl, rfl⟩ := hsl
      obtain ⟨n, hn⟩ : ∃ n, n = (cutA rst).1 := ⟨_, rfl⟩
      have hxl : ((cutA rst).2.1.take n).length = n := by rw [hn, List.length_take]; omega
      rw [← hn] at hfr hct hcons hx hok ⊢
      have hc256 : c0.toNat < 256 := c0.toNat_lt
      have hnl := hok.2
      have hr1' : rst.length + 1 ≤ bs.length := hr1
      refine K_drawA (fun w => Sat G w ([A, pts bx (cl [.slice (some ⟨ba, oa, none⟩) (c0 :: rst).length c] 22)])) (.st 0 (.st 1 (.st 2 (.st 3 (.st 4 (.st 5 (.st 6 (.st 7 (.act 8 (.st 9 (.act 10 (.st 11 .nil)))))))))))) rfl (by kernel_rfl) (by kernel_rfl) (by kernel_rfl) (fun w hw => hw.ent entA) ?_
      refine go ?_
      refine J_at1 (U := tab) 0 rfl rfl rfl rfl rfl rfl rfl rfl hpos ?_
      refine go ?_
      refine J_isLoad ?_
      refine J_loadAtS (U := tab) 0 0 rfl rfl rfl hv1.1 rfl (show (bV (c0 :: rst))[0]? = some (u8 c0) from rfl) rfl rfl ?_
      refine go ?_
      refine J_sliceAny (U := tab) (p := 0) (q := (n : Int)) rfl rfl rfl rfl rfl rfl rfl (by omega) (by omega) (.inr (by omega)) ?_
      (first | refine J_slot 35 ((.slice (sliceAt ra rc 0 1) ((cutA rst).2.1.take n).length rc)) rfl ((by rw [hxl, show ((n : Int)).toNat = n from by omega]; rfl)) ?_ | refine K_slot 35 ((.slice (sliceAt ra rc 0 1) ((cutA rst).2.1.take n).length rc)) rfl ((by rw [hxl, show ((n : Int)).toNat = n from by omega]; rfl)) ?_)
      have hfr : BAt A (.slice (sliceAt ra rc 0 1) ((cutA rst).2.1.take n).length rc) ((cutA rst).2.1.take n) := by rw [hxl]; exact hfr
      (first | refine J_callE rfl rfl rfl rfl (Clone_bytes A _ ((cutA rst).2.1.take n) hfr.1 (by omega)) entA ?_ (fun _ _ w hp hw => by obtain rfl := hp; exact hw.ent entA) | refine J_call0E rfl rfl rfl (Clone_bytes A _ ((cutA rst).2.1.take n) hfr.1 (by omega)) entA ?_ (fun _ _ w hp hw => by obtain rfl := hp; exact hw.ent entA))
      rintro r _ rfl
      (first | refine J_shape 0 rfl ?_ | refine K_shape 0 rfl ?_)
      rintro rr rrc rfl
      refine go ?_
      refine J_yield rfl rfl rfl (hy i _ hx hgd (.slice rr ((cutA rst).2.1.take n).length rrc) ⟨_, _, _, rfl⟩) entA ?_ (fun _ _ w hp hw => by rcases hp with ⟨_, _, rfl⟩ | ⟨_, _, rfl⟩ <;> exact hw.ent entA)
      rintro _ _ (⟨hg, rfl, rfl⟩ | ⟨hg, rfl, rfl⟩)
      · refine go ?_
        refine J_sliceAny (U := tab) (p := (n : Int)) (q := ((cutA rst).2.1.length : Int)) rfl rfl rfl rfl rfl rfl rfl (by omega) (by omega) (.inl rfl) ?_
        (first | refine J_slot 42 ((.slice (sliceAt ra rc n 1) ((cutA rst).2.1.length - n) (rc - n))) rfl ((by rw [show ((n : Int)).toNat = n from by omega, show (((cutA rst).2.1.length : Int)).toNat = (cutA rst).2.1.length from by omega]; rfl)) ?_ | refine K_slot 42 ((.slice (sliceAt ra rc n 1) ((cutA rst).2.1.length - n) (rc - n))) rfl ((by rw [show ((n : Int)).toNat = n from by omega, show (((cutA rst).2.1.length : Int)).toNat = (cutA rst).2.1.length from by omega]; rfl)) ?_)
        refine go ?_
        have hnx : (tlvI bs).drop (i + 1) = tlvI ((cutA rst).2.1.drop n) := by
          have := congrArg (fun l => l.drop 1) hr2
          simp only [hcons, List.drop_drop] at this
          simpa using this
        refine K_again ih (.slice (sliceAt ra rc n 1) ((cutA rst).2.1.length - n) (rc - n), (cutA rst).2.1.drop n, i + 1) rfl (⟨hct, by simp only [List.length_drop]; omega, hnx, by simp only; omega, fun j hj => by
          rcases Nat.lt_or_ge j i with h | h
          · exact hgd j h
          · rw [show j = i by simp only at hj; omega]; exact hg⟩) (by simp only [List.length_drop, List.length_cons]; omega) (by repeat (first | exact keep_nil | refine keep_cons rfl ?_)) entA
      · refine go ?_
        (first | refine K_return hE Tryz.func185 rfl _ rfl (.inr ⟨⟨i, hil, hg⟩, rfl⟩) entA | refine K_fallEnd hE Tryz.func185 rfl _ rfl (.inr ⟨⟨i, hil, hg⟩, rfl⟩) entA)
    · have hbad := tlvI_bad (c := c0) hok
      have hx := hget _ (.inr hbad)
      cases hok2 : (cutA rst).2.2 with
      | false =>
        refine go ?_
        refine J_ent (slc_lift 5 1 none _) ?_
        refine J_yield rfl rfl rfl (hy i (0, []) hx hgd (.slice none 0 0) ⟨_, _, _, rfl⟩) entA ?_ (fun _ _ _ _ _ => trivial)
        rintro _ _ (⟨hg, rfl, rfl⟩ | ⟨hg, rfl, rfl⟩)
        · refine go ?_
          have hfin : i + 1 = (tlvI bs).length := by
            have := congrArg List.length hr2
            rw [hbad, List.length_drop] at this
            simp only [List.length_singleton] at this
            omega
          rw [hfin]
          have hall : ∀ j, j < (tlvI bs).length → good j = true := fun j hj => by
            rcases Nat.lt_or_ge j i with h | h
            · exact hgd j h
            · rw [show j = i by omega]; exact hg
          (first | refine K_return hE Tryz.func185 rfl _ rfl (.inl ⟨hall, rfl⟩) entA | refine K_fallEnd hE Tryz.func185 rfl _ rfl (.inl ⟨hall, rfl⟩) entA)
        · refine go ?_
          have hil := (List.getElem?_eq_some_iff.1 hx).1
          (first | refine K_return hE Tryz.func185 rfl _ rfl (.inr ⟨⟨i, hil, hg⟩, rfl⟩) entA | refine K_fallEnd hE Tryz.func185 rfl _ rfl (.inr ⟨⟨i, hil, hg⟩, rfl⟩) entA)
      | true =>
        have hgt : ¬ (cutA rst).1 ≤ (cutA rst).2.1.length := fun h => hok ⟨hok2, h⟩
        refine go ?_
        refine K_condP rfl rfl ?_ ?_
        case' refine_2 => (intro h; exfalso; omega)
        intro _
        refine go ?_
        refine J_ent (slc_lift 5 1 none _) ?_
        refine J_yield rfl rfl rfl (hy i (0, []) hx hgd (.slice none 0 0) ⟨_, _, _, rfl⟩) entA ?_ (fun _ _ _ _ _ => trivial)
        rintro _ _ (⟨hg, rfl, rfl⟩ | ⟨hg, rfl, rfl⟩)
        · refine go ?_
          have hfin : i + 1 = (tlvI bs).length := by
            have := congrArg List.length hr2
            rw [hbad, List.length_drop] at this
            simp only [List.length_singleton] at this
            omega
          rw [hfin]
          have hall : ∀ j, j < (tlvI bs).length → good j = true := fun j hj => by
            rcases Nat.lt_or_ge j i with h | h
            · exact hgd j h
            · rw [show j = i by omega]; exact hg
          (first | refine K_return hE Tryz.func185 rfl _ rfl (.inl ⟨hall, rfl⟩) entA | refine K_fallEnd hE Tryz.func185 rfl _ rfl (.inl ⟨hall, rfl⟩) entA)
        · refine go ?_
          have hil := (List.getElem?_eq_some_iff.1 hx).1
          (first | refine K_return hE Tryz.func185 rfl _ rfl (.inr ⟨⟨i, hil, hg⟩, rfl⟩) entA | refine K_fallEnd hE Tryz.func185 rfl _ rfl (.inr ⟨⟨i, hil, hg⟩, rfl⟩) entA)
end Go.Proofs.YtpecmnaikjbanaaGreatDoor
namespace Go.Proofs.YtpecmnaikjbanaaGreatDoor
open Go Go.SL
def DI (b2 b3 b4 b5 : Nat) (xs : List (Int × List UInt8)) (i : Nat) : HP := fun h => ∃ x : List It × HP × Value, (x.1.map It.p = xs.take i ∧ ∀ y ∈ x.1, BAt x.2.1 y.v y.b) ∧
 Sep [pts b2 (cl [.slice none 0 0] 145), pts b3 (cl [.int .i64 0] 26), pts b4 (cl [x.2.2] 145), pts b5 (cl [.int .i64 (lastN xs i)] 3), slc 149 2 x.2.2 x.1.length (x.1.flatMap itC), x.2.1] h
theorem DI_open (b2 b3 b4 b5 : Nat) (xs : List (Int × List UInt8)) (i : Nat) : ∀ h, DI b2 b3 b4 b5 xs i h → ∃ x : List It × HP × Value, (x.1.map It.p = xs.take i ∧ ∀ y ∈ x.1, BAt x.2.1 y.v y.b) ∧
 Sep [pts b2 (cl [.slice none 0 0] 145), pts b3 (cl [.int .i64 0] 26), pts b4 (cl [x.2.2] 145), pts b5 (cl [.int .i64 (lastN xs i)] 3), slc 149 2 x.2.2 x.1.length (x.1.flatMap itC), x.2.1] h := fun h hs => hs
theorem DI_close (b2 b3 b4 b5 : Nat) (xs : List (Int × List UInt8)) (i : Nat) (its : List It) (Z : HP) (v : Value) (h1 : its.map It.p = xs.take i) (h2 : ∀ y ∈ its, BAt Z y.v y.b) (H : List HP) :
  Ent (pts b2 (cl [.slice none 0 0] 145) :: pts b3 (cl [.int .i64 0] 26) :: pts b4 (cl [v] 145) :: pts b5 (cl [.int .i64 (lastN xs i)] 3) :: slc 149 2 v its.length (its.flatMap itC) :: Z :: H) (DI b2 b3 b4 b5 xs i :: H) :=
 Ent.fold (A := DI b2 b3 b4 b5 xs i) (B := [pts b2 (cl [.slice none 0 0] 145), pts b3 (cl [.int .i64 0] 26), pts b4 (cl [v] 145), pts b5 (cl [.int .i64 (lastN xs i)] 3), slc 149 2 v its.length (its.flatMap itC), Z]) fun h hs => ⟨h, sub.refl h, (its, Z, v), ⟨h1, h2⟩, hs⟩
def DE (b2 b3 : Nat) : HP := Sep [pts b2 (cl [.slice none 0 0] 145), pts b3 (cl [.int .i64 2] 26)]
theorem DE_close (b2 b3 : Nat) (H : List HP) : Ent (pts b2 (cl [.slice none 0 0] 145) :: pts b3 (cl [.int .i64 2] 26) :: H) (DE b2 b3 :: H) := Ent.resep [pts b2 (cl [.slice none 0 0] 145), pts b3 (cl [.int .i64 2] 26)] H
theorem DE_open (b2 b3 : Nat) (H : List HP) : Ent (DE b2 b3 :: H) (pts b2 (cl [.slice none 0 0] 145) :: pts b3 (cl [.int .i64 2] 26) :: H) := Ent.unsep [pts b2 (cl [.slice none 0 0] 145), pts b3 (cl [.int .i64 2] 26)] H
attribute [local irreducible] J K Ctr Ends pts slc mapR mapI sbRow stock arrS loopP CtrY DI DE
set_option maxRecDepth 20000 in
set_option maxHeartbeats 1000000 in
theorem tlvDecode_any (A : HP) (v : Value) (bs : List UInt8) (hv : BAt A v bs) (hl : bs.length ≤ 1000000000) :
  Ctr Tryz.prog 128 [v] [A] (fun r H => (tlvA bs = none ∧ r = .tuple #[.slice none 0 0, .int .i64 2] ∧ H = [A]) ∨ (∃ (xs : List (Int × List UInt8)) (its : List It) (Z : HP) (rv : Value), tlvA bs = some xs ∧ its.map It.p = xs ∧ ItemsAt Z rv its ∧ r = .tuple #[rv, .int .i64 0] ∧ H = [Z, A])) := by
 obtain ⟨a, c, rfl, hc⟩ := hv.2
 have htl : tlvA bs = if 65536 < bs.length then none else if riseOk 0 (tlvI bs) then some (tlvI bs) else none := rfl
 refine Ctr.enter Tryz.func128 (by kernel_rfl) rfl Tryz.ntmps128 rfl rfl ?_
 intro G F R hE
 refine K_regionA rfl ?_
 refine J_alloc (U := tab) rfl rfl rfl (fun _ _ _ => trivial) ?_
 intro b2
 refine J_alloc (U := tab) rfl rfl rfl (fun _ _ _ => trivial) ?_
 intro b3
 refine go ?_
 refine K_condP rfl rfl ?_ ?_
 ·intro hbig
  have hbig : 65536 < bs.length := by omega
  rw [if_pos hbig] at htl
  refine go ?_
  refine K_noMarks hE ?_
  refine K_returnCC (U := tab) 1 0 hE Tryz.func128 rfl rfl rfl rfl rfl rfl rfl rfl (Ent.refl _) rfl rfl (.inl ⟨htl, rfl, rfl⟩) entA
 intro hsm
 have hsm : ¬ 65536 < bs.length := by omega
 rw [if_neg hsm] at htl
 refine go ?_
 refine J_alloc (U := tab) rfl rfl rfl (fun _ _ _ => trivial) ?_
 intro b4
 refine go ?_
 refine J_alloc (U := tab) rfl rfl rfl (fun _ _ _ => trivial) ?_
 intro b5
 refine go ?_
 ((try refine go ?_); first | refine J_callE rfl rfl rfl rfl (items_any _ ⟨a, _, c, rfl⟩) entA ?_ (fun _ _ _ _ _ => trivial) | refine J_call0E rfl rfl rfl (items_any _ ⟨a, _, c, rfl⟩) entA ?_ (fun _ _ _ _ _ => trivial))
 rintro _ _ ⟨bx, rfl, rfl⟩
 refine go ?_
 refine K_adv1 rfl ?_
 refine K_ent (Ent.trans (Ent.resep [] _) (Ent.trans (slc_lift 149 2 none _) (Ent.trans entA (DI_close b2 b3 b4 b5 (tlvI bs) 0 [] (Sep []) (.slice none 0 0) rfl (by simp) (pts bx (cl [.slice a bs.length c] 22) :: A :: F))))) ?_
 refine K_rangeP (Fr := F) (Pre := fun _ _ => [DI b2 b3 b4 b5 (tlvI bs) 0, pts bx (cl [.slice a bs.length c] 22), A]) (fun _ _ Lp v H => ((∀ i, i < (tlvI bs).length → goodI (tlvI bs) i = true) ∧ H = [Lp .ready none, DI b2 b3 b4 b5 (tlvI bs) (tlvI bs).length, A]) ∨ ((∃ i, i < (tlvI bs).length ∧ goodI (tlvI bs) i = false) ∧ H = [Lp .done (some .ret), DE b2 b3, A])) rfl hE.1.1 rfl ?c (fun l r => entA) ?hend
 case c =>
  intro l r
  refine Ctr.pre (items1_any A bx _ bs hv hl l _ _ (DE b2 b3) (DI b2 b3 b4 b5 (tlvI bs)) (goodI (tlvI bs)) ?hy) entA
  case hy =>
   intro i x hx hgd rv hrv
   obtain ⟨va, vn, vc, rfl⟩ := hrv
   refine CtrY.of_K rfl rfl ?_
   intro G2 F2 R2 hY
   refine K_regionA rfl ?_
   refine J_alloc (U := tab) rfl rfl rfl (fun _ _ _ => trivial) ?_
   intro b6
   refine go ?_
   refine K_ent (Ent.pick [1] rfl) ?_
   refine K_beginRound rfl hY ?_
   refine K_ent (Ent.pick [2] rfl) ?_
   refine K_open (DI_open b2 b3 b4 b5 (tlvI bs) i) ?_
   rintro ⟨its, Z, vi⟩ ⟨hip, hib⟩
   simp only at hip hib
   have hgi := goodI_at hx
   obtain ⟨xn, xb⟩ := x
   simp only at hgi
   have hln := lastN_succ hx
   refine K_shape 4 rfl ?_
   intro ia ic hvi
   simp only at hvi
   subst hvi
   simp only
   refine K_ent (Ent.pick [7, 0, 1, 2, 3] rfl) ?_
   repeat' (first | (with_reducible intro _hh) | refine go1 ?_ | refine J_fork ?_ ?_ | refine J_gsP rfl rfl rfl rfl ?_ ?_ | refine K_condP rfl rfl ?_ ?_)
   ·have hbad : goodI (tlvI bs) i = false := by rw [hgi, decide_eq_false (by omega), Bool.false_and]
    refine K_ent (Ent.trans (Ent.pick [1, 2] rfl) (DE_close b2 b3 _)) ?_
    refine K_roundRet hY rfl entA (.inr ⟨hbad, rfl, rfl⟩)
   ·have hbad : goodI (tlvI bs) i = false := by rw [hgi, decide_eq_false (show ¬ xn ≤ 63 by omega), Bool.and_false]
    refine K_ent (Ent.trans (Ent.pick [1, 2] rfl) (DE_close b2 b3 _)) ?_
    refine K_roundRet hY rfl entA (.inr ⟨hbad, rfl, rfl⟩)
   ·rename_i h1
    have hgood : goodI (tlvI bs) i = true := by rw [hgi, decide_eq_true (by omega), decide_eq_true (by omega)]; rfl
    refine J_isStore ?_
    refine J_store (U := tab) 4 (fun _ _ => trivial) rfl rfl rfl rfl rfl rfl rfl rfl rfl ?_
    refine go ?_
    refine J_loadAgg (U := tab) 0 rfl rfl rfl rfl rfl rfl ?_
    refine go ?_
    refine J_slcB (bs := xb) 8 rfl ?_
    intro hbx
    obtain ⟨_, _, hvx, hxc⟩ := hbx.2
    simp only [Value.slice.injEq, true_and] at hvx
    obtain ⟨-, rfl, rfl⟩ := hvx
    have hil := (List.getElem?_eq_some_iff.1 hx).1
    have hxl := tlvI_len bs.length bs (Nat.le_refl _)
    have hitl : its.length = i := by
     have := congrArg List.length hip
     rw [List.length_map, List.length_take] at this
     omega
    refine J_buildSlice1 (U := tab) (cs := itC ⟨xn, .slice va xb.length vc, xb⟩) rfl rfl rfl rfl rfl rfl rfl rfl rfl (fun _ _ _ => trivial) ?_
    intro row
    refine go ?_
    refine J_append (U := tab) (mm := 1) (news := itC ⟨xn, .slice va xb.length vc, xb⟩) 6 0 rfl rfl rfl rfl rfl rfl rfl rfl rfl rfl rfl rfl (Vw.pts rfl) rfl (by intro v hv; simp [itC] at hv; rcases hv with rfl | rfl <;> rfl) (by omega) (by show (_ + _) * 32 ≤ _; omega) (fun _ => rfl) (fun _ _ _ => trivial) ?_
    intro v1
    rw [show its.flatMap itC ++ itC (⟨xn, .slice va xb.length vc, xb⟩ : It) = (its ++ [(⟨xn, .slice va xb.length vc, xb⟩ : It)]).flatMap itC from by simp, show its.length + 1 = (its ++ [(⟨xn, .slice va xb.length vc, xb⟩ : It)]).length from by simp]
    (first | refine J_shape 6 rfl ?_ | refine K_shape 6 rfl ?_)
    rintro ja jc rfl
    refine go ?_
    refine J_isStore ?_
    refine J_store (U := tab) 4 (fun _ _ => trivial) rfl rfl rfl rfl rfl rfl rfl rfl rfl ?_
    refine go ?_
    have hln2 : lastN (tlvI bs) (i + 1) = xn := hln
    have hip2 : (its ++ [(⟨xn, .slice va xb.length vc, xb⟩ : It)]).map It.p = (tlvI bs).take (i + 1) := by
     rw [List.map_append, hip, List.take_add_one, hx]; rfl
    have hcl := DI_close b2 b3 b4 b5 (tlvI bs) (i + 1) (its ++ [(⟨xn, .slice va xb.length vc, xb⟩ : It)]) (Sep [slc 5 1 (.slice va xb.length vc) xb.length (bV xb), Z]) (.slice ja (its ++ [(⟨xn, .slice va xb.length vc, xb⟩ : It)]).length jc) hip2 (fun y hy => by
     rcases List.mem_append.1 hy with h | h
     ·exact (hib y h).mono (Sep_get (i := 1) rfl)
     ·rw [List.mem_singleton.1 h]; exact hbx.mono (Sep_get (i := 0) rfl))
    rw [hln2] at hcl
    refine K_ent (Ent.trans (Ent.pick [9, 7] rfl) (Ent.trans (Ent.resep [_, _] _) (Ent.trans entA (hcl _)))) ?_
    refine K_roundEnd hY rfl entA (.inl ⟨hgood, rfl, rfl⟩)
 rintro l r v H' (⟨hall, rfl⟩ | ⟨⟨i, hi, hbad⟩, rfl⟩)
 ·refine ⟨_, _, _, rfl, by decide, ?_⟩
  have hr : riseOk 0 (tlvI bs) = true := (rise_good _).2 hall
  rw [if_pos hr] at htl
  rw [hE.1.2]
  refine K_open (DI_open b2 b3 b4 b5 (tlvI bs) _) ?_
  rintro ⟨its, Z, vi⟩ ⟨hip, hib⟩
  simp only at hip hib
  rw [List.take_length] at hip
  refine K_shape 4 rfl ?_
  intro ia ic hvi
  simp only at hvi
  subst hvi
  simp only
  refine K_slcVw 4 rfl ?_
  intro hvw
  have hia : ItemsAt (Sep [slc 149 2 (.slice ia its.length ic) its.length (its.flatMap itC), Z]) (.slice ia its.length ic) its := ⟨hvw.mono (Sep_get (i := 0) rfl), fun y hy => (hib y hy).mono (Sep_get (i := 1) rfl)⟩
  refine go ?_
  refine K_ent (Ent.trans (Ent.pick [4, 5] rfl) (Ent.resep [slc 149 2 (.slice ia its.length ic) its.length (its.flatMap itC), Z] _)) ?_
  refine K_returnCC (U := tab) 1 2 hE Tryz.func128 rfl rfl rfl rfl rfl rfl rfl rfl entA rfl rfl (.inr ⟨tlvI bs, its, _, _, htl, hip, hia, rfl, rfl⟩) entA
 ·refine ⟨_, _, _, rfl, by decide, ?_⟩
  have hr : ¬ riseOk 0 (tlvI bs) = true := fun h => by rw [(rise_good _).1 h i hi] at hbad; cases hbad
  rw [if_neg hr] at htl
  rw [hE.1.2]
  refine K_ent (DE_open b2 b3 _) ?_
  refine K_returnCC (U := tab) 0 1 hE Tryz.func128 rfl rfl rfl rfl rfl rfl rfl rfl entA rfl rfl (.inl ⟨htl, rfl, rfl⟩) entA
end Go.Proofs.YtpecmnaikjbanaaGreatDoor
/- manifest: images: whether one may be, as bytes, its name. -/
namespace Go.Proofs.YtpecmnaikjbanaaGreatDoor
open Go Go.SL
attribute [local irreducible] J K Ctr Ends pts slc mapR mapI sbRow stock arrS loopP CtrY Sha.chunks Sha.chunk Sha.rounds Sha.sched sumL taggedL GI leafL
theorem kDg : KeyOk Tryz.prog 30 dV := keyDg Tryz.underlying30 Tryz.underlying5 blU8
def stD (l : List Dg) : List (Dg × Value) := l.map fun d => (d, .bool true)
theorem stD_look (l : List Dg) (d : Dg) : (alook (stD l) d).getD (.bool false) = .bool (decide (d ∈ l)) := by
 induction l with
 | nil => simp [stD, alook]
 | cons x l ih =>
  simp only [stD, alook, List.map_cons, List.find?_cons] at ih ⊢
  by_cases h : x = d
  ·simp [h]
  ·have h2 : ¬ d = x := fun e => h e.symm
   simp only [h, decide_false]
   rw [ih]; simp [h2]
theorem stD_set {l : List Dg} {d : Dg} (h : d ∉ l) : aset (stD l) d (.bool true) = stD (l ++ [d]) := by
 unfold aset
 have : d ∉ (stD l).map (·.1) := by simpa [stD] using h
 rw [if_neg this]; simp [stD]
theorem twice_iff (l : List Bl) : twiceB l = false ↔ (l.map Bl.d).Nodup := by
 induction l with
 | nil => simp [twiceB]
 | cons x l ih =>
  simp only [twiceB, Bool.or_eq_false_iff, ih, List.map_cons, List.nodup_cons]
  constructor
  ·rintro ⟨h1, h2⟩
   refine ⟨fun h => ?_, h2⟩
   obtain ⟨y, hy, he⟩ := List.mem_map.1 h
   have := List.any_eq_false.1 h1 y hy
   exact this (by simpa using he)
  ·rintro ⟨h1, h2⟩
   refine ⟨List.any_eq_false.2 fun y hy he => h1 (List.mem_map.2 ⟨y, hy, by simpa using he⟩), h2⟩
theorem blC_one (l : List Bl) : ∀ v ∈ l.flatMap blC, v.oneCell' = true := by
 intro v hv
 obtain ⟨x, _, h⟩ := List.mem_flatMap.1 hv
 simp only [blC, List.mem_append, List.mem_cons, List.not_mem_nil, or_false] at h
 rcases h with (h | rfl | rfl) | h
 ·rw [dC_bV] at h; exact bV_one _ v h
 ·rfl
 ·rfl
 ·rw [dC_bV] at h; exact bV_one _ v h
theorem blE {l : List Bl} {i : Nat} {x : Bl} (hx : l[i]? = some x) (q : Nat) (v : Value) (hq : (blC x)[q]? = some v) : (l.flatMap blC)[i * 66 + q]? = some v := by
 rw [chunk_get blC_len hx q (by rcases Nat.lt_or_ge q 66 with h | h; exact h; rw [List.getElem?_eq_none (by rw [blC_len]; exact h)] at hq; cases hq)]
 exact hq
theorem blNe {l : List Bl} {i : Nat} (h : i < l.length) : l.flatMap blC ≠ [] := by
 rw [← List.length_pos_iff, chunk_len blC_len]; omega
theorem IndexFunc_bl (A X : HP) (v : Value) (l : List Bl) (hv : Vw A v l.length (l.flatMap blC)) (hlen : l.length ≤ 1000000) (g : FuncId) (cap : List Value) (p : Bl → Bool)
  (hf : ∀ x ∈ l, Ctr Tryz.prog g (blV x :: cap) [X] (fun v H => v = .bool (p x) ∧ H = [X])) :
  Ctr Tryz.prog 114 [v, .func (.func g) #[] cap.toArray] [A, X] (fun r H => r = .int .i64 (idxI p l) ∧ H = [A, X]) := by
 obtain ⟨a, c0, rfl⟩ := hv.shape
 unfold blV at hf
 refine Ctr.enter Tryz.func114 (by kernel_rfl) rfl Tryz.ntmps114 rfl rfl ?_
 intro G F R hR
 refine go ?_
 refine K_loop (fun i : Nat => i ≤ l.length ∧ ∀ y ∈ l.take i, p y = false) (fun i => l.length - i) (fun i => [(0, .slice a l.length c0), (1, .func (.func g) #[] cap.toArray), (7, .int .i64 l.length), (8, .int .i64 i)]) (fun _ => [A, X] ++ F) 0 ⟨by simp, by simp⟩ rfl (by repeat (first | exact keep_nil | refine keep_cons rfl ?_)) (Ent.refl _) ?_
 rintro i ⟨hi, hb⟩ ih
 refine go ?_
 refine K_condP rfl rfl ?_ ?_
 ·intro hlt
  refine go ?_
  have hi' : i < l.length := by omega
  have hx : l[i]? = some l[i] := by simp [hi']
  generalize hxx : l[i] = x at hx
  obtain ⟨b, o, cap', hsl⟩ := hv.some (blNe hi')
  simp only [Value.slice.injEq] at hsl
  obtain ⟨rfl, _, rfl⟩ := hsl
  refine J_at (U := tab) i 66 rfl rfl rfl rfl rfl rfl rfl rfl hi' ?_
  refine J_loadElem (U := tab) (es := blC x) 0 (i * 66) rfl rfl rfl hv rfl (blE hx) rfl rfl rfl ?_
  refine J_call [1] rfl rfl rfl rfl (hf x (List.mem_of_getElem? hx)) rfl (fun _ _ _ _ _ => trivial) ?_
  rintro _ _ ⟨rfl, rfl⟩
  refine go ?_
  refine K_condA rfl rfl ?_ ?_
  ·intro hp
   refine go ?_
   refine K_return hR Tryz.func114 rfl _ rfl ⟨by rw [idxI_some hx hp hb]; rfl, rfl⟩ (Ent.fin [1, 0] 0 rfl rfl)
  ·intro hp
   refine go ?_
   refine K_again ih (i + 1) rfl ⟨by omega, allTake hb hx hp⟩ (by omega) (by repeat (first | exact keep_nil | refine keep_cons rfl ?_)) (Ent.pick [1, 0] rfl)
 ·intro hge
  refine go ?_
  have : i = l.length := by omega
  subst this
  refine K_return hR Tryz.func114 rfl _ rfl ⟨by rw [idxI_none (fun x hx => hb x (by simpa using hx))]; rfl, rfl⟩ (Ent.fin [0, 1] 0 rfl rfl)
theorem ContainsFunc_bl (A X : HP) (v : Value) (l : List Bl) (hv : Vw A v l.length (l.flatMap blC)) (hlen : l.length ≤ 1000000) (g : FuncId) (cap : List Value) (p : Bl → Bool)
  (hf : ∀ x ∈ l, Ctr Tryz.prog g (blV x :: cap) [X] (fun v H => v = .bool (p x) ∧ H = [X])) :
  Ctr Tryz.prog 73 [v, .func (.func g) #[] cap.toArray] [A, X] (fun r H => r = .bool (l.any p) ∧ H = [A, X]) := by
 refine Ctr.enter Tryz.func73 (by kernel_rfl) rfl Tryz.ntmps73 rfl rfl ?_
 intro G F R hR
 refine go ?_
 refine J_call [0, 1] rfl rfl rfl rfl (IndexFunc_bl A X v l hv hlen g cap p hf) rfl (fun _ _ _ _ _ => trivial) ?_
 rintro _ _ ⟨rfl, rfl⟩
 refine go ?_
 have hb : decide (0 ≤ idxI p l) = l.any p := by
  rw [show decide (0 ≤ idxI p l) = decide (¬ idxI p l < 0) from by rw [decide_eq_decide]; omega]
  rw [Bool.eq_iff_iff, decide_eq_true_iff, idxI_neg (p := p) (l := l), Bool.not_eq_false]
 refine K_return hR Tryz.func73 rfl _ rfl ⟨congrArg Value.bool hb, rfl⟩ (Ent.fin [0, 1] 0 rfl rfl)
theorem odd_any (x : Bl) : Ctr Tryz.prog 113 [blV x] [emp] (fun r H => r = .bool (!rightB x) ∧ H = [emp]) := by
 unfold blV
 refine Ctr.enter Tryz.func113 (by kernel_rfl) rfl Tryz.ntmps113 rfl rfl ?_
 intro G F R hE
 refine K_regionA rfl ?_
 refine J_box rfl rfl (fun _ _ _ => trivial) ?_
 intro b1
 refine go ?_
 refine J_loadArr (U := tab) 0 rfl rfl rfl rfl rfl rfl ?_
 ((try refine go ?_); first | refine J_callE rfl rfl rfl rfl (Right_any x) entA ?_ (fun _ _ _ _ _ => trivial) | refine J_call0E rfl rfl rfl (Right_any x) entA ?_ (fun _ _ _ _ _ => trivial))
 rintro _ _ ⟨rfl, rfl⟩
 refine go ?_
 (first | refine K_return hE Tryz.func113 rfl _ rfl ⟨rfl, rfl⟩ entA | refine K_fallEnd hE Tryz.func113 rfl _ rfl ⟨rfl, rfl⟩ entA)
def imV (v : Value) : Value := .agg #[v]
set_option maxRecDepth 20000 in
theorem Image_any (A : HP) (v : Value) (l : List Bl) (hv : Vw A v l.length (l.flatMap blC)) (hlen : l.length ≤ 1000000) :
  Ctr Tryz.prog 70 [imV v] [A] (fun r H => r = .int .i64 (imageB l : Int) ∧ H = [A]) := by
 obtain ⟨a, c, rfl⟩ := hv.shape
 unfold imV
 refine Ctr.enter Tryz.func70 (by kernel_rfl) rfl Tryz.ntmps70 rfl rfl ?_
 intro G F R hE
 refine K_regionA rfl ?_
 refine J_box rfl rfl (fun _ _ _ => trivial) ?_
 intro b1
 refine J_ent (Ent.addEmp _) ?_
 have h1 : (l.length < 1 ∨ 16 < l.length ∨ l.any (fun x => !rightB x) = true) → imageB l = 1 := fun h => by unfold imageB; rw [if_pos h]
 have h2 : ¬ (l.length < 1 ∨ 16 < l.length ∨ l.any (fun x => !rightB x) = true) → imageB l = if twiceB l then 5 else 0 := fun h => by unfold imageB; rw [if_neg h]
 repeat' (first | (with_reducible intro _hh) | refine go1 ?_ | refine J_fork ?_ ?_ | refine J_gsP rfl rfl rfl rfl ?_ ?_ | refine K_condP rfl rfl ?_ ?_ | (refine J_callE rfl rfl rfl rfl (ContainsFunc_bl A emp _ l hv hlen 113 [] (fun x => !rightB x) (fun x _ => odd_any x)) entA ?_ (fun _ _ _ _ _ => trivial); rintro _ _ ⟨rfl, rfl⟩))
 ·rw [h1 (.inl (by omega))] at hE
  (first | refine K_return hE Tryz.func70 rfl _ rfl ⟨rfl, rfl⟩ entA | refine K_fallEnd hE Tryz.func70 rfl _ rfl ⟨rfl, rfl⟩ entA)
 ·rw [h1 (.inr (.inl (by omega)))] at hE
  (first | refine K_return hE Tryz.func70 rfl _ rfl ⟨rfl, rfl⟩ entA | refine K_fallEnd hE Tryz.func70 rfl _ rfl ⟨rfl, rfl⟩ entA)
 cases hany : l.any (fun x => !rightB x) with
 | true =>
  rw [h1 (.inr (.inr hany))] at hE
  refine go ?_
  (first | refine K_return hE Tryz.func70 rfl _ rfl ⟨rfl, rfl⟩ entA | refine K_fallEnd hE Tryz.func70 rfl _ rfl ⟨rfl, rfl⟩ entA)
 | false =>
  have h3 := h2 (fun h => by rcases h with h | h | h; exact absurd h (by omega); exact absurd h (by omega); rw [hany] at h; cases h)
  rw [h3] at hE
  refine go ?_
  refine J_makeMap rfl (fun _ _ _ => trivial) ?_
  intro bm
  (first | refine K_ent (Ent.fold (B := [_]) (A := mapR dV bm (stD [])) (fun h hs => ⟨h, sub.refl h, mapR_new dV bm h (Sep_one hs)⟩)) ?_ | refine J_ent (Ent.fold (B := [_]) (A := mapR dV bm (stD [])) (fun h hs => ⟨h, sub.refl h, mapR_new dV bm h (Sep_one hs)⟩)) ?_)
  refine go ?_
  refine K_loop (fun i : Nat => i ≤ l.length ∧ ((l.take i).map Bl.d).Nodup) (fun i => l.length - i)
   (fun i => [(1, ptr b1), (4, .map (some bm)), (25, .slice a l.length c), (26, .int .i64 (l.length : Int)), (27, .int .i64 (i : Int))])
   (fun i => mapR dV bm (stD ((l.take i).map Bl.d)) :: A :: F) 0 ⟨Nat.zero_le _, by simp⟩ rfl (by repeat (first | exact keep_nil | refine keep_cons rfl ?_)) entA ?_
  rintro i ⟨hi, hnd⟩ ih
  refine go ?_
  refine K_condP rfl rfl ?_ ?_
  ·intro hlt
   have hi' : i < l.length := by omega
   obtain ⟨x, hx⟩ : ∃ x, l[i]? = some x := ⟨l[i], by simp⟩
   obtain ⟨b, o, cap', hsl⟩ := hv.some (blNe hi')
   simp only [Value.slice.injEq] at hsl
   obtain ⟨rfl, _, rfl⟩ := hsl
   have htk : (l.take (i + 1)).map Bl.d = (l.take i).map Bl.d ++ [x.d] := by rw [List.take_add_one, hx]; simp
   refine go ?_
   refine J_at (U := tab) i 66 rfl rfl rfl rfl rfl rfl rfl rfl hi' ?_
   refine J_isLoad ?_
   refine J_loadElem (U := tab) (es := blC x) 1 (i * 66) rfl rfl rfl hv rfl (blE hx) rfl rfl rfl ?_
   refine J_alloc (U := tab) rfl rfl rfl (fun _ _ _ => trivial) ?_
   intro b6
   refine go ?_
   refine J_loadAgg (U := tab) 0 rfl rfl rfl rfl rfl rfl ?_
   refine J_lookup (U := tab) (key := x.d) 1 rfl kDg rfl rfl rfl rfl rfl rfl rfl rfl ?_
   refine J_slot 34 (.bool (decide (x.d ∈ (l.take i).map Bl.d))) rfl (stD_look _ _) ?_
   refine go ?_
   refine K_condP rfl rfl ?_ ?_
   ·intro hin
    have htw : twiceB l = true := by
     cases h : twiceB l with
     | true => rfl
     | false =>
      exfalso
      have hN := (twice_iff l).1 h
      have hsub : ((l.take (i + 1)).map Bl.d).Nodup := hN.sublist ((List.take_sublist _ _).map _)
      rw [htk, List.nodup_append] at hsub
      exact hsub.2.2 _ hin _ (by simp) rfl
    rw [htw] at hE
    refine go ?_
    (first | refine K_return hE Tryz.func70 rfl _ rfl ⟨rfl, rfl⟩ entA | refine K_fallEnd hE Tryz.func70 rfl _ rfl ⟨rfl, rfl⟩ entA)
   ·intro hnin
    refine go ?_
    refine J_loadAgg (U := tab) 0 rfl rfl rfl rfl rfl rfl ?_
    refine J_mapUpdate (U := tab) (key := x.d) 1 kDg (fun _ _ => trivial) rfl rfl rfl rfl rfl rfl rfl rfl ?_
    rw [stD_set hnin, ← htk]
    refine go ?_
    refine K_again ih (i + 1) rfl ⟨by omega, by rw [htk, List.nodup_append]; exact ⟨hnd, by simp, fun p hp q hq => by simp at hq; subst hq; exact fun e => hnin (e ▸ hp)⟩⟩ (by omega) (by repeat (first | exact keep_nil | refine keep_cons rfl ?_)) entA
  intro hge
  have hie : i = l.length := by omega
  subst hie
  rw [List.take_length] at hnd
  rw [(twice_iff l).2 hnd] at hE
  refine go ?_
  (first | refine K_return hE Tryz.func70 rfl _ rfl ⟨rfl, rfl⟩ entA | refine K_fallEnd hE Tryz.func70 rfl _ rfl ⟨rfl, rfl⟩ entA)
end Go.Proofs.YtpecmnaikjbanaaGreatDoor
