/- Texts of one claim, joined: Dk, Dl, EngZ, EngVi, EngV2, Gs0, Gg1, Bb, Hd. -/
import Derived.Test.YtpecmnaikjbanaaGreatDoorQBL3
import Derived.Test.YtpecmnaikjbanaaGreatDoorQBL4
import Derived.Test.YtpecmnaikjbanaaGreatDoorQBL6
import Derived.Test.YtpecmnaikjbanaaGreatDoorQBL7
import Derived.Test.YtpecmnaikjbanaaGreatDoorQBL8
import Derived.ProofKit
import Derived.Below
import Derived.Shelf.SortG.Plain
import Derived.Shelf.SortG.SortNone
import Derived.Test.YtpecmnaikjbanaaGreatDoorChecked
/- manifest: an image as bytes, its name. -/
set_option linter.unusedVariables false
set_option linter.unusedSimpArgs false
namespace Go.Proofs.YtpecmnaikjbanaaGreatDoor
open Go Go.SL
attribute [local irreducible] J K Ctr Ends pts slc mapR mapI sbRow stock arrS loopP CtrY Sha.chunks Sha.chunk Sha.rounds Sha.sched sumL taggedL GI leafL
theorem BAt.ptsO {b o n : Nat} {bs : List UInt8} {l : List Value} {e : TypeId} (hn : bs.length = n) (hl : (l.drop o).take n = bV bs) : BAt (pts b (cl l e)) (.slice (some ⟨b, o, none⟩) n n) bs := by
 subst hn
 exact ⟨Vw.pts (by rw [bV_length]; exact hl), _, _, rfl, Nat.le_refl _⟩
theorem itemsI_app : ∀ (l : List Bl) (i : Nat) (x : Bl), itemsI i (l ++ [x]) = itemsI i l ++ [(((i + l.length : Nat) : Int) + 1, recL (itemsB x))]
 | [], i, x => by simp [itemsI]
 | y :: l, i, x => by
  simp only [List.cons_append, itemsI, itemsI_app l (i + 1) x, List.length_cons]
  rw [show i + 1 + l.length = i + (l.length + 1) from by omega]
theorem itemsI_length : ∀ (l : List Bl) (i : Nat), (itemsI i l).length = l.length
 | [], i => rfl
 | y :: l, i => by simp only [itemsI, List.length_cons, itemsI_length l (i + 1)]
structure Its where
 l : List It
 Z : HP
set_option maxRecDepth 20000 in
set_option maxHeartbeats 1000000 in
theorem mEncode_any (A : HP) (v : Value) (l : List Bl) (hv : Vw A v l.length (l.flatMap blC)) (hlen : l.length ≤ 1000000) :
    Ctr Tryz.prog 74 [imV v] [A] (fun r H => (imageB l ≠ 0 ∧ r = .tuple #[.slice none 0 0, .int .i64 (imageB l : Int)] ∧ H = [A]) ∨
      ∃ rv, imageB l = 0 ∧ r = .tuple #[rv, .int .i64 0] ∧ H = [slc 5 1 rv (encB l).length (bV (encB l)), A]) := by
  have him := Image_any A v l hv hlen
  obtain ⟨a, c, rfl⟩ := hv.shape
  unfold imV at him ⊢
  refine Ctr.enter Tryz.func74 (by kernel_rfl) rfl Tryz.ntmps74 rfl rfl ?_
  intro G F R hE
  refine K_regionA rfl ?_
  refine J_box rfl rfl (fun _ _ _ => trivial) ?_
  intro b1
  refine go ?_
  refine J_loadArr (U := tab) (l := [.slice a l.length c]) 0 rfl rfl rfl rfl rfl rfl ?_
  ((try refine go ?_); first | refine J_callE rfl rfl rfl rfl (him) entA ?_ (fun _ _ _ _ _ => trivial) | refine J_call0E rfl rfl rfl (him) entA ?_ (fun _ _ _ _ _ => trivial))
  rintro _ _ ⟨rfl, rfl⟩
  refine go ?_
  refine K_condP rfl rfl ?_ ?_
  · intro hne
    have hne' : imageB l ≠ 0 := by omega
    refine go ?_
    (first | refine K_return hE Tryz.func74 rfl _ rfl (.inl ⟨hne', rfl, rfl⟩) entA | refine K_fallEnd hE Tryz.func74 rfl _ rfl (.inl ⟨hne', rfl, rfl⟩) entA)
  intro heq
  have h0 : imageB l = 0 := by omega
  obtain ⟨hl16, hl1, hright⟩ := imageB_right h0
  refine go ?_
  refine K_ent (Ent.trans (Ent.resep [] _) (slc_lift 149 2 none _)) ?_
  refine K_loop (fun y : Nat × Its × Option Addr × Nat => y.1 ≤ l.length ∧ y.2.1.l.map It.p = itemsI 0 (l.take y.1) ∧ ∀ z ∈ y.2.1.l, BAt y.2.1.Z z.v z.b) (fun y => l.length - y.1)
    (fun y => [(1, ptr b1), (5, .slice y.2.2.1 y.2.1.l.length y.2.2.2), (18, .slice a l.length c), (19, .int .i64 (l.length : Int)), (20, .int .i64 (y.1 : Int))])
    (fun y => slc 149 2 (.slice y.2.2.1 y.2.1.l.length y.2.2.2) y.2.1.l.length (y.2.1.l.flatMap itC) :: y.2.1.Z :: A :: F) (0, ⟨[], Sep []⟩, none, 0) ⟨Nat.zero_le _, rfl, by simp⟩ rfl (by repeat (first | exact keep_nil | refine keep_cons rfl ?_)) entA ?_
  rintro ⟨i, ⟨its, Z⟩, ia, ic⟩ ⟨hi, hip, hib⟩ ih
  simp only at hi hip hib
  dsimp only
  have hitl : its.length = i := by
    have := congrArg List.length hip
    rw [List.length_map, itemsI_length, List.length_take] at this; omega
  refine go ?_
  refine K_condP rfl rfl ?_ ?_
  · intro hlt
    have hi' : i < l.length := by omega
    obtain ⟨x, hx⟩ : ∃ x, l[i]? = some x := ⟨l[i], by simp⟩
    have hxr := hright x (List.mem_of_getElem? hx)
    have hxr' := hxr
    simp only [rightB, decide_eq_true_eq] at hxr'
    obtain ⟨sz, hsz⟩ : ∃ m : Nat, x.size = m := ⟨x.size.toNat, by omega⟩
    obtain ⟨pc, hpc⟩ : ∃ m : Nat, x.piece = m := ⟨x.piece.toNat, by omega⟩
    obtain ⟨b, o, cap', hsl⟩ := hv.some (blNe hi')
    simp only [Value.slice.injEq] at hsl
    obtain ⟨rfl, _, rfl⟩ := hsl
    refine go ?_
    refine J_at (U := tab) i 66 rfl rfl rfl rfl rfl rfl rfl rfl hi' ?_
    refine J_isLoad ?_
    refine J_loadElem (U := tab) (es := blC x) 2 (i * 66) rfl rfl rfl hv rfl (blE hx) rfl rfl rfl ?_
    refine J_alloc (U := tab) rfl rfl rfl (fun _ _ _ => trivial) ?_
    intro b7
    refine go ?_
    refine K_drawA (fun w => Sat G w ([pts b7 (cl (blC x) 32)])) (.st 0 (.st 1 (.st 2 (.st 4 (.st 5 (.st 6 (.act 3 (.act 7 (.st 8 (.st 9 .nil)))))))))) rfl (by kernel_rfl) (by kernel_rfl) (by kernel_rfl) (fun w hw => hw.ent entA) ?_
    refine go ?_
    (first | refine J_slot 27 ((.int .u64 (sz : Int))) rfl ((congrArg (Value.int .u64) hsz)) ?_ | refine K_slot 27 ((.int .u64 (sz : Int))) rfl ((congrArg (Value.int .u64) hsz)) ?_)
    (first | refine J_slot 31 ((.int .u64 (pc : Int))) rfl ((congrArg (Value.int .u64) hpc)) ?_ | refine K_slot 31 ((.int .u64 (pc : Int))) rfl ((congrArg (Value.int .u64) hpc)) ?_)
    (first | refine J_callE rfl rfl rfl rfl (Uint_any sz (by omega)) entA ?_ (fun _ _ w hp hw => by obtain rfl := hp; exact hw.ent entA) | refine J_call0E rfl rfl rfl (Uint_any sz (by omega)) entA ?_ (fun _ _ w hp hw => by obtain rfl := hp; exact hw.ent entA))
    rintro r8 _ rfl
    (first | refine J_callE rfl rfl rfl rfl (Uint_any pc (by omega)) entA ?_ (fun _ _ w hp hw => by obtain rfl := hp; exact hw.ent entA) | refine J_call0E rfl rfl rfl (Uint_any pc (by omega)) entA ?_ (fun _ _ w hp hw => by obtain rfl := hp; exact hw.ent entA))
    rintro r9 _ rfl
    (first | refine J_shape 0 rfl ?_ | refine K_shape 0 rfl ?_)
    rintro a9 c9 rfl
    (first | refine J_shape 1 rfl ?_ | refine K_shape 1 rfl ?_)
    rintro a8 c8 rfl
    refine J_slcB (bs := uv pc) 0 rfl ?_
    intro hb9
    refine J_slcB (bs := uv sz) 1 rfl ?_
    intro hb8
    refine go ?_
    obtain ⟨it4, hit4⟩ : ∃ it4 : List It, it4 = [⟨1, .slice (some ⟨b7, 0, none⟩) 32 32, x.d.bs⟩, ⟨2, .slice a8 (uv sz).length c8, uv sz⟩, ⟨3, .slice a9 (uv pc).length c9, uv pc⟩, ⟨4, .slice (some ⟨b7, 34, none⟩) 32 32, x.root.bs⟩] := ⟨_, rfl⟩
    have hp4 : it4.map It.p = itemsB x := by rw [hit4]; simp only [itemsB, List.map_cons, List.map_nil, It.p, hsz, hpc, Int.toNat_natCast]
    have hrl := itemsB_len x hxr
    refine K_drawA (fun w => Sat G w ([])) (.st 0 (.st 1 (.st 2 (.st 3 (.st 4 (.st 5 (.st 6 (.st 7 (.st 8 (.st 9 (.act 10 (.act 11 (.st 12 (.st 13 (.st 14 (.st 15 (.st 16 .nil))))))))))))))))) rfl (by kernel_rfl) (by kernel_rfl) (by kernel_rfl) (fun w hw => hw.ent entA) ?_
    (repeat (first | refine go1 ?_ | refine J_fork ?_ ?_ | refine J_sliceArr (U := tab) rfl rfl rfl rfl rfl ?_))
    refine J_buildSlice1 (U := tab) (cs := it4.flatMap itC) rfl rfl rfl rfl rfl rfl rfl rfl (by rw [hit4]; rfl) (fun _ _ hw => hw.ent entA) ?_
    intro row
    have h4 : it4.length = 4 := by rw [hit4]; rfl
    have hItA : ItemsAt (Sep [pts row (cl (it4.flatMap itC) 149), pts b7 (cl (blC x) 32), slc 5 1 (.slice a8 (uv sz).length c8) (uv sz).length (bV (uv sz)), slc 5 1 (.slice a9 (uv pc).length c9) (uv pc).length (bV (uv pc))]) (.slice (some ⟨row, 0, none⟩) 4 4) it4 := by
      refine ⟨?_, fun y hy => ?_⟩
      · rw [h4]
        exact (Vw.pts (by rw [List.drop_zero, List.take_length])).mono (Sep_get (i := 0) rfl)
      · rw [hit4] at hy
        simp only [List.mem_cons, List.not_mem_nil, or_false] at hy
        rcases hy with rfl | rfl | rfl | rfl
        · exact (BAt.ptsO x.d.len (by rw [← dC_bV]; exact blp0 x)).mono (Sep_get (i := 1) rfl)
        · exact hb8.mono (Sep_get (i := 2) rfl)
        · exact hb9.mono (Sep_get (i := 3) rfl)
        · exact (BAt.ptsO x.root.len (by rw [← dC_bV]; exact blp3 x)).mono (Sep_get (i := 1) rfl)
    have hrise : riseOk 0 (it4.map It.p) = true := by rw [hp4]; simp [itemsB, riseOk]
    have henc := tlvEncode_any _ _ it4 hItA (by omega) hrise (by rw [hp4]; omega)
    rw [hp4] at henc
    clear hrise hItA hp4 h4
    clear hit4
    refine J_ent (Ent.trans (Ent.pick [0, 3, 2, 1] rfl) (Ent.resep [pts row (cl (it4.flatMap itC) 149), pts b7 (cl (blC x) 32), slc 5 1 (.slice a8 (uv sz).length c8) (uv sz).length (bV (uv sz)), slc 5 1 (.slice a9 (uv pc).length c9) (uv pc).length (bV (uv pc))] _)) ?_
    (first | refine J_callE rfl rfl rfl rfl (henc) entA ?_ (fun _ _ w hp hw => by obtain ⟨_, _, rfl⟩ := hp; exact hw.ent entA) | refine J_call0E rfl rfl rfl (henc) entA ?_ (fun _ _ w hp hw => by obtain ⟨_, _, rfl⟩ := hp; exact hw.ent entA))
    rintro _ _ ⟨rr, rfl, rfl⟩
    (first | refine J_shape 0 rfl ?_ | refine K_shape 0 rfl ?_)
    rintro ra rc rfl
    refine J_slcB (bs := recL (itemsB x)) 0 rfl ?_
    intro hbr
    refine go ?_
    refine J_buildSlice1 (U := tab) (cs := itC ⟨(i : Int) + 1, .slice ra (recL (itemsB x)).length rc, recL (itemsB x)⟩) rfl rfl rfl rfl rfl rfl rfl rfl rfl (fun _ _ _ => trivial) ?_
    intro row2
    refine go ?_
    refine J_append (U := tab) (mm := 1) (news := itC ⟨(i : Int) + 1, .slice ra (recL (itemsB x)).length rc, recL (itemsB x)⟩) 3 0 rfl rfl rfl rfl rfl rfl rfl rfl rfl rfl rfl rfl (Vw.pts rfl) rfl (by intro v hv; simp [itC] at hv; rcases hv with rfl | rfl <;> rfl) (by omega) (by show (_ + _) * 32 ≤ _; omega) (fun _ => rfl) (fun _ _ _ => trivial) ?_
    intro v1
    rw [show its.flatMap itC ++ itC (⟨(i : Int) + 1, .slice ra (recL (itemsB x)).length rc, recL (itemsB x)⟩ : It) = (its ++ [(⟨(i : Int) + 1, .slice ra (recL (itemsB x)).length rc, recL (itemsB x)⟩ : It)]).flatMap itC from by simp, show its.length + 1 = (its ++ [(⟨(i : Int) + 1, .slice ra (recL (itemsB x)).length rc, recL (itemsB x)⟩ : It)]).length from by simp]
    (first | refine J_shape 3 rfl ?_ | refine K_shape 3 rfl ?_)
    rintro ja jc rfl
    refine go ?_
    have hip2 : (its ++ [(⟨(i : Int) + 1, .slice ra (recL (itemsB x)).length rc, recL (itemsB x)⟩ : It)]).map It.p = itemsI 0 (l.take (i + 1)) := by
      rw [List.take_add_one, hx, List.map_append, hip]
      simp only [Option.toList_some, itemsI_app, List.length_take, Nat.min_eq_left hi, Nat.zero_add, List.map_cons, List.map_nil, It.p]
    refine K_ent (Ent.trans (Ent.pick [1, 4] rfl) (Ent.resep [slc 5 1 (.slice ra (recL (itemsB x)).length rc) (recL (itemsB x)).length (bV (recL (itemsB x))), Z] _)) ?_
    refine K_again ih (i + 1, ⟨its ++ [(⟨(i : Int) + 1, .slice ra (recL (itemsB x)).length rc, recL (itemsB x)⟩ : It)], Sep [slc 5 1 (.slice ra (recL (itemsB x)).length rc) (recL (itemsB x)).length (bV (recL (itemsB x))), Z]⟩, ja, jc) rfl ⟨by simp only; omega, hip2, fun z hz => by
      rcases List.mem_append.1 hz with h | h
      · exact (hib z h).mono (Sep_get (i := 1) rfl)
      · rw [List.mem_singleton.1 h]; exact hbr.mono (Sep_get (i := 0) rfl)⟩ (by simp only; omega) (by repeat (first | exact keep_nil | refine keep_cons rfl ?_)) entA
  · intro hge
    have hie : i = l.length := by omega
    subst hie
    rw [List.take_length] at hip
    have hel := encB_len h0
    unfold encB at hel
    have hrise := itemsI_rise l 0 (by omega)
    rw [← hip] at hel hrise
    refine K_slcVw 0 rfl ?_
    intro hvw
    have hItA : ItemsAt (Sep [slc 149 2 (.slice ia its.length ic) its.length (its.flatMap itC), Z]) (.slice ia its.length ic) its := ⟨hvw.mono (Sep_get (i := 0) rfl), fun y hy => (hib y hy).mono (Sep_get (i := 1) rfl)⟩
    have henc := tlvEncode_any _ _ its hItA (by omega) hrise (by omega)
    have hee : recL (its.map It.p) = encB l := by rw [hip]; rfl
    rw [hee] at henc
    refine go ?_
    refine J_ent (Ent.resep [_, _] _) ?_
    ((try refine go ?_); first | refine J_callE rfl rfl rfl rfl (henc) entA ?_ (fun _ _ _ _ _ => trivial) | refine J_call0E rfl rfl rfl (henc) entA ?_ (fun _ _ _ _ _ => trivial))
    rintro _ _ ⟨rr, rfl, rfl⟩
    refine go ?_
    (first | refine K_return hE Tryz.func74 rfl _ rfl (.inr ⟨rr, h0, rfl, rfl⟩) entA | refine K_fallEnd hE Tryz.func74 rfl _ rfl (.inr ⟨rr, h0, rfl, rfl⟩) entA)
set_option maxRecDepth 20000 in
theorem Name_any (A : HP) (hK : KAt A) (v : Value) (l : List Bl) (hv : Vw A v l.length (l.flatMap blC)) (hlen : l.length ≤ 1000000) :
  Ctr Tryz.prog 71 [imV v] [A] (fun r H => r = (if imageB l = 0 then .tuple #[dV (nameB l), .int .i64 0] else .tuple #[dV Dg.zero, .int .i64 (imageB l : Int)]) ∧ H = [A]) := by
 have him := mEncode_any A v l hv hlen
 obtain ⟨a, c, rfl⟩ := hv.shape
 unfold imV at him ⊢
 refine Ctr.enter Tryz.func71 (by kernel_rfl) rfl Tryz.ntmps71 rfl rfl ?_
 intro G F R hE
 refine K_regionA rfl ?_
 refine J_box rfl rfl (fun _ _ _ => trivial) ?_
 intro b1
 refine J_alloc (U := tab) rfl rfl rfl (fun _ _ _ => trivial) ?_
 intro b2
 refine go ?_
 refine J_loadArr (U := tab) (l := [.slice a l.length c]) 1 rfl rfl rfl rfl rfl rfl ?_
 ((try refine go ?_); first | refine J_callE rfl rfl rfl rfl (him) entA ?_ (fun _ _ _ _ _ => trivial) | refine J_call0E rfl rfl rfl (him) entA ?_ (fun _ _ _ _ _ => trivial))
 rintro _ _ (⟨h0, rfl, rfl⟩ | ⟨rv, h0, rfl, rfl⟩)
 ·rw [if_neg h0] at hE
  refine go ?_
  refine K_condP rfl rfl ?_ ?_
  case' refine_2 => (intro h; exfalso; omega)
  intro _
  refine go ?_
  refine J_build0 (U := tab) rfl rfl rfl rfl rfl ?_
  refine go ?_
  (refine K_noMarks hE ?_; apply K_returnV (U := tab) hE Tryz.func71 rfl (Ent.refl _); (repeat (first | exact ResOk.nil | apply ResOk.tmp rfl | apply ResOk.agg 0 rfl rfl rfl rfl rfl | apply ResOk.agg 1 rfl rfl rfl rfl rfl | apply ResOk.agg 2 rfl rfl rfl rfl rfl | apply ResOk.agg 3 rfl rfl rfl rfl rfl | apply ResOk.agg 4 rfl rfl rfl rfl rfl | apply ResOk.agg 5 rfl rfl rfl rfl rfl | apply ResOk.agg 6 rfl rfl rfl rfl rfl | apply ResOk.agg 7 rfl rfl rfl rfl rfl | apply ResOk.agg 8 rfl rfl rfl rfl rfl | apply ResOk.one 0 rfl rfl rfl rfl | apply ResOk.one 1 rfl rfl rfl rfl | apply ResOk.one 2 rfl rfl rfl rfl | apply ResOk.one 3 rfl rfl rfl rfl | apply ResOk.one 4 rfl rfl rfl rfl | apply ResOk.one 5 rfl rfl rfl rfl | apply ResOk.one 6 rfl rfl rfl rfl)); exact ⟨rfl, rfl⟩; exact entA)
 ·rw [if_pos h0] at hE
  have hel := encB_len h0
  refine J_slcB (bs := encB l) 0 rfl ?_
  intro hbe
  refine J_ent (Ent.resep [_, _] _) ?_
  refine go ?_
  ((try refine go ?_); first | refine J_callE rfl rfl rfl rfl (Sum_any _ (hK.mono (Sep_get (H := [slc 5 1 rv (encB l).length (bV (encB l)), A]) (i := 1) rfl)) rv (encB l) (hbe.mono (Sep_get (i := 0) rfl)) (by omega)) entA ?_ (fun _ _ _ _ _ => trivial) | refine J_call0E rfl rfl rfl (Sum_any _ (hK.mono (Sep_get (H := [slc 5 1 rv (encB l).length (bV (encB l)), A]) (i := 1) rfl)) rv (encB l) (hbe.mono (Sep_get (i := 0) rfl)) (by omega)) entA ?_ (fun _ _ _ _ _ => trivial))
  rintro _ _ ⟨rfl, rfl⟩
  refine J_ent (Ent.unsep _ _) ?_
  refine go ?_
  (refine K_noMarks hE ?_; apply K_returnV (U := tab) hE Tryz.func71 rfl (Ent.refl _); (repeat (first | exact ResOk.nil | apply ResOk.tmp rfl | apply ResOk.agg 0 rfl rfl rfl rfl rfl | apply ResOk.agg 1 rfl rfl rfl rfl rfl | apply ResOk.agg 2 rfl rfl rfl rfl rfl | apply ResOk.agg 3 rfl rfl rfl rfl rfl | apply ResOk.agg 4 rfl rfl rfl rfl rfl | apply ResOk.agg 5 rfl rfl rfl rfl rfl | apply ResOk.agg 6 rfl rfl rfl rfl rfl | apply ResOk.agg 7 rfl rfl rfl rfl rfl | apply ResOk.agg 8 rfl rfl rfl rfl rfl | apply ResOk.one 0 rfl rfl rfl rfl | apply ResOk.one 1 rfl rfl rfl rfl | apply ResOk.one 2 rfl rfl rfl rfl | apply ResOk.one 3 rfl rfl rfl rfl | apply ResOk.one 4 rfl rfl rfl rfl | apply ResOk.one 5 rfl rfl rfl rfl | apply ResOk.one 6 rfl rfl rfl rfl)); exact ⟨rfl, rfl⟩; exact entA)
end Go.Proofs.YtpecmnaikjbanaaGreatDoor
/- manifest: a blob, an image out of bytes. -/
namespace Go.Proofs.YtpecmnaikjbanaaGreatDoor
open Go Go.SL
attribute [local irreducible] J K Ctr Ends pts slc mapR mapI sbRow stock arrS loopP CtrY Sha.chunks Sha.chunk Sha.rounds Sha.sched sumL taggedL GI leafL
def blobR (o : Option Bl) : Value := match o with
 | none => .tuple #[blV Bl.zero, .bool false]
 | some x => .tuple #[blV x, .bool true]
theorem blobD_none {b : List UInt8} (h : tlvA b = none) : blobD b = none := by unfold blobD; rw [h]
theorem blobD_len {b : List UInt8} {xs : List (Int × List UInt8)} (h : tlvA b = some xs) (hl : xs.length ≠ 4) : blobD b = none := by
 unfold blobD; rw [h]
 match xs, hl with
 | [], _ => rfl
 | [_], _ => rfl
 | [_, _], _ => rfl
 | [_, _, _], _ => rfl
 | _ :: _ :: _ :: _ :: _ :: _, _ => rfl
 | [_, _, _, _], h => exact absurd rfl h
theorem blobD_four {b : List UInt8} {n1 n2 n3 n4 : Int} {b1 b2 b3 b4 : List UInt8} (h : tlvA b = some [(n1, b1), (n2, b2), (n3, b3), (n4, b4)]) :
  blobD b = if n4 ≠ 4 ∨ b1.length ≠ 32 ∨ b4.length ≠ 32 then none else match toUintA b2, toUintA b3 with
  | some s, some p => if 1048576 < max s p then none else some ⟨dgOf b1, s, p, dgOf b4⟩
  | _, _ => none := by unfold blobD; rw [h]; rfl
theorem dgOf_len {b : List UInt8} (h : b.length = 32) : bV b = dC (dgOf b) := by
 unfold dgOf; rw [dif_pos h, dC_bV]
theorem tlvL_mem : ∀ (f : Nat) (b : List UInt8) (x : Int × List UInt8), x ∈ tlvL f b → x.2.length ≤ b.length
 | 0, b, x, h => by simp [tlvL] at h
 | f + 1, [], x, h => by simp [tlvL] at h
 | f + 1, c :: r, x, h => by
  have h1 := cutA_len r
  rw [tlvL] at h
  rw [List.length_cons]
  split at h
  ·rcases List.mem_cons.1 h with rfl | h
   ·simp only [List.length_take]; omega
   ·have := tlvL_mem f _ x h
    rw [List.length_drop] at this; omega
  ·simp at h; subst h; simp
theorem tlvA_mem {b : List UInt8} {l : List (Int × List UInt8)} (h : tlvA b = some l) : ∀ x ∈ l, x.2.length ≤ 65536 := by
 unfold tlvA at h
 split at h
 ·cases h
 ·split at h
  ·cases h
   intro x hx
   have := tlvL_mem _ _ x hx; omega
  ·cases h
set_option maxRecDepth 20000 in
set_option maxHeartbeats 1000000 in
theorem mblob_any (A : HP) (v : Value) (b : List UInt8) (hv : BAt A v b) (hl : b.length ≤ 1000000000) :
  Ctr Tryz.prog 129 [v] [A] (fun r H => r = blobR (blobD b) ∧ H = [A]) := by
 have htd := tlvDecode_any A v b hv hl
 obtain ⟨a, c, rfl, hc⟩ := hv.2
 refine Ctr.enter Tryz.func129 (by kernel_rfl) rfl Tryz.ntmps129 rfl rfl ?_
 intro G F R hE
 refine K_regionA rfl ?_
 refine J_alloc (U := tab) rfl rfl rfl (fun _ _ _ => trivial) ?_
 intro b2
 refine go ?_
 ((try refine go ?_); first | refine J_callE rfl rfl rfl rfl (htd) entA ?_ (fun _ _ _ _ _ => trivial) | refine J_call0E rfl rfl rfl (htd) entA ?_ (fun _ _ _ _ _ => trivial))
 rintro _ _ (⟨hn, rfl, rfl⟩ | ⟨xs, its, Z, rv, hs, hip, ⟨hvw, hib⟩, rfl, rfl⟩)
 ·rw [blobD_none hn] at hE
  repeat' (first | (with_reducible intro _hh) | refine go1 ?_ | refine J_fork ?_ ?_ | refine J_gsP rfl rfl rfl rfl ?_ ?_ | refine K_condP rfl rfl ?_ ?_)
  all_goals (first | (exfalso; omega) | skip)
  (refine K_noMarks hE ?_; apply K_returnV (U := tab) hE Tryz.func129 rfl (Ent.refl _); (repeat (first | exact ResOk.nil | apply ResOk.tmp rfl | apply ResOk.agg 0 rfl rfl rfl rfl rfl | apply ResOk.agg 1 rfl rfl rfl rfl rfl | apply ResOk.agg 2 rfl rfl rfl rfl rfl | apply ResOk.agg 3 rfl rfl rfl rfl rfl | apply ResOk.agg 4 rfl rfl rfl rfl rfl | apply ResOk.agg 5 rfl rfl rfl rfl rfl | apply ResOk.agg 6 rfl rfl rfl rfl rfl | apply ResOk.agg 7 rfl rfl rfl rfl rfl | apply ResOk.agg 8 rfl rfl rfl rfl rfl | apply ResOk.one 0 rfl rfl rfl rfl | apply ResOk.one 1 rfl rfl rfl rfl | apply ResOk.one 2 rfl rfl rfl rfl | apply ResOk.one 3 rfl rfl rfl rfl | apply ResOk.one 4 rfl rfl rfl rfl | apply ResOk.one 5 rfl rfl rfl rfl | apply ResOk.one 6 rfl rfl rfl rfl)); exact ⟨rfl, rfl⟩; exact entA)
 obtain ⟨ra, rc, rfl⟩ := hvw.shape
 by_cases h4 : its.length = 4
 case neg =>
  rw [blobD_len hs (by rw [← hip, List.length_map]; exact h4)] at hE
  repeat' (first | (with_reducible intro _hh) | refine go1 ?_ | refine J_fork ?_ ?_ | refine J_gsP rfl rfl rfl rfl ?_ ?_ | refine K_condP rfl rfl ?_ ?_)
  all_goals (first | (exfalso; omega) | skip)
  (refine K_noMarks hE ?_; apply K_returnV (U := tab) hE Tryz.func129 rfl (Ent.refl _); (repeat (first | exact ResOk.nil | apply ResOk.tmp rfl | apply ResOk.agg 0 rfl rfl rfl rfl rfl | apply ResOk.agg 1 rfl rfl rfl rfl rfl | apply ResOk.agg 2 rfl rfl rfl rfl rfl | apply ResOk.agg 3 rfl rfl rfl rfl rfl | apply ResOk.agg 4 rfl rfl rfl rfl rfl | apply ResOk.agg 5 rfl rfl rfl rfl rfl | apply ResOk.agg 6 rfl rfl rfl rfl rfl | apply ResOk.agg 7 rfl rfl rfl rfl rfl | apply ResOk.agg 8 rfl rfl rfl rfl rfl | apply ResOk.one 0 rfl rfl rfl rfl | apply ResOk.one 1 rfl rfl rfl rfl | apply ResOk.one 2 rfl rfl rfl rfl | apply ResOk.one 3 rfl rfl rfl rfl | apply ResOk.one 4 rfl rfl rfl rfl | apply ResOk.one 5 rfl rfl rfl rfl | apply ResOk.one 6 rfl rfl rfl rfl)); exact ⟨rfl, rfl⟩; exact entA)
 obtain ⟨i1, i2, i3, i4, rfl⟩ : ∃ i1 i2 i3 i4, its = [i1, i2, i3, i4] := by
  match its, h4 with
  | [i1, i2, i3, i4], _ => exact ⟨i1, i2, i3, i4, rfl⟩
 obtain ⟨n1, v1, b1⟩ := i1
 obtain ⟨n2, v2, bs2⟩ := i2
 obtain ⟨n3, v3, bs3⟩ := i3
 obtain ⟨n4, v4, bs4⟩ := i4
 have hb1 : BAt Z v1 b1 := hib ⟨n1, v1, b1⟩ (by simp)
 have hb2 : BAt Z v2 bs2 := hib ⟨n2, v2, bs2⟩ (by simp)
 have hb3 : BAt Z v3 bs3 := hib ⟨n3, v3, bs3⟩ (by simp)
 have hb4 : BAt Z v4 bs4 := hib ⟨n4, v4, bs4⟩ (by simp)
 obtain ⟨a1, c1, rfl, _⟩ := hb1.2
 obtain ⟨a2, c2, rfl, _⟩ := hb2.2
 obtain ⟨a3, c3, rfl, _⟩ := hb3.2
 obtain ⟨a4, c4, rfl, _⟩ := hb4.2
 obtain ⟨rb, ro, rcc, he⟩ := hvw.some (by simp [itC])
 simp only [Value.slice.injEq] at he
 obtain ⟨rfl, _, rfl⟩ := he
 simp only [List.map_cons, List.map_nil, It.p] at hip
 subst hip
 have hbd := blobD_four hs
 have hvw2 : Vw Z (.slice (some ⟨rb, ro, none⟩) 4 rc) 4 [.int .i64 n1, .slice a1 b1.length c1, .int .i64 n2, .slice a2 bs2.length c2, .int .i64 n3, .slice a3 bs3.length c3, .int .i64 n4, .slice a4 bs4.length c4] := hvw
 have hN : (n4 ≠ 4 ∨ b1.length ≠ 32 ∨ bs4.length ≠ 32) → blobD b = none := fun h => by rw [hbd, if_pos h]
 simp only [List.length_cons, List.length_nil, Nat.zero_add, Nat.reduceAdd]
 clear hvw hib htd h4
 repeat' (first | (with_reducible intro _hh) | refine go1 ?_ | refine J_fork ?_ ?_ | refine J_gsP rfl rfl rfl rfl ?_ ?_ | refine K_condP rfl rfl ?_ ?_ | refine J_at (U := tab) 3 2 rfl rfl rfl rfl rfl rfl rfl rfl (by simp) ?_ | refine J_at (U := tab) 0 2 rfl rfl rfl rfl rfl rfl rfl rfl (by simp) ?_ | refine J_loadAt (U := tab) 0 (3 * 2 + 0) rfl rfl rfl hvw2 (Nat.add_assoc _ _ _) rfl rfl rfl ?_ | refine J_loadAt (U := tab) 0 (3 * 2 + 1) rfl rfl rfl hvw2 (Nat.add_assoc _ _ _) rfl rfl rfl ?_ | refine J_loadAt (U := tab) 0 (0 * 2 + 1) rfl rfl rfl hvw2 (Nat.add_assoc _ _ _) rfl rfl rfl ?_)
 ·rw [hN (by omega)] at hE
  refine go ?_
  (refine K_noMarks hE ?_; apply K_returnV (U := tab) hE Tryz.func129 rfl (Ent.refl _); (repeat (first | exact ResOk.nil | apply ResOk.tmp rfl | apply ResOk.agg 0 rfl rfl rfl rfl rfl | apply ResOk.agg 1 rfl rfl rfl rfl rfl | apply ResOk.agg 2 rfl rfl rfl rfl rfl | apply ResOk.agg 3 rfl rfl rfl rfl rfl | apply ResOk.agg 4 rfl rfl rfl rfl rfl | apply ResOk.agg 5 rfl rfl rfl rfl rfl | apply ResOk.agg 6 rfl rfl rfl rfl rfl | apply ResOk.agg 7 rfl rfl rfl rfl rfl | apply ResOk.agg 8 rfl rfl rfl rfl rfl | apply ResOk.one 0 rfl rfl rfl rfl | apply ResOk.one 1 rfl rfl rfl rfl | apply ResOk.one 2 rfl rfl rfl rfl | apply ResOk.one 3 rfl rfl rfl rfl | apply ResOk.one 4 rfl rfl rfl rfl | apply ResOk.one 5 rfl rfl rfl rfl | apply ResOk.one 6 rfl rfl rfl rfl)); exact ⟨rfl, rfl⟩; exact entA)
 ·rw [hN (by omega)] at hE
  refine go ?_
  (refine K_noMarks hE ?_; apply K_returnV (U := tab) hE Tryz.func129 rfl (Ent.refl _); (repeat (first | exact ResOk.nil | apply ResOk.tmp rfl | apply ResOk.agg 0 rfl rfl rfl rfl rfl | apply ResOk.agg 1 rfl rfl rfl rfl rfl | apply ResOk.agg 2 rfl rfl rfl rfl rfl | apply ResOk.agg 3 rfl rfl rfl rfl rfl | apply ResOk.agg 4 rfl rfl rfl rfl rfl | apply ResOk.agg 5 rfl rfl rfl rfl rfl | apply ResOk.agg 6 rfl rfl rfl rfl rfl | apply ResOk.agg 7 rfl rfl rfl rfl rfl | apply ResOk.agg 8 rfl rfl rfl rfl rfl | apply ResOk.one 0 rfl rfl rfl rfl | apply ResOk.one 1 rfl rfl rfl rfl | apply ResOk.one 2 rfl rfl rfl rfl | apply ResOk.one 3 rfl rfl rfl rfl | apply ResOk.one 4 rfl rfl rfl rfl | apply ResOk.one 5 rfl rfl rfl rfl | apply ResOk.one 6 rfl rfl rfl rfl)); exact ⟨rfl, rfl⟩; exact entA)
 ·rw [hN (by omega)] at hE
  refine go ?_
  (refine K_noMarks hE ?_; apply K_returnV (U := tab) hE Tryz.func129 rfl (Ent.refl _); (repeat (first | exact ResOk.nil | apply ResOk.tmp rfl | apply ResOk.agg 0 rfl rfl rfl rfl rfl | apply ResOk.agg 1 rfl rfl rfl rfl rfl | apply ResOk.agg 2 rfl rfl rfl rfl rfl | apply ResOk.agg 3 rfl rfl rfl rfl rfl | apply ResOk.agg 4 rfl rfl rfl rfl rfl | apply ResOk.agg 5 rfl rfl rfl rfl rfl | apply ResOk.agg 6 rfl rfl rfl rfl rfl | apply ResOk.agg 7 rfl rfl rfl rfl rfl | apply ResOk.agg 8 rfl rfl rfl rfl rfl | apply ResOk.one 0 rfl rfl rfl rfl | apply ResOk.one 1 rfl rfl rfl rfl | apply ResOk.one 2 rfl rfl rfl rfl | apply ResOk.one 3 rfl rfl rfl rfl | apply ResOk.one 4 rfl rfl rfl rfl | apply ResOk.one 5 rfl rfl rfl rfl | apply ResOk.one 6 rfl rfl rfl rfl)); exact ⟨rfl, rfl⟩; exact entA)
 have hk4 : n4 = 4 := by omega
 have hl1 : b1.length = 32 := by omega
 have hl4 : bs4.length = 32 := by omega
 rw [if_neg (by rintro (h | h | h) <;> exact h (by assumption))] at hbd
 refine go ?_
 refine J_at (U := tab) 1 2 rfl rfl rfl rfl rfl rfl rfl rfl (by omega) ?_
 refine go ?_
 refine J_isLoad ?_
 refine J_loadAt (U := tab) 0 (1 * 2 + 1) rfl rfl rfl hvw2 (Nat.add_assoc _ _ _) rfl rfl rfl ?_
 have hm2 := tlvA_mem hs (n2, bs2) (by simp)
 have hm3 := tlvA_mem hs (n3, bs3) (by simp)
 simp only at hm2 hm3
 ((try refine go ?_); first | refine J_callE rfl rfl rfl rfl (ToUint_any Z _ bs2 hb2 (by omega)) entA ?_ (fun _ _ _ _ _ => trivial) | refine J_call0E rfl rfl rfl (ToUint_any Z _ bs2 hb2 (by omega)) entA ?_ (fun _ _ _ _ _ => trivial))
 rintro _ _ ⟨rfl, rfl⟩
 cases hu2 : toUintA bs2 with
 | none =>
  rw [hu2] at hbd
  rw [hbd] at hE
  simp only
  refine go ?_
  refine J_at (U := tab) 2 2 rfl rfl rfl rfl rfl rfl rfl rfl (by omega) ?_
  refine go ?_
  refine J_isLoad ?_
  refine J_loadAt (U := tab) 0 (2 * 2 + 1) rfl rfl rfl hvw2 (Nat.add_assoc _ _ _) rfl rfl rfl ?_
  ((try refine go ?_); first | refine J_callE rfl rfl rfl rfl (ToUint_any Z _ bs3 hb3 (by omega)) entA ?_ (fun _ _ _ _ _ => trivial) | refine J_call0E rfl rfl rfl (ToUint_any Z _ bs3 hb3 (by omega)) entA ?_ (fun _ _ _ _ _ => trivial))
  rintro _ _ ⟨rfl, rfl⟩
  cases toUintA bs3 with
  | none =>
   simp only
   repeat' (first | (with_reducible intro _hh) | refine go1 ?_ | refine J_fork ?_ ?_ | refine J_gsP rfl rfl rfl rfl ?_ ?_ | refine K_condP rfl rfl ?_ ?_)
   all_goals (first | (exfalso; omega) | skip)
   (refine K_noMarks hE ?_; apply K_returnV (U := tab) hE Tryz.func129 rfl (Ent.refl _); (repeat (first | exact ResOk.nil | apply ResOk.tmp rfl | apply ResOk.agg 0 rfl rfl rfl rfl rfl | apply ResOk.agg 1 rfl rfl rfl rfl rfl | apply ResOk.agg 2 rfl rfl rfl rfl rfl | apply ResOk.agg 3 rfl rfl rfl rfl rfl | apply ResOk.agg 4 rfl rfl rfl rfl rfl | apply ResOk.agg 5 rfl rfl rfl rfl rfl | apply ResOk.agg 6 rfl rfl rfl rfl rfl | apply ResOk.agg 7 rfl rfl rfl rfl rfl | apply ResOk.agg 8 rfl rfl rfl rfl rfl | apply ResOk.one 0 rfl rfl rfl rfl | apply ResOk.one 1 rfl rfl rfl rfl | apply ResOk.one 2 rfl rfl rfl rfl | apply ResOk.one 3 rfl rfl rfl rfl | apply ResOk.one 4 rfl rfl rfl rfl | apply ResOk.one 5 rfl rfl rfl rfl | apply ResOk.one 6 rfl rfl rfl rfl)); exact ⟨rfl, rfl⟩; exact entA)
  | some p =>
   simp only
   repeat' (first | (with_reducible intro _hh) | refine go1 ?_ | refine J_fork ?_ ?_ | refine J_gsP rfl rfl rfl rfl ?_ ?_ | refine K_condP rfl rfl ?_ ?_)
   all_goals (first | (exfalso; omega) | skip)
   (refine K_noMarks hE ?_; apply K_returnV (U := tab) hE Tryz.func129 rfl (Ent.refl _); (repeat (first | exact ResOk.nil | apply ResOk.tmp rfl | apply ResOk.agg 0 rfl rfl rfl rfl rfl | apply ResOk.agg 1 rfl rfl rfl rfl rfl | apply ResOk.agg 2 rfl rfl rfl rfl rfl | apply ResOk.agg 3 rfl rfl rfl rfl rfl | apply ResOk.agg 4 rfl rfl rfl rfl rfl | apply ResOk.agg 5 rfl rfl rfl rfl rfl | apply ResOk.agg 6 rfl rfl rfl rfl rfl | apply ResOk.agg 7 rfl rfl rfl rfl rfl | apply ResOk.agg 8 rfl rfl rfl rfl rfl | apply ResOk.one 0 rfl rfl rfl rfl | apply ResOk.one 1 rfl rfl rfl rfl | apply ResOk.one 2 rfl rfl rfl rfl | apply ResOk.one 3 rfl rfl rfl rfl | apply ResOk.one 4 rfl rfl rfl rfl | apply ResOk.one 5 rfl rfl rfl rfl | apply ResOk.one 6 rfl rfl rfl rfl)); exact ⟨rfl, rfl⟩; exact entA)
 | some s =>
  rw [hu2] at hbd
  simp only
  refine go ?_
  refine J_at (U := tab) 2 2 rfl rfl rfl rfl rfl rfl rfl rfl (by omega) ?_
  refine go ?_
  refine J_isLoad ?_
  refine J_loadAt (U := tab) 0 (2 * 2 + 1) rfl rfl rfl hvw2 (Nat.add_assoc _ _ _) rfl rfl rfl ?_
  ((try refine go ?_); first | refine J_callE rfl rfl rfl rfl (ToUint_any Z _ bs3 hb3 (by omega)) entA ?_ (fun _ _ _ _ _ => trivial) | refine J_call0E rfl rfl rfl (ToUint_any Z _ bs3 hb3 (by omega)) entA ?_ (fun _ _ _ _ _ => trivial))
  rintro _ _ ⟨rfl, rfl⟩
  cases hu3 : toUintA bs3 with
  | none =>
   rw [hu3] at hbd
   rw [hbd] at hE
   simp only
   repeat' (first | (with_reducible intro _hh) | refine go1 ?_ | refine J_fork ?_ ?_ | refine J_gsP rfl rfl rfl rfl ?_ ?_ | refine K_condP rfl rfl ?_ ?_)
   all_goals (first | (exfalso; omega) | skip)
   (refine K_noMarks hE ?_; apply K_returnV (U := tab) hE Tryz.func129 rfl (Ent.refl _); (repeat (first | exact ResOk.nil | apply ResOk.tmp rfl | apply ResOk.agg 0 rfl rfl rfl rfl rfl | apply ResOk.agg 1 rfl rfl rfl rfl rfl | apply ResOk.agg 2 rfl rfl rfl rfl rfl | apply ResOk.agg 3 rfl rfl rfl rfl rfl | apply ResOk.agg 4 rfl rfl rfl rfl rfl | apply ResOk.agg 5 rfl rfl rfl rfl rfl | apply ResOk.agg 6 rfl rfl rfl rfl rfl | apply ResOk.agg 7 rfl rfl rfl rfl rfl | apply ResOk.agg 8 rfl rfl rfl rfl rfl | apply ResOk.one 0 rfl rfl rfl rfl | apply ResOk.one 1 rfl rfl rfl rfl | apply ResOk.one 2 rfl rfl rfl rfl | apply ResOk.one 3 rfl rfl rfl rfl | apply ResOk.one 4 rfl rfl rfl rfl | apply ResOk.one 5 rfl rfl rfl rfl | apply ResOk.one 6 rfl rfl rfl rfl)); exact ⟨rfl, rfl⟩; exact entA)
  | some p =>
   rw [hu3] at hbd
   simp only at hbd ⊢
   repeat' (first | (with_reducible intro _hh) | refine go1 ?_ | refine J_fork ?_ ?_ | refine J_gsP rfl rfl rfl rfl ?_ ?_ | refine K_condP rfl rfl ?_ ?_)
   all_goals (first | (exfalso; omega) | skip)
   ·rw [if_pos (by omega)] at hbd
    rw [hbd] at hE
    refine go ?_
    (refine K_noMarks hE ?_; apply K_returnV (U := tab) hE Tryz.func129 rfl (Ent.refl _); (repeat (first | exact ResOk.nil | apply ResOk.tmp rfl | apply ResOk.agg 0 rfl rfl rfl rfl rfl | apply ResOk.agg 1 rfl rfl rfl rfl rfl | apply ResOk.agg 2 rfl rfl rfl rfl rfl | apply ResOk.agg 3 rfl rfl rfl rfl rfl | apply ResOk.agg 4 rfl rfl rfl rfl rfl | apply ResOk.agg 5 rfl rfl rfl rfl rfl | apply ResOk.agg 6 rfl rfl rfl rfl rfl | apply ResOk.agg 7 rfl rfl rfl rfl rfl | apply ResOk.agg 8 rfl rfl rfl rfl rfl | apply ResOk.one 0 rfl rfl rfl rfl | apply ResOk.one 1 rfl rfl rfl rfl | apply ResOk.one 2 rfl rfl rfl rfl | apply ResOk.one 3 rfl rfl rfl rfl | apply ResOk.one 4 rfl rfl rfl rfl | apply ResOk.one 5 rfl rfl rfl rfl | apply ResOk.one 6 rfl rfl rfl rfl)); exact ⟨rfl, rfl⟩; exact entA)
   ·rw [if_neg (by omega)] at hbd
    rw [hbd] at hE
    have hs63 : s ≤ 1048576 := by omega
    have hp63 : p ≤ 1048576 := by omega
    obtain ⟨xb1, xo1, xc1, he1⟩ := hb1.1.some (by intro h; have := congrArg List.length h; rw [bV_length, hl1] at this; cases this)
    simp only [Value.slice.injEq] at he1
    obtain ⟨rfl, _, rfl⟩ := he1
    obtain ⟨xb4, xo4, xc4, he4⟩ := hb4.1.some (by intro h; have := congrArg List.length h; rw [bV_length, hl4] at this; cases this)
    simp only [Value.slice.injEq] at he4
    obtain ⟨rfl, _, rfl⟩ := he4
    have hv1 := hb1.1
    rw [dgOf_len hl1] at hv1
    have hv4 := hb4.1
    rw [dgOf_len hl4] at hv4
    refine K_drawA (fun w => Sat G w ([Z])) (.st 0 (.st 1 (.st 2 (.st 3 (.st 4 (.st 5 (.st 6 (.st 7 (.st 8 (.st 9 (.st 10 (.st 11 (.st 12 (.st 13 (.st 14 (.st 15 (.st 16 (.act 17 (.st 18 .nil))))))))))))))))))) rfl (by kernel_rfl) (by kernel_rfl) (by kernel_rfl) (fun w hw => hw.ent entA) ?_
    refine go ?_
    (repeat (first | refine go1 ?_ | refine J_fork ?_ ?_ | refine J_at (U := tab) 0 2 rfl rfl rfl rfl rfl rfl rfl rfl (by omega) ?_ | refine J_at (U := tab) 3 2 rfl rfl rfl rfl rfl rfl rfl rfl (by omega) ?_ | (refine J_isLoad ?_; first | refine J_loadAtS (U := tab) 0 (0 * 2 + 1) rfl rfl rfl hvw2 (Nat.add_assoc _ _ _) rfl rfl rfl ?_ | refine J_loadAtS (U := tab) 0 (3 * 2 + 1) rfl rfl rfl hvw2 (Nat.add_assoc _ _ _) rfl rfl rfl ?_ | refine J_loadElemS (U := tab) (es := dC (dgOf b1)) 0 0 rfl rfl rfl hv1 rfl (fun j v hj => by rw [Nat.zero_add]; exact hj) rfl rfl rfl ?_ | refine J_loadElemS (U := tab) (es := dC (dgOf bs4)) 0 0 rfl rfl rfl hv4 rfl (fun j v hj => by rw [Nat.zero_add]; exact hj) rfl rfl rfl ?_) | refine J_arrayAt (U := tab) rfl rfl rfl rfl (by omega) ?_))
    refine J_isStore ?_
    refine J_store (U := tab) 2 (fun w hw => hw.ent entA) rfl rfl rfl rfl rfl rfl rfl rfl rfl ?_
    refine go ?_
    (refine K_noMarks hE ?_; apply K_returnV (U := tab) hE Tryz.func129 rfl (Ent.refl _); (repeat (first | exact ResOk.nil | apply ResOk.tmp rfl | apply ResOk.agg 0 rfl rfl rfl rfl rfl | apply ResOk.agg 1 rfl rfl rfl rfl rfl | apply ResOk.agg 2 rfl rfl rfl rfl rfl | apply ResOk.agg 3 rfl rfl rfl rfl rfl | apply ResOk.agg 4 rfl rfl rfl rfl rfl | apply ResOk.agg 5 rfl rfl rfl rfl rfl | apply ResOk.agg 6 rfl rfl rfl rfl rfl | apply ResOk.agg 7 rfl rfl rfl rfl rfl | apply ResOk.agg 8 rfl rfl rfl rfl rfl | apply ResOk.one 0 rfl rfl rfl rfl | apply ResOk.one 1 rfl rfl rfl rfl | apply ResOk.one 2 rfl rfl rfl rfl | apply ResOk.one 3 rfl rfl rfl rfl | apply ResOk.one 4 rfl rfl rfl rfl | apply ResOk.one 5 rfl rfl rfl rfl | apply ResOk.one 6 rfl rfl rfl rfl)); exact ⟨rfl, rfl⟩; exact entA)
theorem layersD_app : ∀ (l : List (Int × List UInt8)) (i : Nat) (x : Int × List UInt8), layersD i (l ++ [x]) = match layersD i l with
  | none => none
  | some y => match blobD x.2 with
   | none => none
   | some z => if x.1 ≠ ((i + l.length : Nat) : Int) + 1 then none else some (y ++ [z])
 | [], i, (n, b) => by
  simp only [List.nil_append, layersD, List.length_nil, Nat.add_zero]
  cases blobD b with
  | none => rfl
  | some z =>
   simp only
   split <;> simp
 | (m, c) :: l, i, (n, b) => by
  simp only [List.cons_append, layersD, layersD_app l (i + 1) (n, b), List.length_cons]
  cases blobD c with
  | none => rfl
  | some y =>
   simp only
   split
   ·rfl
   ·cases layersD (i + 1) l with
    | none => rfl
    | some w =>
     simp only [Option.map_some]
     cases blobD b with
     | none => rfl
     | some z =>
      simp only [show i + 1 + l.length = i + (l.length + 1) from by omega]
      split <;> simp
theorem layersD_pre : ∀ (l r : List (Int × List UInt8)) (i : Nat), layersD i l = none → layersD i (l ++ r) = none
 | [], r, i, h => by cases h
 | (n, b) :: l, r, i, h => by
  simp only [List.cons_append, layersD] at h ⊢
  cases hb : blobD b with
  | none => rfl
  | some x =>
   rw [hb] at h
   simp only at h ⊢
   split at h
   ·rename_i hn; rw [if_pos hn]
   ·rename_i hn
    rw [if_neg hn]
    rw [layersD_pre l r (i + 1) (by simpa using h)]; rfl
set_option maxRecDepth 20000 in
set_option maxHeartbeats 1000000 in
theorem mDecode_any (A : HP) (v : Value) (b : List UInt8) (hv : BAt A v b) (hl : b.length ≤ 1000000000) :
  Ctr Tryz.prog 86 [v] [A] (fun r H => (decB b = none ∧ (∃ e, e ≠ 0 ∧ r = .tuple #[imV (.slice none 0 0), .int .i64 e]) ∧ H = [A]) ∨
   ∃ l rv, decB b = some l ∧ r = .tuple #[imV rv, .int .i64 0] ∧ H = [slc 32 66 rv l.length (l.flatMap blC), A]) := by
 have htd := tlvDecode_any A v b hv hl
 obtain ⟨a, c, rfl, hc⟩ := hv.2
 refine Ctr.enter Tryz.func86 (by kernel_rfl) rfl Tryz.ntmps86 rfl rfl ?_
 intro G F R hE
 refine K_regionA rfl ?_
 refine J_alloc (U := tab) rfl rfl rfl (fun _ _ _ => trivial) ?_
 intro b2
 refine go ?_
 ((try refine go ?_); first | refine J_callE rfl rfl rfl rfl (htd) entA ?_ (fun _ _ _ _ _ => trivial) | refine J_call0E rfl rfl rfl (htd) entA ?_ (fun _ _ _ _ _ => trivial))
 rintro _ _ (⟨hn, rfl, rfl⟩ | ⟨xs, its, Z, rv, hs, hip, ⟨hvw, hib⟩, rfl, rfl⟩)
 ·have hd : decB b = none := by unfold decB; rw [hn]
  repeat' (first | (with_reducible intro _hh) | refine go1 ?_ | refine J_fork ?_ ?_ | refine J_gsP rfl rfl rfl rfl ?_ ?_ | refine K_condP rfl rfl ?_ ?_)
  all_goals (first | (exfalso; omega) | skip)
  (refine K_noMarks hE ?_; apply K_returnV (U := tab) hE Tryz.func86 rfl (Ent.refl _); (repeat (first | exact ResOk.nil | apply ResOk.tmp rfl | apply ResOk.agg 0 rfl rfl rfl rfl rfl | apply ResOk.agg 1 rfl rfl rfl rfl rfl | apply ResOk.agg 2 rfl rfl rfl rfl rfl | apply ResOk.agg 3 rfl rfl rfl rfl rfl | apply ResOk.agg 4 rfl rfl rfl rfl rfl | apply ResOk.agg 5 rfl rfl rfl rfl rfl | apply ResOk.agg 6 rfl rfl rfl rfl rfl | apply ResOk.agg 7 rfl rfl rfl rfl rfl | apply ResOk.agg 8 rfl rfl rfl rfl rfl | apply ResOk.one 0 rfl rfl rfl rfl | apply ResOk.one 1 rfl rfl rfl rfl | apply ResOk.one 2 rfl rfl rfl rfl | apply ResOk.one 3 rfl rfl rfl rfl | apply ResOk.one 4 rfl rfl rfl rfl | apply ResOk.one 5 rfl rfl rfl rfl | apply ResOk.one 6 rfl rfl rfl rfl)); exact (.inl ⟨hd, ⟨2, by decide, rfl⟩, rfl⟩); exact entA)
 have hde : decB b = match layersD 0 xs with | some x => if imageB x = 0 then some x else none | none => none := by unfold decB; rw [hs]; rfl
 obtain ⟨ra, rc, rfl⟩ := hvw.shape
 have hxl : its.length ≤ 65536 := by
  have h1 : xs.length ≤ 65536 := by
   unfold tlvA at hs
   split at hs
   ·cases hs
   ·split at hs
    ·cases hs
     have := tlvI_len _ b (Nat.le_refl _)
     unfold tlvI at this; omega
    ·cases hs
  rw [← hip, List.length_map] at h1; exact h1
 repeat' (first | (with_reducible intro _hh) | refine go1 ?_ | refine J_fork ?_ ?_ | refine J_gsP rfl rfl rfl rfl ?_ ?_ | refine K_condP rfl rfl ?_ ?_)
 all_goals (first | (exfalso; omega) | skip)
 refine J_alloc (U := tab) rfl rfl rfl (fun _ _ _ => trivial) ?_
 intro b6
 refine go ?_
 refine K_ent (Ent.trans (Ent.resep [] _) (slc_lift 32 66 none _)) ?_
 refine K_loop (fun y : Nat × List Bl × Option Addr × Nat => y.1 ≤ its.length ∧ layersD 0 (xs.take y.1) = some y.2.1 ∧ y.2.1.length = y.1) (fun y => its.length - y.1)
  (fun y => [(2, ptr b2), (6, ptr b6), (20, .slice ra its.length rc), (21, .int .i64 (its.length : Int)), (22, .int .i64 (y.1 : Int))])
  (fun y => pts b6 (cl [.slice y.2.2.1 y.2.1.length y.2.2.2] 55) :: slc 32 66 (.slice y.2.2.1 y.2.1.length y.2.2.2) y.2.1.length (y.2.1.flatMap blC) :: Z :: A :: pts b2 (cl [.slice none 0 0] 55) :: F) (0, [], none, 0) ⟨Nat.zero_le _, rfl, rfl⟩ rfl (by repeat (first | exact keep_nil | refine keep_cons rfl ?_)) entA ?_
 rintro ⟨i, acc, xa, xc⟩ ⟨hi, hacc, hal⟩ ih
 simp only at hi hacc hal
 dsimp only
 refine go ?_
 refine K_condP rfl rfl ?_ ?_
 ·intro hlt
  have hi' : i < its.length := by omega
  obtain ⟨it, hit⟩ : ∃ x, its[i]? = some x := ⟨its[i], by simp⟩
  have hxi : xs[i]? = some (it.n, it.b) := by rw [← hip, List.getElem?_map, hit]; rfl
  have hbit := hib it (List.mem_of_getElem? hit)
  have hitm := tlvA_mem hs _ (List.mem_of_getElem? hxi)
  have htk : xs.take (i + 1) = xs.take i ++ [(it.n, it.b)] := by rw [List.take_add_one, hxi]; rfl
  have hap := layersD_app (xs.take i) 0 (it.n, it.b)
  have htl : (xs.take i).length = i := by rw [List.length_take, ← hip, List.length_map]; omega
  rw [← htk, hacc, htl, Nat.zero_add] at hap
  simp only at hap hitm
  have hbad : layersD 0 (xs.take (i + 1)) = none → decB b = none := fun h => by
   have := layersD_pre _ (xs.drop (i + 1)) 0 h
   rw [List.take_append_drop] at this
   rw [hde, this]
  obtain ⟨rb, ro, rcc, he⟩ := hvw.some (by rw [← List.length_pos_iff, chunk_len itC_len]; omega)
  simp only [Value.slice.injEq] at he
  obtain ⟨rfl, _, rfl⟩ := he
  obtain ⟨xn, xv, xb⟩ := it
  simp only at hbit hap hitm
  obtain ⟨va, vc, rfl, _⟩ := hbit.2
  refine go ?_
  refine J_at (U := tab) i 2 rfl rfl rfl rfl rfl rfl rfl rfl hi' ?_
  refine J_isLoad ?_
  refine J_loadElem (U := tab) (es := itC ⟨xn, .slice va xb.length vc, xb⟩) 2 (i * 2) rfl rfl rfl hvw rfl (fun j v hj => ?_) rfl rfl rfl ?_
  ·rw [chunk_get itC_len hit j (by rcases Nat.lt_or_ge j 2 with h | h; exact h; rw [List.getElem?_eq_none (by rw [itC_len]; exact h)] at hj; cases hj)]; exact hj
  refine J_alloc (U := tab) rfl rfl rfl (fun _ _ _ => trivial) ?_
  intro b8
  refine go ?_
  ((try refine go ?_); first | refine J_callE rfl rfl rfl rfl (mblob_any Z _ xb hbit (by omega)) entA ?_ (fun _ _ _ _ _ => trivial) | refine J_call0E rfl rfl rfl (mblob_any Z _ xb hbit (by omega)) entA ?_ (fun _ _ _ _ _ => trivial))
  rintro _ _ ⟨rfl, rfl⟩
  cases hbd : blobD xb with
  | none =>
   rw [hbd] at hap
   have hdn := hbad hap
   simp only [blobR]
   refine go ?_
   refine J_alloc (U := tab) rfl rfl rfl (fun _ _ _ => trivial) ?_
   intro b9
   refine go ?_
   (refine J_isStore ?_; first | refine J_store (U := tab) 0 (fun _ _ => trivial) rfl rfl rfl rfl rfl rfl rfl rfl rfl ?_ | refine J_store (U := tab) 1 (fun _ _ => trivial) rfl rfl rfl rfl rfl rfl rfl rfl rfl ?_ | refine J_store (U := tab) 2 (fun _ _ => trivial) rfl rfl rfl rfl rfl rfl rfl rfl rfl ?_ | refine J_store (U := tab) 3 (fun _ _ => trivial) rfl rfl rfl rfl rfl rfl rfl rfl rfl ?_ | refine J_store (U := tab) 4 (fun _ _ => trivial) rfl rfl rfl rfl rfl rfl rfl rfl rfl ?_ | refine J_store (U := tab) 5 (fun _ _ => trivial) rfl rfl rfl rfl rfl rfl rfl rfl rfl ?_ | refine J_store (U := tab) 6 (fun _ _ => trivial) rfl rfl rfl rfl rfl rfl rfl rfl rfl ?_ | refine J_store (U := tab) 7 (fun _ _ => trivial) rfl rfl rfl rfl rfl rfl rfl rfl rfl ?_ | refine J_store (U := tab) 8 (fun _ _ => trivial) rfl rfl rfl rfl rfl rfl rfl rfl rfl ?_)
   refine go ?_
   (refine K_noMarks hE ?_; apply K_returnV (U := tab) hE Tryz.func86 rfl (Ent.refl _); (repeat (first | exact ResOk.nil | apply ResOk.tmp rfl | apply ResOk.agg 0 rfl rfl rfl rfl rfl | apply ResOk.agg 1 rfl rfl rfl rfl rfl | apply ResOk.agg 2 rfl rfl rfl rfl rfl | apply ResOk.agg 3 rfl rfl rfl rfl rfl | apply ResOk.agg 4 rfl rfl rfl rfl rfl | apply ResOk.agg 5 rfl rfl rfl rfl rfl | apply ResOk.agg 6 rfl rfl rfl rfl rfl | apply ResOk.agg 7 rfl rfl rfl rfl rfl | apply ResOk.agg 8 rfl rfl rfl rfl rfl | apply ResOk.one 0 rfl rfl rfl rfl | apply ResOk.one 1 rfl rfl rfl rfl | apply ResOk.one 2 rfl rfl rfl rfl | apply ResOk.one 3 rfl rfl rfl rfl | apply ResOk.one 4 rfl rfl rfl rfl | apply ResOk.one 5 rfl rfl rfl rfl | apply ResOk.one 6 rfl rfl rfl rfl)); exact (.inl ⟨hdn, ⟨2, by decide, rfl⟩, rfl⟩); exact entA)
  | some z =>
   rw [hbd] at hap
   simp only [blobR] at hap ⊢
   unfold blV
   refine go ?_
   refine J_alloc (U := tab) rfl rfl rfl (fun _ _ _ => trivial) ?_
   intro b9
   repeat' (first | (with_reducible intro _hh) | refine go1 ?_ | refine J_fork ?_ ?_ | refine J_gsP rfl rfl rfl rfl ?_ ?_ | refine K_condP rfl rfl ?_ ?_)
   ·rw [if_pos (by omega)] at hap
    have hdn := hbad hap
    (refine J_isStore ?_; first | refine J_store (U := tab) 0 (fun _ _ => trivial) rfl rfl rfl rfl rfl rfl rfl rfl rfl ?_ | refine J_store (U := tab) 1 (fun _ _ => trivial) rfl rfl rfl rfl rfl rfl rfl rfl rfl ?_ | refine J_store (U := tab) 2 (fun _ _ => trivial) rfl rfl rfl rfl rfl rfl rfl rfl rfl ?_ | refine J_store (U := tab) 3 (fun _ _ => trivial) rfl rfl rfl rfl rfl rfl rfl rfl rfl ?_ | refine J_store (U := tab) 4 (fun _ _ => trivial) rfl rfl rfl rfl rfl rfl rfl rfl rfl ?_ | refine J_store (U := tab) 5 (fun _ _ => trivial) rfl rfl rfl rfl rfl rfl rfl rfl rfl ?_ | refine J_store (U := tab) 6 (fun _ _ => trivial) rfl rfl rfl rfl rfl rfl rfl rfl rfl ?_ | refine J_store (U := tab) 7 (fun _ _ => trivial) rfl rfl rfl rfl rfl rfl rfl rfl rfl ?_ | refine J_store (U := tab) 8 (fun _ _ => trivial) rfl rfl rfl rfl rfl rfl rfl rfl rfl ?_)
    refine go ?_
    (refine K_noMarks hE ?_; apply K_returnV (U := tab) hE Tryz.func86 rfl (Ent.refl _); (repeat (first | exact ResOk.nil | apply ResOk.tmp rfl | apply ResOk.agg 0 rfl rfl rfl rfl rfl | apply ResOk.agg 1 rfl rfl rfl rfl rfl | apply ResOk.agg 2 rfl rfl rfl rfl rfl | apply ResOk.agg 3 rfl rfl rfl rfl rfl | apply ResOk.agg 4 rfl rfl rfl rfl rfl | apply ResOk.agg 5 rfl rfl rfl rfl rfl | apply ResOk.agg 6 rfl rfl rfl rfl rfl | apply ResOk.agg 7 rfl rfl rfl rfl rfl | apply ResOk.agg 8 rfl rfl rfl rfl rfl | apply ResOk.one 0 rfl rfl rfl rfl | apply ResOk.one 1 rfl rfl rfl rfl | apply ResOk.one 2 rfl rfl rfl rfl | apply ResOk.one 3 rfl rfl rfl rfl | apply ResOk.one 4 rfl rfl rfl rfl | apply ResOk.one 5 rfl rfl rfl rfl | apply ResOk.one 6 rfl rfl rfl rfl)); exact (.inl ⟨hdn, ⟨2, by decide, rfl⟩, rfl⟩); exact entA)
   ·rw [if_neg (by omega)] at hap
    refine J_loadArr (U := tab) (l := blC z) 0 rfl rfl rfl rfl rfl rfl ?_
    refine J_buildSlice1 (U := tab) (cs := blC z) rfl rfl rfl rfl rfl rfl rfl rfl rfl (fun _ _ _ => trivial) ?_
    intro row
    refine go ?_
    refine J_append (U := tab) (mm := 1) (news := blC z) 5 0 rfl rfl rfl rfl rfl rfl rfl rfl rfl rfl rfl rfl (Vw.pts rfl) rfl (by have := blC_one [z]; simpa using this) (by omega) (by show (_ + _) * 80 ≤ _; omega) (fun _ => rfl) (fun _ _ _ => trivial) ?_
    intro v1
    rw [show acc.flatMap blC ++ blC z = (acc ++ [z]).flatMap blC from by simp, show acc.length + 1 = (acc ++ [z]).length from by simp]
    (first | refine J_shape 5 rfl ?_ | refine K_shape 5 rfl ?_)
    rintro ja jc rfl
    refine go ?_
    refine J_isStore ?_
    refine J_store (U := tab) 4 (fun _ _ => trivial) rfl rfl rfl rfl rfl rfl rfl rfl rfl ?_
    refine go ?_
    refine K_again ih (i + 1, acc ++ [z], ja, jc) rfl ⟨by simp only; omega, hap, by simp only [List.length_append, List.length_singleton]; omega⟩ (by simp only; omega) (by repeat (first | exact keep_nil | refine keep_cons rfl ?_)) entA
 ·intro hge
  have hie : i = its.length := by omega
  have hall : xs.take i = xs := by rw [List.take_of_length_le]; rw [← hip, List.length_map]; omega
  rw [hall] at hacc
  rw [hacc] at hde
  simp only at hde
  clear ih
  refine K_slcVw 1 rfl ?_
  intro hva
  refine go ?_
  refine J_loadArr (U := tab) (l := [.slice xa acc.length xc]) 0 rfl rfl rfl rfl rfl rfl ?_
  ((try refine go ?_); first | refine J_callE rfl rfl rfl rfl (Image_any _ _ acc hva (by omega)) entA ?_ (fun _ _ _ _ _ => trivial) | refine J_call0E rfl rfl rfl (Image_any _ _ acc hva (by omega)) entA ?_ (fun _ _ _ _ _ => trivial))
  rintro _ _ ⟨rfl, rfl⟩
  repeat' (first | (with_reducible intro _hh) | refine go1 ?_ | refine J_fork ?_ ?_ | refine J_gsP rfl rfl rfl rfl ?_ ?_ | refine K_condP rfl rfl ?_ ?_)
  ·rw [if_neg (by omega)] at hde
   (refine J_isStore ?_; first | refine J_store (U := tab) 0 (fun _ _ => trivial) rfl rfl rfl rfl rfl rfl rfl rfl rfl ?_ | refine J_store (U := tab) 1 (fun _ _ => trivial) rfl rfl rfl rfl rfl rfl rfl rfl rfl ?_ | refine J_store (U := tab) 2 (fun _ _ => trivial) rfl rfl rfl rfl rfl rfl rfl rfl rfl ?_ | refine J_store (U := tab) 3 (fun _ _ => trivial) rfl rfl rfl rfl rfl rfl rfl rfl rfl ?_ | refine J_store (U := tab) 4 (fun _ _ => trivial) rfl rfl rfl rfl rfl rfl rfl rfl rfl ?_ | refine J_store (U := tab) 5 (fun _ _ => trivial) rfl rfl rfl rfl rfl rfl rfl rfl rfl ?_ | refine J_store (U := tab) 6 (fun _ _ => trivial) rfl rfl rfl rfl rfl rfl rfl rfl rfl ?_ | refine J_store (U := tab) 7 (fun _ _ => trivial) rfl rfl rfl rfl rfl rfl rfl rfl rfl ?_ | refine J_store (U := tab) 8 (fun _ _ => trivial) rfl rfl rfl rfl rfl rfl rfl rfl rfl ?_)
   refine go ?_
   (refine K_noMarks hE ?_; apply K_returnV (U := tab) hE Tryz.func86 rfl (Ent.refl _); (repeat (first | exact ResOk.nil | apply ResOk.tmp rfl | apply ResOk.agg 0 rfl rfl rfl rfl rfl | apply ResOk.agg 1 rfl rfl rfl rfl rfl | apply ResOk.agg 2 rfl rfl rfl rfl rfl | apply ResOk.agg 3 rfl rfl rfl rfl rfl | apply ResOk.agg 4 rfl rfl rfl rfl rfl | apply ResOk.agg 5 rfl rfl rfl rfl rfl | apply ResOk.agg 6 rfl rfl rfl rfl rfl | apply ResOk.agg 7 rfl rfl rfl rfl rfl | apply ResOk.agg 8 rfl rfl rfl rfl rfl | apply ResOk.one 0 rfl rfl rfl rfl | apply ResOk.one 1 rfl rfl rfl rfl | apply ResOk.one 2 rfl rfl rfl rfl | apply ResOk.one 3 rfl rfl rfl rfl | apply ResOk.one 4 rfl rfl rfl rfl | apply ResOk.one 5 rfl rfl rfl rfl | apply ResOk.one 6 rfl rfl rfl rfl)); exact (.inl ⟨hde, ⟨2, by decide, rfl⟩, rfl⟩); exact entA)
  ·rw [if_pos (by omega)] at hde
   refine J_loadArr (U := tab) (l := [.slice xa acc.length xc]) 1 rfl rfl rfl rfl rfl rfl ?_
   refine go ?_
   refine J_isStore ?_
   refine J_store (U := tab) 4 (fun _ _ => trivial) rfl rfl rfl rfl rfl rfl rfl rfl rfl ?_
   refine go ?_
   (refine K_noMarks hE ?_; apply K_returnV (U := tab) hE Tryz.func86 rfl (Ent.refl _); (repeat (first | exact ResOk.nil | apply ResOk.tmp rfl | apply ResOk.agg 0 rfl rfl rfl rfl rfl | apply ResOk.agg 1 rfl rfl rfl rfl rfl | apply ResOk.agg 2 rfl rfl rfl rfl rfl | apply ResOk.agg 3 rfl rfl rfl rfl rfl | apply ResOk.agg 4 rfl rfl rfl rfl rfl | apply ResOk.agg 5 rfl rfl rfl rfl rfl | apply ResOk.agg 6 rfl rfl rfl rfl rfl | apply ResOk.agg 7 rfl rfl rfl rfl rfl | apply ResOk.agg 8 rfl rfl rfl rfl rfl | apply ResOk.one 0 rfl rfl rfl rfl | apply ResOk.one 1 rfl rfl rfl rfl | apply ResOk.one 2 rfl rfl rfl rfl | apply ResOk.one 3 rfl rfl rfl rfl | apply ResOk.one 4 rfl rfl rfl rfl | apply ResOk.one 5 rfl rfl rfl rfl | apply ResOk.one 6 rfl rfl rfl rfl)); exact (.inr ⟨acc, _, hde, rfl, rfl⟩); exact entA)
end Go.Proofs.YtpecmnaikjbanaaGreatDoor
/- Engine, part Z: from a contract that leaves all old memory to the given row's walk; arguments as views. Nothing here names a program. -/
namespace Go.SL
open Go.RowKit
def old (W : World) : HP := fun h => ∀ b, h b = W.heap[b]?
def glob (W : World) : Glob := { tape := W.tape, os := W.os, output := W.output }
theorem Sat_old (W : World) : Sat (glob W) W [old W] := ⟨⟨rfl, Nat.zero_le _⟩, rfl, rfl, fun b => W.heap[b]?, fun _ _ h => h, Sep_one' fun _ => rfl⟩
theorem below_of_sat {W W' : World} (h : Sat (glob W) W' [old W]) : Below W.heap.size W W' := by
 obtain ⟨h1, h2, h3, h0, hw, hs⟩ := h
 have ho := Sep_one hs
 have hb : ∀ k, k < W.heap.size → W'.heap[k]? = W.heap[k]? := fun k hk => by
  have e : W.heap[k]? = some W.heap[k] := by simp [hk]
  rw [e]
  exact hw k _ (by rw [ho k, e])
 refine ⟨h2, h1.1, h3, ?_, hb⟩
 rcases Nat.eq_zero_or_pos W.heap.size with h0 | h0
 ·omega
 ·have := hb (W.heap.size - 1) (by omega)
  have e : W.heap[W.heap.size - 1]? = some W.heap[W.heap.size - 1] := by simp [h0]
  rw [e] at this
  have := (Array.getElem?_eq_some_iff.1 this).1
  omega
theorem row_walk {P : Program} {f : FuncId} {args : List Value} {W : World} (c : Ctr P f args [old W] (fun v H => v = .bool true ∧ H = [old W])) :
  Calls P f args.toArray W fun e W' => e = .returned (.bool true) ∧ Below W.heap.size W W' :=
 (c.2 (glob W) W [] (Sat_old W)).mono fun e W' h => by
  obtain ⟨v, H, rfl, ⟨rfl, rfl⟩, hs⟩ := h
  exact ⟨rfl, below_of_sat hs⟩
theorem hcell_of_cell {W : World} {h : Hp} {b off : Nat} {v : Value} (ho : old W h) (hc : W.cell? ⟨b, off, none⟩ = some v) : hcell h b off = some v := by
 unfold hcell
 rw [ho b]
 unfold World.cell? at hc
 simp only at hc
 split at hc
 ·rename_i c _ _ he
  rw [he]
  simpa using hc
 ·cases hc
theorem bytes_view {W : World} {a : Addr} {len cap : Nat} {zs : List Int} (hl : len ≤ zs.length) (hcell : ∀ i, i < zs.length → W.cell? (a.add i) = some (.int .u8 (zs.getD i 0))) (hwf : ∀ n ∈ zs, (Lit.int .u8 n).wf = true) :
  ∃ bs : List UInt8, bs.length = len ∧ Vw (old W) (.slice (some a) len cap) len (bV bs) := by
 refine ⟨(zs.take len).map fun z => UInt8.ofNat z.toNat, by simp; omega, some a, cap, rfl, ?_⟩
 rcases Nat.eq_zero_or_pos len with h0 | h0
 ·left; subst h0; simp [bV]
 ·right
  obtain ⟨b, o, spot⟩ := a
  have hsp : spot = none := by simpa [Addr.add] using World.cell?_spot (hcell 0 (by omega))
  subst hsp
  refine ⟨b, o, rfl, fun h ho j c hj => ?_⟩
  have hjl : j < len := by
   rcases Nat.lt_or_ge j len with h | h
   ·exact h
   ·rw [List.getElem?_eq_none (by simp [bV]; omega)] at hj; cases hj
  have h1 := hcell j (by omega)
  rw [Addr.add_eq] at h1
  have h2 := hcell_of_cell ho h1
  rw [h2]
  have hm : zs[j]'(by omega) ∈ zs := List.getElem_mem _
  have hw := hwf _ hm
  have hb : 0 ≤ zs[j]'(by omega) ∧ zs[j]'(by omega) < 256 := by
   simp only [Lit.wf, Bool.and_eq_true, decide_eq_true_eq] at hw
   have e1 : IntKind.u8.min = 0 := by decide
   have e2 : IntKind.u8.max = 255 := by decide
   omega
  simp only [bV, List.map_map, List.getElem?_map, List.getElem?_take, hjl, if_true] at hj
  rw [List.getElem?_eq_getElem (by omega)] at hj
  simp only [Option.map_some, Option.some.injEq, Function.comp] at hj
  rw [← hj, List.getD_eq_getElem?_getD, List.getElem?_eq_getElem (by omega)]
  simp only [Option.getD_some, u8, UInt8.toNat_ofNat', Option.some.injEq]
  congr 1
  omega
theorem nil_view (W : World) : Vw (old W) (.slice none 0 0) 0 (bV []) := ⟨none, 0, rfl, .inl rfl⟩
theorem i64_range {z : Int} (h : (Lit.int .i64 z).wf = true) : -9223372036854775808 ≤ z ∧ z ≤ 9223372036854775807 := by
 simp only [Lit.wf, Bool.and_eq_true, decide_eq_true_eq] at h
 have e1 : IntKind.i64.min = -9223372036854775808 := by decide
 have e2 : IntKind.i64.max = 9223372036854775807 := by decide
 omega
end Go.SL
/- Engine, part Vi: the library's sort at numbers, by the shelf's contracts. Nothing here names a program. -/
set_option linter.unusedSectionVars false
namespace Go.SL
open Go.Proofs Go.Shelf Go.RowKit Go.Lib Go.Sort
theorem Sat.grown {G : Glob} {w : World} {H : List HP} (hs : Sat G w H) (os : Array Obj) : Sat G (Sort.grow w os) H := by
 obtain ⟨a, b, c, h, hw, hh⟩ := hs
 refine ⟨a, b, c, h, fun x o e => ?_, hh⟩
 have h1 := hw x o e
 obtain ⟨h2, -⟩ := Array.getElem?_eq_some_iff.1 h1
 show (w.heap ++ os)[x]? = some o
 rw [Array.getElem?_append_left h2]
 exact h1
theorem Sat.ahead {G : Glob} {w : World} {H : List HP} (hs : Sat G w H) (n : Nat) : Sat G (Sort.ahead w n) H := hs.draw _ (Nat.le_add_right _ _)
theorem Sat.mapB {G : Glob} {w : World} {H : List HP} {b : Nat} {l l' : List Value} {e : TypeId} (hs : Sat G w (pts b (cl l e) :: H)) (f : Array Value → Array Value) (hf : f l.toArray = l'.toArray) : Sat G (Sort.mapBlock w b f) (pts b (cl l' e) :: H) := by
 have hb := hs.get (i := 0) rfl
 obtain ⟨hlt, hb2⟩ := Array.getElem?_eq_some_iff.1 hb
 have hm : w.heap.modify b (Sort.onCells f) = w.heap.setIfInBounds b (cl l' e) := by
  apply Array.ext_getElem?
  intro i
  rw [Array.getElem?_modify, Array.getElem?_setIfInBounds]
  by_cases h : b = i
  ·subst h
   rw [if_pos rfl, if_pos rfl, if_pos hlt, hb]
   simp only [Option.map_some]
   unfold cl Sort.onCells
   simp only [hf]
  ·rw [if_neg h, if_neg h]
 unfold Sort.mapBlock
 rw [hm]
 exact hs.set0
theorem grow_of_old {W W' : World} (h : Sat { tape := W.tape, os := W.os, output := W.output, lo := W.drawn } W' [old W]) : ∃ q os', W' = Sort.grow (W.drewN q) os' := by
 obtain ⟨⟨h1, h2⟩, h3, h4, h0, hw, hs⟩ := h
 have ho := Sep_one hs
 have hb : ∀ k, k < W.heap.size → W'.heap[k]? = W.heap[k]? := fun k hk => by
  have e : W.heap[k]? = some W.heap[k] := by simp [hk]
  rw [e]
  exact hw k _ (by rw [ho k, e])
 have hle : W.heap.size ≤ W'.heap.size := by
  rcases Nat.eq_zero_or_pos W.heap.size with h0 | h0
  ·omega
  ·have := hb (W.heap.size - 1) (by omega)
   have e : W.heap[W.heap.size - 1]? = some W.heap[W.heap.size - 1] := by simp [h0]
   rw [e] at this
   have := (Array.getElem?_eq_some_iff.1 this).1
   omega
 refine ⟨W'.drawn - W.drawn, W'.heap.extract W.heap.size W'.heap.size, ?_⟩
 have hheap : W'.heap = W.heap ++ W'.heap.extract W.heap.size W'.heap.size := by
  apply Array.ext_getElem?
  intro i
  rw [Array.getElem?_append]
  split
  ·rename_i hi; exact hb i hi
  ·rename_i hi
   rw [Array.getElem?_extract]
   split
   ·rename_i h; congr 1; omega
   ·rename_i h; rw [Array.getElem?_eq_none (by omega)]
 have hd : W'.drawn = W.drawn + (W'.drawn - W.drawn) := by simp only at h2; omega
 cases W' with
 | mk hp tp dr os out =>
  simp only at h1 h2 h3 h4 hheap hd
  subst h1 h3 h4
  unfold Sort.grow World.drewN
  simp only
  rw [← hd, ← hheap]
variable {P : Program} {ρ : Ren} {α : Type} [Inhabited α]
theorem putCells_mid (pre cs cs' junk : List Value) (hl : cs'.length = cs.length) : Sort.putCells id pre.length cs'.toArray (pre ++ cs ++ junk).toArray = (pre ++ cs' ++ junk).toArray := by
 apply Array.ext_getElem?
 intro i
 unfold Sort.putCells
 rw [Array.getElem?_mapIdx]
 simp only [List.getElem?_toArray, id, List.size_toArray]
 rcases Nat.lt_or_ge i pre.length with h | h
 ·rw [List.append_assoc, List.append_assoc, List.getElem?_append_left h, List.getElem?_append_left h]
  cases pre[i]? with
  | none => rfl
  | some x => simp only [Option.map_some]; rw [if_neg (by omega)]
 ·rw [List.append_assoc, List.append_assoc, List.getElem?_append_right h, List.getElem?_append_right h]
  rcases Nat.lt_or_ge (i - pre.length) cs'.length with h2 | h2
  ·rw [List.getElem?_append_left (by omega), List.getElem?_append_left h2, List.getElem?_eq_getElem (by omega), List.getElem?_eq_getElem h2]
   simp only [Option.map_some]
   rw [if_pos ⟨h, by omega⟩, getElem!_pos _ _ (by simpa using h2)]
   simp
  ·rw [List.getElem?_append_right (by omega), List.getElem?_append_right h2, hl]
   cases junk[i - pre.length - cs.length]? with
   | none => rfl
   | some x => simp only [Option.map_some]; rw [if_neg (by omega)]
theorem holds_mid {w : World} {b : Nat} {e : TypeId} {pre cs junk : List Value} (hb : w.heap[b]? = some (cl (pre ++ cs ++ junk) e)) : Sort.Holds id w b pre.length cs.toArray := by
 intro j hj
 simp only [List.size_toArray] at hj
 constructor
 ·unfold World.cell?
  simp only [hb, cl, Option.isSome_none, Bool.false_eq_true, if_false, List.getElem?_toArray]
  rw [List.append_assoc, List.getElem?_append_right (by omega), Nat.add_sub_cancel_left, List.getElem?_append_left hj, getElem!_pos _ _ (by simpa using hj), List.getElem?_eq_getElem hj]
  simp
 ·unfold World.frozen?
  simp only [hb, cl]
  simp
end Go.SL
/- Engine, part V2: the library's sort at strings. Nothing here names a program. -/
namespace Go.SL
open Go.Proofs Go.Shelf Go.RowKit Go.Lib Go.Sort
variable {P : Program} {ρ : Ren}
theorem sortStr_ctr (L : SlLaysN.n54 P ρ) (e : TypeId) (v : Value) (l : List (List UInt8)) (hen : P.funcs[ρ.f 54]?.map callable = some true) (hsz : l.length < 4611686018427387904) :
  Ctr P (ρ.f 54) [v] [slc e 1 v l.length (l.map encStr)] (fun r H => r = .tuple #[] ∧ H = [slc e 1 v l.length ((l.mergeSort fun x y => decide (x ≤ y)).map encStr)]) := by
 refine ⟨hen, fun G w F hs => ?_⟩
 obtain ⟨t, o, u, hp, hpw, hA, hB, ⟨hl, hcase⟩, hBB, hd, he⟩ := hs
 rcases hcase with ⟨a0, rfl, hn, hemp⟩ | ⟨b, oo, cap, pre, junk, rfl, hpre, hn, hcap, hpt⟩
 ·have hl0 : l = [] := List.eq_nil_of_length_eq_zero hn
  subst hl0
  refine (AnyG.slices_Sort_string_none L a0 0 w).mono ?_
  rintro e' w' ⟨rfl, rfl⟩
  exact ⟨_, _, rfl, ⟨rfl, rfl⟩, t, o, u, hp, hpw, hA, hB, ⟨by simp, .inl ⟨a0, rfl, rfl, hemp⟩⟩, hBB, hd, he⟩
 ·have hs1 : Sat G w (pts b (cl (pre ++ l.map encStr ++ junk) e) :: F) := ⟨t, o, u, hp, hpw, hA, hB, hpt, hBB, hd, he⟩
  have hb := hs1.get (i := 0) rfl
  have hlt := hs1.lt (i := 0) rfl
  subst hpre
  have hH : Sort.Holds encStr w b pre.length l.toArray := by
   have h0 := holds_mid hb
   intro j hj
   have := h0 j (by simpa using hj)
   simp only [List.size_toArray] at hj
   rw [getElem!_pos (l.map encStr).toArray j (by simpa using hj)] at this
   rw [getElem!_pos l.toArray j (by simpa using hj)]
   simpa using this
  have hS := AnyG.slices_Sort_string L b pre.length cap l w hH hlt hsz
  refine hS.mono ?_
  rintro e' w' ⟨rfl, n, os, rfl⟩
  refine ⟨_, _, rfl, ⟨rfl, rfl⟩, ?_⟩
  have hml : (l.mergeSort fun x y => decide (x ≤ y)).length = l.length := List.length_mergeSort _
  have h3 := (hs1.ahead n).mapB (Sort.putCells encStr pre.length (l.mergeSort fun x y => decide (x ≤ y)).toArray) (l' := pre ++ (l.mergeSort fun x y => decide (x ≤ y)).map encStr ++ junk) (by
   refine Eq.trans ?_ (putCells_mid pre (l.map encStr) ((l.mergeSort fun x y => decide (x ≤ y)).map encStr) junk (by rw [List.length_map, List.length_map, hml]))
   unfold Sort.putCells
   congr 1
   funext i x
   simp only [List.size_toArray, List.length_map, id]
   split
   ·rename_i h
    rw [getElem!_pos (List.map encStr _).toArray (i - pre.length) (by simp; omega), getElem!_pos (l.mergeSort fun x y => decide (x ≤ y)).toArray (i - pre.length) (by simp; omega)]
    simp
   ·rfl)
  have h4 := h3.grown os
  refine h4.ent ?_
  exact slc_closeN rfl hn (by rw [List.length_map] at hcap ⊢; rw [hml]; exact hcap) (by rw [List.length_map, hml, Nat.mul_one]) F
end Go.SL
/- The shelf's contracts laid at this seat (numbers as the kit's own command finds them). -/
namespace Go.Proofs.YtpecmnaikjbanaaGreatDoor
open Go Go.Shelf
def sortS_ren : Go.Shelf.Ren := ⟨fun | 54 => 126 | 64 => 150 | 65 => 153 | 78 => 173 | 79 => 174 | 80 => 176 | 81 => 177 | 82 => 178 | 83 => 179 | 84 => 180 | 85 => 181 | 61 => 182 | 86 => 183 | 87 => 184 | 93 => 200 | 89 => 196 | 90 => 197 | 94 => 201 | 95 => 202 | 69 => 203 | 97 => 206 | n => n, fun | 25 => 66 | 26 => 9 | 3 => 3 | 51 => 120 | 0 => 0 | 67 => 129 | 69 => 128 | 4 => 4 | 61 => 201 | 60 => 200 | 44 => 205 | 5 => 5 | 9 => 9 | 75 => 223 | 79 => 227 | 83 => 232 | 84 => 233 | n => n, fun | n => n⟩
theorem sortS : Go.Proofs.SlLaysN.n54 Tryz.prog sortS_ren := {
  mixed := by kernel_rfl,
  f54 := ⟨Tryz.f126.name, by decide, Tryz.func126.trans (congrArg some (by kernel_rfl))⟩,
  f61 := ⟨Tryz.f182.name, by decide, Tryz.func182.trans (congrArg some (by kernel_rfl))⟩,
  f64 := Tryz.func150.trans (congrArg some (by kernel_rfl)),
  f65 := ⟨Tryz.f153.name, by decide, Tryz.func153.trans (congrArg some (by kernel_rfl))⟩,
  f69 := ⟨Tryz.f203.name, by decide, Tryz.func203.trans (congrArg some (by kernel_rfl))⟩,
  f78 := Tryz.func173.trans (congrArg some (by kernel_rfl)),
  f79 := Tryz.func174.trans (congrArg some (by kernel_rfl)),
  f80 := ⟨Tryz.f176.name, by decide, Tryz.func176.trans (congrArg some (by kernel_rfl))⟩,
  f81 := ⟨Tryz.f177.name, by decide, Tryz.func177.trans (congrArg some (by kernel_rfl))⟩,
  f82 := ⟨Tryz.f178.name, by decide, Tryz.func178.trans (congrArg some (by kernel_rfl))⟩,
  f83 := ⟨Tryz.f179.name, by decide, Tryz.func179.trans (congrArg some (by kernel_rfl))⟩,
  f84 := ⟨Tryz.f180.name, by decide, Tryz.func180.trans (congrArg some (by kernel_rfl))⟩,
  f85 := ⟨Tryz.f181.name, by decide, Tryz.func181.trans (congrArg some (by kernel_rfl))⟩,
  f86 := ⟨Tryz.f183.name, by decide, Tryz.func183.trans (congrArg some (by kernel_rfl))⟩,
  f87 := ⟨Tryz.f184.name, by decide, Tryz.func184.trans (congrArg some (by kernel_rfl))⟩,
  f89 := Tryz.func196.trans (congrArg some (by kernel_rfl)),
  f90 := Tryz.func197.trans (congrArg some (by kernel_rfl)),
  f93 := ⟨Tryz.f200.name, by decide, Tryz.func200.trans (congrArg some (by kernel_rfl))⟩,
  f94 := ⟨Tryz.f201.name, by decide, Tryz.func201.trans (congrArg some (by kernel_rfl))⟩,
  f95 := ⟨Tryz.f202.name, by decide, Tryz.func202.trans (congrArg some (by kernel_rfl))⟩,
  f97 := ⟨Tryz.f206.name, by decide, Tryz.func206.trans (congrArg some (by kernel_rfl))⟩,
  t0 := Tryz.underlying0,
  a0 := Tryz.isAgg0,
  z0 := Tryz.sizeOf0,
  v0 := Tryz.zeroValue0,
  t3 := Tryz.underlying3,
  a3 := Tryz.isAgg3,
  z3 := Tryz.sizeOf3,
  v3 := Tryz.zeroValue3,
  t4 := Tryz.underlying4,
  a4 := Tryz.isAgg4,
  z4 := Tryz.sizeOf4,
  v4 := Tryz.zeroValue4,
  t5 := Tryz.underlying5,
  a5 := Tryz.isAgg5,
  z5 := Tryz.sizeOf5,
  v5 := Tryz.zeroValue5,
  t9 := Tryz.underlying9,
  a9 := Tryz.isAgg9,
  z9 := Tryz.sizeOf9,
  v9 := Tryz.zeroValue9,
  t25 := Tryz.underlying66,
  a25 := Tryz.isAgg66,
  z25 := Tryz.sizeOf66,
  v25 := Tryz.zeroValue66,
  t26 := Tryz.underlying9,
  a26 := Tryz.isAgg9,
  z26 := Tryz.sizeOf9,
  v26 := Tryz.zeroValue9,
  t44 := Tryz.underlying205,
  a44 := Tryz.isAgg205,
  z44 := Tryz.sizeOf205,
  v44 := Tryz.zeroValue205,
  t51 := Tryz.underlying120,
  a51 := Tryz.isAgg120,
  z51 := Tryz.sizeOf120,
  v51 := Tryz.zeroValue120,
  t60 := Tryz.underlying200,
  a60 := Tryz.isAgg200,
  z60 := Tryz.sizeOf200,
  v60 := Tryz.zeroValue200,
  t61 := Tryz.underlying201,
  a61 := Tryz.isAgg201,
  z61 := Tryz.sizeOf201,
  v61 := Tryz.zeroValue201,
  t67 := Tryz.underlying129,
  a67 := Tryz.isAgg129,
  z67 := Tryz.sizeOf129,
  v67 := Tryz.zeroValue129,
  t69 := Tryz.underlying128,
  a69 := Tryz.isAgg128,
  z69 := Tryz.sizeOf128,
  v69 := Tryz.zeroValue128,
  t75 := Tryz.underlying223,
  a75 := Tryz.isAgg223,
  z75 := Tryz.sizeOf223,
  v75 := Tryz.zeroValue223,
  t79 := Tryz.underlying227,
  a79 := Tryz.isAgg227,
  z79 := Tryz.sizeOf227,
  v79 := Tryz.zeroValue227,
  t83 := Tryz.underlying232,
  a83 := Tryz.isAgg232,
  z83 := Tryz.sizeOf232,
  v83 := Tryz.zeroValue232,
  t84 := Tryz.underlying233,
  a84 := Tryz.isAgg233,
  z84 := Tryz.sizeOf233,
  v84 := Tryz.zeroValue233 }
end Go.Proofs.YtpecmnaikjbanaaGreatDoor
/- files, part gg1: Names: the keys of a map, in order. -/
namespace Go.Proofs.YtpecmnaikjbanaaGreatDoor
open Go Go.SL
def sS (l : List ByteArray) : List Value := l.map Value.string
theorem sS_one (l : List ByteArray) : ∀ v ∈ sS l, v.oneCell' = true := by
 intro v hv
 obtain ⟨x, _, rfl⟩ := List.mem_map.1 hv
 rfl
def SI (bs : Nat) (ks : List ByteArray) : HP := fun h => ∃ v : Value, True ∧ Sep [pts bs (cl [v] 66), slc 9 1 v ks.length (sS ks)] h
theorem SI_open (bs : Nat) (ks : List ByteArray) : ∀ h, SI bs ks h → ∃ v : Value, True ∧ Sep [pts bs (cl [v] 66), slc 9 1 v ks.length (sS ks)] h := fun h hs => hs
theorem SI_close (bs : Nat) (ks : List ByteArray) (v : Value) (H : List HP) : Ent (pts bs (cl [v] 66) :: slc 9 1 v ks.length (sS ks) :: H) (SI bs ks :: H) :=
 Ent.fold (A := SI bs ks) (B := [pts bs (cl [v] 66), slc 9 1 v ks.length (sS ks)]) fun h hs => ⟨h, sub.refl h, v, trivial, hs⟩
theorem kStr' : KeyOk Tryz.prog 9 Value.string := keyStr Tryz.underlying9
attribute [local irreducible] J K Ctr Ends pts slc mapR mapI sbRow stock arrS loopP CtrY SI
theorem Keys_any (bm : Nat) : Ctr Tryz.prog 84 [.map (some bm)] [] (fun r H => ∃ bx, r = .func (.func 127) #[] #[ptr bx] ∧ H = [pts bx (cl [.map (some bm)] 81)]) := by
 refine Ctr.enter Tryz.func84 (by kernel_rfl) rfl Tryz.ntmps84 rfl rfl ?_
 intro G F R hE
 refine go ?_
 refine J_box rfl rfl (fun _ _ _ => trivial) ?_
 intro bx
 refine go ?_
 (first | refine K_return hE Tryz.func84 rfl _ rfl ⟨bx, rfl, rfl⟩ entA | refine K_fallEnd hE Tryz.func84 rfl _ rfl ⟨bx, rfl, rfl⟩ entA)
theorem Keys1_any (l bx bm : Nat) (es : List (ByteArray × Value)) (hnd : (es.map (·.1)).Nodup) (Lp : HP) (Inv : List ByteArray → HP)
  (hy : ∀ dn k, k ∈ es.map (·.1) → dn.length < es.length → CtrY Tryz.prog l [.string k] [Lp, Inv dn] (fun v H => v = .bool true ∧ H = [Lp, Inv (dn ++ [k])])) :
  Ctr Tryz.prog 127 [.func (.yield l) #[] #[], ptr bx] [Lp, pts bx (cl [.map (some bm)] 81), mapR Value.string bm es, Inv [] ] (fun _ H => ∃ dn : List ByteArray, dn.Perm (es.map (·.1)) ∧ H = [Lp, pts bx (cl [.map (some bm)] 81), mapR Value.string bm es, Inv dn]) := by
 refine Ctr.enter Tryz.func127 (by kernel_rfl) rfl Tryz.ntmps127 rfl rfl ?_
 intro G F R hE
 refine K_ent (Ent.pick [2, 0, 1] rfl) ?_
 refine go ?_
 refine J_range (kv := Value.string) (es := es) (U := tab) 0 rfl rfl rfl rfl rfl (fun _ => rfl) (fun _ _ _ => trivial) ?_
 intro it
 refine go ?_
 refine K_loop (fun s : List ByteArray => s.Nodup ∧ ∀ x ∈ s, x ∈ es.map (·.1)) (fun s => es.length - s.length) (fun s => [(0, .func (.yield l) #[] #[]), (5, .pointer (some ⟨it, 0, none⟩))])
  (fun s => mapI Value.string bm it es s :: Lp :: pts bx (cl [.map (some bm)] 81) :: Inv s.reverse :: F) [] ⟨List.nodup_nil, by simp⟩ rfl (by repeat (first | exact keep_nil | refine keep_cons rfl ?_)) entA ?_
 rintro dn ⟨hdn, hsub⟩ ih
 refine go ?_
 refine J_next (kv := Value.string) (es := es) 0 rfl kStr'.inj rfl rfl (fun _ => rfl) (fun _ _ => trivial) (fun _ _ _ => trivial) ?_ ?_
 ·intro hall
  refine go ?_
  refine K_ent (Ent.head (B := [mapR Value.string bm es]) (fun h hs => by obtain ⟨h', s, hm⟩ := mapI_mapR h hs; exact ⟨h', s, Sep_one' hm⟩)) ?_
  have hp : dn.reverse.Perm (es.map (·.1)) := (List.reverse_perm dn).trans ((List.perm_ext_iff_of_nodup hdn hnd).2 fun a => ⟨hsub a, fun h => by obtain ⟨y, hy, rfl⟩ := List.mem_map.1 h; exact hall y hy⟩)
  (first | refine K_return hE Tryz.func127 rfl _ rfl ⟨_, hp, rfl⟩ entA | refine K_fallEnd hE Tryz.func127 rfl _ rfl ⟨_, hp, rfl⟩ entA)
 ·intro key v hmem hnot
  have hk : key ∈ es.map (·.1) := List.mem_map.2 ⟨_, hmem, rfl⟩
  have hlt : dn.length < es.length := by
   have h1 : ((List.filter (fun x => decide (x ∈ dn)) (es.map (·.1)))).length ≤ (es.map (·.1)).length := List.length_filter_le _ _
   have h2 : dn.length = (List.filter (fun x => decide (x ∈ dn)) (es.map (·.1))).length := nodup_len2 hdn (hnd.sublist List.filter_sublist) (fun n => by
    simp only [List.mem_filter, decide_eq_true_eq]
    exact ⟨fun h => ⟨hsub n h, h⟩, fun h => h.2⟩)
   rw [List.length_map] at h1
   rcases Nat.lt_or_ge dn.length es.length with h | h
   ·exact h
   ·exfalso
    have h3 : (List.filter (fun x => decide (x ∈ dn)) (es.map (·.1))).length = (es.map (·.1)).length := by rw [List.length_map]; omega
    have h4 := List.filter_eq_self.1 ((List.filter_sublist (p := fun x => decide (x ∈ dn)) (l := es.map (·.1))).eq_of_length h3) key hk
    exact hnot (of_decide_eq_true h4)
  refine go ?_
  refine J_entry (kv := Value.string) (es := es) 0 rfl kStr'.inj rfl rfl hmem ?_
  refine go ?_
  refine J_yield rfl rfl rfl (hy dn.reverse key hk (by rw [List.length_reverse]; exact hlt)) entA ?_ (fun _ _ _ _ _ => trivial)
  rintro _ _ ⟨rfl, rfl⟩
  rw [show dn.reverse ++ [key] = (key :: dn).reverse from by simp]
  refine go ?_
  refine K_again ih (key :: dn) rfl (⟨List.nodup_cons.2 ⟨hnot, hdn⟩, fun x hx => by rcases List.mem_cons.1 hx with rfl | h; exact hk; exact hsub x h⟩) (by show _ - (key :: dn).length < _; simp only [List.length_cons]; omega) (by repeat (first | exact keep_nil | refine keep_cons rfl ?_)) entA
theorem AppendSeq_any (bx bm : Nat) (es : List (ByteArray × Value)) (hnd : (es.map (·.1)).Nodup) (hes : es.length ≤ 1000000) :
  Ctr Tryz.prog 152 [.slice none 0 0, .func (.func 127) #[] #[ptr bx] ] [pts bx (cl [.map (some bm)] 81), mapR Value.string bm es] (fun r H => ∃ dn : List ByteArray, dn.Perm (es.map (·.1)) ∧ H = [slc 9 1 r dn.length (sS dn), pts bx (cl [.map (some bm)] 81), mapR Value.string bm es]) := by
 refine Ctr.enter Tryz.func152 (by kernel_rfl) rfl Tryz.ntmps152 rfl rfl ?_
 intro G F R hE
 refine K_regionA rfl ?_
 refine J_box rfl rfl (fun _ _ _ => trivial) ?_
 intro bs
 refine go ?_
 refine K_adv1 rfl ?_
 refine K_ent (Ent.trans (Ent.cons _ (slc_lift 9 1 none _)) (SI_close bs [] (.slice none 0 0) _)) ?_
 refine K_range (Fr := F) (Pre := fun _ _ => [pts bx (cl [.map (some bm)] 81), mapR Value.string bm es, SI bs [] ]) (Post := ?Po) rfl hE.1.1 rfl ?c (fun l r => entA) ?hend
 case c =>
  intro l r
  refine Keys1_any l bx bm es hnd _ (fun dn => SI bs dn) ?_
  intro dn k hk hlt
  refine CtrY.of_K rfl rfl ?_
  intro G2 F2 R2 hY
  refine go ?_
  refine K_beginRound rfl hY ?_
  refine K_ent (Ent.pick [1] rfl) ?_
  refine K_open (SI_open bs dn) ?_
  rintro v -
  refine K_shape 1 rfl ?_
  rintro va vc rfl
  refine go ?_
  refine J_buildSlice1 (U := tab) (cs := sS [k]) rfl rfl rfl rfl rfl rfl rfl rfl rfl (fun _ _ _ => trivial) ?_
  intro row
  refine go ?_
  refine J_append (U := tab) (mm := 1) (news := sS [k]) 2 0 rfl rfl rfl rfl rfl rfl rfl rfl rfl rfl rfl rfl (Vw.pts rfl) rfl (sS_one _) (by omega) (by show (_ + 1) * 16 ≤ _; omega) (fun _ => rfl) (fun _ _ _ => trivial) ?_
  intro v1
  rw [show sS dn ++ sS [k] = sS (dn ++ [k]) from by simp [sS], show dn.length + 1 = (dn ++ [k]).length from by simp]
  (first | refine J_shape 2 rfl ?_ | refine K_shape 2 rfl ?_)
  rintro va2 vc2 rfl
  refine go ?_
  refine K_ent (Ent.trans entA (SI_close bs (dn ++ [k]) (.slice va2 (dn ++ [k]).length vc2) _)) ?_
  refine K_roundEnd hY rfl entA ⟨rfl, rfl⟩
 intro l r v H hpost
 obtain ⟨dn, hp, rfl⟩ := hpost
 refine ⟨_, _, _, rfl, by decide, ?_⟩
 rw [hE.1.2]
 refine K_ent (Ent.pick [2] rfl) ?_
 refine K_open (SI_open bs dn) ?_
 rintro w -
 refine go ?_
 refine K_returnM hE Tryz.func152 rfl _ rfl ⟨dn, hp, rfl⟩ entA
theorem Collect_any (bx bm : Nat) (es : List (ByteArray × Value)) (hnd : (es.map (·.1)).Nodup) (hes : es.length ≤ 1000000) :
  Ctr Tryz.prog 125 [.func (.func 127) #[] #[ptr bx] ] [pts bx (cl [.map (some bm)] 81), mapR Value.string bm es] (fun r H => ∃ dn : List ByteArray, dn.Perm (es.map (·.1)) ∧ H = [slc 9 1 r dn.length (sS dn), pts bx (cl [.map (some bm)] 81), mapR Value.string bm es]) := by
 refine Ctr.enter Tryz.func125 (by kernel_rfl) rfl Tryz.ntmps125 rfl rfl ?_
 intro G F R hE
 refine go ?_
 ((try refine go ?_); first | refine J_callE rfl rfl rfl rfl (AppendSeq_any bx bm es hnd hes) entA ?_ (fun _ _ _ _ _ => trivial) | refine J_call0E rfl rfl rfl (AppendSeq_any bx bm es hnd hes) entA ?_ (fun _ _ _ _ _ => trivial))
 rintro w _ ⟨dn, hp, rfl⟩
 refine go ?_
 (first | refine K_return hE Tryz.func125 rfl _ rfl ⟨dn, hp, rfl⟩ entA | refine K_fallEnd hE Tryz.func125 rfl _ rfl ⟨dn, hp, rfl⟩ entA)
def nS (l : List (List UInt8)) : List Value := l.map Go.Proofs.encStr
theorem sS_nS (l : List ByteArray) : sS l = nS (l.map fun b => b.data.toList) := by
 unfold sS nS
 rw [List.map_map]
 rfl
theorem SortS_any (v : Value) (l : List ByteArray) (hl : l.length ≤ 1000000000) : Ctr Tryz.prog 126 [v] [slc 9 1 v l.length (sS l)] (fun r H => r = .tuple #[] ∧ H = [slc 9 1 v l.length (nS (sortB l))]) := by
 have h := sortStr_ctr (ρ := sortS_ren) sortS 9 v (l.map fun b => b.data.toList) (by kernel_rfl) (by rw [List.length_map]; omega)
 rw [List.length_map] at h
 rw [sS_nS]
 exact h
theorem Sorted_any (bx bm : Nat) (es : List (ByteArray × Value)) (hnd : (es.map (·.1)).Nodup) (hes : es.length ≤ 1000000) :
  Ctr Tryz.prog 83 [.func (.func 127) #[] #[ptr bx] ] [pts bx (cl [.map (some bm)] 81), mapR Value.string bm es] (fun r H => H = [slc 9 1 r es.length (nS (sortB (es.map (·.1)))), pts bx (cl [.map (some bm)] 81), mapR Value.string bm es]) := by
 refine Ctr.enter Tryz.func83 (by kernel_rfl) rfl Tryz.ntmps83 rfl rfl ?_
 intro G F R hE
 refine go ?_
 ((try refine go ?_); first | refine J_callE rfl rfl rfl rfl (Collect_any bx bm es hnd hes) entA ?_ (fun _ _ _ _ _ => trivial) | refine J_call0E rfl rfl rfl (Collect_any bx bm es hnd hes) entA ?_ (fun _ _ _ _ _ => trivial))
 rintro w _ ⟨dn, hp, rfl⟩
 have hlen : dn.length = es.length := by rw [hp.length_eq, List.length_map]
 (first | refine J_shape 0 rfl ?_ | refine K_shape 0 rfl ?_)
 rintro wa wc rfl
 refine go ?_
 ((try refine go ?_); first | refine J_callE rfl rfl rfl rfl (SortS_any (.slice wa dn.length wc) dn (by omega)) entA ?_ (fun _ _ _ _ _ => trivial) | refine J_call0E rfl rfl rfl (SortS_any (.slice wa dn.length wc) dn (by omega)) entA ?_ (fun _ _ _ _ _ => trivial))
 rintro _ _ ⟨rfl, rfl⟩
 rw [sortB_perm hp, hlen]
 refine go ?_
 (first | refine K_return hE Tryz.func83 rfl _ rfl rfl entA | refine K_fallEnd hE Tryz.func83 rfl _ rfl rfl entA)
theorem Names_any (bd : Nat) (D : Dk) (A : Ab) (hR : Rel D A) : Ctr Tryz.prog 30 [ptr bd] [disk bd D] (fun r H => H = [slc 9 1 r (keysA A).length (nS (sortB (keysA A))), disk bd D]) := by
 have hnd := hR.nodup _ (List.mem_cons_self ..)
 have hsm := hR.smallN _ (List.mem_cons_self ..)
 have hkeys : (ptrs A.names).map (·.1) = keysA A := by simp [ptrs, keysA, Function.comp_def]
 have hkl : (ptrs A.names).length = (keysA A).length := by simp [ptrs, keysA]
 have hsl : (keysA A).length ≤ 200 := by unfold keysA; rw [List.length_map]; exact hsm
 obtain ⟨jm, hjm⟩ := List.getElem?_of_mem hR.names
 obtain ⟨room, bm, sts, wrs, pln, off, maps, arrs, files, stb, wl⟩ := D
 simp only at hjm
 refine Ctr.enter Tryz.func30 (by kernel_rfl) rfl Tryz.ntmps30 rfl rfl ?_
 intro G F R hE
 refine K_ent (disk_o _ _ _ _ _ _ _ _ _ _ _ _ _) ?_
 refine go ?_
 ((try refine go ?_); first | refine J_callE rfl rfl rfl rfl (Keys_any bm) entA ?_ (fun _ _ _ _ _ => trivial) | refine J_call0E rfl rfl rfl (Keys_any bm) entA ?_ (fun _ _ _ _ _ => trivial))
 rintro _ _ ⟨bx, rfl, rfl⟩
 have hso := Sorted_any bx bm (ptrs A.names) (by rw [hkeys]; exact hnd) (by omega)
 rw [hkeys, hkl] at hso
 refine J_ent (Ent.pick [2] rfl) ?_
 refine J_ent (stock_out mapG hjm _) ?_
 refine J_ent (Ent.pick [2, 0] rfl) ?_
 refine go ?_
 refine J_callE rfl rfl rfl rfl hso entA ?_ (fun _ _ _ _ _ => trivial)
 rintro v _ rfl
 refine J_ent (Ent.pick [2, 3] rfl) ?_
 refine J_ent (stock_in mapG hjm _) ?_
 refine go ?_
 refine K_ent ((Ent.pick [3, 0, 4, 5, 6, 7] rfl).trans (disk_c _ _ _ _ _ _ _ _ _ _ _ _ _)) ?_
 (first | refine K_return hE Tryz.func30 rfl _ rfl rfl entA | refine K_fallEnd hE Tryz.func30 rfl _ rfl rfl entA)
end Go.Proofs.YtpecmnaikjbanaaGreatDoor
/- blobs, part b: names, files, images. -/
namespace Go.Proofs.YtpecmnaikjbanaaGreatDoor
open Go Go.SL
attribute [local irreducible] J K Ctr Ends pts slc mapR mapI sbRow stock arrS loopP CtrY Sha.chunks Sha.chunk Sha.rounds Sha.sched sumL taggedL GI leafL
structure DOk (A : Ab) : Prop where
 ids : (A.fs.map (·.1)).Nodup
 known : ∀ st ∈ A.names :: A.states, ∀ x ∈ st, x.2 ∈ A.fs.map (·.1)
 knownW : ∀ x ∈ A.writes, x.1 ∈ A.fs.map (·.1)
 nodup : ∀ st ∈ A.names :: A.states, (st.map (·.1)).Nodup
 smallF : ∀ x ∈ A.fs, x.2.1.length ≤ 1048576 ∧ x.2.2.length ≤ 1048576
 smallW : ∀ x ∈ A.writes, x.2.1 + x.2.2.length ≤ 1048576
 smallN : ∀ st ∈ A.names :: A.states, st.length ≤ 200
 smallR : A.room ≤ 1073741824
 full : A.states ≠ []
theorem DOk.of {D : Dk} {A : Ab} (h : Rel D A) : DOk A := ⟨h.ids, h.known, h.knownW, h.nodup, h.smallF, h.smallW, h.smallN, h.smallR, h.full⟩
theorem DOk.file {A : Ab} (h : DOk A) (f : Nat) : (A.file f).1.length ≤ 1048576 ∧ (A.file f).2.length ≤ 1048576 := by
 unfold Ab.file
 cases hx : A.fs.find? (fun x => decide (x.1 = f)) with
 | none => simp
 | some x => exact h.smallF x (List.mem_of_find?_eq_some hx)
theorem DOk.now {A : Ab} (h : DOk A) (f : Nat) : (A.now f).length ≤ 1048576 := (h.file f).1
theorem getA_ex {G : Glob} {w : World} {H : List HP} (hs : Sat G w H) {i : Nat} {A : HP} (hi : getL H i = some A) : ∃ h, A h := let ⟨h, _, hA⟩ := hs.getA hi; ⟨h, hA⟩
theorem diskA_ok {bd : Nat} {A : Ab} {h : Hp} (hd : diskA bd A h) : DOk A := let ⟨_, hR, _⟩ := hd; DOk.of hR
section
variable {P : Program} {f : FuncId} {n : Nat} {R : Ending → World → Prop} {G : Glob} {k : List Item} {L : Lst} {H : List HP} {S : World → Prop} {all : Array Oper} {rest : Pl}
theorem K_diskA {bd : Nat} {A : Ab} (i : Nat) (hi : getL H i = some (diskA bd A)) (h : DOk A → K P f n R G k L H) : K P f n R G k L H :=
 K_sat fun ⟨w, hw⟩ => by obtain ⟨h1, hA⟩ := getA_ex hw hi; exact h (diskA_ok hA)
theorem J_diskA {bd : Nat} {A : Ab} (i : Nat) (hi : getL H i = some (diskA bd A)) (h : DOk A → J P f n R G S all rest k L H) : J P f n R G S all rest k L H :=
 J_sat fun w hw => by obtain ⟨h1, hA⟩ := getA_ex hw hi; exact h (diskA_ok hA)
end
attribute [local irreducible] diskA
def stC (bd : Nat) (q : Int) (mb : Nat) (brk : Bool) : List Value := [ptr bd, .int .i64 q, .map (some mb), .bool brk]
theorem file_any (kind : List UInt8) (d : Dg) (hk : kind.length ≤ 1000) : Ctr Tryz.prog 53 [.string (strOf kind), dV d] [] (fun r H => r = .string (fileN kind d) ∧ H = []) := by
 have ht := Text_any d
 unfold dV at ht ⊢
 refine Ctr.enter Tryz.func53 (by kernel_rfl) rfl Tryz.ntmps53 rfl rfl ?_
 intro G F R hE
 refine K_regionA rfl ?_
 refine J_box rfl rfl (fun _ _ _ => trivial) ?_
 intro b3
 refine go ?_
 refine J_loadArr (U := tab) (l := dC d) 0 rfl rfl rfl rfl rfl rfl ?_
 ((try refine go ?_); first | refine J_callE rfl rfl rfl rfl (ht) entA ?_ (fun _ _ _ _ _ => trivial) | refine J_call0E rfl rfl rfl (ht) entA ?_ (fun _ _ _ _ _ => trivial))
 rintro _ _ ⟨rfl, rfl⟩
 refine J_strAdd rfl rfl rfl (by show kind.length + (textL d).length ≤ _; rw [textL_len]; omega) ?_
 (first | refine J_slot 8 ((.string (fileN kind d))) rfl ((congrArg Value.string (by unfold fileN strOf; apply ByteArray.ext; simp))) ?_ | refine K_slot 8 ((.string (fileN kind d))) rfl ((congrArg Value.string (by unfold fileN strOf; apply ByteArray.ext; simp))) ?_)
 refine go ?_
 (first | refine K_return hE Tryz.func53 rfl _ rfl ⟨rfl, rfl⟩ entA | refine K_fallEnd hE Tryz.func53 rfl _ rfl ⟨rfl, rfl⟩ entA)
def hashV (o : Option Dg) : Value := match o with
 | none => .tuple #[dV Dg.zero, .bool false]
 | some d => .tuple #[dV d, .bool true]
theorem ext_take (s : ByteArray) (k : Nat) : s.extract (0 : Int).toNat (k : Int).toNat = strOf (s.data.toList.take k) := by
 unfold strOf
 apply ByteArray.ext
 apply Array.ext'
 rw [ByteArray.data_extract]
 simp
theorem ext_drop (s : ByteArray) (k : Nat) : s.extract (k : Int).toNat (s.size : Int).toNat = strOf (s.data.toList.drop k) := by
 unfold strOf
 apply ByteArray.ext
 apply Array.ext'
 have : s.size = s.data.toList.length := rfl
 rw [ByteArray.data_extract, this]
 simp
 rw [List.take_of_length_le (by simp)]
set_option maxRecDepth 20000 in
theorem hash_any (kind : List UInt8) (nm : ByteArray) (hk : kind.length ≤ 1000) : Ctr Tryz.prog 66 [.string (strOf kind), .string nm] [] (fun r H => r = hashV (hashN kind nm) ∧ H = []) := by
 have hks : (strOf kind).size = kind.length := rfl
 have hns : nm.size = nm.data.toList.length := rfl
 refine Ctr.enter Tryz.func66 (by kernel_rfl) rfl Tryz.ntmps66 rfl rfl ?_
 intro G F R hE
 refine K_regionA rfl ?_
 refine J_alloc (U := tab) rfl rfl rfl (fun _ _ _ => trivial) ?_
 intro b4
 have hN : ¬ kind.isPrefixOf nm.data.toList = true → hashN kind nm = none := fun h => by unfold hashN; rw [if_neg h]
 have hP : kind.isPrefixOf nm.data.toList = true → hashN kind nm = parseL (nm.data.toList.drop kind.length) := fun h => by unfold hashN; rw [if_pos h]
 have hiff : kind.isPrefixOf nm.data.toList = true ↔ nm.data.toList.take kind.length = kind := by
  rw [List.isPrefixOf_iff_prefix, List.prefix_iff_eq_take]
  exact eq_comm
 refine go ?_
 refine J_gsP rfl rfl rfl rfl ?_ ?_
 ·intro hlt
  have hnone := hN (fun h => by rw [hiff] at h; have := congrArg List.length h; rw [List.length_take] at this; omega)
  rw [hnone] at hE
  refine go ?_
  refine J_build0 (U := tab) rfl rfl rfl rfl rfl ?_
  refine go ?_
  (refine K_noMarks hE ?_; apply K_returnV (U := tab) hE Tryz.func66 rfl (Ent.refl _); (repeat (first | exact ResOk.nil | apply ResOk.tmp rfl | apply ResOk.agg 0 rfl rfl rfl rfl rfl | apply ResOk.agg 1 rfl rfl rfl rfl rfl | apply ResOk.agg 2 rfl rfl rfl rfl rfl | apply ResOk.agg 3 rfl rfl rfl rfl rfl | apply ResOk.agg 4 rfl rfl rfl rfl rfl | apply ResOk.agg 5 rfl rfl rfl rfl rfl | apply ResOk.agg 6 rfl rfl rfl rfl rfl | apply ResOk.agg 7 rfl rfl rfl rfl rfl | apply ResOk.agg 8 rfl rfl rfl rfl rfl | apply ResOk.one 0 rfl rfl rfl rfl | apply ResOk.one 1 rfl rfl rfl rfl | apply ResOk.one 2 rfl rfl rfl rfl | apply ResOk.one 3 rfl rfl rfl rfl | apply ResOk.one 4 rfl rfl rfl rfl | apply ResOk.one 5 rfl rfl rfl rfl | apply ResOk.one 6 rfl rfl rfl rfl)); exact ⟨rfl, rfl⟩; exact entA)
 ·intro hge
  have hkn : (kind.length : Int) ≤ (nm.size : Int) := by omega
  refine go ?_
  refine J_sliceStr (U := tab) (p := 0) (q := (kind.length : Int)) rfl rfl rfl rfl rfl rfl (Int.le_refl _) (Int.natCast_nonneg _) hkn ?_
  (first | refine J_slot 17 ((.string (strOf (nm.data.toList.take kind.length)))) rfl ((congrArg Value.string (ext_take nm kind.length))) ?_ | refine K_slot 17 ((.string (strOf (nm.data.toList.take kind.length)))) rfl ((congrArg Value.string (ext_take nm kind.length))) ?_)
  refine go ?_
  refine K_slot 20 (.bool (!decide (nm.data.toList.take kind.length = kind))) rfl (by rw [eqS_strOf]) ?_
  by_cases hp : nm.data.toList.take kind.length = kind
  ·rw [decide_eq_true hp]
   have hh := hP (hiff.2 hp)
   rw [hh] at hE
   refine go ?_
   refine J_sliceStr (U := tab) (p := (kind.length : Int)) (q := (nm.size : Int)) rfl rfl rfl rfl rfl rfl (Int.natCast_nonneg _) hkn (Int.le_refl _) ?_
   (first | refine J_slot 26 ((.string (strOf (nm.data.toList.drop kind.length)))) rfl ((congrArg Value.string (ext_drop nm kind.length))) ?_ | refine K_slot 26 ((.string (strOf (nm.data.toList.drop kind.length)))) rfl ((congrArg Value.string (ext_drop nm kind.length))) ?_)
   have hpar := Parse_any (strOf (nm.data.toList.drop kind.length))
   rw [strOf_list] at hpar
   ((try refine go ?_); first | refine J_callE rfl rfl rfl rfl (hpar) entA ?_ (fun _ _ _ _ _ => trivial) | refine J_call0E rfl rfl rfl (hpar) entA ?_ (fun _ _ _ _ _ => trivial))
   rintro _ _ ⟨rfl, rfl⟩
   cases hpl : parseL (nm.data.toList.drop kind.length) with
   | none =>
    rw [hpl] at hE
    simp only
    unfold dV
    refine go ?_
    refine J_alloc (U := tab) rfl rfl rfl (fun _ _ _ => trivial) ?_
    intro b6
    refine go ?_
    refine J_loadArr (U := tab) (l := dC Dg.zero) 0 rfl rfl rfl rfl rfl rfl ?_
    refine go ?_
    (refine K_noMarks hE ?_; apply K_returnV (U := tab) hE Tryz.func66 rfl (Ent.refl _); (repeat (first | exact ResOk.nil | apply ResOk.tmp rfl | apply ResOk.agg 0 rfl rfl rfl rfl rfl | apply ResOk.agg 1 rfl rfl rfl rfl rfl | apply ResOk.agg 2 rfl rfl rfl rfl rfl | apply ResOk.agg 3 rfl rfl rfl rfl rfl | apply ResOk.agg 4 rfl rfl rfl rfl rfl | apply ResOk.agg 5 rfl rfl rfl rfl rfl | apply ResOk.agg 6 rfl rfl rfl rfl rfl | apply ResOk.agg 7 rfl rfl rfl rfl rfl | apply ResOk.agg 8 rfl rfl rfl rfl rfl | apply ResOk.one 0 rfl rfl rfl rfl | apply ResOk.one 1 rfl rfl rfl rfl | apply ResOk.one 2 rfl rfl rfl rfl | apply ResOk.one 3 rfl rfl rfl rfl | apply ResOk.one 4 rfl rfl rfl rfl | apply ResOk.one 5 rfl rfl rfl rfl | apply ResOk.one 6 rfl rfl rfl rfl)); exact ⟨rfl, rfl⟩; exact entA)
   | some d =>
    rw [hpl] at hE
    simp only
    unfold dV
    refine go ?_
    refine J_alloc (U := tab) rfl rfl rfl (fun _ _ _ => trivial) ?_
    intro b6
    refine go ?_
    refine J_loadArr (U := tab) (l := dC d) 0 rfl rfl rfl rfl rfl rfl ?_
    refine go ?_
    (refine K_noMarks hE ?_; apply K_returnV (U := tab) hE Tryz.func66 rfl (Ent.refl _); (repeat (first | exact ResOk.nil | apply ResOk.tmp rfl | apply ResOk.agg 0 rfl rfl rfl rfl rfl | apply ResOk.agg 1 rfl rfl rfl rfl rfl | apply ResOk.agg 2 rfl rfl rfl rfl rfl | apply ResOk.agg 3 rfl rfl rfl rfl rfl | apply ResOk.agg 4 rfl rfl rfl rfl rfl | apply ResOk.agg 5 rfl rfl rfl rfl rfl | apply ResOk.agg 6 rfl rfl rfl rfl rfl | apply ResOk.agg 7 rfl rfl rfl rfl rfl | apply ResOk.agg 8 rfl rfl rfl rfl rfl | apply ResOk.one 0 rfl rfl rfl rfl | apply ResOk.one 1 rfl rfl rfl rfl | apply ResOk.one 2 rfl rfl rfl rfl | apply ResOk.one 3 rfl rfl rfl rfl | apply ResOk.one 4 rfl rfl rfl rfl | apply ResOk.one 5 rfl rfl rfl rfl | apply ResOk.one 6 rfl rfl rfl rfl)); exact ⟨rfl, rfl⟩; exact entA)
  ·rw [decide_eq_false hp]
   have hnone := hN (fun h => hp (hiff.1 h))
   rw [hnone] at hE
   refine go ?_
   refine J_build0 (U := tab) rfl rfl rfl rfl rfl ?_
   refine go ?_
   (refine K_noMarks hE ?_; apply K_returnV (U := tab) hE Tryz.func66 rfl (Ent.refl _); (repeat (first | exact ResOk.nil | apply ResOk.tmp rfl | apply ResOk.agg 0 rfl rfl rfl rfl rfl | apply ResOk.agg 1 rfl rfl rfl rfl rfl | apply ResOk.agg 2 rfl rfl rfl rfl rfl | apply ResOk.agg 3 rfl rfl rfl rfl rfl | apply ResOk.agg 4 rfl rfl rfl rfl rfl | apply ResOk.agg 5 rfl rfl rfl rfl rfl | apply ResOk.agg 6 rfl rfl rfl rfl rfl | apply ResOk.agg 7 rfl rfl rfl rfl rfl | apply ResOk.agg 8 rfl rfl rfl rfl rfl | apply ResOk.one 0 rfl rfl rfl rfl | apply ResOk.one 1 rfl rfl rfl rfl | apply ResOk.one 2 rfl rfl rfl rfl | apply ResOk.one 3 rfl rfl rfl rfl | apply ResOk.one 4 rfl rfl rfl rfl | apply ResOk.one 5 rfl rfl rfl rfl | apply ResOk.one 6 rfl rfl rfl rfl)); exact ⟨rfl, rfl⟩; exact entA)
theorem size_has (A : Ab) (nm : ByteArray) : decide (((A.size nm).2 : Int) = 0) = hasF A nm := by
 unfold Ab.size hasF
 cases A.look nm <;> rfl
theorem is_any (bs bd : Nat) (q : Int) (mb : Nat) (brk : Bool) (A : Ab) (nm : ByteArray) : Ctr Tryz.prog 54 [ptr bs, .string nm] [pts bs (cl (stC bd q mb brk) 92), diskA bd A]
  (fun r H => r = .bool (hasF A nm) ∧ H = [pts bs (cl (stC bd q mb brk) 92), diskA bd A]) := by
 have hs := size_has A nm
 refine Ctr.enter Tryz.func54 (by kernel_rfl) rfl Tryz.ntmps54 rfl rfl ?_
 intro G F R hE
 refine go ?_
 ((try refine go ?_); first | refine J_callE rfl rfl rfl rfl (Size_dA bd A nm) entA ?_ (fun _ _ _ _ _ => trivial) | refine J_call0E rfl rfl rfl (Size_dA bd A nm) entA ?_ (fun _ _ _ _ _ => trivial))
 rintro _ _ ⟨rfl, rfl⟩
 refine go ?_
 rw [← hs] at hE
 (first | refine K_return hE Tryz.func54 rfl _ rfl ⟨rfl, rfl⟩ entA | refine K_fallEnd hE Tryz.func54 rfl _ rfl ⟨rfl, rfl⟩ entA)
theorem bytes_any (bs bd : Nat) (q : Int) (mb : Nat) (brk : Bool) (A : Ab) (nm : ByteArray) : Ctr Tryz.prog 63 [ptr bs, .string nm] [pts bs (cl (stC bd q mb brk) 92), diskA bd A]
  (fun r H => ∃ rv, r = .tuple #[rv, .bool (bytesF A nm).isSome] ∧ H = [slc 5 1 rv ((bytesF A nm).getD []).length (bV ((bytesF A nm).getD [])), pts bs (cl (stC bd q mb brk) 92), diskA bd A]) := by
 refine Ctr.enter Tryz.func63 (by kernel_rfl) rfl Tryz.ntmps63 rfl rfl ?_
 intro G F R hE
 refine go ?_
 ((try refine go ?_); first | refine J_callE rfl rfl rfl rfl (Size_dA bd A nm) entA ?_ (fun _ _ _ _ _ => trivial) | refine J_call0E rfl rfl rfl (Size_dA bd A nm) entA ?_ (fun _ _ _ _ _ => trivial))
 rintro _ _ ⟨rfl, rfl⟩
 have hn : A.look nm = none → bytesF A nm = none ∧ A.size nm = (0, 4) := fun h => by unfold bytesF Ab.size; rw [h]; exact ⟨rfl, rfl⟩
 have hr : ∀ f, A.look nm = some f → A.size nm = ((A.now f).length, 0) ∧ A.read nm 0 ((A.now f).length : Int) = ((bytesF A nm).getD [], if (bytesF A nm).isSome then 0 else 7) := fun f h => by
  unfold bytesF Ab.size Ab.read
  rw [h]
  cases hoff : A.off with
  | true => exact ⟨rfl, rfl⟩
  | false =>
   refine ⟨rfl, ?_⟩
   simp only [Bool.false_eq_true, if_false, Option.getD_some, Option.isSome_some, if_true]
   rw [if_neg (by omega)]
   simp
 cases hl : A.look nm with
 | none =>
  obtain ⟨h1, h2⟩ := hn hl
  rw [h2]
  rw [h1] at hE
  simp only
  refine go ?_
  refine K_ent (slc_lift 5 1 none _) ?_
  (first | refine K_return hE Tryz.func63 rfl _ rfl ⟨_, rfl, rfl⟩ entA | refine K_fallEnd hE Tryz.func63 rfl _ rfl ⟨_, rfl, rfl⟩ entA)
 | some f =>
  obtain ⟨h1, h2⟩ := hr f hl
  rw [h1]
  simp only
  have hrd := Read_dA bd A nm 0 ((A.now f).length : Int)
  rw [h2] at hrd
  refine go ?_
  ((try refine go ?_); first | refine J_callE rfl rfl rfl rfl (hrd) entA ?_ (fun _ _ _ _ _ => trivial) | refine J_call0E rfl rfl rfl (hrd) entA ?_ (fun _ _ _ _ _ => trivial))
  rintro _ _ ⟨r, rfl, rfl⟩
  generalize bytesF A nm = o at hE ⊢
  cases o with
  | none =>
   refine go ?_
   (first | refine K_return hE Tryz.func63 rfl _ rfl ⟨_, rfl, rfl⟩ entA | refine K_fallEnd hE Tryz.func63 rfl _ rfl ⟨_, rfl, rfl⟩ entA)
  | some b =>
   refine go ?_
   (first | refine K_return hE Tryz.func63 rfl _ rfl ⟨_, rfl, rfl⟩ entA | refine K_fallEnd hE Tryz.func63 rfl _ rfl ⟨_, rfl, rfl⟩ entA)
end Go.Proofs.YtpecmnaikjbanaaGreatDoor
/- The reference's digest, part 1: words, a chunk. -/
namespace Go.SL
open Go
namespace Sha
theorem shl_nat (c : UInt8) (k : Nat) (hk : k ≤ 24) : (wB c <<< k).toNat = c.toNat * 2 ^ k := by
 have := c.toNat_lt
 rw [BitVec.toNat_shiftLeft, wB_nat, Nat.shiftLeft_eq]
 have h2 : 2 ^ k ≤ 2 ^ 24 := Nat.pow_le_pow_right (by omega) hk
 rw [Nat.mod_eq_of_lt]
 calc c.toNat * 2 ^ k < 2 ^ 8 * 2 ^ 24 := Nat.mul_lt_mul_of_lt_of_le (by omega) h2 (Nat.pow_pos (by omega))
  _ = 2 ^ 32 := by decide
theorem word_nat (a b c d : Nat) (ha : a < 256) (hb : b < 256) (hc : c < 256) (hd : d < 256) : ((a * 2 ^ 24 ||| b * 2 ^ 16) ||| c * 2 ^ 8) ||| d = ((a * 256 + b) * 256 + c) * 256 + d := by
 have e1 : a * 2 ^ 24 ||| b * 2 ^ 16 = (a * 256 + b) * 2 ^ 16 := by
  rw [Nat.or_comm, or_disj (k := 24) (by omega)]; omega
 have e2 : (a * 256 + b) * 2 ^ 16 ||| c * 2 ^ 8 = ((a * 256 + b) * 256 + c) * 2 ^ 8 := by
  rw [Nat.or_comm, or_disj (k := 16) (by omega)]; omega
 have e3 : ((a * 256 + b) * 256 + c) * 2 ^ 8 ||| d = ((a * 256 + b) * 256 + c) * 256 + d := by
  rw [Nat.or_comm, or_disj (k := 8) (by omega)]; omega
 rw [e1, e2, e3]
theorem word_mul (a b c d : UInt8) : wB a * 16777216#32 + wB b * 65536#32 + wB c * 256#32 + wB d = (wB a <<< 24 ||| wB b <<< 16 ||| wB c <<< 8 ||| wB d : W32) := by
 have ha := a.toNat_lt; have hb := b.toNat_lt; have hc := c.toNat_lt; have hd := d.toNat_lt
 apply BitVec.eq_of_toNat_eq
 rw [BitVec.toNat_or, BitVec.toNat_or, BitVec.toNat_or, shl_nat _ 24 (by omega), shl_nat _ 16 (by omega), shl_nat _ 8 (by omega), wB_nat, word_nat _ _ _ _ ha hb hc hd,
  BitVec.toNat_add, BitVec.toNat_add, BitVec.toNat_add, BitVec.toNat_mul, BitVec.toNat_mul, BitVec.toNat_mul, wB_nat, wB_nat, wB_nat, wB_nat, BitVec.toNat_ofNat, BitVec.toNat_ofNat, BitVec.toNat_ofNat]
 generalize a.toNat = p at *
 generalize b.toNat = q at *
 generalize c.toNat = r at *
 generalize d.toNat = u at *
 omega
end Sha
end Go.SL
namespace Go.Proofs.YtpecmnaikjbanaaGreatDoor
open Go Go.SL
attribute [local irreducible] J K Ctr Ends pts slc mapR mapI sbRow stock arrS loopP CtrY
theorem turned_ref (x : W32) (n : Nat) (h1 : 1 ≤ n) (h2 : n ≤ 31) : Ctr Tryz.prog 134 [u32 x, .int .u64 (n : Int)] [] (fun r H => r = u32 (Sha.rot x n) ∧ H = []) := by
 unfold u32
 rw [← Sha.rot_xor x n h1 h2]
 refine Ctr.enter Tryz.func134 (by kernel_rfl) rfl Tryz.ntmps134 rfl rfl ?_
 intro G F R hE
 refine go ?_
 refine J_shrU n rfl rfl rfl rfl (by omega) ?_
 refine go ?_
 (first | refine J_slot 10 ((.int .u64 ((32 - n : Nat) : Int))) rfl ((congrArg (Value.int .u64) (by omega))) ?_ | refine K_slot 10 ((.int .u64 ((32 - n : Nat) : Int))) rfl ((congrArg (Value.int .u64) (by omega))) ?_)
 refine J_shlU (32 - n) rfl rfl rfl rfl (by omega) ?_
 refine J_xorU rfl rfl rfl ?_
 refine go ?_
 (first | refine K_return hE Tryz.func134 rfl _ rfl ⟨rfl, rfl⟩ entA | refine K_fallEnd hE Tryz.func134 rfl _ rfl ⟨rfl, rfl⟩ entA)
theorem two_ref (a b c : W32) : Ctr Tryz.prog 135 [u32 a, u32 b, u32 c] [] (fun r H => r = u32 (Sha.maj a b c) ∧ H = []) := by
 unfold u32
 rw [← Sha.maj_ref a b c]
 refine Ctr.enter Tryz.func135 (by kernel_rfl) rfl Tryz.ntmps135 rfl rfl ?_
 intro G F R hE
 refine go ?_
 (repeat (first | refine go1 ?_ | refine J_fork ?_ ?_ | refine J_andU rfl rfl rfl ?_ | refine J_orU rfl rfl rfl ?_))
 (first | refine K_return hE Tryz.func135 rfl _ rfl ⟨rfl, rfl⟩ entA | refine K_fallEnd hE Tryz.func135 rfl _ rfl ⟨rfl, rfl⟩ entA)
set_option maxRecDepth 20000 in
theorem constants_ref : Ctr Tryz.prog 133 [] [] (fun r H => r = .agg (wV Sha.ks).toArray ∧ H = []) := by
 refine Ctr.enter Tryz.func133 (by kernel_rfl) rfl Tryz.ntmps133 rfl rfl ?_
 intro G F R hE
 refine K_regionA rfl ?_
 refine J_alloc (U := tab) rfl rfl rfl (fun _ _ _ => trivial) ?_
 intro b0
 (refine goR ?_)
 refine K_regionA rfl ?_
 refine J_buildArr (U := tab) (cs := wV Sha.ks) rfl rfl rfl rfl rfl rfl ?_
 refine J_storeArr (U := tab) (l' := wV Sha.ks) 0 (fun _ _ => trivial) rfl rfl rfl rfl (by decide) (allOne_wV _) rfl rfl rfl ?_
 refine go ?_
 refine K_return1C (U := tab) 0 hE Tryz.func133 rfl rfl rfl rfl rfl rfl rfl ⟨rfl, rfl⟩ entA
theorem schedW_word (b : List UInt8) (t : Nat) (h : t < 16) : (Sha.schedW b t).set t (Sha.word b t) = Sha.schedW b (t + 1) := by
 unfold Sha.schedW
 rw [List.set_append_right _ _ (by rw [Sha.sched_len]; exact Nat.le_refl _), Sha.sched_len, Nat.sub_self, show 64 - t = (64 - (t + 1)) + 1 from by omega, List.replicate_succ, List.set_cons_zero]
 conv => rhs; unfold Sha.sched
 rw [if_pos h]
 simp
attribute [local irreducible] Sha.chunks Sha.chunk Sha.rounds Sha.sched sumL
set_option maxRecDepth 20000 in
theorem words_ref (A : HP) (v : Value) (b : List UInt8) (hv : BAt A v b) (h64 : 64 ≤ b.length) :
  Ctr Tryz.prog 132 [v] [A] (fun r H => r = .agg (wV (Sha.sched b 64)).toArray ∧ H = [A]) := by
 obtain ⟨a, c, rfl, hc⟩ := hv.2
 refine Ctr.enter Tryz.func132 (by kernel_rfl) rfl Tryz.ntmps132 rfl rfl ?_
 intro G F R hE
 refine K_regionA rfl ?_
 refine J_alloc (U := tab) rfl rfl rfl (fun _ _ _ => trivial) ?_
 intro b2
 (refine goR ?_)
 (refine K_regionA rfl ?_; refine goR ?_)
 refine J_alloc (U := tab) rfl rfl rfl (fun _ _ _ => trivial) ?_
 intro b3
 refine go ?_
 have hz : Sha.schedW b 0 = List.replicate 64 0 := by unfold Sha.schedW; unfold Sha.sched; rfl
 refine K_loop (fun t : Nat => t ≤ 16) (fun t => 16 - t)
  (fun t => [(0, .slice a b.length c), (2, ptr b2), (3, ptr b3), (4, .int .i64 (t : Int))])
  (fun t => pts b3 (cl (wV (Sha.schedW b t)) 161) :: pts b2 (cl (wV (List.replicate 64 0)) 161) :: A :: F) 0 (Nat.zero_le _) rfl (by repeat (first | exact keep_nil | refine keep_cons rfl ?_)) (by rw [hz]; exact entA) ?_
 rintro t ht ih
 have hlen := Sha.schedW_len b t (by omega)
 refine go ?_
 refine K_condP rfl rfl ?_ ?_
 ·intro hlt
  have ht1 : t < 16 := by omega
  obtain ⟨bb, oo, cc, hsl⟩ := hv.1.some (by intro e; have := congrArg List.length e; rw [bV_length, List.length_nil] at this; omega)
  simp only [Value.slice.injEq, true_and] at hsl
  obtain ⟨rfl, rfl⟩ := hsl
  have hg : ∀ j, j < 4 → (bV b)[4 * t + j]? = some (u8 (b.getD (4 * t + j) 0)) := fun j hj => bV_get (by rw [List.getD_eq_getElem?_getD, List.getElem?_eq_getElem (by omega)]; rfl)
  have hset := schedW_word b t ht1
  have hw : wB (b.getD (4 * t + 0) 0) * 16777216#32 + wB (b.getD (4 * t + 1) 0) * 65536#32 + wB (b.getD (4 * t + 2) 0) * 256#32 + wB (b.getD (4 * t + 3) 0) = Sha.word b t := Sha.word_mul _ _ _ _
  have g0 := hg 0 (by omega)
  have g1 := hg 1 (by omega)
  have g2 := hg 2 (by omega)
  have g3 := hg 3 (by omega)
  generalize b.getD (4 * t + 0) 0 = x0 at hw g0
  generalize b.getD (4 * t + 1) 0 = x1 at hw g1
  generalize b.getD (4 * t + 2) 0 = x2 at hw g2
  generalize b.getD (4 * t + 3) 0 = x3 at hw g3
  refine go ?_
  refine K_drawA (fun w => Sat G w ([A])) (.st 0 (.st 1 (.st 2 (.st 3 (.st 4 (.st 5 (.st 6 (.st 7 (.st 8 (.st 9 (.st 10 (.st 11 (.st 12 (.st 13 (.st 14 (.st 15 (.st 16 (.st 17 (.st 18 (.st 19 (.st 20 (.st 21 (.st 22 (.st 23 (.st 24 (.st 25 (.st 26 (.st 27 (.st 28 (.st 29 (.st 30 (.st 31 (.st 32 (.st 33 (.st 34 (.act 35 .nil)))))))))))))))))))))))))))))))))))) rfl (by kernel_rfl) (by kernel_rfl) (by kernel_rfl) (fun w hw => hw.ent entA) ?_
  refine go ?_
  (refine go ?_; refine J_mul rfl rfl rfl (by simp only [inK]; omega) ?_; refine go ?_; refine J_at1 (U := tab) (4 * t + 0) rfl rfl rfl rfl rfl rfl rfl (by omega) (by omega) ?_; refine J_isLoad ?_; refine J_loadAtS (U := tab) 0 (4 * t + 0) rfl rfl rfl hv.1 rfl g0 rfl rfl ?_; refine J_isConv ?_; refine J_wordOf (U := tab) rfl rfl rfl rfl rfl rfl ?_)
  refine J_mulU (q := 16777216#32) rfl rfl rfl ?_
  (refine go ?_; refine J_mul rfl rfl rfl (by simp only [inK]; omega) ?_; refine go ?_; refine J_at1 (U := tab) (4 * t + 1) rfl rfl rfl rfl rfl rfl rfl (by omega) (by omega) ?_; refine J_isLoad ?_; refine J_loadAtS (U := tab) 0 (4 * t + 1) rfl rfl rfl hv.1 rfl g1 rfl rfl ?_; refine J_isConv ?_; refine J_wordOf (U := tab) rfl rfl rfl rfl rfl rfl ?_)
  refine J_mulU (q := 65536#32) rfl rfl rfl ?_
  refine J_addU rfl rfl rfl ?_
  (refine go ?_; refine J_mul rfl rfl rfl (by simp only [inK]; omega) ?_; refine go ?_; refine J_at1 (U := tab) (4 * t + 2) rfl rfl rfl rfl rfl rfl rfl (by omega) (by omega) ?_; refine J_isLoad ?_; refine J_loadAtS (U := tab) 0 (4 * t + 2) rfl rfl rfl hv.1 rfl g2 rfl rfl ?_; refine J_isConv ?_; refine J_wordOf (U := tab) rfl rfl rfl rfl rfl rfl ?_)
  refine J_mulU (q := 256#32) rfl rfl rfl ?_
  refine J_addU rfl rfl rfl ?_
  (refine go ?_; refine J_mul rfl rfl rfl (by simp only [inK]; omega) ?_; refine go ?_; refine J_at1 (U := tab) (4 * t + 3) rfl rfl rfl rfl rfl rfl rfl (by omega) (by omega) ?_; refine J_isLoad ?_; refine J_loadAtS (U := tab) 0 (4 * t + 3) rfl rfl rfl hv.1 rfl g3 rfl rfl ?_; refine J_isConv ?_; refine J_wordOf (U := tab) rfl rfl rfl rfl rfl rfl ?_)
  refine J_addU rfl rfl rfl ?_
  rw [hw]
  refine J_arrAt (U := tab) t rfl rfl rfl rfl rfl rfl rfl rfl (by omega) ?_
  refine J_isStore ?_
  refine J_storeCell (U := tab) 0 (fun _ _ => trivial) rfl rfl rfl rfl rfl rfl rfl (by rw [wV_len, hlen]; omega) rfl ?_
  rw [show 0 + t = t from Nat.zero_add _]
  refine go ?_
  have hset2 := (wV_set (Sha.schedW b t) t _).trans (congrArg wV hset)
  refine K_ent (H' := pts b3 (cl (wV (Sha.schedW b (t + 1))) 161) :: pts b2 (cl (wV (List.replicate 64 0)) 161) :: A :: F) (by rw [← hset2]; exact Ent.refl _) ?_
  refine K_again ih (t + 1) rfl (by omega) (by omega) (by repeat (first | exact keep_nil | refine keep_cons rfl ?_)) entA
 intro hge
 have ht16 : t = 16 := by omega
 subst ht16
 clear ih
 refine go ?_
 refine K_loop (fun t : Nat => 16 ≤ t ∧ t ≤ 64) (fun t => 64 - t)
  (fun t => [(2, ptr b2), (3, ptr b3), (5, .int .i64 (t : Int))])
  (fun t => pts b3 (cl (wV (Sha.schedW b t)) 161) :: pts b2 (cl (wV (List.replicate 64 0)) 161) :: A :: F) 16 ⟨by omega, by omega⟩ rfl (by repeat (first | exact keep_nil | refine keep_cons rfl ?_)) entA ?_
 rintro t ⟨ht1, ht2⟩ ih
 have hlen := Sha.schedW_len b t ht2
 refine go ?_
 refine K_condP rfl rfl ?_ ?_
 ·intro hlt
  have ht : t < 64 := by omega
  have g2 := Sha.schedW_get b t (t - 2) (by omega)
  have g7 := Sha.schedW_get b t (t - 7) (by omega)
  have g15 := Sha.schedW_get b t (t - 15) (by omega)
  have g16 := Sha.schedW_get b t (t - 16) (by omega)
  have hstep := Sha.schedW_step b t ht1 ht
  generalize (Sha.sched b t).getD (t - 2) 0 = y2 at g2 hstep
  generalize (Sha.sched b t).getD (t - 7) 0 = y7 at g7 hstep
  generalize (Sha.sched b t).getD (t - 15) 0 = y15 at g15 hstep
  generalize (Sha.sched b t).getD (t - 16) 0 = y16 at g16 hstep
  have hcomm : y16 + y7 + (Sha.rot y15 7 ^^^ Sha.rot y15 18 ^^^ y15 >>> 3) + (Sha.rot y2 17 ^^^ Sha.rot y2 19 ^^^ y2 >>> 10) = y16 + y7 + Sha.s1 y2 + Sha.s0 y15 := by
   show y16 + y7 + Sha.s0 y15 + Sha.s1 y2 = _
   rw [BitVec.add_assoc, BitVec.add_comm (Sha.s0 y15), ← BitVec.add_assoc]
  refine go ?_
  refine J_arrAt (U := tab) (t - 15) rfl rfl rfl rfl rfl rfl rfl (by omega) (by omega) ?_
  refine J_isLoad ?_
  refine J_loadCell (U := tab) 0 (t - 15) rfl rfl rfl (Nat.zero_add _) (wV_get g15) rfl rfl ?_
  refine go ?_
  refine J_arrAt (U := tab) (t - 2) rfl rfl rfl rfl rfl rfl rfl (by omega) (by omega) ?_
  refine J_isLoad ?_
  refine J_loadCell (U := tab) 0 (t - 2) rfl rfl rfl (Nat.zero_add _) (wV_get g2) rfl rfl ?_
  refine go ?_
  refine K_drawA (fun w => Sat G w ([pts b3 (cl (wV (Sha.schedW b t)) 161)])) (.st 0 (.st 1 (.st 2 (.st 3 (.st 4 (.st 5 (.st 6 (.st 7 (.st 8 (.st 9 (.st 10 (.st 12 (.st 15 (.st 16 (.st 19 (.st 21 (.st 24 (.st 25 (.act 11 (.act 13 (.st 14 (.st 17 (.st 18 (.act 20 (.act 22 (.st 23 (.st 26 (.st 27 (.st 28 (.act 29 .nil)))))))))))))))))))))))))))))) rfl (by kernel_rfl) (by kernel_rfl) (by kernel_rfl) (fun w hw => hw.ent entA) ?_
  refine go ?_
  refine J_arrAt (U := tab) (t - 16) rfl rfl rfl rfl rfl rfl rfl (by omega) (by omega) ?_
  refine J_isLoad ?_
  refine J_loadCellS (U := tab) 0 (t - 16) rfl rfl rfl (Nat.zero_add _) (wV_get g16) rfl rfl ?_
  refine go ?_
  refine J_arrAt (U := tab) (t - 7) rfl rfl rfl rfl rfl rfl rfl (by omega) (by omega) ?_
  refine J_isLoad ?_
  refine J_loadCellS (U := tab) 0 (t - 7) rfl rfl rfl (Nat.zero_add _) (wV_get g7) rfl rfl ?_
  refine J_addU rfl rfl rfl ?_
  refine go ?_
  refine J_shrU 3 rfl rfl rfl rfl (by omega) ?_
  refine go ?_
  refine J_shrU 10 rfl rfl rfl rfl (by omega) ?_
  (first | refine J_callE rfl rfl rfl rfl ((turned_ref y15 7 (by omega) (by omega))) entA ?_ (fun _ _ w hp hw => by obtain ⟨rfl, rfl⟩ := hp; exact hw.ent entA) | refine J_call0E rfl rfl rfl ((turned_ref y15 7 (by omega) (by omega))) entA ?_ (fun _ _ w hp hw => by obtain ⟨rfl, rfl⟩ := hp; exact hw.ent entA))
  rintro _ _ ⟨rfl, rfl⟩
  (first | refine J_callE rfl rfl rfl rfl ((turned_ref y15 18 (by omega) (by omega))) entA ?_ (fun _ _ w hp hw => by obtain ⟨rfl, rfl⟩ := hp; exact hw.ent entA) | refine J_call0E rfl rfl rfl ((turned_ref y15 18 (by omega) (by omega))) entA ?_ (fun _ _ w hp hw => by obtain ⟨rfl, rfl⟩ := hp; exact hw.ent entA))
  rintro _ _ ⟨rfl, rfl⟩
  refine J_xorU rfl rfl rfl ?_
  refine J_xorU rfl rfl rfl ?_
  refine J_addU rfl rfl rfl ?_
  (first | refine J_callE rfl rfl rfl rfl ((turned_ref y2 17 (by omega) (by omega))) entA ?_ (fun _ _ w hp hw => by obtain ⟨rfl, rfl⟩ := hp; exact hw.ent entA) | refine J_call0E rfl rfl rfl ((turned_ref y2 17 (by omega) (by omega))) entA ?_ (fun _ _ w hp hw => by obtain ⟨rfl, rfl⟩ := hp; exact hw.ent entA))
  rintro _ _ ⟨rfl, rfl⟩
  (first | refine J_callE rfl rfl rfl rfl ((turned_ref y2 19 (by omega) (by omega))) entA ?_ (fun _ _ w hp hw => by obtain ⟨rfl, rfl⟩ := hp; exact hw.ent entA) | refine J_call0E rfl rfl rfl ((turned_ref y2 19 (by omega) (by omega))) entA ?_ (fun _ _ w hp hw => by obtain ⟨rfl, rfl⟩ := hp; exact hw.ent entA))
  rintro _ _ ⟨rfl, rfl⟩
  refine J_xorU rfl rfl rfl ?_
  refine J_xorU rfl rfl rfl ?_
  refine J_addU rfl rfl rfl ?_
  rw [hcomm]
  refine J_arrAt (U := tab) t rfl rfl rfl rfl rfl rfl rfl rfl (by omega) ?_
  refine J_isStore ?_
  refine J_storeCell (U := tab) 0 (fun _ _ => trivial) rfl rfl rfl rfl rfl rfl rfl (by rw [wV_len, hlen]; omega) rfl ?_
  rw [show 0 + t = t from Nat.zero_add _]
  refine go ?_
  have hset2 := (wV_set (Sha.schedW b t) t _).trans (congrArg wV hstep)
  refine K_ent (H' := pts b3 (cl (wV (Sha.schedW b (t + 1))) 161) :: pts b2 (cl (wV (List.replicate 64 0)) 161) :: A :: F) (by rw [← hset2]; exact Ent.refl _) ?_
  refine K_again ih (t + 1) rfl ⟨by omega, by omega⟩ (by omega) (by repeat (first | exact keep_nil | refine keep_cons rfl ?_)) entA
 intro hge
 have ht64 : t = 64 := by omega
 subst ht64
 rw [Sha.schedW_end]
 have hWl : (wV (Sha.sched b 64)).length = 64 := by rw [wV_len, Sha.sched_len]
 have hone : allOne (wV (Sha.sched b 64)) = true := allOne_wV _
 generalize wV (Sha.sched b 64) = W at hWl hone hE ⊢
 refine go ?_
 refine J_loadArr (U := tab) 0 rfl rfl rfl rfl rfl hWl ?_
 refine J_storeArr (U := tab) 1 (fun _ _ => trivial) rfl rfl rfl hWl (by intro e; rw [e] at hWl; cases hWl) hone rfl (by rw [hWl]; simp [wV_len]) rfl ?_
 refine go ?_
 refine K_return1C (U := tab) 1 hE Tryz.func132 rfl rfl rfl rfl rfl hWl rfl ⟨rfl, rfl⟩ entA
end Go.Proofs.YtpecmnaikjbanaaGreatDoor
