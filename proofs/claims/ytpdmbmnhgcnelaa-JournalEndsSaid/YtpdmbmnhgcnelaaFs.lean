/- files, part s: Crash. -/
import Derived.Test.YtpdmbmnhgcnelaaFs0
set_option linter.unusedVariables false
set_option linter.unusedSimpArgs false
namespace Go.Proofs.Ytpdmbmnhgcnelaa
open Go Go.SL
attribute [local irreducible] J K Ctr Ends pts slc mapR mapI sbRow stock arrS

set_option maxRecDepth 20000 in
theorem Crash_any (bd : Nat) (D : Dk) (A : Ab) (hR : Rel D A) (last torn cut : Int) (X : HP) (bv : Value) (stay : List UInt8) (hv : Vw X bv stay.length (bV stay)) (hsl : stay.length ≤ 9223372036854775807) (hst : A.states.length ≤ 1000000000) (hwl : A.writes.length ≤ 1000000000)
    (h1 : -9223372036854775808 ≤ last ∧ last ≤ 9223372036854775807) (h2 : -9223372036854775808 ≤ torn ∧ torn ≤ 9223372036854775807) (h3 : -9223372036854775808 ≤ cut ∧ cut ≤ 9223372036854775807) :
    Ctr Try.prog 20 [ptr bd, .int .i64 last, bv, .int .i64 torn, .int .i64 cut] [disk bd D, X] (fun v H => ∃ D', Rel D' (A.crash last stay torn cut) ∧ H = [disk bd D', X]) := by
  obtain ⟨a0, c0, rfl⟩ := hv.shape
  obtain ⟨room, bm, sts, wrs, pln, off, maps, arrs, files, stb, wl⟩ := D
  have hlen := hR.states.1
  have hwlen := hR.writes.1
  have hfull := hR.full
  have hpos : 0 < A.states.length := List.length_pos_iff.2 hfull
  simp only at hlen hwlen
  refine Ctr.enter Try.func20 (by kernel_rfl) rfl Try.ntmps20 rfl rfl ?_
  intro G F R hE
  refine K_ent (disk_o _ _ _ _ _ _ _ _ _ _ _ _ _) ?_
  refine K_shape 4 rfl ?_
  rintro sa cs rfl
  refine K_drawA (fun w => Sat G w ([pts bd (cl [.int .i64 room, .map (some bm), .slice sa stb.length cs, wrs, pln, .bool off] 56), slc 52 1 (.slice sa stb.length cs) stb.length (stb.map fun b => .map (some b))])) (.st 0 (.st 1 (.st 2 (.st 3 (.st 4 (.st 5 (.st 6 (.st 7 (.st 8 (.st 9 (.st 10 (.st 11 (.st 12 (.st 13 (.st 14 (.st 15 (.st 16 (.st 17 (.act 18 .nil))))))))))))))))))) rfl (by kernel_rfl) (by kernel_rfl) (by kernel_rfl) (fun w hw => hw.ent (Ent.pickOnly ([0, 4]) rfl)) ?_
  (refine go ?_)
  refine J_slcAt 4 rfl (by omega) ?_
  rintro bs os cs' hs hvs
  simp only [Value.slice.injEq, true_and] at hs
  obtain ⟨rfl, rfl⟩ := hs
  obtain ⟨q, hq⟩ : ∃ q : Nat, max 0 (min last ((stb.length : Int) - 1)) = q := Int.eq_ofNat_of_zero_le (by omega)
  have hqs : q < stb.length := by omega
  refine J_at1 (U := tab) q rfl rfl rfl rfl rfl rfl rfl hq hqs ?_
  obtain ⟨b1, hb1⟩ : ∃ b1, stb[q]? = some b1 := ⟨stb[q], by simp⟩
  refine J_loadAtS (U := tab) 1 q rfl rfl rfl hvs rfl (c := .map (some b1)) (by simp [hb1]) rfl rfl ?_
  (refine go ?_)
  refine J_ent (Ent.pick [5] rfl) ?_
  refine J_shape 0 rfl ?_
  rintro wa wc rfl
  (refine go ?_)
  refine K_loop (fun s : Nat × Arrs × List (Nat × Value × Value) × List (Nat × List UInt8 × List UInt8) => s.1 ≤ wl.length ∧ FilesAre arrs s.2.1 s.2.2.1 s.2.2.2 (A.fs.map (·.1)) ∧ Ab.lasts stay torn cut s.1 (A.writes.drop s.1) s.2.2.2 = Ab.lasts stay torn cut 0 A.writes A.fs) (fun s => wl.length - s.1)
    (fun s => [(0, ptr bd), (2, .slice a0 stay.length c0), (3, .int .i64 torn), (4, .int .i64 cut), (38, .slice wa wl.length wc), (39, .int .i64 wl.length), (40, .int .i64 s.1)])
    (fun s => slc 82 3 (.slice wa wl.length wc) wl.length (wcells wl) :: pts bd (cl [.int .i64 room, .map (some b1), .slice (some ⟨bs, os, none⟩) stb.length cs, .slice wa wl.length wc, pln, .bool off] 56) :: stock mapG maps :: arrS 5 s.2.1 :: stock fileG s.2.2.1 :: slc 52 1 (.slice (some ⟨bs, os, none⟩) stb.length cs) stb.length (stb.map fun b => .map (some b)) :: X :: F)
    (0, arrs, files, A.fs) ⟨by simp, ⟨hR.fs, fun x h => h, rfl, hR.smallF⟩, rfl⟩ rfl (by repeat (first | exact keep_nil | refine keep_cons rfl ?_)) (Ent.refl _) ?_
  rintro ⟨i, arrs1, files1, fs1⟩ ⟨hi, hF, hL⟩ ih
  simp only at hi hF hL
  (refine go ?_)
  refine K_condP rfl rfl ?_ ?_
  · intro hlt
    simp only at hlt
    have hi' : i < wl.length := by omega
    obtain ⟨⟨fx, ax, bx⟩, hx⟩ : ∃ x, wl[i]? = some x := ⟨wl[i], by simp [hi']⟩
    obtain ⟨⟨fy, ay, by_⟩, hy, hxy1, hxy2, hxy3⟩ := hR.writes.left hx
    simp only at hxy1 hxy2 hxy3
    subst hxy1 hxy2
    have hb3 := hxy3.mono hF.sub
    obtain ⟨ba, bc, rfl, hbc⟩ := hxy3.shape
    (refine go ?_)
    refine J_slcVw 0 rfl ?_
    intro hvw
    obtain ⟨bw, ow, cw, hsw⟩ := hvw.some (by rw [← List.length_pos_iff, wcells_eq, chunk_len lateC_len]; omega)
    simp only [Value.slice.injEq, true_and] at hsw
    obtain ⟨rfl, rfl⟩ := hsw
    refine J_at (U := tab) i 3 rfl rfl rfl rfl rfl rfl rfl rfl hi' ?_
    refine J_loadElem (U := tab) (es := lateC (fx, ax, .slice ba by_.length bc)) 0 (i * 3) rfl rfl rfl hvw rfl (fun q v hq => ?_) rfl rfl rfl ?_
    · have hj3 : q < 3 := by
        rcases Nat.lt_or_ge q 3 with h | h
        · exact h
        · rw [List.getElem?_eq_none (by rw [lateC_len]; exact h)] at hq; cases hq
      rw [wcells_eq, chunk_get lateC_len hx q hj3]; exact hq
    refine J_alloc (U := tab) rfl rfl rfl (fun _ _ _ => trivial) ?_
    intro bw1
    (refine go ?_)
    refine J_shr rfl rfl rfl (by omega) ?_
    refine J_slot 46 (.int .i64 ((i / 8 : Nat) : Int)) rfl (congrArg (Value.int .i64) (by show (i : Int) / 8 = ((i / 8 : Nat) : Int); omega)) ?_
    (refine go ?_)
    refine J_gsP rfl rfl rfl rfl ?_ ?_
    case' refine_2 =>
      intro hs1
      (refine go ?_)
      refine K_slot 12 (.bool (toldAt stay i)) rfl (congrArg Value.bool (by
        unfold toldAt
        exact (decide_eq_false (by omega)).symm)) ?_
    case' refine_1 =>
      intro hs1
      obtain ⟨bst, ost, cst, hsst⟩ := hv.some (by rw [← List.length_pos_iff, bV_length]; omega)
      simp only [Value.slice.injEq, true_and] at hsst
      obtain ⟨rfl, rfl⟩ := hsst
      (refine go ?_)
      refine J_shr rfl rfl rfl (by omega) ?_
      refine J_slot 53 (.int .i64 ((i / 8 : Nat) : Int)) rfl (congrArg (Value.int .i64) (by show (i : Int) / 8 = ((i / 8 : Nat) : Int); omega)) ?_
      have hi8 : i / 8 < stay.length := by omega
      (refine go ?_)
      refine J_at1 (U := tab) (i / 8) rfl rfl rfl rfl rfl rfl rfl rfl hi8 ?_
      (refine go ?_)
      obtain ⟨sx, hsx⟩ : ∃ x, stay[i / 8]? = some x := ⟨stay[i / 8]'hi8, by simp⟩
      refine J_loadV (U := tab) 7 rfl rfl rfl (hv.cell (bV_get hsx)) rfl rfl ?_
      (refine go ?_)
      refine J_slot 57 (.int .i64 ((i % 2 ^ 3 : Nat) : Int)) rfl (congrArg (Value.int .i64) (and_mask_i64 i 3 (by omega) (by omega))) ?_
      (refine go ?_)
      refine J_shr rfl rfl rfl (by omega) ?_
      have hsh : (sx.toNat : Int) / 2 ^ (min (((i % 2 ^ 3 : Nat) : Int).toNat) IntKind.u8.bits) = ((sx.toNat / 2 ^ (i % 8) : Nat) : Int) := by
        have e1 : min (((i % 2 ^ 3 : Nat) : Int).toNat) IntKind.u8.bits = i % 8 := by show min (i % 8) 8 = i % 8; omega
        rw [e1]; simp
      refine J_slot 58 (.int .u8 ((sx.toNat / 2 ^ (i % 8) : Nat) : Int)) rfl (congrArg (Value.int .u8) hsh) ?_
      have hsb : sx.toNat / 2 ^ (i % 8) < 256 := Nat.lt_of_le_of_lt (Nat.div_le_self _ _) sx.toNat_lt
      (refine go ?_)
      refine K_slot 12 (.bool (toldAt stay i)) rfl (congrArg Value.bool (by
        have := and_one_u8 _ hsb
        unfold toldAt
        rw [decide_eq_decide, List.getD_eq_getElem?_getD, hsx]
        show IntKind.u8.wrap _ = 1 ↔ _
        rw [this]
        simp only [Option.getD_some]
        omega)) ?_
    all_goals (
      generalize htd : toldAt stay i = told
      clear hs1
      (refine go ?_)
      refine K_condP rfl rfl ?_ ?_
      · intro htorn
        (refine go ?_)
        obtain ⟨c, hc⟩ : ∃ c : Nat, max 0 (min cut (by_.length : Int)) = c := Int.eq_ofNat_of_zero_le (by omega)
        have hcb : c ≤ by_.length := by omega
        refine J_sliceAny (U := tab) (p := 0) (q := max 0 (min cut (by_.length : Int))) rfl rfl rfl rfl rfl rfl rfl (Int.le_refl _) (by omega) (.inr (by omega)) ?_
        refine J_slot 73 (.slice (sliceAt ba bc 0 1) c bc) rfl (by simp only [hc]; rfl) ?_
        (refine go ?_)
        refine K_condP rfl rfl ?_ ?_
        · intro hc0
          have hc0' : c ≠ 0 := by intro e; subst e; simp at hc0
          have hk : Ab.kept stay torn cut i by_ = some (by_.take c) := by rw [kept_torn htorn hc, if_neg hc0']
          have hb' : BIn arrs1 (.slice (sliceAt ba bc 0 1) c bc) (by_.take c) := hb3.cut 0 c (by omega)
          have hbl : (by_.take c).length = c := by rw [List.length_take]; omega
          (obtain ⟨j, v1, v2, n, s, hj, hfj, hb1', hb2', hnl, hsl', hfind⟩ := hF.get hR.ids (hR.knownW _ (List.mem_of_getElem? hy)); have hwb := hR.smallW _ (List.mem_of_getElem? hy); simp only at hwb; have hnd1 : (fs1.map (·.1)).Nodup := (by rw [hF.ids]; exact hR.ids); have hwl2 := wroteL_len s ax (by_.take c); refine K_ent (Ent.pick [5] rfl) ?_; refine K_ent (stock_out fileG hj _) ?_; refine K_drawA (fun w => Sat G w ([pts bw1 (cl [ptr fx, .int .i64 ax, (.slice (sliceAt ba bc 0 1) c bc)] 82), pts fx (cl [v1, v2] 70)])) (.st 0 (.st 1 (.st 2 (.st 3 (.st 4 (.st 5 (.st 6 (.st 7 (.st 8 (.st 9 (.st 10 (.act 11 (.st 12 (.st 13 (.act 14 .nil))))))))))))))) rfl (by kernel_rfl) (by kernel_rfl) (by kernel_rfl) (fun w hw => hw.ent (Ent.pickOnly ([2, 0]) rfl)) ?_; (refine go ?_); refine J_call [6] rfl rfl rfl rfl (wrote_any (arrS 5 arrs1) v2 _ s (by_.take c) ax (hb2'.view _) (hb'.view _) (by omega)) rfl (fun _ _ w hp hw => by obtain ⟨_, _, _, _, rfl⟩ := hp; exact hw.ent (Ent.pickOnly [4, 2] rfl)) ?_; rintro _ _ ⟨bl, cap2, rfl, hcap2, rfl⟩; (refine go ?_); refine K_ent (Ent.pick [2, 3] rfl) ?_; refine K_ent (stock_set fileG (y := (fx, v1, .slice (some ⟨bl, 0, none⟩) (wroteL s ax (by_.take c)).length cap2)) hj _) ?_; refine K_ent (Ent.pick [1, 2] rfl) ?_; refine K_ent (arrS_add 5 bl _ arrs1 _) ?_; have hF2 := hF.put (arrs' := (bl, bV (wroteL s ax (by_.take c))) :: arrs1) (v1 := v1) (v2 := .slice (some ⟨bl, 0, none⟩) (wroteL s ax (by_.take c)).length cap2) (n := n) (s := wroteL s ax (by_.take c)) (fun x h => List.mem_cons_of_mem _ h) hfj (hb1'.mono fun x h => List.mem_cons_of_mem _ h) (BIn.row hcap2) ⟨hnl, by omega⟩; refine K_again ih (i + 1, _, _, _) rfl ⟨hi', hF2, by rw [← hL]; exact (lasts_some hy hnd1 hfj hk).symm⟩ (by show _ - (_ + 1) < _; omega) (by repeat (first | exact keep_nil | refine keep_cons rfl ?_)) (Ent.to [3, 4, 5, 0, 1, 6, 7] 1 rfl rfl rfl))
        · intro hc0
          have hc0' : c = 0 := by rcases Nat.eq_zero_or_pos c with h | h; exact h; exact absurd (by simp; exact h) hc0
          have hk : Ab.kept stay torn cut i by_ = none := by rw [kept_torn htorn hc, if_pos hc0']
          (refine go ?_)
          (refine K_again ih (i + 1, arrs1, files1, fs1) rfl ⟨hi', hF, by rw [← hL]; exact (lasts_none hy hk).symm⟩ (by show _ - (_ + 1) < _; omega) (by repeat (first | exact keep_nil | refine keep_cons rfl ?_)) (Ent.drop _ _))
      · intro htorn
        (refine go ?_)
        have hkk := kept_else (stay := stay) (cut := cut) (b := by_) htorn
        cases told with
        | false => 
          have hk : Ab.kept stay torn cut i by_ = none := by rw [hkk, htd]; rfl
          (refine go ?_)
          (refine K_again ih (i + 1, arrs1, files1, fs1) rfl ⟨hi', hF, by rw [← hL]; exact (lasts_none hy hk).symm⟩ (by show _ - (_ + 1) < _; omega) (by repeat (first | exact keep_nil | refine keep_cons rfl ?_)) (Ent.drop _ _))
        | true =>
          have hk : Ab.kept stay torn cut i by_ = some by_ := by rw [hkk, htd]; rfl
          have hb' : BIn arrs1 (.slice ba by_.length bc) by_ := hb3
          have hbl : by_.length = by_.length := rfl
          have hcb : by_.length ≤ by_.length := Nat.le_refl _
          (refine go ?_)
          (obtain ⟨j, v1, v2, n, s, hj, hfj, hb1', hb2', hnl, hsl', hfind⟩ := hF.get hR.ids (hR.knownW _ (List.mem_of_getElem? hy)); have hwb := hR.smallW _ (List.mem_of_getElem? hy); simp only at hwb; have hnd1 : (fs1.map (·.1)).Nodup := (by rw [hF.ids]; exact hR.ids); have hwl2 := wroteL_len s ax by_; refine K_ent (Ent.pick [5] rfl) ?_; refine K_ent (stock_out fileG hj _) ?_; refine K_drawA (fun w => Sat G w ([pts bw1 (cl [ptr fx, .int .i64 ax, (.slice ba by_.length bc)] 82), pts fx (cl [v1, v2] 70)])) (.st 0 (.st 1 (.st 2 (.st 3 (.st 4 (.st 5 (.st 6 (.st 7 (.st 8 (.st 9 (.st 10 (.act 11 (.st 12 (.st 13 (.act 14 .nil))))))))))))))) rfl (by kernel_rfl) (by kernel_rfl) (by kernel_rfl) (fun w hw => hw.ent (Ent.pickOnly ([2, 0]) rfl)) ?_; (refine go ?_); refine J_call [6] rfl rfl rfl rfl (wrote_any (arrS 5 arrs1) v2 _ s by_ ax (hb2'.view _) (hb'.view _) (by omega)) rfl (fun _ _ w hp hw => by obtain ⟨_, _, _, _, rfl⟩ := hp; exact hw.ent (Ent.pickOnly [4, 2] rfl)) ?_; rintro _ _ ⟨bl, cap2, rfl, hcap2, rfl⟩; (refine go ?_); refine K_ent (Ent.pick [2, 3] rfl) ?_; refine K_ent (stock_set fileG (y := (fx, v1, .slice (some ⟨bl, 0, none⟩) (wroteL s ax by_).length cap2)) hj _) ?_; refine K_ent (Ent.pick [1, 2] rfl) ?_; refine K_ent (arrS_add 5 bl _ arrs1 _) ?_; have hF2 := hF.put (arrs' := (bl, bV (wroteL s ax by_)) :: arrs1) (v1 := v1) (v2 := .slice (some ⟨bl, 0, none⟩) (wroteL s ax by_).length cap2) (n := n) (s := wroteL s ax by_) (fun x h => List.mem_cons_of_mem _ h) hfj (hb1'.mono fun x h => List.mem_cons_of_mem _ h) (BIn.row hcap2) ⟨hnl, by omega⟩; refine K_again ih (i + 1, _, _, _) rfl ⟨hi', hF2, by rw [← hL]; exact (lasts_some hy hnd1 hfj hk).symm⟩ (by show _ - (_ + 1) < _; omega) (by repeat (first | exact keep_nil | refine keep_cons rfl ?_)) (Ent.to [3, 4, 5, 0, 1, 6, 7] 1 rfl rfl rfl)))
  · intro hge
    simp only at hge
    have hiw : i = wl.length := by omega
    subst hiw
    have hfs1 : fs1 = Ab.lasts stay torn cut 0 A.writes A.fs := by rw [← hL, List.drop_of_length_le (by omega)]; rfl
    obtain ⟨nm, hnm, hbm⟩ := hR.states.left hb1
    have hall : All2 (fun b es => (b, ptrs es) ∈ maps) (stb ++ [b1]) (A.states ++ [nm]) := All2.snoc hR.states hbm
    refine K_drawA (fun w => Sat G w ([pts bd (cl [.int .i64 room, .map (some b1), .slice (some ⟨bs, os, none⟩) stb.length cs, .slice wa wl.length wc, pln, .bool off] 56)])) (.st 0 (.st 1 (.st 2 (.st 3 (.st 4 (.st 5 (.st 6 (.st 7 (.st 11 (.act 8 (.act 9 (.st 10 .nil)))))))))))) rfl (by kernel_rfl) (by kernel_rfl) (by kernel_rfl) (fun w hw => hw.ent (Ent.pickOnly ([1]) rfl)) ?_
    (refine go ?_)
    refine J_buildSlice1 (U := tab) rfl rfl rfl rfl rfl rfl rfl rfl rfl (fun _ w hw => hw.ent (Ent.pickOnly ([2]) rfl)) ?_
    intro b0
    refine J_append (U := tab) (mm := 1) (news := [.map (some b1)]) 6 0 rfl rfl rfl rfl rfl rfl rfl rfl rfl rfl rfl rfl (Vw.pts rfl) rfl (by simp [Value.oneCell']) (by omega) (by show _ * 8 ≤ _; omega) (fun _ => rfl) (fun _ w hw => hw.ent (Ent.pickOnly ([2]) rfl)) ?_
    intro v'
    have e1 : (stb.map fun b => Value.map (some b)) ++ [.map (some b1)] = (stb ++ [b1]).map fun b => Value.map (some b) := by simp
    have e2 : stb.length + 1 = (stb ++ [b1]).length := by simp
    have e3 : (stb ++ [b1]).length ≤ 1000000001 := by rw [← e2]; omega
    rw [e1, e2]
    refine J_shape 6 rfl ?_
    rintro av cv rfl
    (refine go ?_)
    refine K_loop (fun s : Nat × List (Nat × Value × Value) × List Nat => s.1 ≤ (stb ++ [b1]).length ∧ FilesAre arrs arrs1 s.2.1 (mark s.2.2 fs1) (A.fs.map (·.1)) ∧ ∀ x, x ∈ s.2.2 ↔ x ∈ Ab.reach ((A.states ++ [nm]).take s.1)) (fun s => (stb ++ [b1]).length - s.1)
      (fun s => [(0, ptr bd), (104, .slice av (stb ++ [b1]).length cv), (105, .int .i64 (stb ++ [b1]).length), (106, .int .i64 s.1)])
      (fun s => slc 52 1 (.slice av (stb ++ [b1]).length cv) (stb ++ [b1]).length ((stb ++ [b1]).map fun b => .map (some b)) :: pts bd (cl [.int .i64 room, .map (some b1), .slice (some ⟨bs, os, none⟩) stb.length cs, .slice wa wl.length wc, pln, .bool off] 56) :: stock mapG maps :: arrS 5 arrs1 :: stock fileG s.2.1 :: X :: F)
      (0, files1, []) ⟨Nat.zero_le _, by rw [mark_nil]; exact hF, by simp [Ab.reach]⟩ rfl (by repeat (first | exact keep_nil | refine keep_cons rfl ?_)) (Ent.to [6, 2, 3, 4, 5, 7] 2 rfl rfl rfl) ?_
    rintro ⟨i, files2, S⟩ ⟨hi2, hF2, hS2⟩ ih2
    simp only at hi2 hF2 hS2
    (refine go ?_)
    refine K_condP rfl rfl ?_ ?_
    · intro hlt
      simp only at hlt
      have hlt' : i < (stb ++ [b1]).length := by omega
      obtain ⟨bi, hbi⟩ : ∃ x, (stb ++ [b1])[i]? = some x := ⟨(stb ++ [b1])[i], by rw [List.getElem?_eq_getElem]⟩
      obtain ⟨es, hes, hm⟩ := hall.left hbi
      have hesm : es ∈ A.names :: A.states := by
        rcases List.mem_append.1 (List.mem_of_getElem? hes) with h | h
        · exact List.mem_cons_of_mem _ h
        · simp only [List.mem_singleton] at h; subst h; exact List.mem_cons_of_mem _ (List.mem_of_getElem? hnm)
      (refine go ?_)
      refine J_slcAt 0 rfl (by omega) ?_
      rintro bn on cn hs3 hvn
      simp only [Value.slice.injEq, true_and] at hs3
      obtain ⟨rfl, rfl⟩ := hs3
      refine J_at1 (U := tab) i rfl rfl rfl rfl rfl rfl rfl rfl hlt' ?_
      refine J_loadAt (U := tab) 0 i rfl rfl rfl hvn rfl (c := .map (some bi)) (by simp only [List.getElem?_map, hbi, Option.map_some]) rfl rfl ?_
      (refine go ?_)
      obtain ⟨jm, hjm⟩ := List.getElem?_of_mem hm
      refine J_ent (Ent.pick [2] rfl) ?_
      refine J_ent (stock_out mapG hjm _) ?_
      refine J_range (kv := Value.string) (es := ptrs es) (U := tab) 0 rfl rfl rfl rfl rfl (fun _ => rfl) (fun _ _ _ => trivial) ?_
      intro it
      (refine go ?_)
      have hndk := hR.nodup _ hesm
      have hkeys : (ptrs es).map (·.1) = es.map (·.1) := by simp [ptrs, Function.comp_def]
      refine K_loop (fun s : List ByteArray × List (Nat × Value × Value) × List Nat => (s.1.Nodup ∧ ∀ x ∈ s.1, x ∈ es.map (·.1)) ∧ FilesAre arrs arrs1 s.2.1 (mark s.2.2 fs1) (A.fs.map (·.1)) ∧ ∀ x, x ∈ s.2.2 ↔ x ∈ S ∨ ∃ k ∈ s.1, (k, x) ∈ es) (fun s => es.length - s.1.length)
        (fun s => [(111, .pointer (some ⟨it, 0, none⟩)), (0, ptr bd), (104, .slice (some ⟨bn, on, none⟩) (stb ++ [b1]).length cv), (105, .int .i64 (stb ++ [b1]).length), (106, .int .i64 i)])
        (fun s => mapI Value.string bi it (ptrs es) s.1 :: stock mapG (maps.eraseIdx jm) :: slc 52 1 (.slice (some ⟨bn, on, none⟩) (stb ++ [b1]).length cv) (stb ++ [b1]).length ((stb ++ [b1]).map fun b => .map (some b)) :: pts bd (cl [.int .i64 room, .map (some b1), .slice (some ⟨bs, os, none⟩) stb.length cs, .slice wa wl.length wc, pln, .bool off] 56) :: arrS 5 arrs1 :: stock fileG s.2.1 :: X :: F)
        ([], files2, S) ⟨⟨List.nodup_nil, by simp⟩, hF2, by simp⟩ rfl (by repeat (first | exact keep_nil | refine keep_cons rfl ?_)) (Ent.refl _) ?_
      rintro ⟨dn, files3, S3⟩ ⟨⟨hdn, hsubk⟩, hF3, hS3⟩ ih3
      simp only at hdn hsubk hF3 hS3
      (refine go ?_)
      refine J_next (kv := Value.string) (es := ptrs es) 0 rfl kStr.inj rfl rfl (fun _ => rfl) (fun _ _ => trivial) (fun _ _ _ => trivial) ?_ ?_
      · intro hallk
        (refine go ?_)
        refine K_ent ((Ent.head (B := [mapG (bi, ptrs es)]) (fun h hs => by obtain ⟨h', s, hm⟩ := mapI_mapR h hs; exact ⟨h', s, Sep_one' hm⟩)).trans (stock_in mapG hjm _)) ?_
        have hS4 : ∀ x, x ∈ S3 ↔ x ∈ Ab.reach ((A.states ++ [nm]).take (i + 1)) := by
          intro x
          rw [hS3 x, hS2 x, List.take_add_one, hes]
          simp only [Ab.reach, Option.toList_some, List.flatMap_append, List.flatMap_cons, List.flatMap_nil, List.append_nil, List.mem_append]
          apply or_congr Iff.rfl
          constructor
          · rintro ⟨k, _, hk⟩; exact List.mem_map.2 ⟨_, hk, rfl⟩
          · intro hx
            obtain ⟨⟨k, x'⟩, hk, rfl⟩ := List.mem_map.1 hx
            exact ⟨k, hallk (k, ptr x') (List.mem_map.2 ⟨_, hk, rfl⟩), hk⟩
        (refine go ?_)
        have ih := ih2
        refine K_again ih (i + 1, files3, S3) rfl ⟨hlt', hF3, hS4⟩ (by show _ - (_ + 1) < _; omega) (by repeat (first | exact keep_nil | refine keep_cons rfl ?_)) (Ent.to [1, 2, 0, 3, 4, 5] 0 rfl rfl rfl)
      · intro key v hmem hnot
        obtain ⟨⟨k', f⟩, hx, hxe⟩ := List.mem_map.1 hmem
        simp only [Prod.mk.injEq] at hxe
        obtain ⟨rfl, rfl⟩ := hxe
        (refine go ?_)
        refine J_entry (kv := Value.string) (es := ptrs es) 0 rfl kStr.inj rfl rfl hmem ?_
        (refine go ?_)
        obtain ⟨j, v1, v2, n, s, hj, hfj, hb1', hb2', hnl, hsl', hfind⟩ := hF3.get hR.ids (hR.known _ hesm _ hx)
        obtain ⟨a2, c2, rfl, _⟩ := hb2'.shape
        refine J_ent (Ent.pick [5] rfl) ?_
        refine J_ent (stock_out fileG hj _) ?_
        (refine go ?_)
        refine K_ent (stock_set fileG (y := (f, .slice a2 s.length c2, .slice a2 s.length c2)) hj _) ?_
        have hF4 := hF3.put (v1 := .slice a2 s.length c2) (v2 := .slice a2 s.length c2) (n := s) (s := s) (fun _ h => h) hfj hb2' hb2' ⟨hsl', hsl'⟩
        rw [mark_set (by rw [hF.ids]; exact hR.ids) hfj] at hF4
        have hmk : k' ∈ es.map (·.1) := List.mem_map.2 ⟨_, hx, rfl⟩
        have hd2 : (k' :: dn).Nodup := List.nodup_cons.2 ⟨hnot, hdn⟩
        have hs2 : ∀ x ∈ k' :: dn, x ∈ es.map (·.1) := fun x hx => by
          rcases List.mem_cons.1 hx with rfl | h
          · exact hmk
          · exact hsubk x h
        have hlen2 := nodup_len hd2 hs2
        rw [List.length_map, List.length_cons] at hlen2
        have hS4 : ∀ x, x ∈ f :: S3 ↔ x ∈ S ∨ ∃ k ∈ k' :: dn, (k, x) ∈ es := by
          intro x
          rw [List.mem_cons, hS3 x]
          constructor
          · rintro (rfl | h | ⟨k, hk, hkx⟩)
            · exact .inr ⟨k', List.mem_cons_self .., hx⟩
            · exact .inl h
            · exact .inr ⟨k, List.mem_cons_of_mem _ hk, hkx⟩
          · rintro (h | ⟨k, hk, hkx⟩)
            · exact .inr (.inl h)
            · rcases List.mem_cons.1 hk with rfl | hk
              · left
                have h1 := lookIn_mem hndk hx
                rw [lookIn_mem hndk hkx] at h1
                simpa using h1
              · exact .inr (.inr ⟨k, hk, hkx⟩)
        have ih := ih3
        refine K_again ih (k' :: dn, _, f :: S3) rfl ⟨⟨hd2, hs2⟩, hF4, hS4⟩ (by simp only [List.length_cons]; omega) (by repeat (first | exact keep_nil | refine keep_cons rfl ?_)) (Ent.to [1, 2, 3, 4, 5, 0, 6] 0 rfl rfl rfl)
    · intro hge2
      simp only at hge2
      have hie : i = (stb ++ [b1]).length := by omega
      subst hie
      rw [hall.1, List.take_length] at hS2
      rw [mark_ext fs1 hS2, hfs1] at hF2
      (refine go ?_)
      refine J_buildSlice1 (U := tab) rfl rfl rfl rfl rfl rfl rfl rfl rfl (fun _ _ _ => trivial) ?_
      intro b2
      (refine go ?_)
      refine K_ent (slc_row 52 1 b2 1 1 [.map (some b1)] [] _ rfl (Nat.le_refl _) (by simp)) ?_
      refine K_ent (slc_lift 82 3 none _) ?_
      refine K_ent (Ent.pick [3, 4, 5, 6, 1, 0, 7] rfl) ?_
      refine K_ent (disk_c bd room b1 (.slice (some ⟨b2, 0, none⟩) 1 1) (.slice none 0 0) (.slice none 0 0) false maps arrs1 files2 [b1] [] _) ?_
      have hR2 := hR.crashed (b0 := b2) rfl rfl (by rw [← hlen]; exact hq) hnm hbm hF2
      refine K_fallEnd hE Try.func20 rfl _ rfl ⟨_, hR2, rfl⟩ (Ent.fin [0, 1] 1 rfl rfl)
end Go.Proofs.Ytpdmbmnhgcnelaa
