/- net, part g: fresh. -/
import Derived.Test.YtngmcoopgbflaaaNf
set_option linter.unusedVariables false
set_option linter.unusedSimpArgs false
namespace Go.Proofs.Ytngmcoopgbflaaa
open Go Go.SL
attribute [local irreducible] J K Ctr Ends pts slc mapR mapI sbRow stock arrS

theorem NOk.put {D : NetD} {k : Nat} (h : NOk D k) (hk : k + 1 ≤ 1000000) {f : Fl} (hnum : f.num = (D.sent : Int) + 1) (hb : f.bs.length ≤ 20000) (hv : ∃ a c, f.v = .slice a f.bs.length c) {W' : List Fl} (hp : W'.Perm (f :: D.wl)) (ha : W'.map Fl.a = insA f.a (D.wl.map Fl.a))
    {m lost' : Nat} {way' : Value} (hm : (W'.take m).length ≤ D.most) (hlost : lost' ≤ k + 1) : NOk ⟨D.nodes, D.most, D.sent + 1, lost', way', W'.take m⟩ (k + 1) := by
  have hmem : ∀ x ∈ W'.take m, x = f ∨ x ∈ D.wl := fun x hx => by simpa using hp.mem_iff.1 (List.mem_of_mem_take hx)
  have hsub : (W'.take m).Sublist W' := List.take_sublist _ _
  have hs : Sorted (W'.map Fl.a) := by
    rw [ha]
    refine insA_sorted h.srt fun x hx => ?_
    obtain ⟨y, hy, rfl⟩ := List.mem_map.1 hx
    have := h.nums y hy
    unfold ltA Fl.a
    simp only
    omega
  have hnd : (W'.map Fl.num).Nodup := by
    have : (W'.map Fl.num).Perm (f.num :: D.wl.map Fl.num) := by simpa using hp.map Fl.num
    refine this.nodup_iff.2 (List.nodup_cons.2 ⟨fun hc => ?_, h.nodup⟩)
    obtain ⟨y, hy, he⟩ := List.mem_map.1 hc
    have := h.nums y hy
    omega
  exact
  { nodes := h.nodes, most := h.most, len := hm, srt := hs.sublist (hsub.map _), sent := Nat.succ_le_succ h.sent, lost := hlost
    nums := fun x hx => by
      show x.num ≤ ((D.sent + 1 : Nat) : Int)
      rcases hmem x hx with rfl | hx
      · omega
      · have := h.nums x hx; omega
    nodup := hnd.sublist (hsub.map _)
    bytes := fun x hx => by
      rcases hmem x hx with rfl | hx
      · exact hb
      · exact h.bytes x hx
    vs := fun x hx => by
      rcases hmem x hx with rfl | hx
      · exact hv
      · exact h.vs x hx
    kk := hk }
set_option maxRecDepth 20000 in
theorem fresh_any (bn k : Nat) (D : NetD) (hD : NOk D k) (hk : k + 1 ≤ 1000000) (A : HP) (f : Fl) (hv : Vw (star (stock flB D.wl) A) f.v f.bs.length (bV f.bs)) (hb : f.bs.length ≤ 20000) :
    Ctr Try.prog 23 [ptr bn, .agg (fcell f).toArray] [nt bn D, A] (fun _ H => ∃ D', NOk D' (k + 1) ∧ D'.a = D.a.fresh f.a ∧ H = [nt bn D', A]) := by
  obtain ⟨nodes, most, sent, lost, way, wl⟩ := D
  have hsk := hD.sent
  have hlk := hD.lost
  have hlen := hD.len
  have hmo := hD.most
  simp only at hsk hlk hlen hmo
  refine Ctr.enter Try.func23 (by kernel_rfl) rfl Try.ntmps23 rfl rfl ?_
  intro G F R hE
  refine K_ent (nt_o _ _ _ _ _ _ _ _) ?_
  (refine go ?_)
  refine J_box rfl rfl (fun _ _ _ => trivial) ?_
  intro bf
  rw [cellsF]
  (refine go ?_)
  refine K_ent (Ent.pick [3, 4] rfl) ?_
  refine K_ent (Ent.join _ _ _) ?_
  refine K_drawA (fun w => Sat G w [cellP bf 4 f.v, pts bn (cl [.int .i64 (nodes : Int), .int .i64 (most : Int), way, .int .i64 ((sent : Int) + 1), .int .i64 (lost : Int)] 57)]) (.st 0 (.st 1 (.st 2 (.st 3 (.st 4 (.st 5 (.st 7 (.act 6 (.act 8 (.st 9 (.act 10 .nil))))))))))) rfl (by kernel_rfl) (by kernel_rfl) (by kernel_rfl) (fun w hw => hw.ent ((Ent.pickOnly [1, 2] rfl).trans (cellP_of rfl _))) ?_
  (refine go ?_)
  refine J_loadAtS (U := tab) 0 0 rfl rfl rfl (cellP_view bf 4 f.v) rfl rfl rfl rfl ?_
  (refine go ?_)
  refine J_call [0] rfl rfl rfl rfl (CloneB_any (star (stock flB wl) A) f.v f.bs hv (by omega)) rfl (fun _ _ w hp hw => by subst hp; exact hw.ent ((Ent.pickOnly [2, 3] rfl).trans (cellP_of rfl _))) ?_
  rintro r _ rfl
  refine J_shape 0 rfl ?_
  rintro ra rc rfl
  (refine go ?_)
  refine J_store (U := tab) 2 (fun w hw => hw.ent ((Ent.pickOnly [2, 3] rfl).trans (cellP_of rfl _))) rfl rfl rfl rfl rfl rfl rfl rfl rfl ?_
  (refine go ?_)
  have hnumr : ((sent : Int) + 1) = ((sent + 1 : Nat) : Int) := by omega
  obtain ⟨f', hf'⟩ : ∃ f' : Fl, f' = ⟨(sent : Int) + 1, f.src, f.dst, f.due, .slice ra f.bs.length rc, f.bs⟩ := ⟨_, rfl⟩
  have hfc : fcell f' = [.int .i64 ((sent : Int) + 1), .int .i64 f.src, .int .i64 f.dst, .int .i64 f.due, .slice ra f.bs.length rc] := by rw [hf']; rfl
  refine J_loadElem (U := tab) (es := fcell f') (o := 0) (nn := 1) (cap := 1) (cs := fcell f') 2 0 rfl rfl rfl (Vw.pts (by rw [hfc]; rfl)) rfl fcell_get0 rfl rfl rfl ?_
  rw [hnumr]
  refine J_call [3, 4] rfl rfl rfl rfl (put_any bn nodes most (sent + 1) lost way wl f' hD.srt hD.one (by rw [hf']; rfl) (by omega)) rfl (fun _ _ _ _ _ => trivial) ?_
  rintro _ _ ⟨way', W', ⟨hperm, hmap⟩, rfl⟩
  have hWl : W'.length = wl.length + 1 := by rw [hperm.length_eq]; simp
  refine J_ent (Ent.pick [3] rfl) ?_
  refine J_ent (Ent.part _ _ _) ?_
  refine J_ent (Ent.pick [2, 3, 4, 1, 5, 0] rfl) ?_
  refine J_shape 1 rfl ?_
  rintro wa wc rfl
  (refine go ?_)
  have hfa : f'.a = { f.a with num := (sent : Int) + 1 } := by rw [hf']; rfl
  have hbn : f'.bs = f.bs := by rw [hf']
  have hfv : f'.v = .slice ra f.bs.length rc := by rw [hf']
  have hwayl : (insA { f.a with num := (sent : Int) + 1 } (wl.map Fl.a)).length = wl.length + 1 := by rw [insA_len, List.length_map]
  refine K_drawA (fun w => Sat G w ([pts bn (cl [.int .i64 (nodes : Int), .int .i64 (most : Int), .slice wa W'.length wc, .int .i64 ((sent + 1 : Nat) : Int), .int .i64 (lost : Int)] 57)])) (.st 0 (.st 1 (.st 2 (.st 3 (.st 4 (.st 5 (.st 6 (.st 7 (.st 8 (.st 9 .nil)))))))))) rfl (by kernel_rfl) (by kernel_rfl) (by kernel_rfl) (fun w hw => hw.ent (Ent.pickOnly ([0]) rfl)) ?_
  (refine go ?_)
  refine K_ent (Ent.pick [2, 5] rfl) ?_
  rw [show slc 5 1 (.slice ra f.bs.length rc) f.bs.length (bV f.bs) = flB f' from by unfold flB; rw [hbn, hfv]]
  refine K_ent (stock_add flB f' wl _) ?_
  refine K_ent (stock_perm flB hperm.symm _) ?_
  refine K_condP rfl rfl ?_ ?_
  · intro hgt
    refine K_slcF 2 rfl (by omega) ?_
    rintro ba oa ca hsl hca _ _
    simp only [Value.slice.injEq, true_and] at hsl
    obtain ⟨rfl, rfl⟩ := hsl
    refine K_drawA (fun w => Sat G w ([pts bn (cl [.int .i64 (nodes : Int), .int .i64 (most : Int), .slice (some ⟨ba, oa, none⟩) W'.length wc, .int .i64 ((sent + 1 : Nat) : Int), .int .i64 (lost : Int)] 57)])) (.st 0 (.st 1 (.st 2 (.st 3 (.st 4 (.st 5 (.st 6 (.st 7 (.st 8 (.st 9 (.st 10 (.st 11 (.act 12 .nil))))))))))))) rfl (by kernel_rfl) (by kernel_rfl) (by kernel_rfl) (fun w hw => hw.ent (Ent.pickOnly ([1]) rfl)) ?_
    (refine go ?_)
    refine J_sliceAny (U := tab) (p := 0) (q := (most : Int)) rfl rfl rfl rfl rfl rfl rfl (by omega) (by omega) (.inr (by omega)) ?_
    refine J_slot 42 (.slice (some ⟨ba, oa, none⟩) most wc) rfl (by rw [show (0 : Int).toNat = 0 from rfl, sliceAt_zero, show (most : Int).toNat = most from by omega]; rfl) ?_
    (refine go ?_)
    have hmW : most ≤ W'.length := by omega
    have htl : (W'.take most).length = most := by rw [List.length_take]; omega
    refine K_ent (Ent.pick [2] rfl) ?_
    refine K_ent (slc_cut (m := most) hmW (by omega) _) ?_
    rw [show slc 34 5 (.slice (some ⟨ba, oa, none⟩) most wc) most ((W'.flatMap fcell).take (most * 5)) = ws (.slice (some ⟨ba, oa, none⟩) (W'.take most).length wc) (W'.take most) from by unfold ws; rw [htl, (flat_split W' most hmW).1]]
    refine K_ent (Ent.pick [1] rfl) ?_
    refine K_ent (stock_take flB W' most _) ?_
    refine K_ent (Ent.pick [2, 1, 0] rfl) ?_
    rw [show ((lost : Int) + 1) = ((lost + 1 : Nat) : Int) from by omega]
    have hcl := nt_c bn nodes most (sent + 1) (lost + 1) (.slice (some ⟨ba, oa, none⟩) (W'.take most).length wc) (W'.take most)
    rw [htl] at hcl
    rw [htl]
    refine K_ent (hcl _) ?_
    have hD2 := hD.put (lost' := lost + 1) (way' := .slice (some ⟨ba, oa, none⟩) most wc) (m := most) hk (by rw [hf']) (by rw [hbn]; exact hb) ⟨ra, rc, by rw [hfv, hbn]⟩ hperm hmap (by rw [htl]; exact Nat.le_refl _) (by omega)
    refine K_fallEnd hE Try.func23 rfl _ rfl ⟨_, hD2, by
      simp only [NetD.a, NA.fresh, hwayl]
      rw [if_pos (by omega), List.map_take, hmap, hfa], rfl⟩ (Ent.fin [0, 1] 1 rfl rfl)
  · intro hle
    (refine go ?_)
    refine K_ent (Ent.pick [1, 2, 0] rfl) ?_
    refine K_ent (nt_c bn nodes most (sent + 1) lost (.slice wa W'.length wc) W' _) ?_
    have hD2 := hD.put (lost' := lost) (way' := .slice wa W'.length wc) (m := W'.length) hk (by rw [hf']) (by rw [hbn]; exact hb) ⟨ra, rc, by rw [hfv, hbn]⟩ hperm hmap (by rw [List.take_length]; simp only; omega) (by omega)
    rw [List.take_length] at hD2
    refine K_fallEnd hE Try.func23 rfl _ rfl ⟨_, hD2, by
      simp only [NetD.a, NA.fresh, hwayl]
      rw [if_neg (by omega), hmap, hfa], rfl⟩ (Ent.fin [0, 1] 1 rfl rfl)
end Go.Proofs.Ytngmcoopgbflaaa
