/- net, part r0: the reference's net: what it is; New, IsMoment, put. -/
import Derived.Test.YtngmcoopgbflaaaNm
import Derived.Test.YtngmcoopgbflaaaEngL
set_option linter.unusedVariables false
set_option linter.unusedSimpArgs false
namespace Go.Proofs.Ytngmcoopgbflaaa
open Go Go.SL
attribute [local irreducible] J K Ctr Ends pts slc mapR mapI sbRow stock arrS

def rp (br nodes most sent lost : Nat) (L : Value) : HP := pts br (cl [.int .i64 (nodes : Int), .int .i64 (most : Int), .int .i64 (sent : Int), .int .i64 (lost : Int), L] 51)
structure RefD where
  nodes : Nat
  most : Nat
  sent : Nat
  lost : Nat
  L : Value
  wl : List Fl
  M : Arrs
def rt (br : Nat) (R : RefD) : HP := Sep [rp br R.nodes R.most R.sent R.lost R.L, ws R.L R.wl, arrS 5 R.M]
theorem rt_o (br nodes most sent lost : Nat) (L : Value) (wl : List Fl) (M : Arrs) (H : List HP) : Ent (rt br ⟨nodes, most, sent, lost, L, wl, M⟩ :: H) (rp br nodes most sent lost L :: ws L wl :: arrS 5 M :: H) := Ent.unsep [_, _, _] H
theorem rt_c (br nodes most sent lost : Nat) (L : Value) (wl : List Fl) (M : Arrs) (H : List HP) : Ent (rp br nodes most sent lost L :: ws L wl :: arrS 5 M :: H) (rt br ⟨nodes, most, sent, lost, L, wl, M⟩ :: H) := Ent.resep [_, _, _] H
def RefD.a (R : RefD) : NA := ⟨R.nodes, R.most, R.sent, R.lost, R.wl.map Fl.a⟩
structure ROk (R : RefD) (k : Nat) : Prop where
  nodes : R.nodes ≤ 65537
  most : R.most ≤ 5000
  len : R.wl.length ≤ R.most
  sent : R.sent ≤ k
  lost : R.lost ≤ k
  bytes : ∀ x ∈ R.wl, x.bs.length ≤ 20000
  vs : ∀ x ∈ R.wl, BIn R.M x.v x.bs
  kk : k ≤ 1000000
theorem bin_one {M : Arrs} {v : Value} {bs : List UInt8} (h : BIn M v bs) : v.oneCell' = true := by obtain ⟨a, c, rfl, _⟩ := h.shape; rfl
theorem ROk.one {R : RefD} {k : Nat} (h : ROk R k) : OneV R.wl := fun x hx => bin_one (h.vs x hx)
theorem RNew_good (nodes most : Int) (h1 : 1 ≤ nodes) (h2 : nodes ≤ 65537) (h3 : 1 ≤ most) (h4 : most ≤ 5000) :
    Ctr Try.prog 16 [.int .i64 nodes, .int .i64 most] [] (fun v H => ∃ bn R, ROk R 0 ∧ R.a = NA.new nodes.toNat most.toNat ∧ v = .tuple #[ptr bn, .int .i64 0] ∧ H = [rt bn R]) := by
  obtain ⟨nodes, rfl⟩ := Int.eq_ofNat_of_zero_le (a := nodes) (by omega)
  obtain ⟨most, rfl⟩ := Int.eq_ofNat_of_zero_le (a := most) (by omega)
  refine Ctr.enter Try.func16 (by kernel_rfl) rfl Try.ntmps16 rfl rfl ?_
  intro G F R hE
  repeat' (first | (with_reducible intro _hh) | refine go1 ?_ | refine J_fork ?_ ?_ | refine J_gsP rfl rfl rfl rfl ?_ ?_ | refine K_condP rfl rfl ?_ ?_)
  any_goals (exfalso; omega)
  refine J_box rfl rfl (fun _ _ _ => trivial) ?_
  intro br
  (refine go ?_)
  refine K_ent (slc_lift 34 5 none _) ?_
  refine K_ent (arrS_nil 5 _) ?_
  refine K_ent (Ent.pick [2, 1, 0] rfl) ?_
  refine K_ent (rt_c br nodes most 0 0 (.slice none 0 0) [] [] _) ?_
  have hD : ROk ⟨nodes, most, 0, 0, .slice none 0 0, [], []⟩ 0 :=
    { nodes := by simp only; omega, most := by simp only; omega, len := by simp, sent := Nat.le_refl _, lost := Nat.le_refl _, bytes := by simp, vs := by simp, kk := by omega }
  refine K_return hE Try.func16 rfl _ rfl ⟨br, _, hD, by simp [RefD.a, NA.new], rfl, rfl⟩ (Ent.fin [0] 0 rfl rfl)
theorem RNew_bad (nodes most : Int) (h : ¬ (1 ≤ nodes ∧ nodes ≤ 65537 ∧ 1 ≤ most ∧ most ≤ 5000)) :
    Ctr Try.prog 16 [.int .i64 nodes, .int .i64 most] [] (fun v H => v = .tuple #[.pointer none, .int .i64 1] ∧ H = []) := by
  refine Ctr.enter Try.func16 (by kernel_rfl) rfl Try.ntmps16 rfl rfl ?_
  intro G F R hE
  repeat' (first | (with_reducible intro _hh) | refine go1 ?_ | refine J_fork ?_ ?_ | refine J_gsP rfl rfl rfl rfl ?_ ?_ | refine K_condP rfl rfl ?_ ?_)
  any_goals refine K_return hE Try.func16 rfl _ rfl ⟨rfl, rfl⟩ (Ent.fin [] 0 rfl rfl)
  all_goals (exfalso; omega)
theorem IsMoment_any (x : Int) : Ctr Try.prog 43 [.int .i64 x] [] (fun v H => v = .bool (decide (okMoment x)) ∧ H = []) := by
  refine Ctr.enter Try.func43 (by kernel_rfl) rfl Try.ntmps43 rfl rfl ?_
  intro G F R hE
  repeat' (first | (with_reducible intro _hh) | refine go1 ?_ | refine J_fork ?_ ?_ | refine J_gsP rfl rfl rfl rfl ?_ ?_ | refine K_condP rfl rfl ?_ ?_)
  all_goals refine K_return hE Try.func43 rfl _ rfl ⟨congrArg Value.bool (by first | exact (decide_eq_false (fun h => absurd h.1 (by omega))).symm | exact decide_eq_decide.2 ⟨fun h => ⟨by omega, h⟩, fun h => h.2⟩), rfl⟩ (Ent.fin [] 0 rfl rfl)
/-- One more at its place. -/
def insF (f : Fl) (W : List Fl) : List Fl := W.takeWhile (fun x => decide (ltA x.a f.a)) ++ f :: W.dropWhile (fun x => decide (ltA x.a f.a))
theorem insF_map (f : Fl) (W : List Fl) : (insF f W).map Fl.a = insA f.a (W.map Fl.a) := by
  unfold insF insA
  rw [List.map_append, List.map_cons, List.takeWhile_map, List.dropWhile_map]
  rfl
theorem insF_perm (f : Fl) (W : List Fl) : (insF f W).Perm (f :: W) := by
  unfold insF
  refine List.perm_middle.trans ?_
  rw [List.takeWhile_append_dropWhile]
theorem insF_len (f : Fl) (W : List Fl) : (insF f W).length = W.length + 1 := (insF_perm f W).length_eq
set_option maxHeartbeats 1000000 in
set_option maxRecDepth 20000 in
theorem rput_any (br nodes most sent lost : Nat) (L : Value) (W : List Fl) (f : Fl) (hW : OneV W) (hf : f.v.oneCell' = true) (hlen : W.length ≤ 1000000) :
    Ctr Try.prog 46 [ptr br, .agg (fcell f).toArray] [rp br nodes most sent lost L, ws L W] (fun _ H => ∃ L', H = [rp br nodes most sent lost L', ws L' (insF f W)]) := by
  refine Ctr.enter Try.func46 (by kernel_rfl) rfl Try.ntmps46 rfl rfl ?_
  intro G F R hE
  refine K_shape 1 rfl ?_
  rintro la lc rfl
  refine K_slcLe 1 rfl ?_
  intro hwc hcl hvw
  (refine go ?_)
  refine J_box rfl rfl (fun _ _ _ => trivial) ?_
  intro bf
  rw [cellsF]
  (refine go ?_)
  refine K_loop (fun i : Nat => i ≤ W.length ∧ ∀ y ∈ W.take i, ltA y.a f.a) (fun i => W.length - i)
    (fun i => [(0, ptr br), (3, ptr bf), (4, .int .i64 i)])
    (fun _ => pts bf (cl (fcell f) 34) :: rp br nodes most sent lost (.slice la W.length lc) :: ws (.slice la W.length lc) W :: F) 0 ⟨Nat.zero_le _, by simp⟩ rfl (by repeat (first | exact keep_nil | refine keep_cons rfl ?_)) (Ent.refl _) ?_
  intro i hi ih
  obtain ⟨hi, hal⟩ := hi
  rcases Nat.lt_or_ge i W.length with hlt | hge
  case' inr =>
    have hfin : (W.take i = W.takeWhile (fun x => decide (ltA x.a f.a)) ∧ W.drop i = W.dropWhile (fun x => decide (ltA x.a f.a))) := take_first W i (fun y hy => decide_eq_true (hal y hy)) (.inl hge)
    refine K_drawA (fun w => Sat G w ([pts bf (cl (fcell f) 34), rp br nodes most sent lost (.slice la W.length lc), ws (.slice la W.length lc) W])) (.st 0 (.st 1 (.st 2 (.st 3 (.st 4 (.st 5 (.st 6 (.st 7 (.st 8 (.st 9 (.st 10 (.st 11 (.st 12 (.st 13 (.st 14 (.st 15 (.st 16 (.st 17 (.st 18 (.st 19 (.st 20 (.st 21 (.st 22 (.st 23 (.st 24 (.st 25 (.st 26 (.st 27 (.st 28 (.st 29 (.st 30 (.st 31 (.st 32 (.st 33 (.st 34 (.st 35 (.st 36 (.st 37 (.st 38 (.st 39 (.st 40 (.st 41 (.st 42 (.st 43 (.st 44 (.st 45 .nil)))))))))))))))))))))))))))))))))))))))))))))) rfl (by kernel_rfl) (by kernel_rfl) (by kernel_rfl) (fun w hw => hw.ent (Ent.pickOnly ([0, 1, 2]) rfl)) ?_
    (refine go ?_)
    refine J_slot 13 (.bool false) rfl (congrArg Value.bool (decide_eq_false (by omega))) ?_
    (refine go ?_)
  case' inl =>
    obtain ⟨x, hx⟩ : ∃ x, W[i]? = some x := ⟨W[i], by simp⟩
    refine K_slcF 2 rfl (by omega) ?_
    rintro ba oa ca hsl _ _ hvw
    simp only [Value.slice.injEq, true_and] at hsl
    obtain ⟨rfl, rfl⟩ := hsl
    refine K_drawA (fun w => Sat G w ([pts bf (cl (fcell f) 34), rp br nodes most sent lost (.slice (some ⟨ba, oa, none⟩) W.length lc), ws (.slice (some ⟨ba, oa, none⟩) W.length lc) W])) (.st 0 (.st 1 (.st 2 (.st 3 (.st 4 (.st 5 (.st 6 (.st 7 (.st 8 (.st 9 (.st 10 (.st 11 (.st 12 (.st 13 (.st 14 (.st 15 (.st 16 (.st 17 (.st 18 (.st 19 (.st 20 (.st 21 (.st 22 (.st 23 (.st 24 (.st 25 (.st 26 (.st 27 (.st 28 (.st 29 (.st 30 (.st 31 (.st 32 (.st 33 (.st 34 (.st 35 (.st 36 (.st 37 (.st 38 (.st 39 (.st 40 (.st 41 (.st 42 (.st 43 (.st 44 (.st 45 .nil)))))))))))))))))))))))))))))))))))))))))))))) rfl (by kernel_rfl) (by kernel_rfl) (by kernel_rfl) (fun w hw => hw.ent (Ent.pickOnly ([0, 1, 2]) rfl)) ?_
    (refine go ?_)
    refine J_slot 13 (.bool true) rfl (congrArg Value.bool (decide_eq_true (by omega))) ?_
    repeat' (first | (with_reducible intro _hh) | refine go1 ?_ | refine J_fork ?_ ?_ | refine J_gsP rfl rfl rfl rfl ?_ ?_ | refine K_condP rfl rfl ?_ ?_ | refine J_at (U := tab) i 5 rfl rfl rfl rfl rfl rfl rfl rfl hlt ?_ | refine J_loadAtS (U := tab) 2 (i * 5 + 3) rfl rfl rfl hvw (Nat.add_assoc _ _ _) (fcell_get hx 3 (.int .i64 x.due) rfl) rfl rfl ?_ | refine J_loadAtS (U := tab) 2 (i * 5 + 0) rfl rfl rfl hvw (Nat.add_assoc _ _ _) (fcell_get hx 0 (.int .i64 x.num) rfl) rfl rfl ?_)
  case' inl.refine_1 =>
    refine K_again ih (i + 1) rfl ⟨hlt, fun y hy => by
      rw [List.take_add_one, hx] at hy
      rcases List.mem_append.1 hy with hy | hy
      · exact hal y hy
      · simp at hy; subst hy; unfold ltA Fl.a; simp only; omega⟩ (by omega) (by repeat (first | exact keep_nil | refine keep_cons rfl ?_)) (Ent.refl _)
  case' inl.refine_2.refine_1.refine_1 =>
    refine K_again ih (i + 1) rfl ⟨hlt, fun y hy => by
      rw [List.take_add_one, hx] at hy
      rcases List.mem_append.1 hy with hy | hy
      · exact hal y hy
      · simp at hy; subst hy; unfold ltA Fl.a; simp only; omega⟩ (by omega) (by repeat (first | exact keep_nil | refine keep_cons rfl ?_)) (Ent.refl _)
  case' inl.refine_2.refine_1.refine_2 =>
    have hfin : (W.take i = W.takeWhile (fun x => decide (ltA x.a f.a)) ∧ W.drop i = W.dropWhile (fun x => decide (ltA x.a f.a))) := take_first W i (fun y hy => decide_eq_true (hal y hy)) (.inr ⟨x, hx, decide_eq_false (by unfold ltA Fl.a; simp only; omega)⟩)
  case' inl.refine_2.refine_2 =>
    have hfin : (W.take i = W.takeWhile (fun x => decide (ltA x.a f.a)) ∧ W.drop i = W.dropWhile (fun x => decide (ltA x.a f.a))) := take_first W i (fun y hy => decide_eq_true (hal y hy)) (.inr ⟨x, hx, decide_eq_false (by unfold ltA Fl.a; simp only; omega)⟩)
  all_goals (
    refine J_buildSlice1 (U := tab) rfl rfl rfl rfl rfl rfl rfl rfl rfl (fun _ _ _ => trivial) ?_
    intro b0
    (refine go ?_)
    refine J_ent (slc_row 34 5 b0 0 0 [] [] _ rfl (Nat.le_refl _) (by simp)) ?_
    refine J_sliceAny (U := tab) (p := 0) (q := (i : Int)) rfl rfl rfl rfl rfl rfl rfl (by omega) (by omega) (.inr (by omega)) ?_
    refine J_slot 60 (.slice (sliceAt _ lc 0 5) i lc) rfl (by rw [show (0 : Int).toNat = 0 from rfl, show (i : Int).toNat = i from by omega]; rfl) ?_
    refine J_append (U := tab) (mm := i) (news := (W.take i).flatMap fcell) 0 3 rfl rfl rfl rfl rfl rfl rfl rfl rfl rfl rfl rfl (by rw [(flat_split W i hi).1]; exact hvw.cut0 (s := 5) i) (by show _ = _ * 5; rw [chunk_len fcell_len, List.length_take, Nat.min_eq_left hi]) (OneV.cells fun x hx => hW x (List.mem_of_mem_take hx)) (by omega) (by show _ * 56 ≤ _; omega) (fun _ => rfl) (fun _ _ _ => trivial) ?_
    intro v1
    rw [show (0 : Nat) + i = i from by omega, List.nil_append]
    refine J_shape 0 rfl ?_
    rintro ma mc rfl
    (refine go ?_)
    refine J_loadElem (U := tab) (es := fcell f) (o := 0) (nn := 1) (cap := 1) (cs := fcell f) 1 0 rfl rfl rfl (Vw.pts rfl) rfl fcell_get0 rfl rfl rfl ?_
    refine J_buildSlice1 (U := tab) (cs := fcell f) rfl rfl rfl rfl rfl rfl rfl rfl rfl (fun _ _ _ => trivial) ?_
    intro b2
    refine J_append (U := tab) (mm := 1) (news := fcell f) 1 0 rfl rfl rfl rfl rfl rfl rfl rfl rfl rfl rfl rfl (Vw.pts rfl) rfl (fcell_one hf) (by omega) (by show _ * 56 ≤ _; omega) (fun _ => rfl) (fun _ _ _ => trivial) ?_
    intro v2
    refine J_shape 1 rfl ?_
    rintro na nc rfl
    (refine go ?_)
    refine J_sliceAny (U := tab) (p := (i : Int)) (q := (W.length : Int)) rfl rfl rfl rfl rfl rfl rfl (by omega) (by omega) (.inl rfl) ?_
    refine J_slot 73 (.slice (sliceAt _ lc i 5) (W.length - i) (lc - i)) rfl (by rw [show (i : Int).toNat = i from by omega, show (W.length : Int).toNat = W.length from by omega]; rfl) ?_
    refine J_append (U := tab) (mm := W.length - i) (news := (W.drop i).flatMap fcell) 1 4 rfl rfl rfl rfl rfl rfl rfl rfl rfl rfl rfl rfl (by rw [(flat_split W i hi).2]; exact hvw.cutk (s := 5) hcl hwc i hi) (by show _ = _ * 5; rw [chunk_len fcell_len, List.length_drop]) (OneV.cells fun x hx => hW x (List.mem_of_mem_drop hx)) (by omega) (by show _ * 56 ≤ _; omega) (fun _ => rfl) (fun _ _ _ => trivial) ?_
    intro v3
    refine J_shape 1 rfl ?_
    rintro ua uc rfl
    (refine go ?_)
    have he : (W.take i).flatMap fcell ++ fcell f ++ (W.drop i).flatMap fcell = (insF f W).flatMap fcell := by unfold insF; rw [hfin.1, hfin.2]; simp
    have hn : i + 1 + (W.length - i) = (insF f W).length := by rw [insF_len]; omega
    rw [he, hn]
    refine K_fallEnd hE Try.func46 rfl _ rfl ⟨_, rfl⟩ (Ent.fin [3, 1] 3 rfl rfl))
end Go.Proofs.Ytngmcoopgbflaaa
