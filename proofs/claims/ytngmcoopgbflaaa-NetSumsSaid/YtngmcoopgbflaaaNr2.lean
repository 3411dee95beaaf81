/- net, part r2: the reference's net: take, Lose, Hold. -/
import Derived.Test.YtngmcoopgbflaaaNr1
import Derived.Test.YtngmcoopgbflaaaEngT
set_option linter.unusedVariables false
set_option linter.unusedSimpArgs false
namespace Go.Proofs.Ytngmcoopgbflaaa
open Go Go.SL
attribute [local irreducible] J K Ctr Ends pts slc mapR mapI sbRow stock arrS

theorem ROk.sub {R : RefD} {k : Nat} (h : ROk R k) {W' : List Fl} (hs : W'.Sublist R.wl) (L' : Value) : ROk ⟨R.nodes, R.most, R.sent, R.lost, L', W', R.M⟩ k :=
  ⟨h.nodes, h.most, Nat.le_trans hs.length_le h.len, h.sent, h.lost, fun x hx => h.bytes x (hs.subset hx), fun x hx => h.vs x (hs.subset hx), h.kk⟩
def F0 : Fl := ⟨0, 0, 0, 0, .slice none 0 0, []⟩
set_option maxRecDepth 20000 in
theorem rtake_any (br k : Nat) (R : RefD) (hR : ROk R k) (i : Int) :
    Ctr Try.prog 45 [ptr br, .int .i64 i] [rt br R]
      (fun v H => ∃ R' x, ROk R' k ∧ R'.a = (R.a.lose i).2 ∧ R'.M = R.M ∧ (0 ≤ i ∧ i < (R.wl.length : Int) → R.wl[i.toNat]? = some x ∧ R'.wl = R.wl.eraseIdx i.toNat) ∧ (∃ a c, x.v = .slice a x.bs.length c) ∧ v = .tuple #[.agg (fcell x).toArray, .int .i64 (R.a.lose i).1] ∧ H = [rt br R']) := by
  obtain ⟨nodes, most, sent, lost, L, wl, M⟩ := R
  have hlen := hR.len
  have hmo := hR.most
  simp only at hlen hmo
  refine Ctr.enter Try.func45 (by kernel_rfl) rfl Try.ntmps45 rfl rfl ?_
  intro G F R hE
  refine K_ent (rt_o _ _ _ _ _ _ _ _ _) ?_
  refine K_shape 1 rfl ?_
  rintro wa wc rfl
  refine K_slcLe 1 rfl ?_
  intro hwc hcl hvw
  have hal : (RefD.a ⟨nodes, most, sent, lost, .slice wa wl.length wc, wl, M⟩).way.length = wl.length := by simp [RefD.a]
  (refine go ?_)
  refine J_alloc (U := tab) rfl rfl rfl (fun _ _ _ => trivial) ?_
  intro bo
  repeat' (first | (with_reducible intro _hh) | refine go1 ?_ | refine J_fork ?_ ?_ | refine J_gsP rfl rfl rfl rfl ?_ ?_ | refine K_condP rfl rfl ?_ ?_)
  case' refine_1 =>
    have hbad : (RefD.a ⟨nodes, most, sent, lost, .slice wa wl.length wc, wl, M⟩).lose i = (4, RefD.a ⟨nodes, most, sent, lost, .slice wa wl.length wc, wl, M⟩) := by unfold NA.lose; rw [hal, if_neg (by omega)]
  case' refine_2.refine_1 =>
    have hbad : (RefD.a ⟨nodes, most, sent, lost, .slice wa wl.length wc, wl, M⟩).lose i = (4, RefD.a ⟨nodes, most, sent, lost, .slice wa wl.length wc, wl, M⟩) := by unfold NA.lose; rw [hal, if_neg (by omega)]
  case' refine_2.refine_2 =>
    obtain ⟨q, rfl⟩ := Int.eq_ofNat_of_zero_le (a := i) (by omega)
    have hq : q < wl.length := by omega
    obtain ⟨x, hx⟩ : ∃ x, wl[q]? = some x := ⟨wl[q], by simp⟩
    have hxm := List.mem_of_getElem? hx
    obtain ⟨va, vc, hxv, _⟩ := (hR.vs x hxm).shape
    have hfx : fcell x = [.int .i64 x.num, .int .i64 x.src, .int .i64 x.dst, .int .i64 x.due, .slice va x.bs.length vc] := by unfold fcell; rw [hxv]
    have hgood : (RefD.a ⟨nodes, most, sent, lost, .slice wa wl.length wc, wl, M⟩).lose q = (0, ⟨nodes, most, sent, lost, (wl.map Fl.a).eraseIdx q⟩) := by unfold NA.lose; rw [hal, if_pos ⟨by omega, by omega⟩]; rfl
    rw [hgood] at hE
    obtain ⟨ba, oa, cc, hsl⟩ := hvw.some (by intro e; have := congrArg List.length e; rw [chunk_len fcell_len, List.length_nil] at this; omega)
    simp only [Value.slice.injEq, true_and] at hsl
    obtain ⟨rfl, rfl⟩ := hsl
    refine J_at (U := tab) q 5 rfl rfl rfl rfl rfl rfl rfl rfl hq ?_
    refine J_loadElem (U := tab) (es := fcell x) 2 (q * 5) rfl rfl rfl hvw rfl (fcell_get hx) rfl rfl rfl ?_
    refine J_alloc (U := tab) rfl rfl rfl (fun _ _ _ => trivial) ?_
    intro bf
    rw [hfx]
    (refine go ?_)
    rw [← hfx]
    have hel : (wl.eraseIdx q).length = wl.length - 1 := by rw [List.length_eraseIdx]; simp [hq]
    have hee : wl.take q ++ wl.drop (q + 1) = wl.eraseIdx q := (List.eraseIdx_eq_take_drop_succ _ _).symm
    refine K_drawA (fun w => Sat G w ([rp br nodes most sent lost (.slice (some ⟨ba, oa, none⟩) wl.length wc), ws (.slice (some ⟨ba, oa, none⟩) wl.length wc) wl])) (.st 0 (.st 2 (.st 3 (.st 4 (.st 5 (.st 6 (.st 7 (.st 9 (.st 10 (.st 11 (.st 12 (.st 13 (.st 14 (.st 15 (.act 1 (.act 8 (.act 16 (.st 17 (.st 18 (.act 19 .nil)))))))))))))))))))) rfl (by kernel_rfl) (by kernel_rfl) (by kernel_rfl) (fun w hw => hw.ent (Ent.pickOnly ([2, 3]) rfl)) ?_
    (refine go ?_)
    refine J_sliceAny (U := tab) (p := 0) (q := (q : Int)) rfl rfl rfl rfl rfl rfl rfl (by omega) (by omega) (.inr (by omega)) ?_
    refine J_slot 33 (.slice (sliceAt (some ⟨ba, oa, none⟩) wc 0 5) q wc) rfl (by rw [show (0 : Int).toNat = 0 from rfl, show (q : Int).toNat = q from by omega]; rfl) ?_
    (refine go ?_)
    refine J_sliceAny (U := tab) (p := (q : Int) + 1) (q := (wl.length : Int)) rfl rfl rfl rfl rfl rfl rfl (by omega) (by omega) (.inl rfl) ?_
    refine J_slot 41 (.slice (sliceAt (some ⟨ba, oa, none⟩) wc (q + 1) 5) (wl.length - (q + 1)) (wc - (q + 1))) rfl (by rw [show ((q : Int) + 1).toNat = q + 1 from by omega, show (wl.length : Int).toNat = wl.length from by omega]; rfl) ?_
    refine J_buildSlice1 (U := tab) rfl rfl rfl rfl rfl rfl rfl rfl rfl (fun b w hw => hw.ent (Ent.pickOnly [3, 4] rfl)) ?_
    intro b0
    refine J_ent (slc_row 34 5 b0 0 0 [] [] _ rfl (Nat.le_refl _) (by simp)) ?_
    refine J_append (U := tab) (mm := q) (news := (wl.take q).flatMap fcell) 0 4 rfl rfl rfl rfl rfl rfl rfl rfl rfl rfl rfl rfl (by rw [(flat_split wl q (Nat.le_of_lt hq)).1]; exact hvw.cut0 (s := 5) q) (by show _ = _ * 5; rw [chunk_len fcell_len, List.length_take, Nat.min_eq_left (Nat.le_of_lt hq)]) (OneV.cells fun x hx => hR.one x (List.mem_of_mem_take hx)) (by omega) (by show _ * 56 ≤ _; omega) (fun _ => rfl) (fun v w hw => hw.ent (Ent.pickOnly [3, 4] rfl)) ?_
    intro v1
    refine J_append (U := tab) (mm := wl.length - (q + 1)) (news := (wl.drop (q + 1)).flatMap fcell) 0 4 rfl rfl rfl rfl rfl rfl rfl rfl rfl rfl rfl rfl (by rw [(flat_split wl (q + 1) hq).2]; exact hvw.cutk (s := 5) hcl hwc (q + 1) hq) (by show _ = _ * 5; rw [chunk_len fcell_len, List.length_drop]) (OneV.cells fun x hx => hR.one x (List.mem_of_mem_drop hx)) (by omega) (by show _ * 56 ≤ _; omega) (fun _ => rfl) (fun v w hw => hw.ent (Ent.pickOnly [3, 4] rfl)) ?_
    intro v2
    rw [show (0 : Nat) + q + (wl.length - (q + 1)) = (wl.eraseIdx q).length from by rw [hel]; omega, show [] ++ (wl.take q).flatMap fcell ++ (wl.drop (q + 1)).flatMap fcell = (wl.eraseIdx q).flatMap fcell from by rw [← hee]; simp]
    refine J_shape 0 rfl ?_
    rintro na nc rfl
    (refine go ?_)
    refine J_loadElem (U := tab) (es := fcell x) (o := 0) (nn := 1) (cap := 1) (cs := fcell x) 1 0 rfl rfl rfl (Vw.pts rfl) rfl fcell_get0 rfl rfl rfl ?_
    rw [hfx]
    (refine go ?_)
    rw [← hfx]
    refine K_ent (Ent.pick [3, 0, 5, 2] rfl) ?_
    refine K_ent (rt_c br nodes most sent lost (.slice na (wl.eraseIdx q).length nc) (wl.eraseIdx q) M _) ?_
    refine K_returnC (U := tab) (cs := fcell x) 1 hE Try.func45 rfl rfl rfl rfl rfl rfl rfl (by rw [hfx]; rfl) ⟨_, x, hR.sub (List.eraseIdx_sublist _ _) _, by simp only [RefD.a, map_erase]; rfl, rfl, fun _ => ⟨hx, rfl⟩, ⟨va, vc, hxv⟩, rfl, rfl⟩ (Ent.fin [0] 3 rfl rfl)
  all_goals (
    rw [hbad] at hE
    refine K_ent (Ent.pick [1, 2, 3] rfl) ?_
    refine K_ent (rt_c br nodes most sent lost _ wl M _) ?_
    refine K_returnC (U := tab) 1 hE Try.func45 rfl rfl rfl rfl rfl rfl rfl rfl ⟨_, F0, hR, rfl, rfl, fun h => by exfalso; simp only at h; omega, ⟨none, 0, rfl⟩, rfl, rfl⟩ (Ent.fin [0] 1 rfl rfl))
set_option maxRecDepth 20000 in
theorem RLose_any (br k : Nat) (R : RefD) (hR : ROk R k) (i : Int) :
    Ctr Try.prog 34 [ptr br, .int .i64 i] [rt br R]
      (fun v H => ∃ R', ROk R' k ∧ R'.a = (R.a.lose i).2 ∧ v = .int .i64 (R.a.lose i).1 ∧ H = [rt br R']) := by
  refine Ctr.enter Try.func34 (by kernel_rfl) rfl Try.ntmps34 rfl rfl ?_
  intro G F Re hE
  (refine go ?_)
  refine J_call [0] rfl rfl rfl rfl (rtake_any br k R hR i) rfl (fun _ _ _ _ _ => trivial) ?_
  rintro _ _ ⟨R', x, hR', ha, _, _, ⟨xa, xc, hxv⟩, rfl, rfl⟩
  rw [show fcell x = [.int .i64 x.num, .int .i64 x.src, .int .i64 x.dst, .int .i64 x.due, .slice xa x.bs.length xc] from by unfold fcell; rw [hxv]]
  (refine go ?_)
  refine J_alloc (U := tab) rfl rfl rfl (fun _ _ _ => trivial) ?_
  intro bf
  (refine go ?_)
  refine K_return hE Try.func34 rfl _ rfl ⟨R', hR', ha, rfl, rfl⟩ (Ent.fin [1] 1 rfl rfl)
theorem ROk.hold {R : RefD} {k : Nat} (h : ROk R k) {f : Fl} {W : List Fl} (hlen : W.length + 1 ≤ R.most) (hW : ∀ x ∈ W, x.bs.length ≤ 20000 ∧ BIn R.M x.v x.bs) (hb : f.bs.length ≤ 20000) (hf : BIn R.M f.v f.bs) (L' : Value) : ROk ⟨R.nodes, R.most, R.sent, R.lost, L', insF f W, R.M⟩ k := by
  have hmem : ∀ x ∈ insF f W, x = f ∨ x ∈ W := fun x hx => by simpa using (insF_perm f W).mem_iff.1 hx
  exact ⟨h.nodes, h.most, by simp only [insF_len]; exact hlen, h.sent, h.lost, fun x hx => by
    rcases hmem x hx with rfl | hx
    · exact hb
    · exact (hW x hx).1, fun x hx => by
    rcases hmem x hx with rfl | hx
    · exact hf
    · exact (hW x hx).2, h.kk⟩
set_option maxRecDepth 20000 in
theorem RHold_any (br k : Nat) (R : RefD) (hR : ROk R k) (i due : Int) :
    Ctr Try.prog 36 [ptr br, .int .i64 i, .int .i64 due] [rt br R]
      (fun v H => ∃ R', ROk R' k ∧ R'.a = (R.a.hold i due).2 ∧ v = .int .i64 (R.a.hold i due).1 ∧ H = [rt br R']) := by
  obtain ⟨nodes, most, sent, lost, L, wl, M⟩ := R
  have hlen := hR.len
  have hmo := hR.most
  simp only at hlen hmo
  refine Ctr.enter Try.func36 (by kernel_rfl) rfl Try.ntmps36 rfl rfl ?_
  intro G F R hE
  refine K_ent (rt_o _ _ _ _ _ _ _ _ _) ?_
  refine K_shape 1 rfl ?_
  rintro wa wc rfl
  have hal : (RefD.a ⟨nodes, most, sent, lost, .slice wa wl.length wc, wl, M⟩).way.length = wl.length := by simp [RefD.a]
  repeat' (first | (with_reducible intro _hh) | refine go1 ?_ | refine J_fork ?_ ?_ | refine J_gsP rfl rfl rfl rfl ?_ ?_ | refine K_condP rfl rfl ?_ ?_)
  case' refine_2.refine_2 =>
    refine J_call [] rfl rfl rfl rfl (IsMoment_any due) rfl (fun _ _ _ _ _ => trivial) ?_
    rintro _ _ ⟨rfl, rfl⟩
    by_cases h3 : okMoment due
    case' pos => refine J_slot 22 (.bool true) rfl (congrArg Value.bool (decide_eq_true h3)) ?_
    case' neg => refine J_slot 22 (.bool false) rfl (congrArg Value.bool (decide_eq_false h3)) ?_
    all_goals repeat' (first | (with_reducible intro _hh) | refine go1 ?_ | refine J_fork ?_ ?_ | refine J_gsP rfl rfl rfl rfl ?_ ?_ | refine K_condP rfl rfl ?_ ?_)
  case' pos =>
    obtain ⟨q, rfl⟩ := Int.eq_ofNat_of_zero_le (a := i) (by omega)
    have hq : q < wl.length := by omega
    obtain ⟨x, hx⟩ : ∃ x, wl[q]? = some x := ⟨wl[q], by simp⟩
    have hxm := List.mem_of_getElem? hx
    have hdb : (RefD.a ⟨nodes, most, sent, lost, .slice wa wl.length wc, wl, M⟩).hold q due = (0, ⟨nodes, most, sent, lost, insA { x.a with due := due } ((wl.map Fl.a).eraseIdx q)⟩) := by
      unfold NA.hold; rw [hal, if_pos (by unfold laterE; rw [if_neg (fun h => h ⟨by omega, by omega⟩), if_neg (fun h => h h3)])]
      simp [RefD.a, List.getD_eq_getElem?_getD, hx]
    rw [hdb] at hE
    refine J_ent (rt_c br nodes most sent lost (.slice wa wl.length wc) wl M _) ?_
    refine J_call [0] rfl rfl rfl rfl (rtake_any br k _ hR q) rfl (fun _ _ _ _ _ => trivial) ?_
    rintro _ _ ⟨⟨nodes', most', sent', lost', L', wl', M'⟩, y, hR', ha, hM, hy, ⟨xa, xc, hxv⟩, rfl, rfl⟩
    obtain ⟨h1, h2⟩ := hy ⟨by omega, by simp only; omega⟩
    simp only [Int.toNat_natCast] at h1 h2 hM
    rw [hx] at h1
    cases h1
    subst h2 hM
    have hg : (RefD.a ⟨nodes, most, sent, lost, .slice wa wl.length wc, wl, M'⟩).lose q = (0, ⟨nodes, most, sent, lost, (wl.map Fl.a).eraseIdx q⟩) := by unfold NA.lose; rw [hal, if_pos ⟨by omega, by omega⟩]; rfl
    rw [hg] at ha ⊢
    simp only [RefD.a, NA.mk.injEq] at ha
    obtain ⟨rfl, rfl, rfl, rfl, _⟩ := ha
    have hel : (wl.eraseIdx q).length = wl.length - 1 := by rw [List.length_eraseIdx]; simp [hq]
    obtain ⟨f, hf⟩ : ∃ f : Fl, f = ⟨x.num, x.src, x.dst, due, x.v, x.bs⟩ := ⟨_, rfl⟩
    have hfc : fcell f = [.int .i64 x.num, .int .i64 x.src, .int .i64 x.dst, .int .i64 due, x.v] := by rw [hf]; rfl
    rw [hxv] at hfc
    have hfx : fcell x = [.int .i64 x.num, .int .i64 x.src, .int .i64 x.dst, .int .i64 x.due, .slice xa x.bs.length xc] := by unfold fcell; rw [hxv]
    rw [hfx]
    (refine go ?_)
    refine J_alloc (U := tab) rfl rfl rfl (fun _ _ _ => trivial) ?_
    intro bf
    (refine go ?_)
    refine J_loadElem (U := tab) (es := fcell f) (o := 0) (nn := 1) (cap := 1) (cs := fcell f) 0 0 rfl rfl rfl (Vw.pts (by rw [hfc]; rfl)) rfl fcell_get0 rfl rfl rfl ?_
    refine J_ent (Ent.pick [1] rfl) ?_
    refine J_ent (rt_o _ _ _ _ _ _ _ _ _) ?_
    refine J_call [0, 1] rfl rfl rfl rfl (rput_any br nodes' most' sent' lost' L' (wl.eraseIdx q) f hR'.one (by rw [hf]; simp only; rw [hxv]; rfl) (by rw [hel]; omega)) rfl (fun _ _ _ _ _ => trivial) ?_
    rintro _ _ ⟨L2, rfl⟩
    (refine go ?_)
    refine K_ent (rt_c br nodes' most' sent' lost' L2 (insF f (wl.eraseIdx q)) M' _) ?_
    have hD2 := hR.hold (f := f) (W := wl.eraseIdx q) (by rw [hel]; simp only; omega) (fun y hy => ⟨hR.bytes y ((List.eraseIdx_sublist _ _).subset hy), hR.vs y ((List.eraseIdx_sublist _ _).subset hy)⟩) (by rw [hf]; exact hR.bytes x hxm) (by rw [hf]; exact hR.vs x hxm) L2
    refine K_return hE Try.func36 rfl _ rfl ⟨_, hD2, by simp only [RefD.a, insF_map, map_erase]; rw [hf]; rfl, rfl, rfl⟩ (Ent.fin [0] 1 rfl rfl)
  case' neg =>
    have hle : laterE wl.length i due = 1 := by unfold laterE; rw [if_neg (fun h => h ⟨by omega, by omega⟩), if_pos h3]
  case' refine_1 =>
    have hle : laterE wl.length i due = 4 := by unfold laterE; rw [if_pos (by omega)]
  case' refine_2.refine_1 =>
    have hle : laterE wl.length i due = 4 := by unfold laterE; rw [if_pos (by omega)]
  all_goals (
    have hdb : (RefD.a ⟨nodes, most, sent, lost, .slice wa wl.length wc, wl, M⟩).hold i due = (laterE wl.length i due, RefD.a ⟨nodes, most, sent, lost, .slice wa wl.length wc, wl, M⟩) := by unfold NA.hold; rw [hal, if_neg (by rw [hle]; decide)]
    rw [hdb, hle] at hE
    refine K_ent (rt_c br nodes most sent lost _ wl M _) ?_
    refine K_return hE Try.func36 rfl _ rfl ⟨_, hR, rfl, rfl, rfl⟩ (Ent.fin [0] 0 rfl rfl))
end Go.Proofs.Ytngmcoopgbflaaa
