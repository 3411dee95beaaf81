/- net, part r3: the reference's net: Due, Spoil; Same. -/
import Derived.Test.YtngmcoopgbflaaaNr2
set_option linter.unusedVariables false
set_option linter.unusedSimpArgs false
namespace Go.Proofs.Ytngmcoopgbflaaa
open Go Go.SL
attribute [local irreducible] J K Ctr Ends pts slc mapR mapI sbRow stock arrS

theorem RDue_bad (br k : Nat) (R : RefD) (hR : ROk R k) (now : Int) (h : ¬ okMoment now) : Ctr Try.prog 33 [ptr br, .int .i64 now] [rt br R] (fun v H => v = .tuple #[.slice none 0 0, .int .i64 1] ∧ H = [rt br R]) := by
  refine Ctr.enter Try.func33 (by kernel_rfl) rfl Try.ntmps33 rfl rfl ?_
  intro G F Re hE
  (refine go ?_)
  refine J_call [] rfl rfl rfl rfl (IsMoment_any now) rfl (fun _ _ _ _ _ => trivial) ?_
  rintro _ _ ⟨rfl, rfl⟩
  rw [decide_eq_false h]
  (refine go ?_)
  refine K_return hE Try.func33 rfl _ rfl ⟨rfl, rfl⟩ (Ent.fin [0] 0 rfl rfl)
set_option maxRecDepth 20000 in
theorem RDue_any (br k : Nat) (R : RefD) (hR : ROk R k) (now : Int) (h : okMoment now) :
    Ctr Try.prog 33 [ptr br, .int .i64 now] [rt br R]
      (fun v H => ∃ R' out W, ROk R' k ∧ R'.a = (R.a.due now).2 ∧ (R'.M = R.M ∧ W.Sublist R.wl ∧ W.map Fl.a = (R.a.due now).1) ∧ v = .tuple #[out, .int .i64 0] ∧ H = [rt br R', ws out W]) := by
  obtain ⟨nodes, most, sent, lost, L, wl, M⟩ := R
  have hlen := hR.len
  have hmo := hR.most
  simp only at hlen hmo
  refine Ctr.enter Try.func33 (by kernel_rfl) rfl Try.ntmps33 rfl rfl ?_
  intro G F Re hE
  refine K_ent (rt_o _ _ _ _ _ _ _ _ _) ?_
  refine K_shape 1 rfl ?_
  rintro wa wc rfl
  refine K_slcLe 1 rfl ?_
  intro hwc hcl hvw
  (refine go ?_)
  refine J_call [] rfl rfl rfl rfl (IsMoment_any now) rfl (fun _ _ _ _ _ => trivial) ?_
  rintro _ _ ⟨rfl, rfl⟩
  rw [decide_eq_true h]
  (refine go ?_)
  refine K_loop (fun i : Nat => i ≤ wl.length ∧ ∀ y ∈ wl.take i, y.due ≤ now) (fun i => wl.length - i)
    (fun i => [(0, ptr br), (1, .int .i64 now), (7, .int .i64 i)])
    (fun _ => rp br nodes most sent lost (.slice wa wl.length wc) :: ws (.slice wa wl.length wc) wl :: arrS 5 M :: F) 0 ⟨Nat.zero_le _, by simp⟩ rfl (by repeat (first | exact keep_nil | refine keep_cons rfl ?_)) (Ent.refl _) ?_
  intro q hq ih
  obtain ⟨hq, hq1⟩ := hq
  rcases Nat.lt_or_ge q wl.length with hlt | hge
  case' inl =>
    obtain ⟨x, hx⟩ : ∃ x, wl[q]? = some x := ⟨wl[q], by simp⟩
    refine K_slcF 1 rfl (by omega) ?_
    rintro ba oa ca hsl _ _ hvw
    simp only [Value.slice.injEq, true_and] at hsl
    obtain ⟨rfl, rfl⟩ := hsl
    repeat' (first | (with_reducible intro _hh) | refine go1 ?_ | refine J_fork ?_ ?_ | refine J_gsP rfl rfl rfl rfl ?_ ?_ | refine K_condP rfl rfl ?_ ?_ | refine J_at (U := tab) q 5 rfl rfl rfl rfl rfl rfl rfl rfl hlt ?_ | refine J_loadAt (U := tab) 1 (q * 5 + 3) rfl rfl rfl hvw (Nat.add_assoc _ _ _) (fcell_get hx 3 (.int .i64 x.due) rfl) rfl rfl ?_)
  case' inr => repeat' (first | (with_reducible intro _hh) | refine go1 ?_ | refine J_fork ?_ ?_ | refine J_gsP rfl rfl rfl rfl ?_ ?_ | refine K_condP rfl rfl ?_ ?_)
  any_goals (exfalso; omega)
  case' inl.refine_1.refine_1 =>
    refine K_again ih (q + 1) rfl ⟨hlt, fun y hy => by
      rw [List.take_add_one, hx] at hy
      rcases List.mem_append.1 hy with hy | hy
      · exact hq1 y hy
      · simp at hy; subst hy; omega⟩ (by omega) (by repeat (first | exact keep_nil | refine keep_cons rfl ?_)) (Ent.refl _)
  case' inl.refine_1.refine_2 =>
    have hq2 : wl.length ≤ q ∨ ∃ x, wl[q]? = some x ∧ now < x.due := .inr ⟨x, hx, by omega⟩
  case' inr.refine_2 =>
    have hq2 : wl.length ≤ q ∨ ∃ x, wl[q]? = some x ∧ now < x.due := .inl hge
  all_goals (
    have htw := take_first (P := fun x => decide (x.due ≤ now)) (wl.map Fl.a) q (fun y hy => by
      rw [← List.map_take] at hy
      obtain ⟨z, hz, rfl⟩ := List.mem_map.1 hy
      exact decide_eq_true (hq1 z hz)) (by
      rcases hq2 with h | ⟨x, hx, hp⟩
      · exact .inl (by simpa using h)
      · exact .inr ⟨x.a, by rw [List.getElem?_map, hx]; rfl, decide_eq_false (by show ¬ x.due ≤ now; omega)⟩)
    refine J_buildSlice1 (U := tab) rfl rfl rfl rfl rfl rfl rfl rfl rfl (fun _ _ _ => trivial) ?_
    intro b0
    refine J_ent (slc_row 34 5 b0 0 0 [] [] _ rfl (Nat.le_refl _) (by simp)) ?_
    (refine go ?_)
    refine J_sliceAny (U := tab) (p := 0) (q := (q : Int)) rfl rfl rfl rfl rfl rfl rfl (by omega) (by omega) (.inr (by omega)) ?_
    refine J_slot 40 (.slice (sliceAt _ wc 0 5) q wc) rfl (by rw [show (0 : Int).toNat = 0 from rfl, show (q : Int).toNat = q from by omega]; rfl) ?_
    refine J_append (U := tab) (mm := q) (news := (wl.take q).flatMap fcell) 0 2 rfl rfl rfl rfl rfl rfl rfl rfl rfl rfl rfl rfl (by rw [(flat_split wl q hq).1]; exact hvw.cut0 (s := 5) q) (by show _ = _ * 5; rw [chunk_len fcell_len, List.length_take, Nat.min_eq_left hq]) (OneV.cells fun x hx => hR.one x (List.mem_of_mem_take hx)) (by omega) (by show _ * 56 ≤ _; omega) (fun _ => rfl) (fun _ _ _ => trivial) ?_
    intro v1
    rw [show (0 : Nat) + q = (wl.take q).length from by rw [List.length_take]; omega, List.nil_append]
    refine J_shape 0 rfl ?_
    rintro ma mc rfl
    (refine go ?_)
    refine J_buildSlice1 (U := tab) rfl rfl rfl rfl rfl rfl rfl rfl rfl (fun _ _ _ => trivial) ?_
    intro b2
    refine J_ent (slc_row 34 5 b2 0 0 [] [] _ rfl (Nat.le_refl _) (by simp)) ?_
    (refine go ?_)
    refine J_sliceAny (U := tab) (p := (q : Int)) (q := (wl.length : Int)) rfl rfl rfl rfl rfl rfl rfl (by omega) (by omega) (.inl rfl) ?_
    refine J_slot 49 (.slice (sliceAt _ wc q 5) (wl.length - q) (wc - q)) rfl (by rw [show (q : Int).toNat = q from by omega, show (wl.length : Int).toNat = wl.length from by omega]; rfl) ?_
    refine J_append (U := tab) (mm := wl.length - q) (news := (wl.drop q).flatMap fcell) 0 3 rfl rfl rfl rfl rfl rfl rfl rfl rfl rfl rfl rfl (by rw [(flat_split wl q hq).2]; exact hvw.cutk (s := 5) hcl hwc q hq) (by show _ = _ * 5; rw [chunk_len fcell_len, List.length_drop]) (OneV.cells fun x hx => hR.one x (List.mem_of_mem_drop hx)) (by omega) (by show _ * 56 ≤ _; omega) (fun _ => rfl) (fun _ _ _ => trivial) ?_
    intro v2
    rw [show (0 : Nat) + (wl.length - q) = (wl.drop q).length from by rw [List.length_drop]; omega, List.nil_append]
    refine J_shape 0 rfl ?_
    rintro na nc rfl
    (refine go ?_)
    refine K_ent (Ent.pick [2, 0, 4] rfl) ?_
    refine K_ent (rt_c br nodes most sent lost (.slice na (wl.drop q).length nc) (wl.drop q) M _) ?_
    refine K_return hE Try.func33 rfl _ rfl ⟨_, _, wl.take q, hR.sub (List.drop_sublist _ _) _, by simp only [RefD.a, NA.due, ← htw.2, List.map_drop], ⟨rfl, List.take_sublist _ _, by simp only [RefD.a, NA.due, ← htw.1, List.map_take]⟩, rfl, rfl⟩ (Ent.fin [0, 1] 1 rfl rfl))
theorem fcell_set (wl : List Fl) (q : Nat) (x x' : Fl) (hx : wl[q]? = some x) (hf : fcell x' = (fcell x).set 4 x'.v) : (wl.flatMap fcell).set (q * 5 + 4) x'.v = (wl.set q x').flatMap fcell := by
  induction wl generalizing q with
  | nil => simp at hx
  | cons y wl ih =>
    cases q with
    | zero =>
      simp only [List.getElem?_cons_zero, Option.some.injEq] at hx
      subst hx
      rw [List.set_cons_zero, List.flatMap_cons, List.flatMap_cons, hf, List.set_append_left _ _ (by rw [fcell_len]; omega), Nat.zero_mul, Nat.zero_add]
    | succ q =>
      simp only [List.getElem?_cons_succ] at hx
      rw [List.set_cons_succ, List.flatMap_cons, List.flatMap_cons, List.set_append_right _ _ (by rw [fcell_len]; omega), fcell_len, show (q + 1) * 5 + 4 - 5 = q * 5 + 4 from by omega, ih q hx]
theorem ROk.set {R : RefD} {k : Nat} (h : ROk R k) {q : Nat} {x' : Fl} {M' : Arrs} (hM : ∀ x ∈ R.M, x ∈ M') (hv : BIn M' x'.v x'.bs) (hb : x'.bs.length ≤ 20000) : ROk ⟨R.nodes, R.most, R.sent, R.lost, R.L, R.wl.set q x', M'⟩ k := by
  have hmem : ∀ y ∈ R.wl.set q x', y = x' ∨ y ∈ R.wl := fun y hy => (List.mem_or_eq_of_mem_set hy).symm
  refine ⟨h.nodes, h.most, by simp only [List.length_set]; exact h.len, h.sent, h.lost, ?_, ?_, h.kk⟩
  · intro y hy
    rcases hmem y hy with rfl | hy
    · exact hb
    · exact h.bytes y hy
  · intro y hy
    rcases hmem y hy with rfl | hy
    · exact hv
    · exact (h.vs y hy).mono hM
set_option maxRecDepth 20000 in
theorem RSpoil_any (br k : Nat) (R : RefD) (hR : ROk R k) (i at_ : Int) (t : UInt8) :
    Ctr Try.prog 37 [ptr br, .int .i64 i, .int .i64 at_, u8 t] [rt br R]
      (fun v H => ∃ R', ROk R' k ∧ R'.a = (R.a.spoil i at_ t).2 ∧ v = .int .i64 (R.a.spoil i at_ t).1 ∧ H = [rt br R']) := by
  obtain ⟨nodes, most, sent, lost, L, wl, M⟩ := R
  have hlen := hR.len
  have hmo := hR.most
  simp only at hlen hmo
  refine Ctr.enter Try.func37 (by kernel_rfl) rfl Try.ntmps37 rfl rfl ?_
  intro G F Re hE
  refine K_ent (rt_o _ _ _ _ _ _ _ _ _) ?_
  refine K_shape 1 rfl ?_
  rintro wa wc rfl
  refine K_slcLe 1 rfl ?_
  intro hwc hcl hvw
  have hal : (RefD.a ⟨nodes, most, sent, lost, .slice wa wl.length wc, wl, M⟩).way.length = wl.length := by simp [RefD.a]
  repeat' (first | (with_reducible intro _hh) | refine go1 ?_ | refine J_fork ?_ ?_ | refine J_gsP rfl rfl rfl rfl ?_ ?_ | refine K_condP rfl rfl ?_ ?_)
  case' refine_1 =>
    have hdb : (RefD.a ⟨nodes, most, sent, lost, .slice wa wl.length wc, wl, M⟩).spoil i at_ t = (4, RefD.a ⟨nodes, most, sent, lost, .slice wa wl.length wc, wl, M⟩) := by unfold NA.spoil; rw [hal, if_pos (by omega)]
  case' refine_2.refine_1 =>
    have hdb : (RefD.a ⟨nodes, most, sent, lost, .slice wa wl.length wc, wl, M⟩).spoil i at_ t = (4, RefD.a ⟨nodes, most, sent, lost, .slice wa wl.length wc, wl, M⟩) := by unfold NA.spoil; rw [hal, if_pos (by omega)]
  case' refine_2.refine_2.refine_1 =>
    have hdb : (RefD.a ⟨nodes, most, sent, lost, .slice wa wl.length wc, wl, M⟩).spoil i at_ t = (1, RefD.a ⟨nodes, most, sent, lost, .slice wa wl.length wc, wl, M⟩) := by unfold NA.spoil; rw [hal, if_neg (by omega), if_pos (by omega)]
  case' refine_2.refine_2.refine_2 =>
    obtain ⟨q, rfl⟩ := Int.eq_ofNat_of_zero_le (a := i) (by omega)
    obtain ⟨p, rfl⟩ := Int.eq_ofNat_of_zero_le (a := at_) (by omega)
    have hq : q < wl.length := by omega
    obtain ⟨x, hx⟩ : ∃ x, wl[q]? = some x := ⟨wl[q], by simp⟩
    have hxm := List.mem_of_getElem? hx
    have hbi := hR.vs x hxm
    obtain ⟨va, vc, hxv, _⟩ := hbi.shape
    have hxb := hR.bytes x hxm
    have hdb : (RefD.a ⟨nodes, most, sent, lost, .slice wa wl.length wc, wl, M⟩).spoil q p t = (0, ⟨nodes, most, sent, lost, (wl.map Fl.a).set q { x.a with bs := spoilB x.bs p t }⟩) := by
      unfold NA.spoil; rw [hal, if_neg (by omega), if_neg (by omega)]
      simp [RefD.a, List.getD_eq_getElem?_getD, hx, Fl.a]
    rw [hdb] at hE
    obtain ⟨ba, oa, cc, hsl⟩ := hvw.some (by intro e; have := congrArg List.length e; rw [chunk_len fcell_len, List.length_nil] at this; omega)
    simp only [Value.slice.injEq, true_and] at hsl
    obtain ⟨rfl, rfl⟩ := hsl
    refine J_buildSlice1 (U := tab) rfl rfl rfl rfl rfl rfl rfl rfl rfl (fun _ _ _ => trivial) ?_
    intro b0
    refine J_ent (slc_row 5 1 b0 0 0 [] [] _ rfl (Nat.le_refl _) (by simp)) ?_
    (refine go ?_)
    refine J_at (U := tab) q 5 rfl rfl rfl rfl rfl rfl rfl rfl hq ?_
    (refine go ?_)
    refine J_loadAt (U := tab) 2 (q * 5 + 4) rfl rfl rfl hvw (Nat.add_assoc _ _ _) (fcell_get hx 4 (.slice va x.bs.length vc) (by rw [← hxv]; rfl)) rfl rfl ?_
    refine J_append (U := tab) (mm := x.bs.length) (news := bV x.bs) 0 3 rfl rfl rfl rfl rfl rfl rfl rfl rfl rfl rfl rfl (by rw [← hxv]; exact hbi.view _) (by show _ = _ * 1; rw [bV_length]; omega) (bV_one x.bs) (by omega) (by show _ * 1 ≤ _; omega) (fun _ => rfl) (fun _ _ _ => trivial) ?_
    intro v1
    rw [show (0 : Nat) + x.bs.length = x.bs.length from by omega, List.nil_append]
    refine J_shape 0 rfl ?_
    rintro ma mc rfl
    (refine go ?_)
    refine K_condP rfl rfl ?_ ?_
    case' refine_1 =>
      intro hb0
      refine K_slcF 0 rfl (by omega) ?_
      rintro bb ob cb hsl2 _ _ hvb
      simp only [Value.slice.injEq, true_and] at hsl2
      obtain ⟨rfl, rfl⟩ := hsl2
      have hpl : p % x.bs.length < x.bs.length := Nat.mod_lt _ (by omega)
      obtain ⟨y, hy⟩ : ∃ y, x.bs[p % x.bs.length]? = some y := ⟨x.bs[p % x.bs.length], by simp⟩
      have hsb : spoilB x.bs p t = x.bs.set (p % x.bs.length) (xorB y t) := by
        unfold spoilB; rw [if_neg (by omega), List.getD_eq_getElem?_getD, hy]; rfl
      refine K_drawA (fun w => Sat G w ([slc 5 1 (.slice (some ⟨bb, ob, none⟩) x.bs.length mc) x.bs.length (bV x.bs)])) (.st 0 (.st 1 (.st 2 (.st 3 (.st 4 (.st 5 (.st 6 (.st 7 (.st 8 (.st 9 (.st 10 (.st 11 (.st 12 (.st 13 (.st 14 (.act 15 .nil)))))))))))))))) rfl (by kernel_rfl) (by kernel_rfl) (by kernel_rfl) (fun w hw => hw.ent (Ent.pickOnly ([0]) rfl)) ?_
      (refine go ?_)
      refine J_rem rfl rfl rfl (by omega) (by omega) ?_
      refine J_slot 40 (.int .i64 ((p % x.bs.length : Nat) : Int)) rfl (congrArg (Value.int .i64) (by omega)) ?_
      (refine go ?_)
      refine J_rem rfl rfl rfl (by omega) (by omega) ?_
      refine J_slot 45 (.int .i64 ((p % x.bs.length : Nat) : Int)) rfl (congrArg (Value.int .i64) (by omega)) ?_
      refine J_at1 (U := tab) (p % x.bs.length) rfl rfl rfl rfl rfl rfl rfl rfl hpl ?_
      refine J_loadAtS (U := tab) 0 (p % x.bs.length) rfl rfl rfl hvb rfl (bV_get hy) rfl rfl ?_
      (refine go ?_)
      refine J_slot 49 (u8 (xorB y t)) rfl (xorB_val y t) ?_
      refine J_at1 (U := tab) (p % x.bs.length) rfl rfl rfl rfl rfl rfl rfl rfl hpl ?_
      refine J_storeSlc (U := tab) (q := p % x.bs.length) 0 (fun _ _ => trivial) rfl rfl rfl rfl rfl rfl rfl hpl rfl ?_
      rw [bV_set, ← hsb]
      generalize hna : (some (⟨bb, ob, none⟩ : Addr) : Option Addr) = wa9
    case' refine_2 =>
      intro hb0
      have hsb : spoilB x.bs p t = x.bs := by unfold spoilB; rw [if_pos (by omega)]
      refine K_ent (H' := slc 5 1 (.slice ma x.bs.length mc) x.bs.length (bV (spoilB x.bs p t)) :: _) (by rw [hsb]; exact Ent.refl _) ?_
      generalize hna : ma = wa9
    all_goals (
      clear hna
      obtain ⟨x', hx'⟩ : ∃ x' : Fl, x' = ⟨x.num, x.src, x.dst, x.due, .slice wa9 x.bs.length mc, spoilB x.bs p t⟩ := ⟨_, rfl⟩
      have hv' : x'.v = .slice wa9 x.bs.length mc := by rw [hx']
      have hl' : x'.bs.length = x.bs.length := by rw [hx']; exact spoilB_len _ _ _
      (refine go ?_)
      refine J_at (U := tab) q 5 rfl rfl rfl rfl rfl rfl rfl rfl hq ?_
      (refine go ?_)
      refine J_storeSlcN (U := tab) (q := q * 5 + 4) 2 (fun _ _ => trivial) rfl (Nat.add_assoc _ _ _) rfl rfl rfl rfl rfl rfl (by omega) (by omega) rfl ?_
      rw [← hv', fcell_set wl q x x' hx (by rw [hx']; rfl), show slc 5 1 x'.v x.bs.length (bV (spoilB x.bs p t)) = slc 5 1 x'.v x'.bs.length (bV x'.bs) from by rw [hl']; rw [hx']]
      refine J_ent (Ent.pick [0, 3] rfl) ?_
      refine J_ent (Ent.join _ _ _) ?_
      refine J_open (arrS_slcB 5 x'.v x'.bs M) ?_
      rintro M' ⟨hbin, hsub⟩
      (refine go ?_)
      refine K_ent (Ent.pick [1, 2, 0] rfl) ?_
      rw [show slc 34 5 (.slice (some ⟨ba, oa, none⟩) wl.length wc) wl.length ((wl.set q x').flatMap fcell) = ws (.slice (some ⟨ba, oa, none⟩) wl.length wc) (wl.set q x') from by unfold ws; rw [List.length_set]]
      refine K_ent (rt_c br nodes most sent lost (.slice (some ⟨ba, oa, none⟩) wl.length wc) (wl.set q x') M' _) ?_
      have hD2 := hR.set (q := q) (x' := x') hsub hbin (by rw [hl']; exact hxb)
      refine K_return hE Try.func37 rfl _ rfl ⟨_, hD2, by simp only [RefD.a, List.map_set]; rw [hx']; rfl, rfl, rfl⟩ (Ent.fin [0] 0 rfl rfl))
  all_goals (
    rw [hdb] at hE
    refine K_ent (rt_c br nodes most sent lost _ wl M _) ?_
    refine K_return hE Try.func37 rfl _ rfl ⟨_, hR, rfl, rfl, rfl⟩ (Ent.fin [0] 0 rfl rfl))
end Go.Proofs.Ytngmcoopgbflaaa
