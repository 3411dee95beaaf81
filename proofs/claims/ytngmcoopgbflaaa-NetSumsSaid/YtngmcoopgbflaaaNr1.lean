/- net, part r1: the reference's net: fresh, Send, Double. -/
import Derived.Test.YtngmcoopgbflaaaNr0
set_option linter.unusedVariables false
set_option linter.unusedSimpArgs false
namespace Go.Proofs.Ytngmcoopgbflaaa
open Go Go.SL
attribute [local irreducible] J K Ctr Ends pts slc mapR mapI sbRow stock arrS

theorem arrS_slcB (e : TypeId) (v : Value) (bs : List UInt8) (M : Arrs) : ∀ h, star (slc e 1 v bs.length (bV bs)) (arrS e M) h → ∃ M', (BIn M' v bs ∧ ∀ x ∈ M, x ∈ M') ∧ Sep [arrS e M'] h := fun h hs => by
  obtain ⟨M', h1, h2, h3⟩ := arrS_slc e v bs M h hs
  exact ⟨M', ⟨h1, h2⟩, Sep_one' h3⟩
theorem ROk.put {R : RefD} {k : Nat} (h : ROk R k) (hk : k + 1 ≤ 1000000) {f : Fl} {M' : Arrs} (hM : ∀ x ∈ R.M, x ∈ M') (hv : BIn M' f.v f.bs) (hb : f.bs.length ≤ 20000) {m lost' : Nat} {L' : Value} (hm : ((insF f R.wl).take m).length ≤ R.most) (hlost : lost' ≤ k + 1) :
    ROk ⟨R.nodes, R.most, R.sent + 1, lost', L', (insF f R.wl).take m, M'⟩ (k + 1) := by
  have hmem : ∀ x ∈ (insF f R.wl).take m, x = f ∨ x ∈ R.wl := fun x hx => by simpa using (insF_perm f R.wl).mem_iff.1 (List.mem_of_mem_take hx)
  exact
  { nodes := h.nodes, most := h.most, len := hm, sent := Nat.succ_le_succ h.sent, lost := hlost
    bytes := fun x hx => by
      rcases hmem x hx with rfl | hx
      · exact hb
      · exact h.bytes x hx
    vs := fun x hx => by
      rcases hmem x hx with rfl | hx
      · exact hv
      · exact (h.vs x hx).mono hM
    kk := hk }
set_option maxRecDepth 20000 in
theorem rfresh_any (br k : Nat) (R : RefD) (hR : ROk R k) (hk : k + 1 ≤ 1000000) (A : HP) (f : Fl) (hv : Vw (star (arrS 5 R.M) A) f.v f.bs.length (bV f.bs)) (hb : f.bs.length ≤ 20000) :
    Ctr Try.prog 44 [ptr br, .agg (fcell f).toArray] [rt br R, A] (fun _ H => ∃ R', ROk R' (k + 1) ∧ R'.a = R.a.fresh f.a ∧ H = [rt br R', A]) := by
  obtain ⟨nodes, most, sent, lost, L, wl, M⟩ := R
  obtain ⟨fa, fc, hfsh⟩ := hv.shape
  have hsk := hR.sent
  have hlk := hR.lost
  have hlen := hR.len
  have hmo := hR.most
  simp only at hsk hlk hlen hmo
  refine Ctr.enter Try.func44 (by kernel_rfl) rfl Try.ntmps44 rfl rfl ?_
  intro G F R hE
  refine K_ent (rt_o _ _ _ _ _ _ _ _ _) ?_
  (refine go ?_)
  refine J_box rfl rfl (fun _ _ _ => trivial) ?_
  intro bf
  rw [cellsF]
  (refine go ?_)
  refine J_buildSlice1 (U := tab) rfl rfl rfl rfl rfl rfl rfl rfl rfl (fun _ _ _ => trivial) ?_
  intro b0
  refine J_ent (slc_row 5 1 b0 0 0 [] [] _ rfl (Nat.le_refl _) (by simp)) ?_
  (refine go ?_)
  refine J_ent (Ent.pick [4, 5] rfl) ?_
  refine J_ent (Ent.join _ _ _) ?_
  refine J_append (U := tab) (mm := f.bs.length) (news := bV f.bs) 1 0 rfl rfl rfl rfl rfl rfl rfl rfl rfl rfl rfl rfl hv (by show _ = _ * 1; rw [bV_length]; omega) (bV_one f.bs) (by omega) (by show _ * 1 ≤ _; omega) (fun _ => rfl) (fun _ _ _ => trivial) ?_
  intro v1
  rw [show (0 : Nat) + f.bs.length = f.bs.length from by omega, List.nil_append]
  refine J_shape 1 rfl ?_
  rintro ra rc rfl
  (refine go ?_)
  have hnumr : ((sent : Int) + 1) = ((sent + 1 : Nat) : Int) := by omega
  obtain ⟨f', hf'⟩ : ∃ f' : Fl, f' = ⟨(sent : Int) + 1, f.src, f.dst, f.due, .slice ra f.bs.length rc, f.bs⟩ := ⟨_, rfl⟩
  have hfc : fcell f' = [.int .i64 ((sent : Int) + 1), .int .i64 f.src, .int .i64 f.dst, .int .i64 f.due, .slice ra f.bs.length rc] := by rw [hf']; rfl
  refine J_loadElem (U := tab) (es := fcell f') (o := 0) (nn := 1) (cap := 1) (cs := fcell f') 2 0 rfl rfl rfl (Vw.pts (by rw [hfc]; rfl)) rfl fcell_get0 rfl rfl rfl ?_
  rw [hnumr]
  refine J_call [3, 4] rfl rfl rfl rfl (rput_any br nodes most (sent + 1) lost L wl f' hR.one (by rw [hf']; rfl) (by omega)) rfl (fun _ _ _ _ _ => trivial) ?_
  rintro _ _ ⟨L', rfl⟩
  have hWl : (insF f' wl).length = wl.length + 1 := insF_len _ _
  refine J_ent (Ent.pick [2] rfl) ?_
  refine J_ent (Ent.part _ _ _) ?_
  refine J_ent (Ent.pick [4, 0] rfl) ?_
  refine J_ent (Ent.join _ _ _) ?_
  refine J_open (arrS_slcB 5 (.slice ra f.bs.length rc) f.bs M) ?_
  rintro M' ⟨hbin, hsub⟩
  have hfa : f'.a = { f.a with num := (sent : Int) + 1 } := by rw [hf']; rfl
  have hbn : f'.bs = f.bs := by rw [hf']
  have hfv : f'.v = .slice ra f.bs.length rc := by rw [hf']
  rw [← hfv, ← hbn] at hbin
  have hwayl : (insA { f.a with num := (sent : Int) + 1 } (wl.map Fl.a)).length = wl.length + 1 := by rw [insA_len, List.length_map]
  refine J_ent (Ent.pick [2, 3, 0, 1] rfl) ?_
  refine J_shape 1 rfl ?_
  rintro wa wc rfl
  (refine go ?_)
  refine K_drawA (fun w => Sat G w ([rp br nodes most (sent + 1) lost (.slice wa (insF f' wl).length wc)])) (.st 0 (.st 1 (.st 2 (.st 3 (.st 4 (.st 5 (.st 6 (.st 7 (.st 8 (.st 9 .nil)))))))))) rfl (by kernel_rfl) (by kernel_rfl) (by kernel_rfl) (fun w hw => hw.ent (Ent.pickOnly ([0]) rfl)) ?_
  (refine go ?_)
  refine K_condP rfl rfl ?_ ?_
  · intro hgt
    refine K_slcF 1 rfl (by omega) ?_
    rintro ba oa ca hsl hca _ _
    simp only [Value.slice.injEq, true_and] at hsl
    obtain ⟨rfl, rfl⟩ := hsl
    refine K_drawA (fun w => Sat G w ([rp br nodes most (sent + 1) lost (.slice (some ⟨ba, oa, none⟩) (insF f' wl).length wc)])) (.st 0 (.st 1 (.st 2 (.st 3 (.st 4 (.st 5 (.st 6 (.st 7 (.st 8 (.st 9 (.st 10 (.st 11 (.act 12 .nil))))))))))))) rfl (by kernel_rfl) (by kernel_rfl) (by kernel_rfl) (fun w hw => hw.ent (Ent.pickOnly ([0]) rfl)) ?_
    (refine go ?_)
    refine J_sliceAny (U := tab) (p := 0) (q := (most : Int)) rfl rfl rfl rfl rfl rfl rfl (by omega) (by omega) (.inr (by omega)) ?_
    refine J_slot 43 (.slice (some ⟨ba, oa, none⟩) most wc) rfl (by rw [show (0 : Int).toNat = 0 from rfl, sliceAt_zero, show (most : Int).toNat = most from by omega]; rfl) ?_
    (refine go ?_)
    have hmW : most ≤ (insF f' wl).length := by omega
    have htl : ((insF f' wl).take most).length = most := by rw [List.length_take]; omega
    refine K_ent (Ent.pick [1] rfl) ?_
    refine K_ent (slc_cut (m := most) hmW (by omega) _) ?_
    rw [show slc 34 5 (.slice (some ⟨ba, oa, none⟩) most wc) most (((insF f' wl).flatMap fcell).take (most * 5)) = ws (.slice (some ⟨ba, oa, none⟩) most wc) ((insF f' wl).take most) from by unfold ws; rw [htl, (flat_split (insF f' wl) most hmW).1]]
    refine K_ent (Ent.pick [1, 0] rfl) ?_
    rw [show ((lost : Int) + 1) = ((lost + 1 : Nat) : Int) from by omega]
    refine K_ent (rt_c br nodes most (sent + 1) (lost + 1) (.slice (some ⟨ba, oa, none⟩) most wc) ((insF f' wl).take most) M' _) ?_
    have hD2 := hR.put (lost' := lost + 1) (L' := .slice (some ⟨ba, oa, none⟩) most wc) (m := most) hk hsub hbin (by rw [hbn]; exact hb) (by rw [htl]; exact Nat.le_refl _) (by omega)
    refine K_fallEnd hE Try.func44 rfl _ rfl ⟨_, hD2, by
      simp only [RefD.a, NA.fresh, hwayl]
      rw [if_pos (by omega), List.map_take, insF_map, hfa], rfl⟩ (Ent.fin [0, 1] 1 rfl rfl)
  · intro hle
    refine K_ent (rt_c br nodes most (sent + 1) lost _ (insF f' wl) M' _) ?_
    have hD2 := hR.put (lost' := lost) (L' := .slice wa (insF f' wl).length wc) (m := (insF f' wl).length) hk hsub hbin (by rw [hbn]; exact hb) (by rw [List.take_length]; simp only; omega) (by omega)
    rw [List.take_length] at hD2
    refine K_fallEnd hE Try.func44 rfl _ rfl ⟨_, hD2, by
      simp only [RefD.a, NA.fresh, hwayl]
      rw [if_neg (by omega), insF_map, hfa], rfl⟩ (Ent.fin [0, 1] 1 rfl rfl)
theorem ROk.up {R : RefD} {k k' : Nat} (h : ROk R k) (hk : k ≤ k') (hk' : k' ≤ 1000000) : ROk R k' :=
  { h with sent := Nat.le_trans h.sent hk, lost := Nat.le_trans h.lost hk, kk := hk' }
set_option maxRecDepth 20000 in
theorem RSend_any (br k : Nat) (R : RefD) (hR : ROk R k) (hk : k + 1 ≤ 1000000) (A : HP) (src dst due : Int) (bv : Value) (b : List UInt8) (hv : Vw A bv b.length (bV b)) (hb : b.length ≤ 9223372036854775807) :
    Ctr Try.prog 32 [ptr br, .int .i64 src, .int .i64 dst, .int .i64 due, bv] [rt br R, A]
      (fun v H => ∃ R', ROk R' (k + 1) ∧ R'.a = (R.a.send src dst due b).2 ∧ v = .int .i64 (R.a.send src dst due b).1 ∧ H = [rt br R', A]) := by
  obtain ⟨nodes, most, sent, lost, L, wl, M⟩ := R
  obtain ⟨a0, c0, rfl⟩ := hv.shape
  refine Ctr.enter Try.func32 (by kernel_rfl) rfl Try.ntmps32 rfl rfl ?_
  intro G F R hE
  refine K_ent (rt_o _ _ _ _ _ _ _ _ _) ?_
  have hbad : ¬ ((0 ≤ src ∧ src < (nodes : Int)) ∧ (0 ≤ dst ∧ dst < (nodes : Int)) ∧ okMoment due ∧ b.length ≤ 20000) → (RefD.a ⟨nodes, most, sent, lost, L, wl, M⟩).send src dst due b = (1, RefD.a ⟨nodes, most, sent, lost, L, wl, M⟩) := fun h => if_neg h
  (refine go ?_)
  refine J_call [] rfl rfl rfl rfl (IsMoment_any due) rfl (fun _ _ _ _ _ => trivial) ?_
  rintro _ _ ⟨rfl, rfl⟩
  by_cases h3 : okMoment due
  case' pos => refine J_slot 13 (.bool true) rfl (congrArg Value.bool (decide_eq_true h3)) ?_
  case' neg => refine J_slot 13 (.bool false) rfl (congrArg Value.bool (decide_eq_false h3)) ?_
  all_goals repeat' (first | (with_reducible intro _hh) | refine go1 ?_ | refine J_fork ?_ ?_ | refine J_gsP rfl rfl rfl rfl ?_ ?_ | refine K_condP rfl rfl ?_ ?_)
  any_goals (
    rw [hbad (fun h => by first | exact absurd h.2.2.1 h3 | omega)] at hE
    refine K_ent (rt_c br nodes most sent lost _ wl M _) ?_
    refine K_return hE Try.func32 rfl _ rfl ⟨_, hR.up (Nat.le_succ _) hk, rfl, rfl, rfl⟩ (Ent.fin [0, 1] 0 rfl rfl))
  refine J_ent (Ent.pick [0, 1, 2] rfl) ?_
  refine J_ent (rt_c br nodes most sent lost L wl M _) ?_
  have hgood : (RefD.a ⟨nodes, most, sent, lost, L, wl, M⟩).send src dst due b = (0, (RefD.a ⟨nodes, most, sent, lost, L, wl, M⟩).fresh ⟨0, src, dst, due, b⟩) := if_pos ⟨⟨by omega, by simp only [RefD.a]; omega⟩, ⟨by omega, by simp only [RefD.a]; omega⟩, h3, by omega⟩
  rw [hgood] at hE
  refine J_call [0, 1] rfl rfl rfl rfl (rfresh_any br k _ hR hk A ⟨0, src, dst, due, .slice a0 b.length c0, b⟩ hv.right (by simp only; omega)) rfl (fun _ _ _ _ _ => trivial) ?_
  rintro _ _ ⟨R', hR', ha, rfl⟩
  (refine go ?_)
  refine K_return hE Try.func32 rfl _ rfl ⟨_, hR', ha, rfl, rfl⟩ (Ent.fin [0, 1] 0 rfl rfl)
set_option maxRecDepth 20000 in
theorem RDouble_any (br k : Nat) (R : RefD) (hR : ROk R k) (hk : k + 1 ≤ 1000000) (i due : Int) :
    Ctr Try.prog 35 [ptr br, .int .i64 i, .int .i64 due] [rt br R]
      (fun v H => ∃ R', ROk R' (k + 1) ∧ R'.a = (R.a.double i due).2 ∧ v = .int .i64 (R.a.double i due).1 ∧ H = [rt br R']) := by
  obtain ⟨nodes, most, sent, lost, L, wl, M⟩ := R
  have hlen := hR.len
  have hmo := hR.most
  simp only at hlen hmo
  refine Ctr.enter Try.func35 (by kernel_rfl) rfl Try.ntmps35 rfl rfl ?_
  intro G F R hE
  refine K_ent (rt_o _ _ _ _ _ _ _ _ _) ?_
  refine K_shape 1 rfl ?_
  rintro wa wc rfl
  have hal : (RefD.a ⟨nodes, most, sent, lost, .slice wa wl.length wc, wl, M⟩).way.length = wl.length := by simp [RefD.a]
  repeat' (first | (with_reducible intro _hh) | refine go1 ?_ | refine J_fork ?_ ?_ | refine J_gsP rfl rfl rfl rfl ?_ ?_ | refine K_condP rfl rfl ?_ ?_)
  case' refine_2.refine_2 =>
    refine J_call [] rfl rfl rfl rfl (IsMoment_any due) rfl (fun _ _ _ _ _ => trivial) ?_
    rintro _ _ ⟨rfl, rfl⟩
    by_cases h3 : okMoment due
    case' pos => refine J_slot 21 (.bool true) rfl (congrArg Value.bool (decide_eq_true h3)) ?_
    case' neg => refine J_slot 21 (.bool false) rfl (congrArg Value.bool (decide_eq_false h3)) ?_
    all_goals repeat' (first | (with_reducible intro _hh) | refine go1 ?_ | refine J_fork ?_ ?_ | refine J_gsP rfl rfl rfl rfl ?_ ?_ | refine K_condP rfl rfl ?_ ?_)
  case' pos =>
    obtain ⟨q, rfl⟩ := Int.eq_ofNat_of_zero_le (a := i) (by omega)
    have hq : q < wl.length := by omega
    obtain ⟨x, hx⟩ : ∃ x, wl[q]? = some x := ⟨wl[q], by simp⟩
    have hxm := List.mem_of_getElem? hx
    have hbi := hR.vs x hxm
    obtain ⟨va, vc, hxv, _⟩ := hbi.shape
    have hdb : (RefD.a ⟨nodes, most, sent, lost, .slice wa wl.length wc, wl, M⟩).double q due = (0, (RefD.a ⟨nodes, most, sent, lost, .slice wa wl.length wc, wl, M⟩).fresh { x.a with due := due }) := by
      unfold NA.double; rw [hal, if_pos (by unfold laterE; rw [if_neg (fun h => h ⟨by omega, by omega⟩), if_neg (fun h => h h3)])]
      simp [RefD.a, List.getD_eq_getElem?_getD, hx]
    rw [hdb] at hE
    refine J_sat fun w hw => ?_
    have hvw : Vw (ws (.slice wa wl.length wc) wl) (.slice wa wl.length wc) wl.length (wl.flatMap fcell) := by
      obtain ⟨h1, _, hA⟩ := hw.getA (i := 1) rfl
      exact Vw.of_slc _ _ _ _ _ ⟨h1, hA⟩
    clear hw w
    obtain ⟨ba, oa, cc, hsl⟩ := hvw.some (by intro e; have := congrArg List.length e; rw [chunk_len fcell_len, List.length_nil] at this; omega)
    simp only [Value.slice.injEq, true_and] at hsl
    obtain ⟨rfl, rfl⟩ := hsl
    refine J_at (U := tab) q 5 rfl rfl rfl rfl rfl rfl rfl rfl hq ?_
    refine J_loadElem (U := tab) (es := fcell x) 1 (q * 5) rfl rfl rfl hvw rfl (fcell_get hx) rfl rfl rfl ?_
    refine J_alloc (U := tab) rfl rfl rfl (fun _ _ _ => trivial) ?_
    intro bf
    obtain ⟨f, hf⟩ : ∃ f : Fl, f = ⟨x.num, x.src, x.dst, due, x.v, x.bs⟩ := ⟨_, rfl⟩
    have hfc : fcell f = [.int .i64 x.num, .int .i64 x.src, .int .i64 x.dst, .int .i64 due, x.v] := by rw [hf]; rfl
    rw [hxv] at hfc
    have hfx : fcell x = [.int .i64 x.num, .int .i64 x.src, .int .i64 x.dst, .int .i64 x.due, .slice va x.bs.length vc] := by unfold fcell; rw [hxv]
    rw [hfx]
    (refine go ?_)
    refine J_loadElem (U := tab) (es := fcell f) (o := 0) (nn := 1) (cap := 1) (cs := fcell f) 0 0 rfl rfl rfl (Vw.pts (by rw [hfc]; rfl)) rfl fcell_get0 rfl rfl rfl ?_
    refine J_ent (Ent.pick [1, 2, 3] rfl) ?_
    refine J_ent (rt_c br nodes most sent lost (.slice (some ⟨ba, oa, none⟩) wl.length wc) wl M _) ?_
    have hfa : f.a = { x.a with due := due } := by rw [hf]; rfl
    refine J_call [0, 1] rfl rfl rfl rfl (rfresh_any br k _ hR hk (pts bf _) f (by rw [hf]; exact (hbi.view _).left) (by rw [hf]; exact hR.bytes x hxm)) rfl (fun _ _ _ _ _ => trivial) ?_
    rintro _ _ ⟨R', hR', ha, rfl⟩
    rw [hfa] at ha
    (refine go ?_)
    refine K_return hE Try.func35 rfl _ rfl ⟨_, hR', ha, rfl, rfl⟩ (Ent.fin [0] 1 rfl rfl)
  case' neg =>
    have hle : laterE wl.length i due = 1 := by unfold laterE; rw [if_neg (fun h => h ⟨by omega, by omega⟩), if_pos h3]
  case' refine_1 =>
    have hle : laterE wl.length i due = 4 := by unfold laterE; rw [if_pos (by omega)]
  case' refine_2.refine_1 =>
    have hle : laterE wl.length i due = 4 := by unfold laterE; rw [if_pos (by omega)]
  all_goals (
    have hdb : (RefD.a ⟨nodes, most, sent, lost, .slice wa wl.length wc, wl, M⟩).double i due = (laterE wl.length i due, RefD.a ⟨nodes, most, sent, lost, .slice wa wl.length wc, wl, M⟩) := by unfold NA.double; rw [hal, if_neg (by rw [hle]; decide)]
    rw [hdb, hle] at hE
    refine K_ent (rt_c br nodes most sent lost _ wl M _) ?_
    refine K_return hE Try.func35 rfl _ rfl ⟨_, hR.up (Nat.le_succ _) hk, rfl, rfl, rfl⟩ (Ent.fin [0] 0 rfl rfl))
end Go.Proofs.Ytngmcoopgbflaaa
