/- net, part j: Lose, Hold. -/
import Derived.Test.YtngmcoopgbflaaaNi
set_option linter.unusedVariables false
set_option linter.unusedSimpArgs false
namespace Go.Proofs.Ytngmcoopgbflaaa
open Go Go.SL
attribute [local irreducible] J K Ctr Ends pts slc mapR mapI sbRow stock arrS

theorem NOk.sub {D : NetD} {k : Nat} (h : NOk D k) {W' : List Fl} (hs : W'.Sublist D.wl) (way' : Value) : NOk ⟨D.nodes, D.most, D.sent, D.lost, way', W'⟩ k :=
  ⟨h.nodes, h.most, Nat.le_trans hs.length_le h.len, h.srt.sublist (hs.map _), h.sent, h.lost, fun x hx => h.nums x (hs.subset hx), h.nodup.sublist (hs.map _), fun x hx => h.bytes x (hs.subset hx), fun x hx => h.vs x (hs.subset hx), h.kk⟩
theorem perm_erase {α : Type} {l : List α} {q : Nat} {x : α} (h : l[q]? = some x) : (x :: l.eraseIdx q).Perm l := by
  induction l generalizing q with
  | nil => simp at h
  | cons y l ih =>
    cases q with
    | zero => simp at h; subst h; exact List.Perm.refl _
    | succ q =>
      simp at h
      exact (List.Perm.swap _ _ _).trans ((ih h).cons y)
/-- One put back with another moment. -/
theorem NOk.hold {D : NetD} {k : Nat} (h : NOk D k) {q : Nat} {x : Fl} (hx : D.wl[q]? = some x) {f : Fl} (h1 : f.num = x.num) (h2 : f.bs = x.bs) (h3 : f.v = x.v) {W' : List Fl} (hp : W'.Perm (f :: D.wl.eraseIdx q)) (ha : W'.map Fl.a = insA f.a ((D.wl.eraseIdx q).map Fl.a)) (way' : Value) :
    NOk ⟨D.nodes, D.most, D.sent, D.lost, way', W'⟩ k := by
  have hxm := List.mem_of_getElem? hx
  have hs : (D.wl.eraseIdx q).Sublist D.wl := List.eraseIdx_sublist _ _
  have hpe := perm_erase hx
  have hmem : ∀ y ∈ W', y = f ∨ y ∈ D.wl.eraseIdx q := fun y hy => by simpa using hp.mem_iff.1 hy
  have hnd : (x.num :: (D.wl.eraseIdx q).map Fl.num).Nodup := by
    have : (x.num :: (D.wl.eraseIdx q).map Fl.num).Perm (D.wl.map Fl.num) := by simpa using hpe.map Fl.num
    exact this.nodup_iff.2 h.nodup
  have hne := (List.nodup_cons.1 hnd).1
  refine ⟨h.nodes, h.most, ?_, ?_, h.sent, h.lost, ?_, ?_, ?_, ?_, h.kk⟩
  · have e1 : W'.length = (D.wl.eraseIdx q).length + 1 := by rw [hp.length_eq]; simp
    have e2 : (D.wl.eraseIdx q).length + 1 = D.wl.length := by have := hpe.length_eq; simpa using this
    simp only; rw [e1, e2]; exact h.len
  · simp only
    rw [ha]
    refine insA_sorted (h.srt.sublist (hs.map _)) fun z hz => ?_
    obtain ⟨y, hy, rfl⟩ := List.mem_map.1 hz
    have hyn : y.num ≠ f.num := fun e => hne (List.mem_map.2 ⟨y, hy, by rw [e, h1]⟩)
    unfold ltA Fl.a
    simp only
    omega
  · intro y hy
    rcases hmem y hy with rfl | hy
    · rw [h1]; exact h.nums x hxm
    · exact h.nums y (hs.subset hy)
  · have : (W'.map Fl.num).Perm (f.num :: (D.wl.eraseIdx q).map Fl.num) := by simpa using hp.map Fl.num
    simp only
    refine this.nodup_iff.2 ?_
    rw [h1]; exact hnd
  · intro y hy
    rcases hmem y hy with rfl | hy
    · rw [h2]; exact h.bytes x hxm
    · exact h.bytes y (hs.subset hy)
  · intro y hy
    rcases hmem y hy with rfl | hy
    · rw [h2, h3]; exact h.vs x hxm
    · exact h.vs y (hs.subset hy)
def NA.lose (A : NA) (i : Int) : Int × NA := if 0 ≤ i ∧ i < (A.way.length : Int) then (0, { A with way := A.way.eraseIdx i.toNat }) else (4, A)
def NA.hold (A : NA) (i due : Int) : Int × NA := if laterE A.way.length i due = 0 then (0, { A with way := insA { (A.way.getD i.toNat ⟨0, 0, 0, 0, []⟩) with due := due } (A.way.eraseIdx i.toNat) }) else (laterE A.way.length i due, A)
theorem map_erase {α β : Type} (g : α → β) (l : List α) (q : Nat) : (l.eraseIdx q).map g = (l.map g).eraseIdx q := by rw [← map_eraseIdx']
set_option maxRecDepth 20000 in
theorem Lose_any (bn k : Nat) (D : NetD) (hD : NOk D k) (i : Int) :
    Ctr Try.prog 20 [ptr bn, .int .i64 i] [nt bn D]
      (fun v H => ∃ D', NOk D' k ∧ D'.a = (D.a.lose i).2 ∧ v = .int .i64 (D.a.lose i).1 ∧ H = [nt bn D']) := by
  obtain ⟨nodes, most, sent, lost, way, wl⟩ := D
  have hlen := hD.len
  have hmo := hD.most
  simp only at hlen hmo
  refine Ctr.enter Try.func20 (by kernel_rfl) rfl Try.ntmps20 rfl rfl ?_
  intro G F R hE
  refine K_ent (nt_o _ _ _ _ _ _ _ _) ?_
  refine K_shape 1 rfl ?_
  rintro wa wc rfl
  (refine go ?_)
  refine J_call [0] rfl rfl rfl rfl (at_any bn nodes most sent lost wa wl.length wc i) rfl (fun _ _ _ _ _ => trivial) ?_
  rintro _ _ ⟨rfl, rfl⟩
  have hal : (NetD.a ⟨nodes, most, sent, lost, .slice wa wl.length wc, wl⟩).way.length = wl.length := by simp [NetD.a]
  by_cases h1 : 0 ≤ i ∧ i < (wl.length : Int)
  case' neg =>
    have hdb : (NetD.a ⟨nodes, most, sent, lost, .slice wa wl.length wc, wl⟩).lose i = (4, NetD.a ⟨nodes, most, sent, lost, .slice wa wl.length wc, wl⟩) := by unfold NA.lose; rw [hal, if_neg h1]
    rw [hdb] at hE
    refine J_slot 7 (.bool false) rfl (congrArg Value.bool (decide_eq_false h1)) ?_
    (refine go ?_)
    refine K_ent (nt_c bn nodes most sent lost _ wl _) ?_
    refine K_return hE Try.func20 rfl _ rfl ⟨_, hD, rfl, rfl, rfl⟩ (Ent.fin [0] 0 rfl rfl)
  obtain ⟨q, rfl⟩ := Int.eq_ofNat_of_zero_le (a := i) h1.1
  have hq : q < wl.length := by omega
  obtain ⟨x, hx⟩ : ∃ x, wl[q]? = some x := ⟨wl[q], by simp⟩
  have hdb : (NetD.a ⟨nodes, most, sent, lost, .slice wa wl.length wc, wl⟩).lose q = (0, ⟨nodes, most, sent, lost, (wl.map Fl.a).eraseIdx q⟩) := by unfold NA.lose; rw [hal, if_pos h1]; rfl
  rw [hdb] at hE
  refine J_slot 7 (.bool true) rfl (congrArg Value.bool (decide_eq_true h1)) ?_
  (refine go ?_)
  refine J_call [1] rfl rfl rfl rfl (Delete_any (.slice wa wl.length wc) wl q hq hD.one (by omega)) rfl (fun _ _ _ _ _ => trivial) ?_
  rintro r _ rfl
  refine J_shape 0 rfl ?_
  rintro ra rc rfl
  (refine go ?_)
  have hel : (wl.eraseIdx q).length = wl.length - 1 := by rw [List.length_eraseIdx]; simp [hq]
  have hee : wl.take q ++ wl.drop (q + 1) = wl.eraseIdx q := (List.eraseIdx_eq_take_drop_succ _ _).symm
  rw [hee, show slc 34 5 (.slice ra (wl.length - 1) rc) (wl.length - 1) ((wl.eraseIdx q).flatMap fcell) = ws (.slice ra (wl.eraseIdx q).length rc) (wl.eraseIdx q) from by unfold ws; rw [hel]]
  refine K_ent (Ent.pick [2] rfl) ?_
  refine K_ent ((stock_out flB hx _).trans (Ent.drop _ _)) ?_
  refine K_ent (Ent.pick [2, 1, 0] rfl) ?_
  have hcl := nt_c bn nodes most sent lost (.slice ra (wl.eraseIdx q).length rc) (wl.eraseIdx q)
  rw [hel] at hcl
  rw [hel]
  refine K_ent (hcl _) ?_
  refine K_return hE Try.func20 rfl _ rfl ⟨_, hD.sub (List.eraseIdx_sublist _ _) _, by simp only [NetD.a, map_erase], rfl, rfl⟩ (Ent.fin [0] 0 rfl rfl)
set_option maxRecDepth 20000 in
theorem Hold_any (bn k : Nat) (D : NetD) (hD : NOk D k) (i due : Int) :
    Ctr Try.prog 14 [ptr bn, .int .i64 i, .int .i64 due] [nt bn D]
      (fun v H => ∃ D', NOk D' k ∧ D'.a = (D.a.hold i due).2 ∧ v = .int .i64 (D.a.hold i due).1 ∧ H = [nt bn D']) := by
  obtain ⟨nodes, most, sent, lost, way, wl⟩ := D
  have hlen := hD.len
  have hmo := hD.most
  simp only at hlen hmo
  refine Ctr.enter Try.func14 (by kernel_rfl) rfl Try.ntmps14 rfl rfl ?_
  intro G F R hE
  refine K_ent (nt_o _ _ _ _ _ _ _ _) ?_
  refine K_shape 1 rfl ?_
  rintro wa wc rfl
  (refine go ?_)
  refine J_call [0] rfl rfl rfl rfl (later_any bn nodes most sent lost wa wl.length wc i due) rfl (fun _ _ _ _ _ => trivial) ?_
  rintro _ _ ⟨rfl, rfl⟩
  (refine go ?_)
  have hal : (NetD.a ⟨nodes, most, sent, lost, .slice wa wl.length wc, wl⟩).way.length = wl.length := by simp [NetD.a]
  refine K_condP rfl rfl ?_ ?_
  · intro hne
    have hdb : (NetD.a ⟨nodes, most, sent, lost, .slice wa wl.length wc, wl⟩).hold i due = (laterE wl.length i due, NetD.a ⟨nodes, most, sent, lost, .slice wa wl.length wc, wl⟩) := by unfold NA.hold; rw [hal, if_neg hne]
    rw [hdb] at hE
    (refine go ?_)
    refine K_ent (nt_c bn nodes most sent lost _ wl _) ?_
    refine K_return hE Try.func14 rfl _ rfl ⟨_, hD, rfl, rfl, rfl⟩ (Ent.fin [0] 0 rfl rfl)
  · intro he
    have he' : laterE wl.length i due = 0 := Decidable.not_not.1 he
    obtain ⟨⟨hi0, hil⟩, hmo2⟩ := laterE_0 he'
    obtain ⟨q, rfl⟩ := Int.eq_ofNat_of_zero_le (a := i) hi0
    have hq : q < wl.length := by omega
    obtain ⟨x, hx⟩ : ∃ x, wl[q]? = some x := ⟨wl[q], by simp⟩
    have hxm := List.mem_of_getElem? hx
    have hdb : (NetD.a ⟨nodes, most, sent, lost, .slice wa wl.length wc, wl⟩).hold q due = (0, ⟨nodes, most, sent, lost, insA { x.a with due := due } ((wl.map Fl.a).eraseIdx q)⟩) := by
      unfold NA.hold; rw [hal, if_pos he']
      simp [NetD.a, List.getD_eq_getElem?_getD, hx]
    rw [hdb] at hE
    refine K_slcF 1 rfl (by omega) ?_
    rintro ba oa ca hsl _ _ hvw
    simp only [Value.slice.injEq, true_and] at hsl
    obtain ⟨rfl, rfl⟩ := hsl
    obtain ⟨va, vc, hxv⟩ := hD.vs x hxm
    (refine go ?_)
    refine J_at (U := tab) q 5 rfl rfl rfl rfl rfl rfl rfl rfl hq ?_
    refine J_loadElem (U := tab) (es := fcell x) 1 (q * 5) rfl rfl rfl hvw rfl (fcell_get hx) rfl rfl rfl ?_
    refine J_alloc (U := tab) rfl rfl rfl (fun _ _ _ => trivial) ?_
    intro bf
    obtain ⟨f, hf⟩ : ∃ f : Fl, f = ⟨x.num, x.src, x.dst, due, x.v, x.bs⟩ := ⟨_, rfl⟩
    have hfc : fcell f = [.int .i64 x.num, .int .i64 x.src, .int .i64 x.dst, .int .i64 due, x.v] := by rw [hf]; rfl
    rw [hxv] at hfc
    have hfx : fcell x = [.int .i64 x.num, .int .i64 x.src, .int .i64 x.dst, .int .i64 x.due, .slice va x.bs.length vc] := by unfold fcell; rw [hxv]
    have hfa : f.a = { x.a with due := due } := by rw [hf]; rfl
    rw [hfx]
    (refine go ?_)
    refine J_call [2] rfl rfl rfl rfl (Delete_any (.slice (some ⟨ba, oa, none⟩) wl.length wc) wl q hq hD.one (by omega)) rfl (fun _ _ _ _ _ => trivial) ?_
    rintro r _ rfl
    refine J_shape 0 rfl ?_
    rintro ra rc rfl
    (refine go ?_)
    have hel : (wl.eraseIdx q).length = wl.length - 1 := by rw [List.length_eraseIdx]; simp [hq]
    have hee : wl.take q ++ wl.drop (q + 1) = wl.eraseIdx q := (List.eraseIdx_eq_take_drop_succ _ _).symm
    refine J_loadElem (U := tab) (es := fcell f) (o := 0) (nn := 1) (cap := 1) (cs := fcell f) 1 0 rfl rfl rfl (Vw.pts (by rw [hfc]; rfl)) rfl fcell_get0 rfl rfl rfl ?_
    rw [hee, show slc 34 5 (.slice ra (wl.length - 1) rc) (wl.length - 1) ((wl.eraseIdx q).flatMap fcell) = ws (.slice ra (wl.length - 1) rc) (wl.eraseIdx q) from by unfold ws; rw [hel]]
    have hsub : (wl.eraseIdx q).Sublist wl := List.eraseIdx_sublist _ _
    refine J_call [2, 0] rfl rfl rfl rfl (put_any bn nodes most sent lost (.slice ra (wl.length - 1) rc) (wl.eraseIdx q) f (hD.srt.sublist (hsub.map _)) (fun y hy => hD.one y (hsub.subset hy)) (by rw [hf]; simp only; rw [hxv]; rfl) (by rw [hel]; omega)) rfl (fun _ _ _ _ _ => trivial) ?_
    rintro _ _ ⟨way', W', ⟨hperm, hmap⟩, rfl⟩
    refine J_shape 1 rfl ?_
    rintro wa2 wc2 rfl
    (refine go ?_)
    refine K_ent (Ent.pick [3] rfl) ?_
    refine K_ent (stock_perm flB (perm_erase hx).symm _) ?_
    rw [show stock flB (x :: wl.eraseIdx q) = stock flB (f :: wl.eraseIdx q) from by unfold stock; simp only [List.map_cons]; rw [show flB x = flB f from by rw [hf]; rfl]]
    refine K_ent (stock_perm flB hperm.symm _) ?_
    refine K_ent (Ent.pick [1, 2, 0] rfl) ?_
    refine K_ent (nt_c bn nodes most sent lost (.slice wa2 W'.length wc2) W' _) ?_
    have hD2 := hD.hold (way' := .slice wa2 W'.length wc2) hx (f := f) (by rw [hf]) (by rw [hf]) (by rw [hf]) hperm hmap
    refine K_return hE Try.func14 rfl _ rfl ⟨_, hD2, by simp only [NetD.a]; rw [hmap, map_erase, hfa], rfl, rfl⟩ (Ent.fin [0] 1 rfl rfl)
end Go.Proofs.Ytngmcoopgbflaaa
