/- Texts of one claim, joined: Rs, Rt, Rw, Ru, Rx, Rz, Sa, Sb. -/
import Derived.Test.YtpdmbmnhgcnelaaQHeads8
import Derived.Test.YtpdmbmnhgcnelaaQHeads9
/- the reference's disk, part s: Write. -/
set_option linter.unusedVariables false
set_option linter.unusedSimpArgs false
namespace Go.Proofs.Ytpdmbmnhgcnelaa
open Go Go.SL
attribute [local irreducible] J K Ctr Ends pts slc mapR mapI sbRow stock arrS

theorem mUsed_open (br k : Nat) (D : RDk) (m : RM) (hR : RR D m) (hM : MOk m k) : Ctr Try.prog 37 [ptr br] (rdL br D) (fun v H => v = .int .i64 (m.used : Int) ∧ H = rdL br D) :=
  Ctr.conv (mUsed_any br k D m hR hM) (by have := Ent.resep (rdL br D) []; simpa [rd] using this) (fun v H ⟨h2, h3⟩ => ⟨rdL br D, ⟨h2, rfl⟩, by subst h3; have := Ent.unsep (rdL br D) []; simpa [rd] using this⟩)
theorem RR.write {D : RDk} {m : RM} (h : RR D m) {arrs' : Arrs} (hs : ∀ x ∈ D.arrs, x ∈ arrs') {r at_ : Nat} {v1 v2 w2 : Value} {n b : List UInt8} (h1 : BIn arrs' v1 n) (h2 : BIn arrs' v2 b) :
    RR { D with nowL := D.nowL.set r v1, arrs := arrs', wrs := w2, wl := D.wl ++ [(r, at_, v2)] } { m with now := m.now.set r n, wr := m.wr ++ [(r, at_, b)] } :=
  ⟨h.room, h.down, h.nxt.mono hs, (h.now.mono fun _ _ hh => hh.mono hs).set r h1, h.sure.mono fun _ _ hh => hh.mono hs, h.l, h.sts, (h.wr.mono fun _ _ hh => ⟨hh.1, hh.2.1, hh.2.2.mono hs⟩).snoc ⟨rfl, rfl, h2⟩⟩
def wOk (name : ByteArray) (at_ : Int) (n : Nat) : Bool := isName name && decide (0 ≤ at_ ∧ at_ ≤ 1048576 ∧ (n : Int) ≤ 1048576 - at_)
set_option maxRecDepth 20000 in
theorem mWrite_any (br k : Nat) (D : RDk) (m : RM) (hR : RR D m) (hM : MOk m k) (name : ByteArray) (hs : name.size ≤ 9223372036854775807) (at_ : Int) (ha : -9223372036854775808 ≤ at_ ∧ at_ ≤ 9223372036854775807)
    (X : HP) (bv : Value) (b : List UInt8) (hv : Vw X bv b.length (bV b)) (hb : b.length ≤ 9223372036854775807) :
    Ctr Try.prog 13 [ptr br, .string name, .int .i64 at_, bv] [rd br D, X] (fun v H => ∃ D', RR D' (m.write (wOk name at_ b.length) name at_.toNat b).2 ∧ v = .int .i64 ((m.write (wOk name at_ b.length) name at_.toNat b).1 : Int) ∧ H = [rd br D', X]) := by
  obtain ⟨a0, c0, rfl⟩ := hv.shape
  refine Ctr.enter Try.func13 (by kernel_rfl) rfl Try.ntmps13 rfl rfl ?_
  intro G F R hE
  (refine go ?_)
  refine J_call [] rfl rfl rfl rfl (mIsName_any name hs) rfl (fun _ _ _ _ _ => trivial) ?_
  rintro _ _ ⟨rfl, rfl⟩
  have hno : wOk name at_ b.length = false → m.write (wOk name at_ b.length) name at_.toNat b = (1, m) := fun h => by unfold RM.write; rw [if_pos h]
  cases hnm : isName name with
  | false =>
    rw [hno (by unfold wOk; rw [hnm]; rfl)] at hE
    (refine go ?_)
    refine K_return hE Try.func13 rfl _ rfl ⟨_, hR, rfl, rfl⟩ (Ent.fin [0, 1] 0 rfl rfl)
  | true =>
    repeat' (first | (with_reducible intro _hh) | refine go1 ?_ | refine J_fork ?_ ?_ | refine J_gsP rfl rfl rfl rfl ?_ ?_ | refine K_condP rfl rfl ?_ ?_)
    any_goals (
      rw [hno (by unfold wOk; rw [hnm, Bool.true_and]; exact decide_eq_false (by omega))] at hE
      refine K_return hE Try.func13 rfl _ rfl ⟨_, hR, rfl, rfl⟩ (Ent.fin [0, 1] 0 rfl rfl))
    have hok : wOk name at_ b.length = true := by unfold wOk; rw [hnm, Bool.true_and]; exact decide_eq_true (by omega)
    rw [hok] at hE
    refine J_call [0] rfl rfl rfl rfl (mMay_any br D m hR) rfl (fun _ _ _ _ _ => trivial) ?_
    rintro _ _ ⟨D', hD', rfl, rfl⟩
    by_cases hz : m.may.1 = 0
    case neg =>
      have hm : m.write true name at_.toNat b = m.may := by unfold RM.write; rw [if_neg (by simp), if_pos hz]
      rw [hm] at hE
      (refine go ?_)
      refine K_condP rfl rfl ?_ ?_
      · intro _
        (refine go ?_)
        refine K_return hE Try.func13 rfl _ rfl ⟨_, hD', rfl, rfl⟩ (Ent.fin [0, 1] 0 rfl rfl)
      intro h; exact absurd (by simpa using h) hz
    have hMm := hM.may
    rw [hz]
    have hm1 : m.write true name at_.toNat b = match m.may.2.find name with
        | none => (4, m.may.2)
        | some f => if m.may.2.room < (m.may.2.used : Int) - (m.may.2.file f).length + (wroteL (m.may.2.file f) at_.toNat b).length then (3, m.may.2)
          else (0, { m.may.2 with now := m.may.2.now.set f (wroteL (m.may.2.file f) at_.toNat b), wr := m.may.2.wr ++ [(f, at_.toNat, b)] }) := by
      unfold RM.write; rw [if_neg (by simp), if_neg (fun h => h hz)]; rfl
    rw [hm1] at hE
    generalize m.may.2 = m1 at hD' hMm hE
    (refine go ?_)
    refine J_call [0] rfl rfl rfl rfl (mFind_any br k D' m1 hD' hMm name) rfl (fun _ _ _ _ _ => trivial) ?_
    rintro _ _ ⟨rfl, rfl⟩
    cases hfd : m1.find name with
    | none =>
      rw [hfd] at hE
      simp only [fI]
      (refine go ?_)
      refine K_return hE Try.func13 rfl _ rfl ⟨_, hD', rfl, rfl⟩ (Ent.fin [0, 1] 0 rfl rfl)
    | some r =>
    rw [hfd] at hE
    simp only [fI]
    simp only at hE
    have hwk := hMm.wk
    have hkk := hMm.kk
    have hwl' : m1.wr.length = D'.wl.length := hD'.wr.1.symm
    have hus := mUsed_open br k D' m1 hD' hMm
    have hub : m1.used ≤ k * 1048576 := used_bound hMm.now _ _ hMm.ll
    obtain ⟨bv2, hbv, hbs, hbl⟩ := hD'.file hMm (RM.find_lt hMm hfd)
    obtain ⟨p, rfl⟩ := Int.eq_ofNat_of_zero_le (a := at_) (by omega)
    simp only [Int.toNat_natCast] at hE
    obtain ⟨room, now, sure, lv, sts, wrs, nxt, down, nowL, sureL, stsL, wl, arrs, nrows⟩ := D'
    simp only at hbv hbs hwl'
    have hrn := (List.getElem?_eq_some_iff.1 hbv).1
    have hroom : room = m1.room := hD'.room
    have hwrr := hD'.wr
    simp only at hwrr
    have hwrt := fun r at_ v1 n v2 w2 arrs' hs h1 h2 => RR.write (D := ⟨room, now, sure, lv, sts, wrs, nxt, down, nowL, sureL, stsL, wl, arrs, nrows⟩) (r := r) (at_ := at_) (v1 := v1) (n := n) (v2 := v2) (w2 := w2) (b := b) (arrs' := arrs') hD' hs h1 h2
    generalize hbsd : m1.file r = bs at hbs hbl hE
    obtain ⟨ba, bc, rfl, hbc⟩ := hbs.shape
    refine J_ent (rd_o _ _ _ _ _ _ _ _ _ _ _ _ _ _ _ _) ?_
    refine J_shape 3 rfl ?_
    rintro na nc rfl
    refine J_slcVw 3 rfl ?_
    intro hvn
    obtain ⟨nb, no, nc', hns⟩ := hvn.some (by rw [← List.length_pos_iff]; omega)
    simp only [Value.slice.injEq, true_and] at hns
    obtain ⟨rfl, rfl⟩ := hns
    refine J_shape 6 rfl ?_
    rintro wa wc rfl
    (refine go ?_)
    refine J_at1 (U := tab) r rfl rfl rfl rfl rfl rfl rfl rfl hrn ?_
    refine J_loadAt (U := tab) 3 r rfl rfl rfl hvn rfl hbv rfl rfl ?_
    (refine go ?_)
    refine J_ent (Ent.pick [1, 7] rfl) ?_
    refine J_ent (Ent.join _ _ _) ?_
    have hwl := wroteL_len bs p b
    refine J_call [0] rfl rfl rfl rfl (Wrote_ref (star (arrS 5 arrs) X) _ _ bs b p (hbs.view _).left hv.right (by omega)) rfl (fun _ _ _ _ _ => trivial) ?_
    rintro rv _ rfl
    refine J_shape 0 rfl ?_
    rintro wa2 wc2 rfl
    refine J_ent (Ent.pick [1] rfl) ?_
    refine J_ent (Ent.part _ _ _) ?_
    (refine go ?_)
    refine K_drawA (fun w => Sat G w ([pts br (cl [.int .i64 room, .slice (some ⟨nb, no, none⟩) nowL.length nc, sure, lv, sts, .slice wa wl.length wc, nxt, .bool down] 61), slc 22 1 (.slice (some ⟨nb, no, none⟩) nowL.length nc) nowL.length nowL])) (.st 0 (.st 2 (.st 3 (.st 4 (.st 5 (.st 6 (.st 7 (.st 8 (.st 9 (.st 11 (.st 12 (.st 14 (.st 15 (.st 16 (.st 17 (.act 1 (.st 10 (.st 13 (.st 18 .nil))))))))))))))))))) rfl (by kernel_rfl) (by kernel_rfl) (by kernel_rfl) (fun w hw => hw.ent (Ent.pickOnly ([3, 5]) rfl)) ?_
    (refine go ?_)
    refine J_at1 (U := tab) r rfl rfl rfl rfl rfl rfl rfl rfl hrn ?_
    refine J_loadAtS (U := tab) 1 r rfl rfl rfl hvn rfl hbv rfl rfl ?_
    (refine go ?_)
    refine J_call [3, 0, 4, 5, 6, 7, 8] rfl rfl rfl rfl (hus) rfl (fun _ _ w hp hw => by obtain ⟨_, rfl⟩ := hp; exact hw.ent (Ent.pickOnly [0, 3] rfl)) ?_
    rintro _ _ ⟨rfl, rfl⟩
    generalize m1.used = u at hub hE
    repeat' (first | (with_reducible intro _hh) | refine go1 ?_ | refine J_fork ?_ ?_ | refine J_gsP rfl rfl rfl rfl ?_ ?_ | refine K_condP rfl rfl ?_ ?_)
    · rw [if_pos (by omega)] at hE
      refine K_ent (rd_c br _ _ _ _ _ _ _ _ _ _ _ _ _ _ _) ?_
      refine K_return hE Try.func13 rfl _ rfl ⟨_, hD', rfl, rfl⟩ (Ent.fin [0, 1] 1 rfl rfl)
    rw [if_neg (by omega)] at hE
    refine J_at1 (U := tab) r rfl rfl rfl rfl rfl rfl rfl rfl hrn ?_
    refine J_storeSlc (U := tab) (q := r) 3 (fun _ _ => trivial) rfl rfl rfl rfl rfl rfl rfl hrn rfl ?_
    (refine go ?_)
    refine J_buildSlice1 (U := tab) rfl rfl rfl rfl rfl rfl rfl rfl rfl (fun _ _ _ => trivial) ?_
    intro b1
    (refine go ?_)
    refine J_ent (slc_row 84 3 b1 0 0 [] [] _ rfl (Nat.le_refl _) (by simp)) ?_
    refine J_slcVw 7 rfl ?_
    intro hvw
    have honew : ∀ u ∈ wl.flatMap wcell, u.oneCell' = true := fun u hu => by
      obtain ⟨x, hx, hux⟩ := List.mem_flatMap.1 hu
      obtain ⟨ix, hix⟩ := List.getElem?_of_mem hx
      obtain ⟨_, _, _, _, hb5⟩ := hwrr.left hix
      obtain ⟨_, _, hs5, _⟩ := hb5.shape
      simp only [wcell, List.mem_cons, List.not_mem_nil, or_false] at hux
      rcases hux with rfl | rfl | rfl
      · rfl
      · rfl
      · rw [hs5]; rfl
    refine J_append (U := tab) (mm := wl.length) (news := wl.flatMap wcell) 0 7 rfl rfl rfl rfl rfl rfl rfl rfl rfl rfl rfl rfl hvw (by rw [chunk_len wcell_len]; rfl) honew (by omega) (by show _ * 40 ≤ _; omega) (fun _ => rfl) (fun _ _ _ => trivial) ?_
    intro v1
    rw [show (0 : Nat) + wl.length = wl.length from by omega, List.nil_append]
    refine J_shape 0 rfl ?_
    rintro a1 c1 rfl
    (refine go ?_)
    refine J_buildSlice1 (U := tab) rfl rfl rfl rfl rfl rfl rfl rfl rfl (fun _ _ _ => trivial) ?_
    intro b2
    (refine go ?_)
    refine J_ent (slc_row 5 1 b2 0 0 [] [] _ rfl (Nat.le_refl _) (by simp)) ?_
    refine J_append (U := tab) (mm := b.length) (news := bV b) 0 9 rfl rfl rfl rfl rfl rfl rfl rfl rfl rfl rfl rfl hv (by show _ = _ * 1; rw [bV_length]; omega) (bV_one b) (by omega) (by show _ * 1 ≤ _; omega) (fun _ => rfl) (fun _ _ _ => trivial) ?_
    intro v2
    rw [show (0 : Nat) + b.length = b.length from by omega, List.nil_append]
    refine J_shape 0 rfl ?_
    rintro a2 c2 rfl
    (refine go ?_)
    refine J_buildSlice1 (U := tab) (cs := wcell (r, p, .slice a2 b.length c2)) rfl rfl rfl rfl rfl rfl rfl rfl rfl (fun _ _ _ => trivial) ?_
    intro b3
    refine J_append (U := tab) (mm := 1) (news := wcell (r, p, .slice a2 b.length c2)) 2 0 rfl rfl rfl rfl rfl rfl rfl rfl rfl rfl rfl rfl (Vw.pts rfl) rfl (by simp [wcell, Value.oneCell']) (by omega) (by show _ * 40 ≤ _; omega) (fun _ => rfl) (fun _ _ _ => trivial) ?_
    intro v3
    rw [show wl.flatMap wcell ++ wcell (r, p, .slice a2 b.length c2) = (wl ++ [(r, p, Value.slice a2 b.length c2)]).flatMap wcell from by simp, show wl.length + 1 = (wl ++ [(r, p, Value.slice a2 b.length c2)]).length from by simp]
    refine J_shape 2 rfl ?_
    rintro a3 c3 rfl
    (refine go ?_)
    refine K_ent (Ent.pick [11, 4] rfl) ?_
    refine K_ent (Ent.join _ _ _) ?_
    refine K_open (arrS_slcO 5 _ _ _) ?_
    rintro arrs1 ⟨hbw, hsub1⟩
    refine K_ent (Ent.pick [2, 0] rfl) ?_
    refine K_ent (Ent.join _ _ _) ?_
    refine K_open (arrS_slcO 5 _ b _) ?_
    rintro arrs2 ⟨hbb, hsub2⟩
    refine K_ent (Ent.pick [3, 0, 4, 5, 6, 7, 2] rfl) ?_
    have hset : (nowL.set r (Value.slice wa2 (wroteL bs p b).length wc2)).length = nowL.length := by simp
    have hD2 := hwrt r p (Value.slice wa2 (wroteL bs p b).length wc2) (wroteL bs p b) (Value.slice a2 b.length c2) (Value.slice a3 (wl ++ [(r, p, Value.slice a2 b.length c2)]).length c3) arrs2 (fun x hx => hsub2 x (hsub1 x hx)) (hbw.mono hsub2) hbb
    have hcl := rd_c br room (Value.slice (some ⟨nb, no, none⟩) nowL.length nc) sure lv sts (Value.slice a3 (wl ++ [(r, p, Value.slice a2 b.length c2)]).length c3) nxt down (nowL.set r (Value.slice wa2 (wroteL bs p b).length wc2)) sureL stsL (wl ++ [(r, p, Value.slice a2 b.length c2)]) arrs2 nrows
    rw [hset] at hcl
    refine K_ent (hcl _) ?_
    refine K_return hE Try.func13 rfl _ rfl ⟨_, hD2, rfl, rfl⟩ (Ent.fin [0, 3] 2 rfl rfl)

end Go.Proofs.Ytpdmbmnhgcnelaa

/- the reference's disk, part t: Sync, Rename, Remove. -/
set_option linter.unusedVariables false
set_option linter.unusedSimpArgs false
namespace Go.Proofs.Ytpdmbmnhgcnelaa
open Go Go.SL
attribute [local irreducible] J K Ctr Ends pts slc mapR mapI sbRow stock arrS

theorem All2.filt {α β : Type} {q : α → β → Prop} {l : List α} {r : List β} (h : All2 q l r) {p1 : α → Bool} {p2 : β → Bool} (hp : ∀ x y, q x y → p1 x = p2 y) : All2 q (l.filter p1) (r.filter p2) := by
  induction l generalizing r with
  | nil =>
    have : r = [] := List.eq_nil_of_length_eq_zero h.1.symm
    subst this; exact All2.nil
  | cons x l ih =>
    cases r with
    | nil => exact absurd h.1 (by simp)
    | cons y r =>
      have h0 := h.2 0 x y rfl rfl
      have ht : All2 q l r := ⟨by have := h.1; simpa using this, fun i a b ha hb => h.2 (i + 1) a b (by simpa using ha) (by simpa using hb)⟩
      rw [List.filter_cons, List.filter_cons, hp x y h0]
      split
      · exact (ih ht).cons h0
      · exact ih ht
theorem RR.sync {D : RDk} {m : RM} (h : RR D m) {r : Nat} {v : Value} {b : List UInt8} (hv : BIn D.arrs v b) {w : Value} {wl' : List (Nat × Nat × Value)} (hw : All2 (fun x y => x.1 = y.1 ∧ x.2.1 = y.2.1 ∧ BIn D.arrs x.2.2 y.2.2) wl' (m.wr.filter fun x => !decide (x.1 = r))) :
    RR { D with sureL := D.sureL.set r v, wrs := w, wl := wl' } { m with sure := m.sure.set r b, wr := m.wr.filter fun x => !decide (x.1 = r) } :=
  ⟨h.room, h.down, h.nxt, h.now, h.sure.set r hv, h.l, h.sts, hw⟩
def keepW (r : Nat) (l : List (Nat × Nat × Value)) : List (Nat × Nat × Value) := l.filter fun x => !decide (x.1 = r)
theorem keepW_snoc {r i : Nat} {l : List (Nat × Nat × Value)} {x : Nat × Nat × Value} (hx : l[i]? = some x) (h : ¬ x.1 = r) : keepW r (l.take (i + 1)) = keepW r (l.take i) ++ [x] := by
  unfold keepW; rw [List.take_add_one, hx, Option.toList_some, List.filter_append]; simp [h]
theorem keepW_skip {r i : Nat} {l : List (Nat × Nat × Value)} {x : Nat × Nat × Value} (hx : l[i]? = some x) (h : x.1 = r) : keepW r (l.take (i + 1)) = keepW r (l.take i) := by
  unfold keepW; rw [List.take_add_one, hx, Option.toList_some, List.filter_append]; simp [h]
set_option maxRecDepth 20000 in
theorem mSync_any (br k : Nat) (D : RDk) (m : RM) (hR : RR D m) (hM : MOk m k) (name : ByteArray) (hs : name.size ≤ 9223372036854775807) :
    Ctr Try.prog 80 [ptr br, .string name] [rd br D] (fun v H => ∃ D', RR D' (m.sync (isName name) name).2 ∧ v = .int .i64 ((m.sync (isName name) name).1 : Int) ∧ H = [rd br D']) := by
  refine Ctr.enter Try.func80 (by kernel_rfl) rfl Try.ntmps80 rfl rfl ?_
  intro G F R hE
  (refine go ?_)
  refine J_call [] rfl rfl rfl rfl (mIsName_any name hs) rfl (fun _ _ _ _ _ => trivial) ?_
  rintro _ _ ⟨rfl, rfl⟩
  cases hnm : isName name with
  | false =>
    rw [hnm] at hE
    have hm : m.sync false name = (1, m) := by unfold RM.sync; rw [if_pos rfl]
    rw [hm] at hE
    (refine go ?_)
    refine K_return hE Try.func80 rfl _ rfl ⟨_, hR, rfl, rfl⟩ (Ent.fin [0] 0 rfl rfl)
  | true =>
    rw [hnm] at hE
    (refine go ?_)
    refine J_call [0] rfl rfl rfl rfl (mMay_any br D m hR) rfl (fun _ _ _ _ _ => trivial) ?_
    rintro _ _ ⟨D', hD', rfl, rfl⟩
    by_cases hz : m.may.1 = 0
    case neg =>
      have hm : m.sync true name = m.may := by unfold RM.sync; rw [if_neg (by simp), if_pos hz]
      rw [hm] at hE
      (refine go ?_)
      refine K_condP rfl rfl ?_ ?_
      · intro _
        (refine go ?_)
        refine K_return hE Try.func80 rfl _ rfl ⟨_, hD', rfl, rfl⟩ (Ent.fin [0] 0 rfl rfl)
      intro h; exact absurd (by simpa using h) hz
    have hMm := hM.may
    rw [hz]
    have hm1 : m.sync true name = match m.may.2.find name with
        | none => (4, m.may.2)
        | some f => (0, { m.may.2 with sure := m.may.2.sure.set f (m.may.2.file f), wr := m.may.2.wr.filter fun x => !decide (x.1 = f) }) := by
      unfold RM.sync; rw [if_neg (by simp), if_neg (fun h => h hz)]; rfl
    rw [hm1] at hE
    generalize m.may.2 = m1 at hD' hMm hE
    (refine go ?_)
    refine J_call [0] rfl rfl rfl rfl (mFind_any br k D' m1 hD' hMm name) rfl (fun _ _ _ _ _ => trivial) ?_
    rintro _ _ ⟨rfl, rfl⟩
    cases hfd : m1.find name with
    | none =>
      rw [hfd] at hE
      simp only [fI]
      (refine go ?_)
      refine K_return hE Try.func80 rfl _ rfl ⟨_, hD', rfl, rfl⟩ (Ent.fin [0] 0 rfl rfl)
    | some r =>
    rw [hfd] at hE
    simp only [fI]
    simp only at hE
    have hkk := hMm.kk
    have hwk := hMm.wk
    have hsl : m1.sure.length = m1.now.length := hMm.nl
    have hfl := RM.find_lt hMm hfd
    obtain ⟨bv2, hbv, hbs, hbl⟩ := hD'.file hMm hfl
    have hnl : D'.nowL.length = m1.now.length := hD'.now.1
    have hul : D'.sureL.length = m1.sure.length := hD'.sure.1
    have hwl' : D'.wl.length = m1.wr.length := hD'.wr.1
    have hwf : All2 (fun x y => x.1 = y.1 ∧ x.2.1 = y.2.1 ∧ BIn D'.arrs x.2.2 y.2.2) (keepW r D'.wl) (m1.wr.filter fun x => !decide (x.1 = r)) := All2.filt hD'.wr (fun x y h => by rw [h.1])
    have hwrr := hD'.wr
    obtain ⟨room, now, sure, lv, sts, wrs, nxt, down, nowL, sureL, stsL, wl, arrs, nrows⟩ := D'
    simp only at hbv hbs hwl' hnl hul hwf hwrr
    have hsyn := fun w => RR.sync (D := ⟨room, now, sure, lv, sts, wrs, nxt, down, nowL, sureL, stsL, wl, arrs, nrows⟩) (r := r) (w := w) hD' hbs hwf
    generalize hbsd : m1.file r = bs at hbs hbl hE
    obtain ⟨ba, bc, rfl, hbc⟩ := hbs.shape
    (refine go ?_)
    have hrn : r < nowL.length := by omega
    have hrs : r < sureL.length := by omega
    (refine K_ent (rd_o _ _ _ _ _ _ _ _ _ _ _ _ _ _ _ _) ?_)
    refine K_shape 3 rfl ?_
    rintro na nc rfl
    refine K_slcVw 3 rfl ?_
    intro hvn
    obtain ⟨nb, no, nc', hns⟩ := hvn.some (by rw [← List.length_pos_iff]; omega)
    simp only [Value.slice.injEq, true_and] at hns
    obtain ⟨rfl, rfl⟩ := hns
    refine K_shape 4 rfl ?_
    rintro ua uc rfl
    refine K_slcVw 4 rfl ?_
    intro hvu
    obtain ⟨ub, uo, uc', hus⟩ := hvu.some (by rw [← List.length_pos_iff]; omega)
    simp only [Value.slice.injEq, true_and] at hus
    obtain ⟨rfl, rfl⟩ := hus
    refine K_shape 6 rfl ?_
    rintro wa wc rfl
    refine K_drawA (fun w => Sat G w ([pts br (cl [.int .i64 room, .slice (some ⟨nb, no, none⟩) nowL.length nc, .slice (some ⟨ub, uo, none⟩) sureL.length uc, lv, sts, .slice wa wl.length wc, nxt, .bool down] 61), slc 22 1 (.slice (some ⟨nb, no, none⟩) nowL.length nc) nowL.length nowL])) (.st 0 (.st 1 (.st 2 (.st 3 (.st 4 (.st 5 (.st 6 (.st 7 (.st 8 (.st 9 (.st 10 (.st 11 (.st 12 (.act 13 .nil)))))))))))))) rfl (by kernel_rfl) (by kernel_rfl) (by kernel_rfl) (fun w hw => hw.ent (Ent.pickOnly ([0, 3]) rfl)) ?_
    (refine go ?_)
    refine J_at1 (U := tab) r rfl rfl rfl rfl rfl rfl rfl rfl hrn ?_
    refine J_loadAtS (U := tab) 1 r rfl rfl rfl hvn rfl hbv rfl rfl ?_
    (refine go ?_)
    refine J_at1 (U := tab) r rfl rfl rfl rfl rfl rfl rfl rfl hrs ?_
    refine J_storeSlc (U := tab) (q := r) 4 (fun _ _ => trivial) rfl rfl rfl rfl rfl rfl rfl hrs rfl ?_
    (refine go ?_)
    refine K_ent (slc_lift 84 3 none _) ?_
    refine K_loop (fun s : Nat × List (Nat × Nat × Value) × Option Addr × Nat => s.1 ≤ wl.length ∧ s.2.1 = keepW r (wl.take s.1)) (fun s => wl.length - s.1)
      (fun s => [(0, ptr br), (7, .int .i64 r), (8, .slice s.2.2.1 s.2.1.length s.2.2.2), (9, .int .i64 s.1)])
      (fun s => slc 84 3 (.slice s.2.2.1 s.2.1.length s.2.2.2) s.2.1.length (s.2.1.flatMap wcell) :: pts br (cl [.int .i64 room, .slice (some ⟨nb, no, none⟩) nowL.length nc, .slice (some ⟨ub, uo, none⟩) sureL.length uc, lv, sts, .slice wa wl.length wc, nxt, .bool down] 61) :: arrS 5 arrs :: arrS 77 nrows ::
        slc 22 1 (.slice (some ⟨nb, no, none⟩) nowL.length nc) nowL.length nowL :: slc 22 1 (.slice (some ⟨ub, uo, none⟩) sureL.length uc) sureL.length (sureL.set r (.slice ba bs.length bc)) :: slc 58 1 sts stsL.length stsL :: slc 84 3 (.slice wa wl.length wc) wl.length (wl.flatMap wcell) :: F) (0, [], none, 0) ⟨Nat.zero_le _, rfl⟩ rfl (by repeat (first | exact keep_nil | refine keep_cons rfl ?_)) (Ent.refl _) ?_
    rintro ⟨i, l', a', c'⟩ ⟨hi, hsub⟩ ih
    simp only at hi hsub
    have hlen : l'.length ≤ i := by rw [hsub]; exact Nat.le_trans (List.length_filter_le _ _) (by rw [List.length_take]; omega)
    (refine go ?_)
    refine K_condP rfl rfl ?_ ?_
    · intro hlt
      simp only at hlt
      have hi' : i < wl.length := by omega
      obtain ⟨x, hx⟩ : ∃ x, wl[i]? = some x := ⟨wl[i], by simp⟩
      have hg : ∀ q, q < 3 → (wl.flatMap wcell)[i * 3 + q]? = (wcell x)[q]? := fun q hq => chunk_get wcell_len hx q hq
      refine K_slcVw 7 rfl ?_
      intro hvw
      obtain ⟨bb, oo, cc, hsl⟩ := hvw.some (by rw [← List.length_pos_iff, chunk_len wcell_len]; omega)
      simp only [Value.slice.injEq, true_and] at hsl
      obtain ⟨rfl, rfl⟩ := hsl
      (refine go ?_)
      refine J_at (U := tab) i 3 rfl rfl rfl rfl rfl rfl rfl rfl hi' ?_
      (refine go ?_)
      refine J_loadAt (U := tab) 7 (i * 3 + 0) rfl rfl rfl hvw (Nat.add_assoc _ _ _) (hg 0 (by omega)) rfl rfl ?_
      (refine go ?_)
      refine K_condP rfl rfl ?_ ?_
      · intro hne
        (refine go ?_)
        refine J_at (U := tab) i 3 rfl rfl rfl rfl rfl rfl rfl rfl hi' ?_
        refine J_loadElem (U := tab) (es := wcell x) 7 (i * 3) rfl rfl rfl hvw rfl (fun q v hq => (hg q (by rcases Nat.lt_or_ge q 3 with h | h; exact h; rw [List.getElem?_eq_none (by rw [wcell_len]; exact h)] at hq; cases hq)).trans hq) rfl rfl rfl ?_
        obtain ⟨x1, x2, x3⟩ := x
        obtain ⟨y5, _, _, _, hb5⟩ := hwrr.left hx
        generalize y5.2.2 = b5 at hb5
        have hne2 : ¬ x1 = r := fun h => hne (by simp only [h])
        obtain ⟨xa, xc, hx3, _⟩ := hb5.shape
        simp only at hx3
        subst hx3
        refine J_buildSlice1 (U := tab) (cs := wcell (x1, x2, .slice xa b5.length xc)) rfl rfl rfl rfl rfl rfl rfl rfl rfl (fun _ _ _ => trivial) ?_
        intro b1
        refine J_append (U := tab) (mm := 1) (news := wcell (x1, x2, .slice xa b5.length xc)) 1 0 rfl rfl rfl rfl rfl rfl rfl rfl rfl rfl rfl rfl (Vw.pts rfl) rfl (by simp [wcell, Value.oneCell']) (by simp only; omega) (by show _ * 40 ≤ _; simp only; omega) (fun _ => rfl) (fun _ _ _ => trivial) ?_
        intro v'
        rw [show List.flatMap wcell l' ++ wcell (x1, x2, .slice xa b5.length xc) = (l' ++ [(x1, x2, Value.slice xa b5.length xc)]).flatMap wcell from by simp, show List.length l' + 1 = (l' ++ [(x1, x2, Value.slice xa b5.length xc)]).length from by simp]
        refine J_shape 1 rfl ?_
        rintro a2 c2 rfl
        (refine go ?_)
        refine K_again ih (i + 1, l' ++ [(x1, x2, Value.slice xa b5.length xc)], a2, c2) rfl ⟨by simp only; omega, by simp only; rw [keepW_snoc hx hne2, ← hsub]⟩ (by simp only; omega) (by repeat (first | exact keep_nil | refine keep_cons rfl ?_)) (Ent.drop _ _)
      · intro heq
        have heq' : x.1 = r := Decidable.byContradiction fun h => heq (by intro h2; exact h (by exact_mod_cast Int.ofNat.inj h2))
        (refine go ?_)
        refine K_again ih (i + 1, l', a', c') rfl ⟨by simp only; omega, by simp only; rw [keepW_skip hx heq', ← hsub]⟩ (by simp only; omega) (by repeat (first | exact keep_nil | refine keep_cons rfl ?_)) (Ent.refl _)
    · intro hge2
      simp only at hge2
      (refine go ?_)
      have hend : l' = keepW r wl := by rw [hsub, List.take_of_length_le (by omega)]
      subst hend
      have hD2 := hsyn (.slice a' (keepW r wl).length c')
      have hset : (sureL.set r (Value.slice ba bs.length bc)).length = sureL.length := by simp
      have hcl := rd_c br room (Value.slice (some ⟨nb, no, none⟩) nowL.length nc) (Value.slice (some ⟨ub, uo, none⟩) sureL.length uc) lv sts (Value.slice a' (keepW r wl).length c') nxt down nowL (sureL.set r (Value.slice ba bs.length bc)) stsL (keepW r wl) arrs nrows
      rw [hset] at hcl
      refine K_ent (Ent.pick [1, 2, 3, 4, 5, 6, 0] rfl) ?_
      refine K_ent (hcl _) ?_
      refine K_return hE Try.func80 rfl _ rfl ⟨_, by rw [hbsd] at hD2; exact hD2, rfl, rfl⟩ (Ent.fin [0] 1 rfl rfl)
end Go.Proofs.Ytpdmbmnhgcnelaa

/- the two disks, plain: each thing that is asked of both. -/
set_option linter.unusedVariables false
set_option linter.unusedSimpArgs false
namespace Go.Proofs.Ytpdmbmnhgcnelaa
open Go Go.SL
theorem getD_set {l : List (List UInt8)} {i : Nat} (h : i < l.length) (n : List UInt8) (j : Nat) : (l.set i n).getD j [] = if i = j then n else l.getD j [] := by
  rw [List.getD_eq_getElem?_getD, List.getElem?_set, List.getD_eq_getElem?_getD]
  by_cases hij : i = j
  · subst hij; rw [if_pos rfl, if_pos h, if_pos rfl]; rfl
  · rw [if_neg hij, if_neg hij]
theorem SimR.upd {A : Ab} {m : RM} {σ : Nat → Nat} (h : SimR A m σ) {f : Nat} (hf : f ∈ A.fs.map (·.1)) (n : List UInt8) (at_ : Nat) (b : List UInt8) :
    SimR { A with fs := Ab.upd A.fs f n, writes := A.writes ++ [(f, at_, b)] } { m with now := m.now.set (σ f) n, wr := m.wr ++ [(σ f, at_, b)] } σ := by
  have hid : (Ab.upd A.fs f n).map (·.1) = A.fs.map (·.1) := ids_map _ (fun x => if x.1 = f then (x.1, n, x.2.2) else x) (fun x => by by_cases hx : x.1 = f <;> simp [hx])
  have hfile : ∀ a ∈ A.fs.map (·.1), ({ A with fs := Ab.upd A.fs f n } : Ab).file a = if a = f then (n, (A.file a).2) else A.file a := fun a ha => by
    have := file_map A (fun x => if x.1 = f then (x.1, n, x.2.2) else x) (fun x => by by_cases hx : x.1 = f <;> simp [hx]) ha
    unfold Ab.upd
    rw [this]
    by_cases haf : a = f
    · simp [haf]
    · simp [haf]
  refine { room := h.room, off := h.off, plan := h.plan, ids := ?_, last := h.last, names := h.names, sts := h.sts, known := ?_, inj := ?_, lt := ?_, ls := ?_, now := ?_, sure := ?_, wr := ?_ }
  · exact hid ▸ h.ids
  · intro st hst x hx; exact hid ▸ h.known st hst x hx
  · intro a ha b hb; exact h.inj a (hid ▸ ha) b (hid ▸ hb)
  · intro a ha; rw [List.length_set]; exact h.lt a (hid ▸ ha)
  · rw [List.length_set]; exact h.ls
  · intro st hst x hx
    have hk := h.known st hst x hx
    have h2 := h.now st hst x hx
    unfold Ab.now RM.file at h2 ⊢
    have h3 := hfile _ hk
    have h4 : ({ A with fs := Ab.upd A.fs f n, writes := A.writes ++ [(f, at_, b)] } : Ab).file x.2 = ({ A with fs := Ab.upd A.fs f n } : Ab).file x.2 := rfl
    rw [h4, h3]
    simp only
    rw [getD_set (h.lt f hf)]
    by_cases hxf : x.2 = f
    · rw [if_pos hxf, if_pos (by rw [hxf])]
    · rw [if_neg hxf, if_neg (fun he => hxf (h.inj _ hk _ hf he.symm)), h2]
  · intro a ha
    have hk : a ∈ A.fs.map (·.1) := hid ▸ ha
    have h2 := h.sure a hk
    unfold Ab.sure at h2 ⊢
    have h3 := hfile _ hk
    have h4 : ({ A with fs := Ab.upd A.fs f n, writes := A.writes ++ [(f, at_, b)] } : Ab).file a = ({ A with fs := Ab.upd A.fs f n } : Ab).file a := rfl
    rw [h4, h3, ← h2]
    split <;> rfl
  · refine All2.snoc (h.wr.mono fun x y hh => ⟨hid.symm ▸ hh.1, hh.2⟩) ⟨hid.symm ▸ hf, rfl, rfl⟩
theorem SimR.updS {A : Ab} {m : RM} {σ : Nat → Nat} (h : SimR A m σ) {f : Nat} (hf : f ∈ A.fs.map (·.1)) (hw : A.now f = m.file (σ f)) :
    SimR { A with fs := Ab.updS A.fs f, writes := A.writes.filter fun x => !decide (x.1 = f) } { m with sure := m.sure.set (σ f) (m.file (σ f)), wr := m.wr.filter fun x => !decide (x.1 = σ f) } σ := by
  have hid : (Ab.updS A.fs f).map (·.1) = A.fs.map (·.1) := ids_map _ (fun x => if x.1 = f then (x.1, x.2.1, x.2.1) else x) (fun x => by by_cases hx : x.1 = f <;> simp [hx])
  have hfile : ∀ a ∈ A.fs.map (·.1), ({ A with fs := Ab.updS A.fs f } : Ab).file a = if a = f then ((A.file a).1, (A.file a).1) else A.file a := fun a ha => by
    have := file_map A (fun x => if x.1 = f then (x.1, x.2.1, x.2.1) else x) (fun x => by by_cases hx : x.1 = f <;> simp [hx]) ha
    unfold Ab.updS
    rw [this]
    by_cases haf : a = f
    · simp [haf]
    · simp [haf]
  refine { room := h.room, off := h.off, plan := h.plan, ids := ?_, last := h.last, names := h.names, sts := h.sts, known := ?_, inj := ?_, lt := ?_, ls := ?_, now := ?_, sure := ?_, wr := ?_ }
  · exact hid ▸ h.ids
  · intro st hst x hx; exact hid ▸ h.known st hst x hx
  · intro a ha b hb; exact h.inj a (hid ▸ ha) b (hid ▸ hb)
  · intro a ha; exact h.lt a (hid ▸ ha)
  · rw [List.length_set]; exact h.ls
  · intro st hst x hx
    have hk := h.known st hst x hx
    have h2 := h.now st hst x hx
    unfold Ab.now RM.file at h2 ⊢
    have h3 := hfile _ hk
    have h4 : ({ A with fs := Ab.updS A.fs f, writes := A.writes.filter fun x => !decide (x.1 = f) } : Ab).file x.2 = ({ A with fs := Ab.updS A.fs f } : Ab).file x.2 := rfl
    rw [h4, h3]
    simp only
    rw [← h2]
    split <;> rfl
  · intro a ha
    have hk : a ∈ A.fs.map (·.1) := hid ▸ ha
    have h2 := h.sure a hk
    unfold Ab.sure at h2 ⊢
    have h3 := hfile _ hk
    have h4 : ({ A with fs := Ab.updS A.fs f, writes := A.writes.filter fun x => !decide (x.1 = f) } : Ab).file a = ({ A with fs := Ab.updS A.fs f } : Ab).file a := rfl
    rw [h4, h3, getD_set (by rw [h.ls]; exact h.lt f hf)]
    by_cases haf : a = f
    · rw [if_pos haf, if_pos (by rw [haf]), haf]; exact hw
    · rw [if_neg haf, if_neg (fun he => haf (h.inj _ hk _ hf he.symm)), h2]
  · have hwm := All2.mono (q' := fun (x : Nat × Nat × List UInt8) (y : Nat × Nat × List UInt8) => x.1 ∈ (Ab.updS A.fs f).map (·.1) ∧ y.1 = σ x.1 ∧ y.2 = x.2) h.wr fun x y hh => ⟨hid.symm ▸ hh.1, hh.2⟩
    refine All2.filt hwm (p2 := fun x => !decide (x.1 = σ f)) ?_
    rintro x y ⟨h1, h2, _⟩
    rw [hid] at h1
    rw [h2]
    by_cases hx : x.1 = f
    · rw [hx]; simp
    · have hne : ¬ σ x.1 = σ f := fun he => hx (h.inj _ h1 _ hf he)
      simp [hx, hne]
theorem meet_no (A : Ab) : A.meet false = (1, A) := by unfold Ab.meet; rw [if_pos rfl]
theorem Sim.create {A : Ab} {m : RM} (h : Sim A m) (ok : Bool) (name : ByteArray) {f : Nat} (hf : f ∉ A.fs.map (·.1)) : (A.create ok name f).1 = (m.create ok name).1 ∧ Sim (A.create ok name f).2 (m.create ok name).2 := by
  obtain ⟨σ, h⟩ := h
  unfold Ab.create RM.create
  cases ok with
  | false => rw [meet_no]; exact ⟨rfl, σ, h⟩
  | true =>
  rw [if_neg (c := (true = false)) (by simp)]
  obtain ⟨h1, h2⟩ := h.meet
  have hfs : (A.meet true).2.fs = A.fs := (meet_fs A true).1
  rw [h1]
  by_cases hz : m.may.1 = 0
  case neg => rw [if_neg (c := (m.may.1 = 0)) hz, if_pos hz]; exact ⟨rfl, σ, h2⟩
  rw [if_pos (c := (m.may.1 = 0)) hz, if_neg (c := (m.may.1 ≠ 0)) (by simp [hz]), h2.look name]
  generalize (A.meet true).2 = A1 at h2 hfs
  generalize m.may.2 = m1 at h2
  cases hl : A1.look name with
  | some g => exact ⟨rfl, σ, h2⟩
  | none =>
  simp only [Option.isSome_none, Option.map_none, Bool.false_eq_true, if_false]
  rw [h2.names.len]
  by_cases h200 : 200 ≤ m1.l.length
  · rw [if_pos h200, if_pos h200]; exact ⟨rfl, σ, h2⟩
  rw [if_neg h200, if_neg h200]
  have hf' : f ∉ A1.fs.map (·.1) := by rw [hfs]; exact hf
  have hg := h2.grow hf'
  refine ⟨rfl, (fun a => if a = f then m1.now.length else σ a), ?_⟩
  have hn := hg.names.cons (nm := A1.names ++ [(name, f)]) (k := name) (f := f) (List.perm_append_singleton _ _) (lookIn_none hl)
  simp only [if_true] at hn
  refine hg.chg hn ?_ ?_
  · intro x hx
    rcases List.mem_append.1 hx with hx | hx
    · exact hg.known _ hg.last x hx
    · rw [List.mem_singleton.1 hx]; exact List.mem_cons_self ..
  · intro x hx
    rcases List.mem_append.1 hx with hx | hx
    · exact hg.now _ hg.last x hx
    · rw [List.mem_singleton.1 hx]
      unfold Ab.now RM.file
      rw [file_cons, if_pos rfl]
      simp only [if_true]
      exact (getD_last _).symm
/-- A name is looked for: nothing but the mistake, or its file. -/
theorem SimR.findK {A : Ab} {m : RM} {σ : Nat → Nat} (h : SimR A m σ) (name : ByteArray) :
    (m.may.1 ≠ 0 ∧ A.find name true = (m.may.1, none, (A.meet true).2)) ∨ (m.may.1 = 0 ∧ (A.meet true).2.look name = none ∧ m.may.2.find name = none ∧ A.find name true = (4, none, (A.meet true).2)) ∨
    (m.may.1 = 0 ∧ ∃ f, (name, f) ∈ (A.meet true).2.names ∧ m.may.2.find name = some (σ f) ∧ A.find name true = (0, some f, (A.meet true).2)) := by
  obtain ⟨h1, h2⟩ := h.meet
  unfold Ab.find
  by_cases hz : m.may.1 = 0
  · rw [if_pos (h1.trans hz)]
    have hlk := h2.look name
    cases hl : (A.meet true).2.look name with
    | none => rw [hl] at hlk; exact .inr (.inl ⟨hz, rfl, hlk, rfl⟩)
    | some f => rw [hl] at hlk; exact .inr (.inr ⟨hz, f, h2.lookK hl, hlk, rfl⟩)
  · rw [if_neg (fun he => hz (h1.symm.trans he)), h1]; exact .inl ⟨hz, rfl⟩
theorem find_no (A : Ab) (name : ByteArray) : A.find name false = (1, none, A) := by unfold Ab.find; rw [meet_no]; rfl
theorem Sim.write {A : Ab} {m : RM} (h : Sim A m) (ok : Bool) (name : ByteArray) (at_ : Nat) (b : List UInt8) : (A.write ok name at_ b).1 = (m.write ok name at_ b).1 ∧ Sim (A.write ok name at_ b).2 (m.write ok name at_ b).2 := by
  obtain ⟨σ, h⟩ := h
  unfold Ab.write RM.write
  cases ok with
  | false => rw [find_no]; exact ⟨rfl, σ, h⟩
  | true =>
  rw [if_neg (c := (true = false)) (by simp)]
  have h2 := h.meet.2
  rcases h.findK name with ⟨hz, hf⟩ | ⟨hz, hl, hfd, hf⟩ | ⟨hz, f, hn, hfd, hf⟩
  · rw [hf]; simp only; rw [if_neg hz, if_pos hz]; exact ⟨rfl, σ, h2⟩
  · rw [hf, if_neg (c := (m.may.1 ≠ 0)) (by simp [hz]), hfd]; exact ⟨rfl, σ, h2⟩
  · rw [hf, if_neg (c := (m.may.1 ≠ 0)) (by simp [hz]), hfd]
    simp only [if_true]
    generalize (A.meet true).2 = A1 at h2 hn
    generalize m.may.2 = m1 at h2
    have hnow := h2.now _ h2.last _ hn
    simp only at hnow
    have hroom := h2.room
    rw [hnow, h2.used]
    have hk : f ∈ A1.fs.map (·.1) := h2.known _ h2.last _ hn
    have hwl := wroteL_len (m1.file (σ f)) at_ b
    by_cases hc : A1.room < m1.used + (at_ + b.length - (m1.file (σ f)).length)
    · rw [if_pos hc, if_pos (by omega)]; exact ⟨rfl, σ, h2⟩
    · rw [if_neg hc, if_neg (by omega)]; exact ⟨rfl, σ, h2.upd hk (wroteL (m1.file (σ f)) at_ b) at_ b⟩
theorem Sim.sync {A : Ab} {m : RM} (h : Sim A m) (ok : Bool) (name : ByteArray) : (A.sync ok name).1 = (m.sync ok name).1 ∧ Sim (A.sync ok name).2 (m.sync ok name).2 := by
  obtain ⟨σ, h⟩ := h
  unfold Ab.sync RM.sync
  cases ok with
  | false => rw [find_no]; exact ⟨rfl, σ, h⟩
  | true =>
  rw [if_neg (c := (true = false)) (by simp)]
  have h2 := h.meet.2
  rcases h.findK name with ⟨hz, hf⟩ | ⟨hz, hl, hfd, hf⟩ | ⟨hz, f, hn, hfd, hf⟩
  · rw [hf]; simp only; rw [if_neg hz, if_pos hz]; exact ⟨rfl, σ, h2⟩
  · rw [hf, if_neg (c := (m.may.1 ≠ 0)) (by simp [hz]), hfd]; exact ⟨rfl, σ, h2⟩
  · rw [hf, if_neg (c := (m.may.1 ≠ 0)) (by simp [hz]), hfd]
    exact ⟨rfl, σ, h2.updS (h2.known _ h2.last _ hn) (h2.now _ h2.last _ hn)⟩
theorem mem_delN {l : List (ByteArray × Nat)} {k : ByteArray} {x : ByteArray × Nat} (h : x ∈ Ab.delN l k) : x ∈ l := (List.mem_filter.1 h).1
theorem Sim.remove {A : Ab} {m : RM} (h : Sim A m) (ok : Bool) (name : ByteArray) : (A.remove ok name).1 = (m.remove ok name).1 ∧ Sim (A.remove ok name).2 (m.remove ok name).2 := by
  obtain ⟨σ, h⟩ := h
  unfold Ab.remove RM.remove
  cases ok with
  | false => rw [find_no]; exact ⟨rfl, σ, h⟩
  | true =>
  rw [if_neg (c := (true = false)) (by simp)]
  have h2 := h.meet.2
  rcases h.findK name with ⟨hz, hf⟩ | ⟨hz, hl, hfd, hf⟩ | ⟨hz, f, hn, hfd, hf⟩
  · rw [hf, if_pos hz]; split <;> rename_i heq
    · simp only [Prod.mk.injEq] at heq; exact absurd heq.1 hz
    · simp only [Prod.mk.injEq] at heq; obtain ⟨rfl, _, rfl⟩ := heq; exact ⟨rfl, σ, h2⟩
  · rw [hf, if_neg (c := (m.may.1 ≠ 0)) (by simp [hz]), hfd]; exact ⟨rfl, σ, h2⟩
  · rw [hf, if_neg (c := (m.may.1 ≠ 0)) (by simp [hz]), hfd]
    exact ⟨rfl, σ, h2.chg (h2.names.del name) (fun x hx => h2.known _ h2.last _ (mem_delN hx)) (fun x hx => h2.now _ h2.last _ (mem_delN hx))⟩
theorem Sim.rename {A : Ab} {m : RM} (h : Sim A m) (ok : Bool) (old name : ByteArray) : (A.rename ok old name).1 = (m.rename ok old name).1 ∧ Sim (A.rename ok old name).2 (m.rename ok old name).2 := by
  obtain ⟨σ, h⟩ := h
  unfold Ab.rename RM.rename
  cases ok with
  | false => rw [find_no]; exact ⟨rfl, σ, h⟩
  | true =>
  rw [if_neg (c := (true = false)) (by simp)]
  have h2 := h.meet.2
  rcases h.findK old with ⟨hz, hf⟩ | ⟨hz, hl, hfd, hf⟩ | ⟨hz, f, hn, hfd, hf⟩
  · rw [hf, if_pos hz]; split <;> rename_i heq
    · simp only [Prod.mk.injEq] at heq; exact absurd heq.1 hz
    · simp only [Prod.mk.injEq] at heq; obtain ⟨rfl, _, rfl⟩ := heq; exact ⟨rfl, σ, h2⟩
  · rw [hf, if_neg (c := (m.may.1 ≠ 0)) (by simp [hz]), hfd]; exact ⟨rfl, σ, h2⟩
  · rw [hf, if_neg (c := (m.may.1 ≠ 0)) (by simp [hz]), hfd]
    have hmem : ∀ x ∈ Ab.setN (Ab.delN (A.meet true).2.names old) name f, x = (name, f) ∨ x ∈ (A.meet true).2.names := fun x hx => by
      rcases List.mem_cons.1 ((setN_perm (h2.names.del old).2 name f).mem_iff.1 hx) with hx | hx
      · exact .inl hx
      · exact .inr (mem_delN (mem_delN hx))
    refine ⟨rfl, σ, h2.chg ((h2.names.del old).set name f) (fun x hx => ?_) (fun x hx => ?_)⟩
    · rcases hmem x hx with rfl | hx
      · exact h2.known _ h2.last (old, f) hn
      · exact h2.known _ h2.last _ hx
    · rcases hmem x hx with rfl | hx
      · exact h2.now _ h2.last (old, f) hn
      · exact h2.now _ h2.last _ hx
theorem Sim.syncNames {A : Ab} {m : RM} (h : Sim A m) : A.syncNames.1 = m.syncNames.1 ∧ Sim A.syncNames.2 m.syncNames.2 := by
  obtain ⟨σ, h⟩ := h
  unfold Ab.syncNames RM.syncNames
  obtain ⟨h1, h2⟩ := h.meet
  by_cases hz : m.may.1 = 0
  · rw [if_pos (h1.trans hz), if_neg (c := (m.may.1 ≠ 0)) (by simp [hz])]
    exact ⟨rfl, σ, { room := h2.room, off := h2.off, plan := h2.plan, ids := h2.ids, last := List.mem_singleton.2 rfl, names := h2.names, sts := All2.one h2.names
                     known := fun st hst => by { rw [List.mem_singleton.1 hst]; exact h2.known _ h2.last }, inj := h2.inj, lt := h2.lt, ls := h2.ls
                     now := fun st hst => by { rw [List.mem_singleton.1 hst]; exact h2.now _ h2.last }, sure := h2.sure, wr := h2.wr }⟩
  · rw [if_neg (fun he => hz (h1.symm.trans he)), if_pos hz]; exact ⟨h1, σ, h2⟩
theorem Sim.size {A : Ab} {m : RM} (h : Sim A m) (name : ByteArray) : A.size name = m.size name := by
  obtain ⟨σ, h⟩ := h
  unfold Ab.size RM.size
  have hlk := h.look name
  cases hl : A.look name with
  | none => rw [hl] at hlk; rw [hlk]; rfl
  | some f => rw [hl] at hlk; rw [hlk]; simp only [Option.map_some]; rw [h.now _ h.last _ (h.lookK hl)]
theorem Sim.read {A : Ab} {m : RM} (h : Sim A m) (name : ByteArray) (at_ n : Int) : A.read name at_ n = m.read name at_ n := by
  obtain ⟨σ, h⟩ := h
  unfold Ab.read RM.read
  have hlk := h.look name
  rw [h.off]
  split
  · rfl
  cases hl : A.look name with
  | none => rw [hl] at hlk; rw [hlk]; rfl
  | some f => rw [hl] at hlk; rw [hlk]; simp only [Option.map_some]; rw [h.now _ h.last _ (h.lookK hl)]
end Go.Proofs.Ytpdmbmnhgcnelaa

/- the reference's disk, part u: Rename, Remove. -/
set_option linter.unusedVariables false
set_option linter.unusedSimpArgs false
namespace Go.Proofs.Ytpdmbmnhgcnelaa
open Go Go.SL
theorem RM.without_len (l : List Nm) (name : ByteArray) : (RM.without l name).length ≤ l.length := List.length_filter_le _ _
attribute [local irreducible] J K Ctr Ends pts slc mapR mapI sbRow stock arrS

set_option maxRecDepth 20000 in
theorem mRename_any (br k : Nat) (D : RDk) (m : RM) (hR : RR D m) (hM : MOk m k) (old name : ByteArray) (hs : old.size ≤ 9223372036854775807) (hs2 : name.size ≤ 9223372036854775807) :
    Ctr Try.prog 81 [ptr br, .string old, .string name] [rd br D] (fun v H => ∃ D', RR D' (m.rename (isName old && isName name) old name).2 ∧ v = .int .i64 ((m.rename (isName old && isName name) old name).1 : Int) ∧ H = [rd br D']) := by
  refine Ctr.enter Try.func81 (by kernel_rfl) rfl Try.ntmps81 rfl rfl ?_
  intro G F R hE
  (refine go ?_)
  refine J_call [] rfl rfl rfl rfl (mIsName_any old hs) rfl (fun _ _ _ _ _ => trivial) ?_
  rintro _ _ ⟨rfl, rfl⟩
  (refine go ?_)
  refine J_call [] rfl rfl rfl rfl (mIsName_any name hs2) rfl (fun _ _ _ _ _ => trivial) ?_
  rintro _ _ ⟨rfl, rfl⟩
  generalize isName old = i1 at hE
  generalize isName name = i2 at hE
  cases i1 <;> cases i2
  case true.true =>
    (refine go ?_)
    refine J_call [0] rfl rfl rfl rfl (mMay_any br D m hR) rfl (fun _ _ _ _ _ => trivial) ?_
    rintro _ _ ⟨D', hD', rfl, rfl⟩
    simp only [Bool.and_self] at hE
    by_cases hz : m.may.1 = 0
    case neg =>
      have hm : m.rename true old name = m.may := by unfold RM.rename; rw [if_neg (by simp), if_pos hz]
      rw [hm] at hE
      (refine go ?_)
      refine K_condP rfl rfl ?_ ?_
      · intro _
        (refine go ?_)
        refine K_return hE Try.func81 rfl _ rfl ⟨_, hD', rfl, rfl⟩ (Ent.fin [0] 0 rfl rfl)
      intro h; exact absurd (by simpa using h) hz
    have hMm := hM.may
    rw [hz]
    have hm1 : m.rename true old name = match m.may.2.find old with
        | none => (4, m.may.2)
        | some f => (0, m.may.2.named (RM.with_ (RM.without (RM.without m.may.2.l old) name) (name, f))) := by
      unfold RM.rename; rw [if_neg (by simp), if_neg (fun h => h hz)]; rfl
    rw [hm1] at hE
    generalize m.may.2 = m1 at hD' hMm hE
    (refine go ?_)
    refine J_call [0] rfl rfl rfl rfl (mFind_any br k D' m1 hD' hMm old) rfl (fun _ _ _ _ _ => trivial) ?_
    rintro _ _ ⟨rfl, rfl⟩
    cases hfd : m1.find old with
    | none =>
      rw [hfd] at hE
      simp only [fI]
      (refine go ?_)
      refine K_return hE Try.func81 rfl _ rfl ⟨_, hD', rfl, rfl⟩ (Ent.fin [0] 0 rfl rfl)
    | some r2 =>
    rw [hfd] at hE
    simp only [fI]
    simp only at hE
    obtain ⟨room, now, sure, lv, sts, wrs, nxt, down, nowL, sureL, stsL, wl, arrs, nrows⟩ := D'
    have hl := hD'.l
    have hlk := hMm.ll
    have hkk := hMm.kk
    have hsk := hMm.sk
    generalize hml : m1.l = l at hl hlk hE
    simp only at hl
    obtain ⟨a, cap, rfl, hcap⟩ := hl.shape
    refine J_ent (rd_o _ _ _ _ _ _ _ _ _ _ _ _ _ _ _ _) ?_
    (refine go ?_)
    refine J_call [2] rfl rfl rfl rfl (mWithout_any (arrS 77 nrows) _ l old (hl.view _) (by omega)) rfl (fun _ _ _ _ _ => trivial) ?_
    rintro r3 _ rfl
    have hw1 := RM.without_len l old
    refine J_shape 0 rfl ?_
    rintro a3 c3 rfl
    (refine go ?_)
    refine J_slcVw 0 rfl ?_
    intro hv1
    refine J_call [0] rfl rfl rfl rfl (mWithout_any (slc 77 2 _ (RM.without l old).length ((RM.without l old).flatMap ncell)) _ (RM.without l old) name hv1 (by omega)) rfl (fun _ _ _ _ _ => trivial) ?_
    rintro r4 _ rfl
    have hw2 := RM.without_len (RM.without l old) name
    refine J_shape 0 rfl ?_
    rintro a4 c4 rfl
    refine J_slcVw 0 rfl ?_
    intro hv2
    (refine go ?_)
    refine J_call [0] rfl rfl rfl rfl (mWith_any (slc 77 2 _ (RM.without (RM.without l old) name).length ((RM.without (RM.without l old) name).flatMap ncell)) _ (RM.without (RM.without l old) name) (name, r2) hv2 (by omega)) rfl (fun _ _ _ _ _ => trivial) ?_
    rintro r5 _ rfl
    refine J_ent (Ent.pick [0, 3] rfl) ?_
    refine J_ent (Ent.join _ _ _) ?_
    refine J_open (row_slcO 77 2 _ _ _ _) ?_
    rintro nrows' ⟨hrin, hsubr⟩
    refine J_ent (Ent.pick [3, 4, 0, 5, 6, 7, 8] rfl) ?_
    refine J_ent (rd_c br room now sure (Value.slice a l.length cap) sts wrs nxt down nowL sureL stsL wl arrs nrows' _) ?_
    have hD2 := hD'.setRows hsubr
    (refine go ?_)
    first
    | refine J_call [0] rfl rfl rfl rfl (mNamed_any br k _ _ hD2 (by omega) _ _ hrin) rfl (fun _ _ _ _ _ => trivial) ?_
    | refine J_call0 [0] rfl rfl rfl (mNamed_any br k _ _ hD2 (by omega) _ _ hrin) rfl (fun _ _ _ _ _ => trivial) ?_
    rintro _ _ ⟨D3, hD3, rfl⟩
    (refine go ?_)
    refine K_return hE Try.func81 rfl _ rfl ⟨_, hD3, rfl, rfl⟩ (Ent.fin [0] 2 rfl rfl)
  all_goals
    have hm : m.rename false old name = (1, m) := by unfold RM.rename; rw [if_pos rfl]
    simp only [Bool.and_false, Bool.false_and, Bool.and_self] at hE
    rw [hm] at hE
    (refine go ?_)
    refine K_return hE Try.func81 rfl _ rfl ⟨_, hR, rfl, rfl⟩ (Ent.fin [0] 0 rfl rfl)

set_option maxRecDepth 20000 in
theorem mRemove_any (br k : Nat) (D : RDk) (m : RM) (hR : RR D m) (hM : MOk m k) (name : ByteArray) (hs : name.size ≤ 9223372036854775807) :
    Ctr Try.prog 78 [ptr br, .string name] [rd br D] (fun v H => ∃ D', RR D' (m.remove (isName name) name).2 ∧ v = .int .i64 ((m.remove (isName name) name).1 : Int) ∧ H = [rd br D']) := by
  refine Ctr.enter Try.func78 (by kernel_rfl) rfl Try.ntmps78 rfl rfl ?_
  intro G F R hE
  (refine go ?_)
  refine J_call [] rfl rfl rfl rfl (mIsName_any name hs) rfl (fun _ _ _ _ _ => trivial) ?_
  rintro _ _ ⟨rfl, rfl⟩
  generalize isName name = i1 at hE
  cases i1 with
  | false =>
    have hm : m.remove false name = (1, m) := by unfold RM.remove; rw [if_pos rfl]
    rw [hm] at hE
    (refine go ?_)
    refine K_return hE Try.func78 rfl _ rfl ⟨_, hR, rfl, rfl⟩ (Ent.fin [0] 0 rfl rfl)
  | true =>
    (refine go ?_)
    refine J_call [0] rfl rfl rfl rfl (mMay_any br D m hR) rfl (fun _ _ _ _ _ => trivial) ?_
    rintro _ _ ⟨D', hD', rfl, rfl⟩
    by_cases hz : m.may.1 = 0
    case neg =>
      have hm : m.remove true name = m.may := by unfold RM.remove; rw [if_neg (by simp), if_pos hz]
      rw [hm] at hE
      (refine go ?_)
      refine K_condP rfl rfl ?_ ?_
      · intro _
        (refine go ?_)
        refine K_return hE Try.func78 rfl _ rfl ⟨_, hD', rfl, rfl⟩ (Ent.fin [0] 0 rfl rfl)
      intro h; exact absurd (by simpa using h) hz
    have hMm := hM.may
    rw [hz]
    have hm1 : m.remove true name = match m.may.2.find name with
        | none => (4, m.may.2)
        | some _ => (0, m.may.2.named (RM.without m.may.2.l name)) := by
      unfold RM.remove; rw [if_neg (by simp), if_neg (fun h => h hz)]; rfl
    rw [hm1] at hE
    generalize m.may.2 = m1 at hD' hMm hE
    (refine go ?_)
    refine J_call [0] rfl rfl rfl rfl (mFind_any br k D' m1 hD' hMm name) rfl (fun _ _ _ _ _ => trivial) ?_
    rintro _ _ ⟨rfl, rfl⟩
    cases hfd : m1.find name with
    | none =>
      rw [hfd] at hE
      simp only [fI]
      (refine go ?_)
      refine K_return hE Try.func78 rfl _ rfl ⟨_, hD', rfl, rfl⟩ (Ent.fin [0] 0 rfl rfl)
    | some r2 =>
    rw [hfd] at hE
    simp only [fI]
    simp only at hE
    obtain ⟨room, now, sure, lv, sts, wrs, nxt, down, nowL, sureL, stsL, wl, arrs, nrows⟩ := D'
    have hl := hD'.l
    have hlk := hMm.ll
    have hkk := hMm.kk
    have hsk := hMm.sk
    generalize hml : m1.l = l at hl hlk hE
    simp only at hl
    obtain ⟨a, cap, rfl, hcap⟩ := hl.shape
    refine J_ent (rd_o _ _ _ _ _ _ _ _ _ _ _ _ _ _ _ _) ?_
    (refine go ?_)
    refine J_call [2] rfl rfl rfl rfl (mWithout_any (arrS 77 nrows) _ l name (hl.view _) (by omega)) rfl (fun _ _ _ _ _ => trivial) ?_
    rintro r3 _ rfl
    refine J_ent (Ent.join _ _ _) ?_
    refine J_open (row_slcO 77 2 _ _ _ _) ?_
    rintro nrows' ⟨hrin, hsubr⟩
    refine J_ent (Ent.pick [1, 2, 0, 3, 4, 5, 6] rfl) ?_
    refine J_ent (rd_c br room now sure (Value.slice a l.length cap) sts wrs nxt down nowL sureL stsL wl arrs nrows' _) ?_
    have hD2 := hD'.setRows hsubr
    (refine go ?_)
    first
    | refine J_call [0] rfl rfl rfl rfl (mNamed_any br k _ _ hD2 (by omega) _ _ hrin) rfl (fun _ _ _ _ _ => trivial) ?_
    | refine J_call0 [0] rfl rfl rfl (mNamed_any br k _ _ hD2 (by omega) _ _ hrin) rfl (fun _ _ _ _ _ => trivial) ?_
    rintro _ _ ⟨D3, hD3, rfl⟩
    (refine go ?_)
    refine K_return hE Try.func78 rfl _ rfl ⟨_, hD3, rfl, rfl⟩ (Ent.fin [0] 0 rfl rfl)
end Go.Proofs.Ytpdmbmnhgcnelaa

/- the reference's disk, plain: its numbers stay small. -/
set_option linter.unusedVariables false
set_option linter.unusedSimpArgs false
namespace Go.Proofs.Ytpdmbmnhgcnelaa
open Go Go.SL
theorem MOk.up {m : RM} {k k' : Nat} (h : MOk m k) (hk : k ≤ k') (hk' : k' ≤ 100000) : MOk m k' :=
  ⟨h.nl, Nat.le_trans h.nk hk, h.now, h.sure, h.l, Nat.le_trans h.ll hk, fun st hst => ⟨(h.sts st hst).1, Nat.le_trans (h.sts st hst).2 hk⟩, h.full, Nat.le_trans h.sk (Nat.succ_le_succ hk), h.wr, Nat.le_trans h.wk hk, hk', h.room⟩
theorem MOk.named {m : RM} {k : Nat} (h : MOk m k) (hk : k + 1 ≤ 100000) {l : List Nm} (h1 : ∀ x ∈ l, x.2 < m.now.length) (h2 : l.length ≤ k + 1) : MOk (m.named l) (k + 1) :=
  { nl := h.nl, nk := Nat.le_succ_of_le h.nk, now := h.now, sure := h.sure, l := h1, ll := h2
    sts := fun st hst => by
      rcases List.mem_append.1 hst with hst | hst
      · exact ⟨(h.sts st hst).1, Nat.le_succ_of_le (h.sts st hst).2⟩
      · rw [List.mem_singleton.1 hst]; exact ⟨h1, h2⟩
    full := fun he => by have := congrArg List.length he; simp [RM.named] at this
    sk := by show (m.sts ++ [l]).length ≤ _; have := h.sk; simp only [List.length_append, List.length_singleton]; omega
    wr := h.wr, wk := Nat.le_succ_of_le h.wk, kk := hk, room := h.room }
theorem mem_with {l : List Nm} {x y : Nm} (h : y ∈ RM.with_ l x) : y = x ∨ y ∈ l := List.mem_cons.1 ((with_perm l x).mem_iff.1 h)
theorem mem_without {l : List Nm} {k : ByteArray} {y : Nm} (h : y ∈ RM.without l k) : y ∈ l := (List.mem_filter.1 h).1
theorem MOk.create {m : RM} {k : Nat} (h : MOk m k) (hk : k + 1 ≤ 100000) (ok : Bool) (name : ByteArray) : MOk (m.create ok name).2 (k + 1) := by
  have h0 : MOk m (k + 1) := h.up (Nat.le_succ _) hk
  have h1 := h.may
  have h2 : MOk m.may.2 (k + 1) := h1.up (Nat.le_succ _) hk
  unfold RM.create
  split
  · exact h0
  split
  · exact h2
  split
  · exact h2
  split
  · exact h2
  generalize m.may.2 = m1 at h1 h2
  have hnl : (m1.now ++ [[]]).length = m1.now.length + 1 := by simp
  refine { nl := ?_, nk := ?_, now := ?_, sure := ?_, l := ?_, ll := ?_, sts := ?_, full := ?_, sk := ?_, wr := ?_, wk := ?_, kk := hk, room := h1.room }
  · show (m1.sure ++ [[]]).length = (m1.now ++ [[]]).length; simp [h1.nl]
  · show (m1.now ++ [[]]).length ≤ _; have := h1.nk; omega
  · intro b hb
    rcases List.mem_append.1 hb with hb | hb
    · exact h1.now b hb
    · rw [List.mem_singleton.1 hb]; exact Nat.zero_le _
  · intro b hb
    rcases List.mem_append.1 hb with hb | hb
    · exact h1.sure b hb
    · rw [List.mem_singleton.1 hb]; exact Nat.zero_le _
  · intro x hx
    show _ < (m1.now ++ [[]]).length
    rcases mem_with hx with rfl | hx
    · simp only; omega
    · have := h1.l x hx; omega
  · show (RM.with_ m1.l _).length ≤ _; rw [with_len]; have := h1.ll; omega
  · intro st hst
    show (∀ x ∈ st, x.2 < (m1.now ++ [[]]).length) ∧ _
    rcases List.mem_append.1 hst with hst | hst
    · exact ⟨fun x hx => by have := (h1.sts st hst).1 x hx; omega, Nat.le_succ_of_le (h1.sts st hst).2⟩
    · rw [List.mem_singleton.1 hst]
      refine ⟨fun x hx => ?_, by show (RM.with_ m1.l _).length ≤ _; rw [with_len]; have := h1.ll; omega⟩
      rcases mem_with hx with rfl | hx
      · simp only; omega
      · have := h1.l x hx; omega
  · intro he; have := congrArg List.length he; simp [RM.named] at this
  · show (m1.sts ++ [_]).length ≤ _; have := h1.sk; simp only [List.length_append, List.length_singleton]; omega
  · intro x hx
    show _ < (m1.now ++ [[]]).length ∧ _
    have := h1.wr x hx
    exact ⟨by omega, this.2⟩
  · exact Nat.le_succ_of_le h1.wk
theorem MOk.write {m : RM} {k : Nat} (h : MOk m k) (hk : k + 1 ≤ 100000) (ok : Bool) (name : ByteArray) (at_ : Nat) (b : List UInt8) (hb : ok = true → at_ + b.length ≤ 1048576) : MOk (m.write ok name at_ b).2 (k + 1) := by
  have h0 : MOk m (k + 1) := h.up (Nat.le_succ _) hk
  have h1 := h.may
  have h2 : MOk m.may.2 (k + 1) := h1.up (Nat.le_succ _) hk
  have hl := fun f hf => RM.find_lt h1 (name := name) (f := f) hf
  unfold RM.write
  split
  · exact h0
  rename_i hok
  have hb := hb (by simpa using hok)
  split
  · exact h2
  generalize m.may.2 = m1 at h1 h2 hl
  split
  · exact h2
  rename_i f hf
  split
  · exact h2
  have hwl := wroteL_len (m1.file f) at_ b
  have hfl : (m1.file f).length ≤ 1048576 := by
    unfold RM.file
    rw [List.getD_eq_getElem?_getD]
    cases hg : m1.now[f]? with
    | none => simp
    | some b => exact h1.now b (List.mem_of_getElem? hg)
  have hset : (m1.now.set f (wroteL (m1.file f) at_ b)).length = m1.now.length := List.length_set ..
  refine { nl := ?_, nk := ?_, now := ?_, sure := h1.sure, l := ?_, ll := Nat.le_succ_of_le h1.ll, sts := ?_, full := h1.full, sk := Nat.le_succ_of_le h1.sk, wr := ?_, wk := ?_, kk := hk, room := h1.room }
  · show m1.sure.length = (m1.now.set f (wroteL (m1.file f) at_ b)).length; rw [hset]; exact h1.nl
  · show (m1.now.set f (wroteL (m1.file f) at_ b)).length ≤ _; rw [hset]; exact Nat.le_succ_of_le h1.nk
  · intro x hx
    rcases List.mem_or_eq_of_mem_set hx with hx | rfl
    · exact h1.now x hx
    · rw [hwl]; omega
  · intro x hx; show _ < (m1.now.set f (wroteL (m1.file f) at_ b)).length; rw [hset]; exact h1.l x hx
  · intro st hst; show (∀ x ∈ st, x.2 < (m1.now.set f (wroteL (m1.file f) at_ b)).length) ∧ _; rw [hset]; exact ⟨(h1.sts st hst).1, Nat.le_succ_of_le (h1.sts st hst).2⟩
  · intro x hx
    show _ < (m1.now.set f (wroteL (m1.file f) at_ b)).length ∧ _
    rw [hset]
    rcases List.mem_append.1 hx with hx | hx
    · exact h1.wr x hx
    · rw [List.mem_singleton.1 hx]; exact ⟨hl f hf, hb⟩
  · show (m1.wr ++ [_]).length ≤ _; have := h1.wk; simp only [List.length_append, List.length_singleton]; omega
theorem MOk.sync {m : RM} {k : Nat} (h : MOk m k) (ok : Bool) (name : ByteArray) : MOk (m.sync ok name).2 k := by
  have h1 := h.may
  have hl := fun f hf => RM.find_lt h1 (name := name) (f := f) hf
  unfold RM.sync
  split
  · exact h
  split
  · exact h1
  generalize m.may.2 = m1 at h1 hl
  split
  · exact h1
  rename_i f hf
  have hfl : (m1.file f).length ≤ 1048576 := by
    unfold RM.file
    rw [List.getD_eq_getElem?_getD]
    cases hg : m1.now[f]? with
    | none => simp
    | some b => exact h1.now b (List.mem_of_getElem? hg)
  exact { nl := by show (m1.sure.set f (m1.file f)).length = _; rw [List.length_set]; exact h1.nl
          nk := h1.nk, now := h1.now
          sure := fun x hx => by
            rcases List.mem_or_eq_of_mem_set hx with hx | rfl
            · exact h1.sure x hx
            · exact hfl
          l := h1.l, ll := h1.ll, sts := h1.sts, full := h1.full, sk := h1.sk, wr := fun x hx => h1.wr x (List.mem_filter.1 hx).1
          wk := Nat.le_trans (List.length_filter_le _ _) h1.wk, kk := h1.kk, room := h1.room }
theorem MOk.rename {m : RM} {k : Nat} (h : MOk m k) (hk : k + 1 ≤ 100000) (ok : Bool) (old name : ByteArray) : MOk (m.rename ok old name).2 (k + 1) := by
  have h0 : MOk m (k + 1) := h.up (Nat.le_succ _) hk
  have h1 := h.may
  have h2 : MOk m.may.2 (k + 1) := h1.up (Nat.le_succ _) hk
  have hl := fun f hf => RM.find_lt h1 (name := old) (f := f) hf
  unfold RM.rename
  split
  · exact h0
  split
  · exact h2
  generalize m.may.2 = m1 at h1 h2 hl
  split
  · exact h2
  rename_i f hf
  refine h1.named hk (fun x hx => ?_) ?_
  · rcases mem_with hx with rfl | hx
    · exact hl f hf
    · exact h1.l x (mem_without (mem_without hx))
  · rw [with_len]
    have := RM.without_len (RM.without m1.l old) name
    have := RM.without_len m1.l old
    have := h1.ll
    omega
theorem MOk.remove {m : RM} {k : Nat} (h : MOk m k) (hk : k + 1 ≤ 100000) (ok : Bool) (name : ByteArray) : MOk (m.remove ok name).2 (k + 1) := by
  have h0 : MOk m (k + 1) := h.up (Nat.le_succ _) hk
  have h1 := h.may
  have h2 : MOk m.may.2 (k + 1) := h1.up (Nat.le_succ _) hk
  unfold RM.remove
  split
  · exact h0
  split
  · exact h2
  generalize m.may.2 = m1 at h1 h2
  split
  · exact h2
  refine h1.named hk (fun x hx => h1.l x (mem_without hx)) ?_
  have := RM.without_len m1.l name
  have := h1.ll
  omega
theorem MOk.syncNames {m : RM} {k : Nat} (h : MOk m k) : MOk m.syncNames.2 k := by
  have h1 := h.may
  unfold RM.syncNames
  split
  · exact h1
  exact { nl := h1.nl, nk := h1.nk, now := h1.now, sure := h1.sure, l := h1.l, ll := h1.ll, sts := fun st hst => by rw [List.mem_singleton.1 hst]; exact ⟨h1.l, h1.ll⟩
          full := fun he => by cases he
          sk := Nat.succ_le_succ (Nat.zero_le _), wr := h1.wr, wk := h1.wk, kk := h1.kk, room := h1.room }
end Go.Proofs.Ytpdmbmnhgcnelaa

/- the reference's journal, part b: records. -/
set_option linter.unusedVariables false
set_option linter.unusedSimpArgs false
namespace Go.Proofs.Ytpdmbmnhgcnelaa
open Go Go.SL
def stN (bs : List UInt8) : Nat → Nat × Nat
  | 0 => (0, 0)
  | 1 => (0, 0)
  | 2 => ((toUintA (bs.take 1)).map fun n => (n, 1)).getD (0, 0)
  | _ => match toUintA (bs.take 1) with
    | some n => (n, 1)
    | none => ((toUintA (bs.take 2)).map fun n => (n, 2)).getD (0, 0)
theorem stN_small (bs : List UInt8) (k : Nat) : (stN bs k).1 < 16384 ∧ (stN bs k).2 ≤ 2 := by
  have h1 : ∀ n, toUintA (bs.take 1) = some n → n < 16384 := fun n h => toUint_small h (by rw [List.length_take]; omega)
  have h2 : ∀ n, toUintA (bs.take 2) = some n → n < 16384 := fun n h => toUint_small h (by rw [List.length_take]; omega)
  have z0 : ((0, 0) : Nat × Nat).1 < 16384 ∧ ((0, 0) : Nat × Nat).2 ≤ 2 := by decide
  match k with
  | 0 => exact z0
  | 1 => exact z0
  | 2 =>
    unfold stN
    cases h : toUintA (bs.take 1) with
    | none => exact z0
    | some n => exact ⟨h1 n h, (by decide : (1 : Nat) ≤ 2)⟩
  | k + 3 =>
    unfold stN
    cases h : toUintA (bs.take 1) with
    | none =>
      simp only
      cases h' : toUintA (bs.take 2) with
      | none => exact z0
      | some n => exact ⟨h2 n h', (by decide : (2 : Nat) ≤ 2)⟩
    | some n => exact ⟨h1 n h, (by decide : (1 : Nat) ≤ 2)⟩
theorem stN_none {bs : List UInt8} {k : Nat} (hk : k = 1 ∨ k = 2) (h : toUintA (bs.take k) = none) : stN bs (k + 1) = stN bs k := by
  rcases hk with rfl | rfl
  · unfold stN; rw [h]; rfl
  · unfold stN; rw [h]; cases toUintA (bs.take 1) <;> rfl
theorem stN_some {bs : List UInt8} {k n : Nat} (hk : k = 1 ∨ k = 2) (h : toUintA (bs.take k) = some n) : stN bs (k + 1) = if (stN bs k).2 = 0 then (n, k) else stN bs k := by
  rcases hk with rfl | rfl
  · unfold stN; rw [h]; rfl
  · unfold stN; rw [h]; cases toUintA (bs.take 1) <;> rfl
theorem toUint_nil : toUintA [] = none := rfl
theorem stN_long (bs : List UInt8) {k : Nat} (hk : k ≤ 3) (h1 : 1 ≤ k) (hl : k - 1 ≤ bs.length) (he : 2 < k ∨ bs.length < k) : longA bs = if (stN bs k).2 = 0 then none else some ((stN bs k).2, (stN bs k).1) := by
  have hk3 : k = 1 ∨ k = 2 ∨ k = 3 := by omega
  rcases hk3 with rfl | rfl | rfl
  · have : bs = [] := List.eq_nil_of_length_eq_zero (by omega)
    subst this; rfl
  · have hb : bs.length = 1 := by omega
    unfold longA stN
    rw [if_pos (by omega)]
    cases h : toUintA (bs.take 1) with
    | none => simp only; rw [if_neg (by omega)]; rfl
    | some n => rfl
  · have hb : 2 ≤ bs.length := by omega
    unfold longA stN
    rw [if_pos (by omega)]
    cases h : toUintA (bs.take 1) with
    | none =>
      simp only
      rw [if_pos hb]
      cases h' : toUintA (bs.take 2) with
      | none => rfl
      | some n => rfl
    | some n => rfl
theorem RowsR.snoc {M M' : Arrs} {cs : List Value} {ls : List (List UInt8)} {x : List UInt8} {rv : Value} (hR : RowsR M cs ls) (hr : RIn M' 1 rv x.length (bV x)) (hs : ∀ y ∈ M, y ∈ M') : RowsR M' (cs ++ [rv]) (ls ++ [x]) := by
  refine ⟨by simp [hR.1], fun j y hj => ?_⟩
  rw [List.getElem?_append] at hj ⊢
  rw [hR.1]
  split at hj
  · rename_i hlt
    obtain ⟨cv, h1, h2⟩ := hR.2 j y hj
    rw [if_pos hlt]
    exact ⟨cv, h1, h2.mono hs⟩
  · rename_i hge
    rw [if_neg hge]
    have h0 : j - ls.length = 0 := by
      rcases Nat.eq_zero_or_pos (j - ls.length) with h | h
      · exact h
      · rw [List.getElem?_eq_none (by simp; omega)] at hj; cases hj
    rw [h0] at hj ⊢
    cases hj
    exact ⟨rv, rfl, hr⟩
attribute [local irreducible] J K Ctr Ends pts slc mapR mapI sbRow stock arrS loopP CtrY diskA LI listH

set_option maxRecDepth 20000 in
theorem refRecords_any (A : HP) (v : Value) (bs : List UInt8) (hv : BAt A v bs) (hl : bs.length ≤ 2000000) :
    Ctr Try.prog 77 [v] [A] (fun r H => H = [listH r (recordsA bs), A]) := by
  have hbd := (recordsA_bound bs).2.1
  obtain ⟨a, c, rfl, hc⟩ := hv.2
  refine Ctr.enter Try.func77 (by kernel_rfl) rfl Try.ntmps77 rfl rfl ?_
  intro G F R hE
  (refine go ?_)
  refine K_ent (slc_lift 22 1 none _) ?_
  refine K_ent (Ent.trans (arrS_nil 5 _) (Ent.pick [1, 0] rfl)) ?_
  refine K_loop (fun y : (Option Addr × Nat) × List UInt8 × List (List UInt8) × (Option Addr × Nat) × List Value × Arrs => BAt A (.slice y.1.1 y.2.1.length y.1.2) y.2.1 ∧ y.2.2.1 ++ recordsA y.2.1 = recordsA bs ∧ RowsR y.2.2.2.2.2 y.2.2.2.2.1 y.2.2.1 ∧ y.2.1.length ≤ bs.length) (fun y => y.2.1.length)
    (fun y => [(0, .slice y.1.1 y.2.1.length y.1.2), (3, .slice y.2.2.2.1.1 y.2.2.1.length y.2.2.2.1.2)])
    (fun y => slc 22 1 (.slice y.2.2.2.1.1 y.2.2.1.length y.2.2.2.1.2) y.2.2.1.length y.2.2.2.2.1 :: arrS 5 y.2.2.2.2.2 :: A :: F) ((a, c), bs, [], (none, 0), [], []) ⟨hv, rfl, ⟨rfl, fun j y hj => by simp at hj⟩, Nat.le_refl _⟩ rfl (by repeat (first | exact keep_nil | refine keep_cons rfl ?_)) entA ?_
  rintro ⟨⟨a1, c1⟩, b1, acc, ⟨oa, oc⟩, cs, M⟩ ⟨hv1, hacc, hR, hb1⟩ ih0
  simp only at hv1 hacc hR hb1
  have hc1 : b1.length ≤ c1 := by
    obtain ⟨_, _, h1, h2⟩ := hv1.2
    simp only [Value.slice.injEq] at h1
    omega
  have hal : acc.length + (recordsA b1).length = (recordsA bs).length := by rw [← hacc, List.length_append]
  (refine go ?_)
  refine K_loop (fun k : Nat => 1 ≤ k ∧ k ≤ 3 ∧ k - 1 ≤ b1.length) (fun k => 3 - k)
    (fun k => [(0, .slice a1 b1.length c1), (3, .slice oa acc.length oc), (4, .int .i64 ((stN b1 k).1 : Int)), (5, .int .i64 ((stN b1 k).2 : Int)), (6, .int .i64 (k : Int))])
    (fun _ => slc 22 1 (.slice oa acc.length oc) acc.length cs :: arrS 5 M :: A :: F) 1 ⟨by omega, by omega, by omega⟩ rfl (by repeat (first | exact keep_nil | refine keep_cons rfl ?_)) entA ?_
  rintro k ⟨hk1, hk3, hkl⟩ ih
  by_cases hin : k ≤ 2 ∧ k ≤ b1.length
  case pos =>
    obtain ⟨hin1, hin2⟩ := hin
    (refine go ?_)
    (first | refine J_slot 11 ((.bool true)) rfl ((congrArg Value.bool (decide_eq_true (by omega)))) ?_ | refine K_slot 11 ((.bool true)) rfl ((congrArg Value.bool (decide_eq_true (by omega)))) ?_)
    (refine go ?_)
    refine K_condP rfl rfl ?_ ?_
    case' refine_2 => (intro h; exfalso; omega)
    intro _
    (refine go ?_)
    refine J_sliceAny (U := tab) (p := 0) (q := (k : Int)) rfl rfl rfl rfl rfl rfl rfl (by omega) (by omega) (.inr (by omega)) ?_
    have hf := hv1.front k hin2
    refine J_slot 22 (.slice (sliceAt a1 c1 0 1) k c1) rfl (by rw [show (0 : Int).toNat = 0 from rfl, show ((k : Int)).toNat = k from by omega]; rfl) ?_
    (first | refine J_callE rfl rfl rfl rfl (refToUint_any A _ (b1.take k) hf (by rw [List.length_take]; omega)) entA ?_ (fun _ _ _ _ _ => trivial) | refine J_call0E rfl rfl rfl (refToUint_any A _ (b1.take k) hf (by rw [List.length_take]; omega)) entA ?_ (fun _ _ _ _ _ => trivial) | (refine go ?_; first | refine J_callE rfl rfl rfl rfl (refToUint_any A _ (b1.take k) hf (by rw [List.length_take]; omega)) entA ?_ (fun _ _ _ _ _ => trivial) | refine J_call0E rfl rfl rfl (refToUint_any A _ (b1.take k) hf (by rw [List.length_take]; omega)) entA ?_ (fun _ _ _ _ _ => trivial)))
    have hk12 : k = 1 ∨ k = 2 := by omega
    cases hu : toUintA (b1.take k) with
    | none =>
      rintro _ _ ⟨rfl, rfl⟩
      rw [← stN_none hk12 hu]
      (refine go ?_)
      refine K_again ih (k + 1 : Nat) rfl ⟨by omega, by omega, by omega⟩ (by omega) (by repeat (first | exact keep_nil | refine keep_cons rfl ?_)) entA
    | some n =>
      rintro _ _ ⟨rfl, rfl⟩
      have hn16 := toUint_small hu (by rw [List.length_take]; omega)
      have hs := stN_some hk12 hu
      by_cases hm0 : (stN b1 k).2 = 0
      · rw [if_pos hm0] at hs
        (refine go ?_)
        refine K_condP rfl rfl ?_ ?_
        case' refine_2 => (intro h; exact absurd (by omega) h)
        intro _
        (refine go ?_)
        (first | refine J_slot 4 ((.int .i64 ((stN b1 (k + 1)).1 : Int))) rfl ((by rw [hs])) ?_ | refine K_slot 4 ((.int .i64 ((stN b1 (k + 1)).1 : Int))) rfl ((by rw [hs])) ?_)
        (first | refine J_slot 5 ((.int .i64 ((stN b1 (k + 1)).2 : Int))) rfl ((by rw [hs])) ?_ | refine K_slot 5 ((.int .i64 ((stN b1 (k + 1)).2 : Int))) rfl ((by rw [hs])) ?_)
        refine K_again ih (k + 1 : Nat) rfl ⟨by omega, by omega, by omega⟩ (by omega) (by repeat (first | exact keep_nil | refine keep_cons rfl ?_)) entA
      · rw [if_neg hm0] at hs
        (refine go ?_)
        refine K_condP rfl rfl ?_ ?_
        · intro h; exact absurd (by omega) hm0
        intro _
        (refine go ?_)
        rw [← hs]
        refine K_again ih (k + 1 : Nat) rfl ⟨by omega, by omega, by omega⟩ (by omega) (by repeat (first | exact keep_nil | refine keep_cons rfl ?_)) entA
  have hlong := stN_long b1 hk3 hk1 hkl (by omega)
  obtain ⟨hn16, hm2⟩ := stN_small b1 k
  have hlp := fun k n h => longA_pos (bs := b1) (k := k) (n := n) h
  generalize (stN b1 k).1 = n at hlong hn16
  generalize (stN b1 k).2 = many at hlong hm2
  rcases Nat.lt_or_ge 2 k with h3 | h3
  case' inl =>
    (refine go ?_)
    (first | refine J_slot 11 ((.bool false)) rfl ((congrArg Value.bool (decide_eq_false (by omega)))) ?_ | refine K_slot 11 ((.bool false)) rfl ((congrArg Value.bool (decide_eq_false (by omega)))) ?_)
    (refine go ?_)
  case' inr =>
    (refine go ?_)
    (first | refine J_slot 11 ((.bool true)) rfl ((congrArg Value.bool (decide_eq_true (by omega)))) ?_ | refine K_slot 11 ((.bool true)) rfl ((congrArg Value.bool (decide_eq_true (by omega)))) ?_)
    (refine go ?_)
    (first | refine J_slot 16 ((.bool false)) rfl ((congrArg Value.bool (decide_eq_false (by omega)))) ?_ | refine K_slot 16 ((.bool false)) rfl ((congrArg Value.bool (decide_eq_false (by omega)))) ?_)
    (refine go ?_)
  all_goals
    repeat' (first | (with_reducible intro _hh) | refine go1 ?_ | refine J_fork ?_ ?_ | refine J_gsP rfl rfl rfl rfl ?_ ?_ | refine K_condP rfl rfl ?_ ?_)
    any_goals (
      have hnil : recordsA b1 = [] := by
        by_cases hm0 : many = 0
        · rw [if_pos hm0] at hlong; exact recordsA_none hlong
        · rw [if_neg hm0] at hlong; exact recordsA_bad hlong (by omega)
      rw [hnil, List.append_nil] at hacc
      rw [← hacc] at hE
      refine K_ent (listH_in hR _) ?_
      (first | refine K_return hE Try.func77 rfl _ rfl rfl entA | refine K_fallEnd hE Try.func77 rfl _ rfl rfl entA))
    have hm0 : ¬ many = 0 := by omega
    rw [if_neg hm0] at hlong
    obtain ⟨hp1, hp2, hp3, _⟩ := hlp _ _ hlong
    have hcons := recordsA_cons hlong ⟨by omega, by omega⟩
    obtain ⟨x, hx⟩ : ∃ x, x = (b1.drop many).take n := ⟨_, rfl⟩
    have hxl : x.length = n := by rw [hx, List.length_take, List.length_drop]; omega
    rw [← hx] at hcons
    rw [hcons] at hacc hal
    rw [List.length_cons] at hal
    refine J_buildSlice1 (U := tab) (cs := []) rfl rfl rfl rfl rfl rfl rfl rfl rfl (fun _ _ _ => trivial) ?_
    intro b0
    refine J_ent (slc_row 5 1 b0 0 0 [] [] _ rfl (Nat.le_refl _) (by simp)) ?_
    (refine go ?_)
    refine J_sliceAny (U := tab) (p := (many : Int)) (q := (many : Int) + (n : Int)) rfl rfl rfl rfl rfl rfl rfl (by omega) (by omega) (.inr (by omega)) ?_
    have hp := hv1.piece many (many + n) (by omega) (by omega)
    rw [show many + n - many = n from by omega, ← hx] at hp
    refine J_slot 57 (.slice (sliceAt a1 c1 many 1) n (c1 - many)) rfl (by rw [show ((many : Int)).toNat = many from by omega, show ((many : Int) + (n : Int)).toNat = many + n from by omega, show many + n - many = n from by omega]; rfl) ?_
    refine J_append (U := tab) (mm := n) (news := bV x) 0 3 rfl rfl rfl rfl rfl rfl rfl rfl rfl rfl rfl rfl (by have := hp.1; rw [hxl] at this; exact this) (by show _ = _ * 1; rw [bV_length]; omega) (bV_one _) (by omega) (by show _ * 1 ≤ _; omega) (fun _ => rfl) (fun _ _ _ => trivial) ?_
    intro v1
    rw [show (0 : Nat) + n = x.length from by omega, List.nil_append]
    (first | refine J_shape 0 rfl ?_ | refine K_shape 0 rfl ?_)
    rintro xa xc rfl
    (refine go ?_)
    refine J_buildSlice1 (U := tab) rfl rfl rfl rfl rfl rfl rfl rfl rfl (fun _ _ _ => trivial) ?_
    intro b2
    refine J_append (U := tab) (mm := 1) (news := [.slice xa x.length xc]) 2 0 rfl rfl rfl rfl rfl rfl rfl rfl rfl rfl rfl rfl (Vw.pts rfl) rfl (by simp [Value.oneCell']) (by omega) (by show (_ + 1) * 24 ≤ _; omega) (fun _ => rfl) (fun _ _ _ => trivial) ?_
    intro v2
    rw [show acc.length + 1 = (acc ++ [x]).length from by simp]
    (first | refine J_shape 2 rfl ?_ | refine K_shape 2 rfl ?_)
    rintro oa2 oc2 rfl
    (refine go ?_)
    refine J_sliceAny (U := tab) (p := (many : Int) + (n : Int)) (q := (b1.length : Int)) rfl rfl rfl rfl rfl rfl rfl (by omega) (by omega) (.inl rfl) ?_
    have hct := hv1.cut (many + n) (by omega)
    rw [show b1.length - (many + n) = (b1.drop (many + n)).length from by rw [List.length_drop]] at hct
    refine J_slot 65 (.slice (sliceAt a1 c1 (many + n) 1) (b1.drop (many + n)).length (c1 - (many + n))) rfl (by rw [show ((many : Int) + (n : Int)).toNat = many + n from by omega, show ((b1.length : Int)).toNat = b1.length from by omega, List.length_drop]; rfl) ?_
    (refine go ?_)
    refine K_ent (Ent.pick [1, 3] rfl) ?_
    refine K_ent (Ent.join _ _ _) ?_
    refine K_open (row_slcO 5 1 x.length _ (bV x) M) ?_
    rintro M' ⟨hrin, hsub⟩
    refine K_again ih0 ((sliceAt a1 c1 (many + n) 1, c1 - (many + n)), b1.drop (many + n), acc ++ [x], (oa2, oc2), cs ++ [.slice xa x.length xc], M') rfl ⟨hct, by simp only; rw [List.append_assoc]; exact hacc, hR.snoc hrin hsub, by simp only [List.length_drop]; omega⟩ (by simp only [List.length_drop]; omega) (by repeat (first | exact keep_nil | refine keep_cons rfl ?_)) entA
end Go.Proofs.Ytpdmbmnhgcnelaa

/- the reference's journal, part c: Told, all. -/
set_option linter.unusedVariables false
set_option linter.unusedSimpArgs false
namespace Go.Proofs.Ytpdmbmnhgcnelaa
open Go Go.SL
theorem head_half {h : List UInt8} (hl : h.length = 16) : (h = headL (leN h) (leN (h.drop 4))) ↔ h.take 8 = h.drop 8 := by
  have hlow : ∀ b : List UInt8, 4 ≤ b.length → le4 (leN b) = b.take 4 := fun b hb => by
    have h1 : leN (b.take 4) = leN b := by
      match b, hb with
      | a :: b :: c :: d :: r, _ => rfl
    rw [← h1]; exact le4_leN _ (by rw [List.length_take]; omega)
  have hd : headL (leN h) (leN (h.drop 4)) = h.take 8 ++ h.take 8 := by
    unfold headL
    rw [hlow h (by omega), hlow (h.drop 4) (by rw [List.length_drop]; omega)]
    have : h.take 4 ++ (h.drop 4).take 4 = h.take 8 := by rw [← List.take_add]
    rw [this]
  rw [hd]
  have hs : h = h.take 8 ++ h.drop 8 := (List.take_append_drop 8 h).symm
  constructor
  · intro he
    have h1 : h.take 8 ++ h.drop 8 = h.take 8 ++ h.take 8 := by rw [← hs]; exact he
    exact (List.append_cancel_left h1).symm
  · intro he
    conv => lhs; rw [hs]
    rw [← he]
attribute [local irreducible] J K Ctr Ends pts slc mapR mapI sbRow stock arrS loopP CtrY diskA LI listH

set_option maxRecDepth 20000 in
theorem refTold_any (A : HP) (v : Value) (b : List UInt8) (hv : BAt A v b) (hl : b.length ≤ 1048576) :
    Ctr Try.prog 47 [v] [A] (fun r H => H = [listH r (recordsA (foundL b)), A]) := by
  obtain ⟨a, c, rfl, hc⟩ := hv.2
  refine Ctr.enter Try.func47 (by kernel_rfl) rfl Try.ntmps47 rfl rfl ?_
  intro G F R hE
  repeat' (first | (with_reducible intro _hh) | refine go1 ?_ | refine J_fork ?_ ?_ | refine J_gsP rfl rfl rfl rfl ?_ ?_ | refine K_condP rfl rfl ?_ ?_)
  case' refine_1 =>
    have hn : foundL b = [] := by unfold foundL; rw [if_pos (by omega)]
    rw [hn, records_nil] at hE
    refine K_ent (slc_lift 22 1 none _) ?_
    refine K_ent (Ent.trans (arrS_nil 5 _) (Ent.pick [1, 0] rfl)) ?_
    refine K_ent (listH_in (ls := []) ⟨rfl, fun j y hj => by simp at hj⟩ _) ?_
    (first | refine K_return hE Try.func47 rfl _ rfl rfl entA | refine K_fallEnd hE Try.func47 rfl _ rfl rfl entA)
  have hb32 : 32 ≤ b.length := by omega
  refine K_loop (fun s : Nat × Nat × Nat => s.1 ≤ 2 ∧ (s.1 = 0 → s.2 = (0, 0)) ∧ (s.1 = 1 → s.2 = lastOf2 b 0 (0, 0)) ∧ (s.1 = 2 → s.2 = lastOf2 b 1 (lastOf2 b 0 (0, 0))) ∧ s.2.2 + 32 ≤ b.length ∧ s.2.1 ≤ 1073741824) (fun s => 2 - s.1)
    (fun s => [(0, .slice a b.length c), (3, .int .i64 (s.2.1 : Int)), (4, .int .i64 (s.2.2 : Int)), (5, .int .i64 (s.1 : Int))])
    (fun _ => A :: F) (0, 0, 0) ⟨by omega, fun _ => rfl, by omega, by omega, by simp only; omega, by simp only; omega⟩ rfl (by repeat (first | exact keep_nil | refine keep_cons rfl ?_)) entA ?_
  rintro ⟨k, last, len⟩ ⟨hk, hk0, hk1, hk2, hlen, hlast⟩ ih
  simp only at hk hk0 hk1 hk2 hlen hlast
  (refine go ?_)
  refine K_condP rfl rfl ?_ ?_
  case' refine_2 =>
    intro hge
    simp only at hge
    have h2 := hk2 (by omega)
    have hf : foundL b = (b.drop 32).take len := by unfold foundL; rw [if_neg (by omega), ← h2]
    (refine go ?_)
    refine J_sliceAny (U := tab) (p := 32) (q := 32 + (len : Int)) rfl rfl rfl rfl rfl rfl rfl (by omega) (by omega) (.inr (by omega)) ?_
    have hp := hv.piece 32 (32 + len) (by omega) (by omega)
    rw [show 32 + len - 32 = len from by omega, ← hf] at hp
    have hfl : (foundL b).length = len := by rw [hf, List.length_take, List.length_drop]; omega
    refine J_slot 62 (.slice (sliceAt a c 32 1) len (c - 32)) rfl (by rw [show (32 : Int).toNat = 32 from rfl, show (32 + (len : Int)).toNat = 32 + len from by omega, show 32 + len - 32 = len from by omega]; rfl) ?_
    (first | refine J_callE rfl rfl rfl rfl (refRecords_any A _ (foundL b) hp (by omega)) entA ?_ (fun _ _ _ _ _ => trivial) | refine J_call0E rfl rfl rfl (refRecords_any A _ (foundL b) hp (by omega)) entA ?_ (fun _ _ _ _ _ => trivial) | (refine go ?_; first | refine J_callE rfl rfl rfl rfl (refRecords_any A _ (foundL b) hp (by omega)) entA ?_ (fun _ _ _ _ _ => trivial) | refine J_call0E rfl rfl rfl (refRecords_any A _ (foundL b) hp (by omega)) entA ?_ (fun _ _ _ _ _ => trivial)))
    rintro r _ rfl
    (refine go ?_)
    (first | refine K_return hE Try.func47 rfl _ rfl rfl entA | refine K_fallEnd hE Try.func47 rfl _ rfl rfl entA)
  intro hlt
  simp only at hlt
  have hk16 : 16 * k + 16 ≤ b.length := by omega
  (refine go ?_)
  refine J_mul rfl rfl rfl (by simp only [inK]; omega) ?_
  (refine go ?_)
  refine J_mul rfl rfl rfl (by simp only [inK]; omega) ?_
  (refine go ?_)
  refine J_sliceAny (U := tab) (p := 16 * (k : Int)) (q := 16 * (k : Int) + 16) rfl rfl rfl rfl rfl rfl rfl (by omega) (by omega) (.inr (by omega)) ?_
  have hp1 := hv.piece (16 * k) (16 * k + 16) (by omega) (by omega)
  rw [show 16 * k + 16 - 16 * k = 16 from by omega] at hp1
  obtain ⟨hd, hhd⟩ : ∃ hd, hd = (b.drop (16 * k)).take 16 := ⟨_, rfl⟩
  have hdl : hd.length = 16 := by rw [hhd]; exact hd16 hk16
  rw [← hhd] at hp1
  obtain ⟨a1, ha1⟩ : ∃ a1, a1 = sliceAt a c (16 * k) 1 := ⟨_, rfl⟩
  rw [← ha1] at hp1
  refine J_slot 22 (.slice a1 16 (c - 16 * k)) rfl (by rw [ha1, show (16 * (k : Int)).toNat = 16 * k from by omega, show (16 * (k : Int) + 16).toNat = 16 * k + 16 from by omega, show 16 * k + 16 - 16 * k = 16 from by omega]; rfl) ?_
  (refine go ?_)
  (first | refine J_callE rfl rfl rfl rfl (refOf_any A _ hd (by rw [hdl]; have := hp1.1; rw [hdl] at this; exact this) (by omega)) entA ?_ (fun _ _ _ _ _ => trivial) | refine J_call0E rfl rfl rfl (refOf_any A _ hd (by rw [hdl]; have := hp1.1; rw [hdl] at this; exact this) (by omega)) entA ?_ (fun _ _ _ _ _ => trivial) | (refine go ?_; first | refine J_callE rfl rfl rfl rfl (refOf_any A _ hd (by rw [hdl]; have := hp1.1; rw [hdl] at this; exact this) (by omega)) entA ?_ (fun _ _ _ _ _ => trivial) | refine J_call0E rfl rfl rfl (refOf_any A _ hd (by rw [hdl]; have := hp1.1; rw [hdl] at this; exact this) (by omega)) entA ?_ (fun _ _ _ _ _ => trivial)))
  rintro _ _ ⟨rfl, rfl⟩
  (refine go ?_)
  refine J_sliceAny (U := tab) (p := 4) (q := 16) rfl rfl rfl rfl rfl rfl rfl (by omega) (by omega) (.inl rfl) ?_
  have hh2 : BAt A (.slice a1 hd.length (c - 16 * k)) hd := by rw [hdl]; exact hp1
  have hh3 := hh2.cut 4 (by omega)
  rw [hdl] at hh3
  refine J_slot 26 (.slice (sliceAt a1 (c - 16 * k) 4 1) (16 - 4) (c - 16 * k - 4)) rfl (by rw [show (4 : Int).toNat = 4 from rfl, show (16 : Int).toNat = 16 from rfl]; rfl) ?_
  (first | refine J_callE rfl rfl rfl rfl (refOf_any A _ (hd.drop 4) hh3.1 (by rw [List.length_drop]; omega)) entA ?_ (fun _ _ _ _ _ => trivial) | refine J_call0E rfl rfl rfl (refOf_any A _ (hd.drop 4) hh3.1 (by rw [List.length_drop]; omega)) entA ?_ (fun _ _ _ _ _ => trivial) | (refine go ?_; first | refine J_callE rfl rfl rfl rfl (refOf_any A _ (hd.drop 4) hh3.1 (by rw [List.length_drop]; omega)) entA ?_ (fun _ _ _ _ _ => trivial) | refine J_call0E rfl rfl rfl (refOf_any A _ (hd.drop 4) hh3.1 (by rw [List.length_drop]; omega)) entA ?_ (fun _ _ _ _ _ => trivial)))
  rintro _ _ ⟨rfl, rfl⟩
  have hn := leN_lt hd
  have hm := leN_lt (hd.drop 4)
  have hok : headOk b k last = decide (last < leN hd ∧ leN hd ≤ 1073741824 ∧ leN hd % 2 = k ∧ leN (hd.drop 4) + 32 ≤ b.length ∧ hd.take 8 = hd.drop 8) := by
    unfold headOk; rw [← hhd]; exact decide_eq_decide.2 (by rw [head_half hdl])
  have hnx : ∀ s' : Nat × Nat, s' = lastOf2 b k (last, len) → s'.2 + 32 ≤ b.length ∧ s'.1 ≤ 1073741824 → (k + 1 ≤ 2 ∧ (k + 1 = 0 → s' = (0, 0)) ∧ (k + 1 = 1 → s' = lastOf2 b 0 (0, 0)) ∧ (k + 1 = 2 → s' = lastOf2 b 1 (lastOf2 b 0 (0, 0))) ∧ s'.2 + 32 ≤ b.length ∧ s'.1 ≤ 1073741824) := by
    intro s' h1 h2
    refine ⟨by omega, by omega, fun h => ?_, fun h => ?_, h2⟩
    · have : k = 0 := by omega
      subst this; rw [h1, hk0 rfl]
    · have : k = 1 := by omega
      subst this; rw [h1, hk1 rfl]
  have hbad : headOk b k last = false → (last, len) = lastOf2 b k (last, len) := fun h => by unfold lastOf2; rw [if_neg (by rw [h]; simp)]
  have hgood : headOk b k last = true → (leN hd, leN (hd.drop 4)) = lastOf2 b k (last, len) := fun h => by unfold lastOf2; rw [if_pos h, ← hhd]
  (refine go ?_)
  refine K_drawA (fun w => Sat G w ([A])) (sts 0 29 .nil) rfl (by kernel_rfl) (by kernel_rfl) (by kernel_rfl) (fun w hw => hw.ent entA) ?_
  repeat' (first | (with_reducible intro _hh) | refine go1 ?_ | refine J_fork ?_ ?_ | refine J_gsP rfl rfl rfl rfl ?_ ?_ | refine K_condP rfl rfl ?_ ?_ | refine J_rem rfl rfl rfl (by omega) (by omega) ?_)
  any_goals (
    have hf : headOk b k last = false := by rw [hok]; exact decide_eq_false (fun h => by simp only at *; omega)
    refine K_again ih (k + 1, last, len) rfl (hnx _ (hbad hf) ⟨hlen, hlast⟩) (by simp only; omega) (by repeat (first | exact keep_nil | refine keep_cons rfl ?_)) entA)
  simp only at *
  have hf8 := hh2.front 8 (by omega)
  have hc8 := hh2.cut 8 (by omega)
  rw [hdl] at hc8
  refine J_sliceAny (U := tab) (p := 0) (q := 8) rfl rfl rfl rfl rfl rfl rfl (by omega) (by omega) (.inr (by omega)) ?_
  refine J_slot 50 (.slice (sliceAt a1 (c - 16 * k) 0 1) 8 (c - 16 * k)) rfl (by rw [show (0 : Int).toNat = 0 from rfl, show (8 : Int).toNat = 8 from rfl]; rfl) ?_
  (refine go ?_)
  refine J_toStrS (U := tab) 0 rfl rfl rfl rfl rfl rfl rfl rfl rfl (by have := hf8.1; rw [show (hd.take 8).length = 8 from by rw [List.length_take]; omega] at this ⊢; exact this) ?_
  (refine go ?_)
  refine J_sliceAny (U := tab) (p := 8) (q := 16) rfl rfl rfl rfl rfl rfl rfl (by omega) (by omega) (.inl rfl) ?_
  refine J_slot 53 (.slice (sliceAt a1 (c - 16 * k) 8 1) (16 - 8) (c - 16 * k - 8)) rfl (by rw [show (8 : Int).toNat = 8 from rfl, show (16 : Int).toNat = 16 from rfl]; rfl) ?_
  (refine go ?_)
  refine J_toStrS (U := tab) 0 rfl rfl rfl rfl rfl rfl rfl rfl rfl hc8.1 ?_
  (refine go ?_)
  rw [eqS_strOf]
  refine K_condP rfl rfl ?_ ?_
  · intro hh
    have hf : headOk b k last = true := by rw [hok]; exact decide_eq_true ⟨by omega, by omega, by omega, by omega, hh⟩
    (refine go ?_)
    refine K_again ih (k + 1, leN hd, leN (hd.drop 4)) rfl (hnx _ (hgood hf) ⟨by simp only; omega, by simp only; omega⟩) (by simp only; omega) (by repeat (first | exact keep_nil | refine keep_cons rfl ?_)) entA
  · intro hh
    have hf : headOk b k last = false := by rw [hok]; exact decide_eq_false (fun h => hh h.2.2.2.2)
    (refine go ?_)
    refine K_again ih (k + 1, last, len) rfl (hnx _ (hbad hf) ⟨hlen, hlast⟩) (by simp only; omega) (by repeat (first | exact keep_nil | refine keep_cons rfl ?_)) entA

theorem flatT_take {ls : List (List UInt8)} {i : Nat} {x : List UInt8} (hx : ls[i]? = some x) : (ls.take (i + 1)).flatMap encL = (ls.take i).flatMap encL ++ encL x := by
  rw [List.take_add_one, hx, Option.toList_some, List.flatMap_append]; simp
theorem flatT_le (ls : List (List UInt8)) (i : Nat) : ((ls.take i).flatMap encL).length ≤ (ls.flatMap encL).length := by
  conv => rhs; rw [← List.take_append_drop i ls]
  rw [List.flatMap_append, List.length_append]; omega
set_option maxRecDepth 20000 in
theorem refAll_any (A : HP) (v : Value) (ls : List (List UInt8)) (hv : LAt A v ls) (hl : (ls.flatMap encL).length ≤ 1000000000) (hn : ls.length ≤ 1000000000) :
    Ctr Try.prog 79 [v] [A] (fun r H => H = [slc 5 1 r (ls.flatMap encL).length (bV (ls.flatMap encL)), A]) := by
  obtain ⟨cs, hvv, hcl, ⟨a, c, rfl, hc⟩, hcs⟩ := hv
  refine Ctr.enter Try.func79 (by kernel_rfl) rfl Try.ntmps79 rfl rfl ?_
  intro G F R hE
  (refine go ?_)
  refine K_ent (slc_lift 5 1 none _) ?_
  refine K_loop (fun y : Nat × List UInt8 × Option Addr × Nat => y.1 ≤ ls.length ∧ y.2.1 = (ls.take y.1).flatMap encL) (fun y => ls.length - y.1)
    (fun y => [(0, .slice a ls.length c), (3, .slice y.2.2.1 y.2.1.length y.2.2.2), (4, .int .i64 (y.1 : Int))])
    (fun y => slc 5 1 (.slice y.2.2.1 y.2.1.length y.2.2.2) y.2.1.length (bV y.2.1) :: A :: F) (0, [], none, 0) ⟨Nat.zero_le _, rfl⟩ rfl (by repeat (first | exact keep_nil | refine keep_cons rfl ?_)) entA ?_
  rintro ⟨i, acc, a1, c1⟩ ⟨hi, hacc⟩ ih
  simp only at hi hacc
  have hal := flatT_le ls i
  rw [← hacc] at hal
  (refine go ?_)
  refine K_condP rfl rfl ?_ ?_
  case' refine_2 =>
    intro hge
    simp only at hge
    have hend : acc = ls.flatMap encL := by rw [hacc, List.take_of_length_le (by omega)]
    subst hend
    (refine go ?_)
    (first | refine K_return hE Try.func79 rfl _ rfl rfl entA | refine K_fallEnd hE Try.func79 rfl _ rfl rfl entA)
  intro hlt
  simp only at hlt
  have hi' : i < ls.length := by omega
  obtain ⟨x, hx⟩ : ∃ x, ls[i]? = some x := ⟨ls[i], by simp⟩
  obtain ⟨cv, hcv, hbx⟩ := hcs i x hx
  obtain ⟨xa, xc, rfl, hxc⟩ := hbx.2
  have hft := flatT_take hx
  have hal1 := flatT_le ls (i + 1)
  rw [hft, List.length_append, ← hacc] at hal1
  have hex : (encL x).length = (uv x.length).length + x.length := by simp [encL]
  obtain ⟨bb, oo, cc, hsl⟩ := hvv.some (by intro e; rw [e] at hcv; simp at hcv)
  simp only [Value.slice.injEq, true_and] at hsl
  obtain ⟨rfl, rfl⟩ := hsl
  (refine go ?_)
  refine J_at1 (U := tab) i rfl rfl rfl rfl rfl rfl rfl rfl hi' ?_
  refine J_loadAt (U := tab) 1 i rfl rfl rfl hvv rfl hcv rfl rfl ?_
  (first | refine J_callE rfl rfl rfl rfl (refRecord_any A _ x hbx (by omega)) entA ?_ (fun _ _ _ _ _ => trivial) | refine J_call0E rfl rfl rfl (refRecord_any A _ x hbx (by omega)) entA ?_ (fun _ _ _ _ _ => trivial) | (refine go ?_; first | refine J_callE rfl rfl rfl rfl (refRecord_any A _ x hbx (by omega)) entA ?_ (fun _ _ _ _ _ => trivial) | refine J_call0E rfl rfl rfl (refRecord_any A _ x hbx (by omega)) entA ?_ (fun _ _ _ _ _ => trivial)))
  rintro r _ rfl
  (first | refine J_shape 0 rfl ?_ | refine K_shape 0 rfl ?_)
  rintro ra rc rfl
  refine J_slcB (bs := encL x) 0 rfl ?_
  intro hbr
  (refine go ?_)
  refine J_append (U := tab) (mm := (encL x).length) (news := bV (encL x)) 2 0 rfl rfl rfl rfl rfl rfl rfl rfl rfl rfl rfl rfl hbr.1 (by show _ = _ * 1; rw [bV_length]; omega) (bV_one _) (by simp only; omega) (by show (_ + _) * 1 ≤ _; simp only; omega) (fun _ => rfl) (fun _ _ _ => trivial) ?_
  intro v1
  simp only
  rw [show bV acc ++ bV (encL x) = bV (acc ++ encL x) from by simp [bV], show acc.length + (encL x).length = (acc ++ encL x).length from by simp]
  (first | refine J_shape 2 rfl ?_ | refine K_shape 2 rfl ?_)
  rintro a2 c2 rfl
  (refine go ?_)
  refine K_again ih (i + 1, acc ++ encL x, a2, c2) rfl ⟨by simp only; omega, by simp only; rw [hft, hacc]⟩ (by simp only; omega) (by repeat (first | exact keep_nil | refine keep_cons rfl ?_)) entA
end Go.Proofs.Ytpdmbmnhgcnelaa

/- the reference's disk, known by its model alone. -/
set_option linter.unusedVariables false
set_option linter.unusedSimpArgs false
namespace Go.Proofs.Ytpdmbmnhgcnelaa
open Go Go.SL
attribute [local irreducible] J K Ctr Ends pts slc mapR mapI sbRow stock arrS
def rdM (br : Nat) (m : RM) : HP := fun h => ∃ D, RR D m ∧ rd br D h
theorem rdM_in {br : Nat} {D : RDk} {m : RM} (h : RR D m) (H : List HP) : Ent (rd br D :: H) (rdM br m :: H) := Ent.fold (B := [_]) fun h' hs => ⟨h', sub.refl h', D, h, Sep_one hs⟩
theorem sat_rdM {G : Glob} {w : World} {br : Nat} {m : RM} {H : List HP} (hs : Sat G w (rdM br m :: H)) : ∃ D, RR D m ∧ Sat G w (rd br D :: H) := by
  obtain ⟨t, o, u, hp, hpw, h1, h2, ⟨D, hR, hA⟩, hH, hd, he⟩ := hs
  exact ⟨D, hR, t, o, u, hp, hpw, h1, h2, hA, hH, hd, he⟩
end Go.Proofs.Ytpdmbmnhgcnelaa
namespace Go.Proofs.Ytpdmbmnhgcnelaa
open Go Go.SL
theorem ctr_rd {P : Program} {f : FuncId} {args : List Value} {br : Nat} {m : RM} {Pre : List HP} {Post Post' : Value → List HP → Prop} (hc : P.funcs[f]?.map callable = some true)
    (h : ∀ D, RR D m → Ctr P f args (rd br D :: Pre) Post) (hp : ∀ v H, Post v H → ∃ H', Post' v H' ∧ Ent H H') : Ctr P f args (rdM br m :: Pre) Post' :=
  ⟨hc, fun G w F hw => by
    obtain ⟨D, hR, hw1⟩ := sat_rdM hw
    exact ((h D hR).2 G w F hw1).mono fun e w' h' => let ⟨v, H, he, hpo, hs⟩ := h'; let ⟨H', hq, hE⟩ := hp v H hpo; ⟨v, H', he, hq, hs.ent (Ent.append F hE)⟩⟩
attribute [local irreducible] J K Ctr Ends pts slc mapR mapI sbRow stock arrS
theorem New_rM (room : Int) (h1 : 1 ≤ room) (h2 : room ≤ 1073741824) : Ctr Try.prog 8 [.int .i64 room] [] (fun v H => ∃ br, v = .tuple #[ptr br, .int .i64 0] ∧ H = [rdM br (RM.new room)]) :=
  Ctr.conv (mNew_any room h1 h2) (Ent.refl _) (by rintro v H ⟨br, D, hR, rfl, rfl⟩; exact ⟨_, ⟨br, rfl, rfl⟩, rdM_in hR _⟩)
theorem Create_rM (br k : Nat) (m : RM) (hM : MOk m k) (name : ByteArray) (hs : name.size ≤ 9223372036854775807) :
    Ctr Try.prog 11 [ptr br, .string name] [rdM br m] (fun v H => v = .int .i64 ((m.create (isName name) name).1 : Int) ∧ H = [rdM br (m.create (isName name) name).2]) :=
  ctr_rd (by kernel_rfl) (fun D hR => mCreate_any br k D m hR hM name hs) (by rintro v H ⟨D', hR, rfl, rfl⟩; exact ⟨_, ⟨rfl, rfl⟩, rdM_in hR _⟩)
theorem Sync_rM (br k : Nat) (m : RM) (hM : MOk m k) (name : ByteArray) (hs : name.size ≤ 9223372036854775807) :
    Ctr Try.prog 80 [ptr br, .string name] [rdM br m] (fun v H => v = .int .i64 ((m.sync (isName name) name).1 : Int) ∧ H = [rdM br (m.sync (isName name) name).2]) :=
  ctr_rd (by kernel_rfl) (fun D hR => mSync_any br k D m hR hM name hs) (by rintro v H ⟨D', hR, rfl, rfl⟩; exact ⟨_, ⟨rfl, rfl⟩, rdM_in hR _⟩)
theorem Remove_rM (br k : Nat) (m : RM) (hM : MOk m k) (name : ByteArray) (hs : name.size ≤ 9223372036854775807) :
    Ctr Try.prog 78 [ptr br, .string name] [rdM br m] (fun v H => v = .int .i64 ((m.remove (isName name) name).1 : Int) ∧ H = [rdM br (m.remove (isName name) name).2]) :=
  ctr_rd (by kernel_rfl) (fun D hR => mRemove_any br k D m hR hM name hs) (by rintro v H ⟨D', hR, rfl, rfl⟩; exact ⟨_, ⟨rfl, rfl⟩, rdM_in hR _⟩)
theorem Rename_rM (br k : Nat) (m : RM) (hM : MOk m k) (old name : ByteArray) (hs : old.size ≤ 9223372036854775807) (hs2 : name.size ≤ 9223372036854775807) :
    Ctr Try.prog 81 [ptr br, .string old, .string name] [rdM br m] (fun v H => v = .int .i64 ((m.rename (isName old && isName name) old name).1 : Int) ∧ H = [rdM br (m.rename (isName old && isName name) old name).2]) :=
  ctr_rd (by kernel_rfl) (fun D hR => mRename_any br k D m hR hM old name hs hs2) (by rintro v H ⟨D', hR, rfl, rfl⟩; exact ⟨_, ⟨rfl, rfl⟩, rdM_in hR _⟩)
theorem SyncNames_rM (br : Nat) (m : RM) : Ctr Try.prog 82 [ptr br] [rdM br m] (fun v H => v = .int .i64 (m.syncNames.1 : Int) ∧ H = [rdM br m.syncNames.2]) :=
  ctr_rd (by kernel_rfl) (fun D hR => mSyncNames_any br D m hR) (by rintro v H ⟨D', hR, rfl, rfl⟩; exact ⟨_, ⟨rfl, rfl⟩, rdM_in hR _⟩)
theorem Write_rM (br k : Nat) (m : RM) (hM : MOk m k) (name : ByteArray) (hs : name.size ≤ 9223372036854775807) (at_ : Int) (ha : -9223372036854775808 ≤ at_ ∧ at_ ≤ 9223372036854775807)
    (X : HP) (bv : Value) (b : List UInt8) (hv : Vw X bv b.length (bV b)) (hb : b.length ≤ 9223372036854775807) :
    Ctr Try.prog 13 [ptr br, .string name, .int .i64 at_, bv] [rdM br m, X] (fun v H => v = .int .i64 ((m.write (wOk name at_ b.length) name at_.toNat b).1 : Int) ∧ H = [rdM br (m.write (wOk name at_ b.length) name at_.toNat b).2, X]) :=
  ctr_rd (by kernel_rfl) (fun D hR => mWrite_any br k D m hR hM name hs at_ ha X bv b hv hb) (by rintro v H ⟨D', hR, rfl, rfl⟩; exact ⟨_, ⟨rfl, rfl⟩, rdM_in hR _⟩)
theorem Size_rM (br k : Nat) (m : RM) (hM : MOk m k) (name : ByteArray) :
    Ctr Try.prog 45 [ptr br, .string name] [rdM br m] (fun v H => v = .tuple #[.int .i64 ((m.size name).1 : Int), .int .i64 ((m.size name).2 : Int)] ∧ H = [rdM br m]) :=
  ctr_rd (Post := fun v H => ∃ D, RR D m ∧ v = .tuple #[.int .i64 ((m.size name).1 : Int), .int .i64 ((m.size name).2 : Int)] ∧ H = [rd br D]) (by kernel_rfl) (fun D hR => (mSize_any br k D m hR hM name).post (fun v H h => ⟨D, hR, h⟩)) (by rintro v H ⟨D', hR, rfl, rfl⟩; exact ⟨_, ⟨rfl, rfl⟩, rdM_in hR _⟩)
theorem Read_rM (br k : Nat) (m : RM) (hM : MOk m k) (name : ByteArray) (at_ n : Int) (ha : -9223372036854775808 ≤ at_ ∧ at_ ≤ 9223372036854775807) (hn : -9223372036854775808 ≤ n ∧ n ≤ 9223372036854775807) :
    Ctr Try.prog 46 [ptr br, .string name, .int .i64 at_, .int .i64 n] [rdM br m] (fun v H => ∃ (a : Option Addr) (c : Nat), v = .tuple #[.slice a (m.read name at_ n).1.length c, .int .i64 ((m.read name at_ n).2 : Int)] ∧ H = [slc 5 1 (.slice a (m.read name at_ n).1.length c) (m.read name at_ n).1.length (bV (m.read name at_ n).1), rdM br m]) :=
  ctr_rd (Post := fun v H => ∃ D, RR D m ∧ ∃ (a : Option Addr) (c : Nat), v = .tuple #[.slice a (m.read name at_ n).1.length c, .int .i64 ((m.read name at_ n).2 : Int)] ∧ H = [slc 5 1 (.slice a (m.read name at_ n).1.length c) (m.read name at_ n).1.length (bV (m.read name at_ n).1), rd br D]) (by kernel_rfl) (fun D hR => (mRead_any br k D m hR hM name at_ n ha hn).post (fun v H h => ⟨D, hR, h⟩)) (by rintro v H ⟨D', hR, a, c, rfl, rfl⟩; exact ⟨_, ⟨a, c, rfl, rfl⟩, Ent.cons _ (rdM_in hR [])⟩)
/-! ## put, plain -/
def andThen (x : Nat × RM) (f : RM → Nat × RM) : Nat × RM := if x.1 = 0 then f x.2 else x
theorem andThen_ok {x : Nat × RM} (h : x.1 = 0) (f : RM → Nat × RM) : andThen x f = f x.2 := if_pos h
theorem andThen_no {x : Nat × RM} (h : ¬ x.1 = 0) (f : RM → Nat × RM) : andThen x f = x := if_neg h
namespace RM
def put0 (m : RM) (name : ByteArray) : Nat × RM := if (m.size (freshOf name)).2 = 0 then m.remove (isName (freshOf name)) (freshOf name) else (0, m)
def put1 (m : RM) (name : ByteArray) : Nat × RM := andThen (m.put0 name) fun m => m.create (isName (freshOf name)) (freshOf name)
def put2 (m : RM) (name : ByteArray) (ls : List (List UInt8)) : Nat × RM := andThen (m.put1 name) fun m => m.write (wOk (freshOf name) 0 (wholeOf ls).length) (freshOf name) 0 (wholeOf ls)
def put3 (m : RM) (name : ByteArray) (ls : List (List UInt8)) : Nat × RM := andThen (m.put2 name ls) fun m => m.sync (isName (freshOf name)) (freshOf name)
def put4 (m : RM) (name : ByteArray) (ls : List (List UInt8)) : Nat × RM := andThen (m.put3 name ls) fun m => m.rename (isName (freshOf name) && isName name) (freshOf name) name
def put (m : RM) (name : ByteArray) (ls : List (List UInt8)) : Nat × RM := andThen (m.put4 name ls) fun m => m.syncNames
end RM
theorem wOk_bound {name : ByteArray} {at_ : Int} {n : Nat} (h : wOk name at_ n = true) : at_.toNat + n ≤ 1048576 := by
  unfold wOk at h
  rw [Bool.and_eq_true, decide_eq_true_eq] at h
  omega
theorem mayW_wOk (name : ByteArray) (at_ : Int) (b : List UInt8) : mayW name at_ b = wOk name at_ b.length := by
  unfold mayW wOk
  rw [Bool.and_assoc, Bool.and_assoc]
  congr 1
  rw [← Bool.decide_and, ← Bool.decide_and]
theorem MOk.put0 {m : RM} {k : Nat} (h : MOk m k) (hk : k + 1 ≤ 100000) (name : ByteArray) : MOk (m.put0 name).2 (k + 1) := by
  unfold RM.put0
  split
  · exact h.remove hk _ _
  · exact h.up (Nat.le_succ _) hk
theorem MOk.put1 {m : RM} {k : Nat} (h : MOk m k) (hk : k + 2 ≤ 100000) (name : ByteArray) : MOk (m.put1 name).2 (k + 2) := by
  have h0 := h.put0 (by omega) name
  unfold RM.put1 andThen
  split
  · exact h0.create hk _ _
  · exact h0.up (Nat.le_succ _) hk
theorem MOk.put2 {m : RM} {k : Nat} (h : MOk m k) (hk : k + 3 ≤ 100000) (name : ByteArray) (ls : List (List UInt8)) : MOk (m.put2 name ls).2 (k + 3) := by
  have h0 := h.put1 (by omega) name
  unfold RM.put2 andThen
  split
  · exact h0.write hk _ _ _ _ (fun hh => wOk_bound hh)
  · exact h0.up (Nat.le_succ _) hk
theorem MOk.put3 {m : RM} {k : Nat} (h : MOk m k) (hk : k + 3 ≤ 100000) (name : ByteArray) (ls : List (List UInt8)) : MOk (m.put3 name ls).2 (k + 3) := by
  have h0 := h.put2 (by omega) name ls
  unfold RM.put3 andThen
  split
  · exact h0.sync _ _
  · exact h0
theorem MOk.put4 {m : RM} {k : Nat} (h : MOk m k) (hk : k + 4 ≤ 100000) (name : ByteArray) (ls : List (List UInt8)) : MOk (m.put4 name ls).2 (k + 4) := by
  have h0 := h.put3 (by omega) name ls
  unfold RM.put4 andThen
  split
  · exact h0.rename hk _ _ _
  · exact h0.up (Nat.le_succ _) hk
theorem MOk.put {m : RM} {k : Nat} (h : MOk m k) (hk : k + 4 ≤ 100000) (name : ByteArray) (ls : List (List UInt8)) : MOk (m.put name ls).2 (k + 4) := by
  have h0 := h.put4 (by omega) name ls
  unfold RM.put andThen
  split
  · exact h0.syncNames
  · exact h0
def PSim (x : PS) (m : RM) : Prop := Sim x.1 m
/-- The same steps at both. -/
theorem Runs_step {ss : List (PS → Nat → PS → Prop)} {s : PS → Nat → PS → Prop} {x : PS} {e : Nat} {y : PS} (hr : Runs (s :: ss) x e y) {m : RM} {f : RM → Nat × RM}
    (hs : ∀ e1 x1, s x e1 x1 → e1 = (f m).1 ∧ Sim x1.1 (f m).2 ∧ x1.2 = x.2) {Q : Nat → PS → Prop}
    (hno : ∀ e1 x1, e1 ≠ 0 → e1 = (f m).1 → Sim x1.1 (f m).2 → x1.2 = x.2 → Q e1 x1) (hok : ∀ x1, (f m).1 = 0 → Sim x1.1 (f m).2 → x1.2 = x.2 → Runs ss x1 e y → Q e y) : Q e y := by
  obtain ⟨e1, x1, h1, h2 | h2⟩ := hr
  · obtain ⟨h3, h4, h5⟩ := hs e1 x1 h1
    obtain ⟨h6, rfl, rfl⟩ := h2
    exact hno _ _ h6 h3 h4 h5
  · obtain ⟨h3, h4, h5⟩ := hs e1 x1 h1
    exact hok x1 (h3.symm.trans h2.1) h4 h5 h2.2
theorem Sim.put {name : ByteArray} {ls : List (List UInt8)} {x y : PS} {e : Nat} {m : RM} (h : Sim x.1 m) (hr : PutR name ls x e y) :
    e = (m.put name ls).1 ∧ Sim y.1 (m.put name ls).2 ∧ y.2 = (if e = 0 then ((1 : Int), ((ls.flatMap encL).length : Int), ((ls.flatMap encL).length : Int)) else x.2) := by
  have hQ : ∀ (e1 : Nat) (x1 : PS), e1 ≠ 0 → x1.2 = x.2 → ∀ z : Nat × RM, e1 = z.1 → Sim x1.1 z.2 → m.put name ls = z → e1 = (m.put name ls).1 ∧ Sim x1.1 (m.put name ls).2 ∧ x1.2 = (if e1 = 0 then ((1 : Int), ((ls.flatMap encL).length : Int), ((ls.flatMap encL).length : Int)) else x.2) := by
    intro e1 x1 h1 h2 z h3 h4 h5
    rw [h5, if_neg h1]; exact ⟨h3, h4, h2⟩
  have tail : ∀ x0 : PS, Sim x0.1 (m.put0 name).2 → x0.2 = x.2 → (m.put0 name).1 = 0 → Runs [sCreate (freshOf name), sWrite (freshOf name) (wholeOf ls), sSync (freshOf name), sRename (freshOf name) name, sNames, sSet (ls.flatMap encL).length] x0 e y →
      e = (m.put name ls).1 ∧ Sim y.1 (m.put name ls).2 ∧ y.2 = (if e = 0 then ((1 : Int), ((ls.flatMap encL).length : Int), ((ls.flatMap encL).length : Int)) else x.2) := by
    intro x0 hS0 hx0 h0 hr
    have e1 : m.put1 name = (m.put0 name).2.create (isName (freshOf name)) (freshOf name) := andThen_ok h0 _
    refine Runs_step hr (f := fun m => m.create (isName (freshOf name)) (freshOf name)) (m := (m.put0 name).2) ?_ (Q := fun e y => e = (m.put name ls).1 ∧ Sim y.1 (m.put name ls).2 ∧ y.2 = (if e = 0 then ((1 : Int), ((ls.flatMap encL).length : Int), ((ls.flatMap encL).length : Int)) else x.2)) ?_ ?_
    · rintro ea xa ⟨⟨f, hf, h1, h2⟩, h3⟩
      have := hS0.create (isName (freshOf name)) (freshOf name) hf
      exact ⟨h1.trans this.1, h2 ▸ this.2, h3⟩
    · intro ea xa h1 h2 h3 h4
      try simp only at h2 h3
      rw [← e1] at h2 h3
      refine hQ ea xa h1 (h4.trans hx0) _ h2 h3 ?_
      have hn : ¬ (m.put1 name).1 = 0 := fun hh => h1 (h2.trans hh)
      have e2 : m.put2 name ls = m.put1 name := andThen_no hn _
      have e3 : m.put3 name ls = m.put2 name ls := andThen_no (by rw [e2]; exact hn) _
      have e4 : m.put4 name ls = m.put3 name ls := andThen_no (by rw [e3, e2]; exact hn) _
      have e5 : m.put name ls = m.put4 name ls := andThen_no (by rw [e4, e3, e2]; exact hn) _
      rw [e5, e4, e3, e2]
    intro xa h1 hSa hxa hr
    try simp only at h1 hSa
    rw [← e1] at h1 hSa
    have e2 : m.put2 name ls = (m.put1 name).2.write (wOk (freshOf name) 0 (wholeOf ls).length) (freshOf name) 0 (wholeOf ls) := andThen_ok h1 _
    refine Runs_step hr (f := fun m => m.write (wOk (freshOf name) 0 (wholeOf ls).length) (freshOf name) 0 (wholeOf ls)) (m := (m.put1 name).2) ?_ (Q := fun e y => e = (m.put name ls).1 ∧ Sim y.1 (m.put name ls).2 ∧ y.2 = (if e = 0 then ((1 : Int), ((ls.flatMap encL).length : Int), ((ls.flatMap encL).length : Int)) else x.2)) ?_ ?_
    · rintro eb xb ⟨⟨h1, h2⟩, h3⟩
      have := hSa.write (mayW (freshOf name) 0 (wholeOf ls)) (freshOf name) 0 (wholeOf ls)
      rw [mayW_wOk] at h1 h2 this
      exact ⟨h1.trans this.1, h2 ▸ this.2, h3⟩
    · intro eb xb h1 h2 h3 h4
      try simp only at h2 h3
      rw [← e2] at h2 h3
      refine hQ eb xb h1 (h4.trans (hxa.trans hx0)) _ h2 h3 ?_
      have hn : ¬ (m.put2 name ls).1 = 0 := fun hh => h1 (h2.trans hh)
      have e3 : m.put3 name ls = m.put2 name ls := andThen_no hn _
      have e4 : m.put4 name ls = m.put3 name ls := andThen_no (by rw [e3]; exact hn) _
      have e5 : m.put name ls = m.put4 name ls := andThen_no (by rw [e4, e3]; exact hn) _
      rw [e5, e4, e3]
    intro xb h1 hSb hxb hr
    try simp only at h1 hSb
    rw [← e2] at h1 hSb
    have e3 : m.put3 name ls = (m.put2 name ls).2.sync (isName (freshOf name)) (freshOf name) := andThen_ok h1 _
    refine Runs_step hr (f := fun m => m.sync (isName (freshOf name)) (freshOf name)) (m := (m.put2 name ls).2) ?_ (Q := fun e y => e = (m.put name ls).1 ∧ Sim y.1 (m.put name ls).2 ∧ y.2 = (if e = 0 then ((1 : Int), ((ls.flatMap encL).length : Int), ((ls.flatMap encL).length : Int)) else x.2)) ?_ ?_
    · rintro ec xc ⟨⟨h1, h2⟩, h3⟩
      have := hSb.sync (isName (freshOf name)) (freshOf name)
      exact ⟨h1.trans this.1, h2 ▸ this.2, h3⟩
    · intro ec xc h1 h2 h3 h4
      try simp only at h2 h3
      rw [← e3] at h2 h3
      refine hQ ec xc h1 (h4.trans (hxb.trans (hxa.trans hx0))) _ h2 h3 ?_
      have hn : ¬ (m.put3 name ls).1 = 0 := fun hh => h1 (h2.trans hh)
      have e4 : m.put4 name ls = m.put3 name ls := andThen_no hn _
      have e5 : m.put name ls = m.put4 name ls := andThen_no (by rw [e4]; exact hn) _
      rw [e5, e4]
    intro xc h1 hSc hxc hr
    try simp only at h1 hSc
    rw [← e3] at h1 hSc
    have e4 : m.put4 name ls = (m.put3 name ls).2.rename (isName (freshOf name) && isName name) (freshOf name) name := andThen_ok h1 _
    refine Runs_step hr (f := fun m => m.rename (isName (freshOf name) && isName name) (freshOf name) name) (m := (m.put3 name ls).2) ?_ (Q := fun e y => e = (m.put name ls).1 ∧ Sim y.1 (m.put name ls).2 ∧ y.2 = (if e = 0 then ((1 : Int), ((ls.flatMap encL).length : Int), ((ls.flatMap encL).length : Int)) else x.2)) ?_ ?_
    · rintro ed xd ⟨⟨h1, h2⟩, h3⟩
      have := hSc.rename ([freshOf name, name].all isName) (freshOf name) name
      have hb : [freshOf name, name].all isName = (isName (freshOf name) && isName name) := by simp
      rw [hb] at h1 h2 this
      exact ⟨h1.trans this.1, h2 ▸ this.2, h3⟩
    · intro ed xd h1 h2 h3 h4
      try simp only at h2 h3
      rw [← e4] at h2 h3
      refine hQ ed xd h1 (h4.trans (hxc.trans (hxb.trans (hxa.trans hx0)))) _ h2 h3 ?_
      have hn : ¬ (m.put4 name ls).1 = 0 := fun hh => h1 (h2.trans hh)
      have e5 : m.put name ls = m.put4 name ls := andThen_no hn _
      rw [e5]
    intro xd h1 hSd hxd hr
    try simp only at h1 hSd
    rw [← e4] at h1 hSd
    have e5 : m.put name ls = (m.put4 name ls).2.syncNames := andThen_ok h1 _
    refine Runs_step hr (f := fun m => m.syncNames) (m := (m.put4 name ls).2) ?_ (Q := fun e y => e = (m.put name ls).1 ∧ Sim y.1 (m.put name ls).2 ∧ y.2 = (if e = 0 then ((1 : Int), ((ls.flatMap encL).length : Int), ((ls.flatMap encL).length : Int)) else x.2)) ?_ ?_
    · rintro ee xe ⟨⟨h1, h2⟩, h3⟩
      have := hSd.syncNames
      exact ⟨h1.trans this.1, h2 ▸ this.2, h3⟩
    · intro ee xe h1 h2 h3 h4
      try simp only at h2 h3
      rw [← e5] at h2 h3
      exact hQ ee xe h1 (h4.trans (hxd.trans (hxc.trans (hxb.trans (hxa.trans hx0))))) _ h2 h3 rfl
    intro xe h1 hSe hxe hr
    try simp only at h1 hSe
    rw [← e5] at h1 hSe
    obtain ⟨ef, xf, ⟨rfl, rfl⟩, h2 | h2⟩ := hr
    · exact absurd rfl h2.1
    · obtain ⟨_, rfl, rfl⟩ := h2
      rw [if_pos rfl]
      exact ⟨h1.symm, hSe, rfl⟩
  unfold PutR putSteps at hr
  rw [h.size] at hr
  by_cases hz : (m.size (freshOf name)).2 = 0
  · rw [if_pos hz] at hr
    have e0 : m.put0 name = m.remove (isName (freshOf name)) (freshOf name) := if_pos hz
    rw [List.singleton_append] at hr
    refine Runs_step hr (f := fun m => m.remove (isName (freshOf name)) (freshOf name)) (m := m) ?_ (Q := fun e y => e = (m.put name ls).1 ∧ Sim y.1 (m.put name ls).2 ∧ y.2 = (if e = 0 then ((1 : Int), ((ls.flatMap encL).length : Int), ((ls.flatMap encL).length : Int)) else x.2)) ?_ ?_
    · rintro ea xa ⟨⟨h1, h2⟩, h3⟩
      have := h.remove (isName (freshOf name)) (freshOf name)
      exact ⟨h1.trans this.1, h2 ▸ this.2, h3⟩
    · intro ea xa h1 h2 h3 h4
      try simp only at h2 h3
      rw [← e0] at h2 h3
      refine hQ ea xa h1 h4 _ h2 h3 ?_
      have hn : ¬ (m.put0 name).1 = 0 := fun hh => h1 (h2.trans hh)
      have e1 : m.put1 name = m.put0 name := andThen_no hn _
      have e2 : m.put2 name ls = m.put1 name := andThen_no (by rw [e1]; exact hn) _
      have e3 : m.put3 name ls = m.put2 name ls := andThen_no (by rw [e2, e1]; exact hn) _
      have e4 : m.put4 name ls = m.put3 name ls := andThen_no (by rw [e3, e2, e1]; exact hn) _
      have e5 : m.put name ls = m.put4 name ls := andThen_no (by rw [e4, e3, e2, e1]; exact hn) _
      rw [e5, e4, e3, e2, e1]
    · intro xa h1 hSa hxa hr
      try simp only at h1 hSa
      rw [← e0] at h1 hSa
      exact tail xa hSa hxa h1 hr
  · rw [if_neg hz, List.nil_append] at hr
    have e0 : m.put0 name = (0, m) := if_neg hz
    exact tail x (by rw [e0]; exact h) rfl (by rw [e0]) hr
end Go.Proofs.Ytpdmbmnhgcnelaa

