/- Texts of one claim, joined: Rs, Rt, Rw, Ua, Jq, Ry, Ru, Rx, Rz. -/
import Derived.Test.YtpdmbmnhgcnelaaGreatQJS9
/- the reference's disk, part s: Write. -/
set_option linter.unusedVariables false
set_option linter.unusedSimpArgs false
namespace Go.Proofs.YtpdmbmnhgcnelaaGreat
open Go Go.SL
attribute [local irreducible] J K Ctr Ends pts slc mapR mapI sbRow stock arrS

theorem mUsed_open (br k : Nat) (D : RDk) (m : RM) (hR : RR D m) (hM : MOk m k) : Ctr Tryz.prog 85 [ptr br] (rdL br D) (fun v H => v = .int .i64 (m.used : Int) ∧ H = rdL br D) :=
  Ctr.conv (mUsed_any br k D m hR hM) (by have := Ent.resep (rdL br D) []; simpa [rd] using this) (fun v H ⟨h2, h3⟩ => ⟨rdL br D, ⟨h2, rfl⟩, by subst h3; have := Ent.unsep (rdL br D) []; simpa [rd] using this⟩)
theorem RR.write {D : RDk} {m : RM} (h : RR D m) {arrs' : Arrs} (hs : ∀ x ∈ D.arrs, x ∈ arrs') {r at_ : Nat} {v1 v2 w2 : Value} {n b : List UInt8} (h1 : BIn arrs' v1 n) (h2 : BIn arrs' v2 b) :
    RR { D with nowL := D.nowL.set r v1, arrs := arrs', wrs := w2, wl := D.wl ++ [(r, at_, v2)] } { m with now := m.now.set r n, wr := m.wr ++ [(r, at_, b)] } :=
  ⟨h.room, h.down, h.nxt.mono hs, (h.now.mono fun _ _ hh => hh.mono hs).set r h1, h.sure.mono fun _ _ hh => hh.mono hs, h.l, h.sts, (h.wr.mono fun _ _ hh => ⟨hh.1, hh.2.1, hh.2.2.mono hs⟩).snoc ⟨rfl, rfl, h2⟩⟩
def wOk (name : ByteArray) (at_ : Int) (n : Nat) : Bool := isName name && decide (0 ≤ at_ ∧ at_ ≤ 1048576 ∧ (n : Int) ≤ 1048576 - at_)
set_option maxRecDepth 20000 in
theorem mWrite_any (br k : Nat) (D : RDk) (m : RM) (hR : RR D m) (hM : MOk m k) (name : ByteArray) (hs : name.size ≤ 9223372036854775807) (at_ : Int) (ha : -9223372036854775808 ≤ at_ ∧ at_ ≤ 9223372036854775807)
    (X : HP) (bv : Value) (b : List UInt8) (hv : Vw X bv b.length (bV b)) (hb : b.length ≤ 9223372036854775807) :
    Ctr Tryz.prog 40 [ptr br, .string name, .int .i64 at_, bv] [rd br D, X] (fun v H => ∃ D', RR D' (m.write (wOk name at_ b.length) name at_.toNat b).2 ∧ v = .int .i64 ((m.write (wOk name at_ b.length) name at_.toNat b).1 : Int) ∧ H = [rd br D', X]) := by
  obtain ⟨a0, c0, rfl⟩ := hv.shape
  refine Ctr.enter Tryz.func40 (by kernel_rfl) rfl Tryz.ntmps40 rfl rfl ?_
  intro G F R hE
  (refine go ?_)
  refine J_call [] rfl rfl rfl rfl (mIsName_any name hs) rfl (fun _ _ _ _ _ => trivial) ?_
  rintro _ _ ⟨rfl, rfl⟩
  have hno : wOk name at_ b.length = false → m.write (wOk name at_ b.length) name at_.toNat b = (1, m) := fun h => by unfold RM.write; rw [if_pos h]
  cases hnm : isName name with
  | false =>
    rw [hno (by unfold wOk; rw [hnm]; rfl)] at hE
    (refine go ?_)
    refine K_return hE Tryz.func40 rfl _ rfl ⟨_, hR, rfl, rfl⟩ (Ent.fin [0, 1] 0 rfl rfl)
  | true =>
    repeat' (first | (with_reducible intro _hh) | refine go1 ?_ | refine J_fork ?_ ?_ | refine J_gsP rfl rfl rfl rfl ?_ ?_ | refine K_condP rfl rfl ?_ ?_)
    any_goals (
      rw [hno (by unfold wOk; rw [hnm, Bool.true_and]; exact decide_eq_false (by omega))] at hE
      refine K_return hE Tryz.func40 rfl _ rfl ⟨_, hR, rfl, rfl⟩ (Ent.fin [0, 1] 0 rfl rfl))
    have hok : wOk name at_ b.length = true := by unfold wOk; rw [hnm, Bool.true_and]; exact decide_eq_true (by omega)
    rw [hok] at hE
    refine J_call [0] rfl rfl rfl rfl (mMay_any br D m hR) rfl (fun _ _ _ _ _ => trivial) ?_
    rintro _ _ ⟨D', hD', rfl, rfl⟩
    by_cases hz : m.may.1 = 0
    case neg =>
      have hm : m.write true name at_.toNat b = m.may := by unfold RM.write; rw [if_neg (by simp), if_pos hz]
      rw [hm] at hE
      (refine go ?_)
      refine K_condP rfl rfl ?_ ?_
      · intro _
        (refine go ?_)
        refine K_return hE Tryz.func40 rfl _ rfl ⟨_, hD', rfl, rfl⟩ (Ent.fin [0, 1] 0 rfl rfl)
      intro h; exact absurd (by simpa using h) hz
    have hMm := hM.may
    rw [hz]
    have hm1 : m.write true name at_.toNat b = match m.may.2.find name with
        | none => (4, m.may.2)
        | some f => if m.may.2.room < (m.may.2.used : Int) - (m.may.2.file f).length + (wroteL (m.may.2.file f) at_.toNat b).length then (3, m.may.2)
          else (0, { m.may.2 with now := m.may.2.now.set f (wroteL (m.may.2.file f) at_.toNat b), wr := m.may.2.wr ++ [(f, at_.toNat, b)] }) := by
      unfold RM.write; rw [if_neg (by simp), if_neg (fun h => h hz)]; rfl
    rw [hm1] at hE
    generalize m.may.2 = m1 at hD' hMm hE
    (refine go ?_)
    refine J_call [0] rfl rfl rfl rfl (mFind_any br k D' m1 hD' hMm name) rfl (fun _ _ _ _ _ => trivial) ?_
    rintro _ _ ⟨rfl, rfl⟩
    cases hfd : m1.find name with
    | none =>
      rw [hfd] at hE
      simp only [fI]
      (refine go ?_)
      refine K_return hE Tryz.func40 rfl _ rfl ⟨_, hD', rfl, rfl⟩ (Ent.fin [0, 1] 0 rfl rfl)
    | some r =>
    rw [hfd] at hE
    simp only [fI]
    simp only at hE
    have hwk := hMm.wk
    have hkk := hMm.kk
    have hwl' : m1.wr.length = D'.wl.length := hD'.wr.1.symm
    have hus := mUsed_open br k D' m1 hD' hMm
    have hub : m1.used ≤ k * 1048576 := used_bound hMm.now _ _ hMm.ll
    obtain ⟨bv2, hbv, hbs, hbl⟩ := hD'.file hMm (RM.find_lt hMm hfd)
    obtain ⟨p, rfl⟩ := Int.eq_ofNat_of_zero_le (a := at_) (by omega)
    simp only [Int.toNat_natCast] at hE
    obtain ⟨room, now, sure, lv, sts, wrs, nxt, down, nowL, sureL, stsL, wl, arrs, nrows⟩ := D'
    simp only at hbv hbs hwl'
    have hrn := (List.getElem?_eq_some_iff.1 hbv).1
    have hroom : room = m1.room := hD'.room
    have hwrr := hD'.wr
    simp only at hwrr
    have hwrt := fun r at_ v1 n v2 w2 arrs' hs h1 h2 => RR.write (D := ⟨room, now, sure, lv, sts, wrs, nxt, down, nowL, sureL, stsL, wl, arrs, nrows⟩) (r := r) (at_ := at_) (v1 := v1) (n := n) (v2 := v2) (w2 := w2) (b := b) (arrs' := arrs') hD' hs h1 h2
    generalize hbsd : m1.file r = bs at hbs hbl hE
    obtain ⟨ba, bc, rfl, hbc⟩ := hbs.shape
    refine J_ent (rd_o _ _ _ _ _ _ _ _ _ _ _ _ _ _ _ _) ?_
    refine J_shape 3 rfl ?_
    rintro na nc rfl
    refine J_slcVw 3 rfl ?_
    intro hvn
    obtain ⟨nb, no, nc', hns⟩ := hvn.some (by rw [← List.length_pos_iff]; omega)
    simp only [Value.slice.injEq, true_and] at hns
    obtain ⟨rfl, rfl⟩ := hns
    refine J_shape 6 rfl ?_
    rintro wa wc rfl
    (refine go ?_)
    refine J_at1 (U := tab) r rfl rfl rfl rfl rfl rfl rfl rfl hrn ?_
    refine J_loadAt (U := tab) 3 r rfl rfl rfl hvn rfl hbv rfl rfl ?_
    (refine go ?_)
    refine J_ent (Ent.pick [1, 7] rfl) ?_
    refine J_ent (Ent.join _ _ _) ?_
    have hwl := wroteL_len bs p b
    refine J_call [0] rfl rfl rfl rfl (Wrote_ref (star (arrS 5 arrs) X) _ _ bs b p (hbs.view _).left hv.right (by omega)) rfl (fun _ _ _ _ _ => trivial) ?_
    rintro rv _ rfl
    refine J_shape 0 rfl ?_
    rintro wa2 wc2 rfl
    refine J_ent (Ent.pick [1] rfl) ?_
    refine J_ent (Ent.part _ _ _) ?_
    (refine go ?_)
    refine K_drawA (fun w => Sat G w ([pts br (cl [.int .i64 room, .slice (some ⟨nb, no, none⟩) nowL.length nc, sure, lv, sts, .slice wa wl.length wc, nxt, .bool down] 61), slc 40 1 (.slice (some ⟨nb, no, none⟩) nowL.length nc) nowL.length nowL])) (.st 0 (.st 2 (.st 3 (.st 4 (.st 5 (.st 6 (.st 7 (.st 8 (.st 9 (.st 11 (.st 12 (.st 14 (.st 15 (.st 16 (.st 17 (.act 1 (.st 10 (.st 13 (.st 18 .nil))))))))))))))))))) rfl (by kernel_rfl) (by kernel_rfl) (by kernel_rfl) (fun w hw => hw.ent (Ent.pickOnly ([3, 5]) rfl)) ?_
    (refine go ?_)
    refine J_at1 (U := tab) r rfl rfl rfl rfl rfl rfl rfl rfl hrn ?_
    refine J_loadAtS (U := tab) 1 r rfl rfl rfl hvn rfl hbv rfl rfl ?_
    (refine go ?_)
    refine J_call [3, 0, 4, 5, 6, 7, 8] rfl rfl rfl rfl (hus) rfl (fun _ _ w hp hw => by obtain ⟨_, rfl⟩ := hp; exact hw.ent (Ent.pickOnly [0, 3] rfl)) ?_
    rintro _ _ ⟨rfl, rfl⟩
    generalize m1.used = u at hub hE
    repeat' (first | (with_reducible intro _hh) | refine go1 ?_ | refine J_fork ?_ ?_ | refine J_gsP rfl rfl rfl rfl ?_ ?_ | refine K_condP rfl rfl ?_ ?_)
    · rw [if_pos (by omega)] at hE
      refine K_ent (rd_c br _ _ _ _ _ _ _ _ _ _ _ _ _ _ _) ?_
      refine K_return hE Tryz.func40 rfl _ rfl ⟨_, hD', rfl, rfl⟩ (Ent.fin [0, 1] 1 rfl rfl)
    rw [if_neg (by omega)] at hE
    refine J_at1 (U := tab) r rfl rfl rfl rfl rfl rfl rfl rfl hrn ?_
    refine J_storeSlc (U := tab) (q := r) 3 (fun _ _ => trivial) rfl rfl rfl rfl rfl rfl rfl hrn rfl ?_
    (refine go ?_)
    refine J_buildSlice1 (U := tab) rfl rfl rfl rfl rfl rfl rfl rfl rfl (fun _ _ _ => trivial) ?_
    intro b1
    (refine go ?_)
    refine J_ent (slc_row 83 3 b1 0 0 [] [] _ rfl (Nat.le_refl _) (by simp)) ?_
    refine J_slcVw 7 rfl ?_
    intro hvw
    have honew : ∀ u ∈ wl.flatMap wcell, u.oneCell' = true := fun u hu => by
      obtain ⟨x, hx, hux⟩ := List.mem_flatMap.1 hu
      obtain ⟨ix, hix⟩ := List.getElem?_of_mem hx
      obtain ⟨_, _, _, _, hb5⟩ := hwrr.left hix
      obtain ⟨_, _, hs5, _⟩ := hb5.shape
      simp only [wcell, List.mem_cons, List.not_mem_nil, or_false] at hux
      rcases hux with rfl | rfl | rfl
      · rfl
      · rfl
      · rw [hs5]; rfl
    refine J_append (U := tab) (mm := wl.length) (news := wl.flatMap wcell) 0 7 rfl rfl rfl rfl rfl rfl rfl rfl rfl rfl rfl rfl hvw (by rw [chunk_len wcell_len]; rfl) honew (by omega) (by show _ * 40 ≤ _; omega) (fun _ => rfl) (fun _ _ _ => trivial) ?_
    intro v1
    rw [show (0 : Nat) + wl.length = wl.length from by omega, List.nil_append]
    refine J_shape 0 rfl ?_
    rintro a1 c1 rfl
    (refine go ?_)
    refine J_buildSlice1 (U := tab) rfl rfl rfl rfl rfl rfl rfl rfl rfl (fun _ _ _ => trivial) ?_
    intro b2
    (refine go ?_)
    refine J_ent (slc_row 5 1 b2 0 0 [] [] _ rfl (Nat.le_refl _) (by simp)) ?_
    refine J_append (U := tab) (mm := b.length) (news := bV b) 0 9 rfl rfl rfl rfl rfl rfl rfl rfl rfl rfl rfl rfl hv (by show _ = _ * 1; rw [bV_length]; omega) (bV_one b) (by omega) (by show _ * 1 ≤ _; omega) (fun _ => rfl) (fun _ _ _ => trivial) ?_
    intro v2
    rw [show (0 : Nat) + b.length = b.length from by omega, List.nil_append]
    refine J_shape 0 rfl ?_
    rintro a2 c2 rfl
    (refine go ?_)
    refine J_buildSlice1 (U := tab) (cs := wcell (r, p, .slice a2 b.length c2)) rfl rfl rfl rfl rfl rfl rfl rfl rfl (fun _ _ _ => trivial) ?_
    intro b3
    refine J_append (U := tab) (mm := 1) (news := wcell (r, p, .slice a2 b.length c2)) 2 0 rfl rfl rfl rfl rfl rfl rfl rfl rfl rfl rfl rfl (Vw.pts rfl) rfl (by simp [wcell, Value.oneCell']) (by omega) (by show _ * 40 ≤ _; omega) (fun _ => rfl) (fun _ _ _ => trivial) ?_
    intro v3
    rw [show wl.flatMap wcell ++ wcell (r, p, .slice a2 b.length c2) = (wl ++ [(r, p, Value.slice a2 b.length c2)]).flatMap wcell from by simp, show wl.length + 1 = (wl ++ [(r, p, Value.slice a2 b.length c2)]).length from by simp]
    refine J_shape 2 rfl ?_
    rintro a3 c3 rfl
    (refine go ?_)
    refine K_ent (Ent.pick [11, 4] rfl) ?_
    refine K_ent (Ent.join _ _ _) ?_
    refine K_open (arrS_slcO 5 _ _ _) ?_
    rintro arrs1 ⟨hbw, hsub1⟩
    refine K_ent (Ent.pick [2, 0] rfl) ?_
    refine K_ent (Ent.join _ _ _) ?_
    refine K_open (arrS_slcO 5 _ b _) ?_
    rintro arrs2 ⟨hbb, hsub2⟩
    refine K_ent (Ent.pick [3, 0, 4, 5, 6, 7, 2] rfl) ?_
    have hset : (nowL.set r (Value.slice wa2 (wroteL bs p b).length wc2)).length = nowL.length := by simp
    have hD2 := hwrt r p (Value.slice wa2 (wroteL bs p b).length wc2) (wroteL bs p b) (Value.slice a2 b.length c2) (Value.slice a3 (wl ++ [(r, p, Value.slice a2 b.length c2)]).length c3) arrs2 (fun x hx => hsub2 x (hsub1 x hx)) (hbw.mono hsub2) hbb
    have hcl := rd_c br room (Value.slice (some ⟨nb, no, none⟩) nowL.length nc) sure lv sts (Value.slice a3 (wl ++ [(r, p, Value.slice a2 b.length c2)]).length c3) nxt down (nowL.set r (Value.slice wa2 (wroteL bs p b).length wc2)) sureL stsL (wl ++ [(r, p, Value.slice a2 b.length c2)]) arrs2 nrows
    rw [hset] at hcl
    refine K_ent (hcl _) ?_
    refine K_return hE Tryz.func40 rfl _ rfl ⟨_, hD2, rfl, rfl⟩ (Ent.fin [0, 3] 2 rfl rfl)

end Go.Proofs.YtpdmbmnhgcnelaaGreat

/- the reference's disk, part t: Sync, Rename, Remove. -/
set_option linter.unusedVariables false
set_option linter.unusedSimpArgs false
namespace Go.Proofs.YtpdmbmnhgcnelaaGreat
open Go Go.SL
attribute [local irreducible] J K Ctr Ends pts slc mapR mapI sbRow stock arrS

theorem All2.filt {α β : Type} {q : α → β → Prop} {l : List α} {r : List β} (h : All2 q l r) {p1 : α → Bool} {p2 : β → Bool} (hp : ∀ x y, q x y → p1 x = p2 y) : All2 q (l.filter p1) (r.filter p2) := by
  induction l generalizing r with
  | nil =>
    have : r = [] := List.eq_nil_of_length_eq_zero h.1.symm
    subst this; exact All2.nil
  | cons x l ih =>
    cases r with
    | nil => exact absurd h.1 (by simp)
    | cons y r =>
      have h0 := h.2 0 x y rfl rfl
      have ht : All2 q l r := ⟨by have := h.1; simpa using this, fun i a b ha hb => h.2 (i + 1) a b (by simpa using ha) (by simpa using hb)⟩
      rw [List.filter_cons, List.filter_cons, hp x y h0]
      split
      · exact (ih ht).cons h0
      · exact ih ht
theorem RR.sync {D : RDk} {m : RM} (h : RR D m) {r : Nat} {v : Value} {b : List UInt8} (hv : BIn D.arrs v b) {w : Value} {wl' : List (Nat × Nat × Value)} (hw : All2 (fun x y => x.1 = y.1 ∧ x.2.1 = y.2.1 ∧ BIn D.arrs x.2.2 y.2.2) wl' (m.wr.filter fun x => !decide (x.1 = r))) :
    RR { D with sureL := D.sureL.set r v, wrs := w, wl := wl' } { m with sure := m.sure.set r b, wr := m.wr.filter fun x => !decide (x.1 = r) } :=
  ⟨h.room, h.down, h.nxt, h.now, h.sure.set r hv, h.l, h.sts, hw⟩
def keepW (r : Nat) (l : List (Nat × Nat × Value)) : List (Nat × Nat × Value) := l.filter fun x => !decide (x.1 = r)
theorem keepW_snoc {r i : Nat} {l : List (Nat × Nat × Value)} {x : Nat × Nat × Value} (hx : l[i]? = some x) (h : ¬ x.1 = r) : keepW r (l.take (i + 1)) = keepW r (l.take i) ++ [x] := by
  unfold keepW; rw [List.take_add_one, hx, Option.toList_some, List.filter_append]; simp [h]
theorem keepW_skip {r i : Nat} {l : List (Nat × Nat × Value)} {x : Nat × Nat × Value} (hx : l[i]? = some x) (h : x.1 = r) : keepW r (l.take (i + 1)) = keepW r (l.take i) := by
  unfold keepW; rw [List.take_add_one, hx, Option.toList_some, List.filter_append]; simp [h]
set_option maxRecDepth 20000 in
theorem mSync_any (br k : Nat) (D : RDk) (m : RM) (hR : RR D m) (hM : MOk m k) (name : ByteArray) (hs : name.size ≤ 9223372036854775807) :
    Ctr Tryz.prog 42 [ptr br, .string name] [rd br D] (fun v H => ∃ D', RR D' (m.sync (isName name) name).2 ∧ v = .int .i64 ((m.sync (isName name) name).1 : Int) ∧ H = [rd br D']) := by
  refine Ctr.enter Tryz.func42 (by kernel_rfl) rfl Tryz.ntmps42 rfl rfl ?_
  intro G F R hE
  (refine go ?_)
  refine J_call [] rfl rfl rfl rfl (mIsName_any name hs) rfl (fun _ _ _ _ _ => trivial) ?_
  rintro _ _ ⟨rfl, rfl⟩
  cases hnm : isName name with
  | false =>
    rw [hnm] at hE
    have hm : m.sync false name = (1, m) := by unfold RM.sync; rw [if_pos rfl]
    rw [hm] at hE
    (refine go ?_)
    refine K_return hE Tryz.func42 rfl _ rfl ⟨_, hR, rfl, rfl⟩ (Ent.fin [0] 0 rfl rfl)
  | true =>
    rw [hnm] at hE
    (refine go ?_)
    refine J_call [0] rfl rfl rfl rfl (mMay_any br D m hR) rfl (fun _ _ _ _ _ => trivial) ?_
    rintro _ _ ⟨D', hD', rfl, rfl⟩
    by_cases hz : m.may.1 = 0
    case neg =>
      have hm : m.sync true name = m.may := by unfold RM.sync; rw [if_neg (by simp), if_pos hz]
      rw [hm] at hE
      (refine go ?_)
      refine K_condP rfl rfl ?_ ?_
      · intro _
        (refine go ?_)
        refine K_return hE Tryz.func42 rfl _ rfl ⟨_, hD', rfl, rfl⟩ (Ent.fin [0] 0 rfl rfl)
      intro h; exact absurd (by simpa using h) hz
    have hMm := hM.may
    rw [hz]
    have hm1 : m.sync true name = match m.may.2.find name with
        | none => (4, m.may.2)
        | some f => (0, { m.may.2 with sure := m.may.2.sure.set f (m.may.2.file f), wr := m.may.2.wr.filter fun x => !decide (x.1 = f) }) := by
      unfold RM.sync; rw [if_neg (by simp), if_neg (fun h => h hz)]; rfl
    rw [hm1] at hE
    generalize m.may.2 = m1 at hD' hMm hE
    (refine go ?_)
    refine J_call [0] rfl rfl rfl rfl (mFind_any br k D' m1 hD' hMm name) rfl (fun _ _ _ _ _ => trivial) ?_
    rintro _ _ ⟨rfl, rfl⟩
    cases hfd : m1.find name with
    | none =>
      rw [hfd] at hE
      simp only [fI]
      (refine go ?_)
      refine K_return hE Tryz.func42 rfl _ rfl ⟨_, hD', rfl, rfl⟩ (Ent.fin [0] 0 rfl rfl)
    | some r =>
    rw [hfd] at hE
    simp only [fI]
    simp only at hE
    have hkk := hMm.kk
    have hwk := hMm.wk
    have hsl : m1.sure.length = m1.now.length := hMm.nl
    have hfl := RM.find_lt hMm hfd
    obtain ⟨bv2, hbv, hbs, hbl⟩ := hD'.file hMm hfl
    have hnl : D'.nowL.length = m1.now.length := hD'.now.1
    have hul : D'.sureL.length = m1.sure.length := hD'.sure.1
    have hwl' : D'.wl.length = m1.wr.length := hD'.wr.1
    have hwf : All2 (fun x y => x.1 = y.1 ∧ x.2.1 = y.2.1 ∧ BIn D'.arrs x.2.2 y.2.2) (keepW r D'.wl) (m1.wr.filter fun x => !decide (x.1 = r)) := All2.filt hD'.wr (fun x y h => by rw [h.1])
    have hwrr := hD'.wr
    obtain ⟨room, now, sure, lv, sts, wrs, nxt, down, nowL, sureL, stsL, wl, arrs, nrows⟩ := D'
    simp only at hbv hbs hwl' hnl hul hwf hwrr
    have hsyn := fun w => RR.sync (D := ⟨room, now, sure, lv, sts, wrs, nxt, down, nowL, sureL, stsL, wl, arrs, nrows⟩) (r := r) (w := w) hD' hbs hwf
    generalize hbsd : m1.file r = bs at hbs hbl hE
    obtain ⟨ba, bc, rfl, hbc⟩ := hbs.shape
    (refine go ?_)
    have hrn : r < nowL.length := by omega
    have hrs : r < sureL.length := by omega
    (refine K_ent (rd_o _ _ _ _ _ _ _ _ _ _ _ _ _ _ _ _) ?_)
    refine K_shape 3 rfl ?_
    rintro na nc rfl
    refine K_slcVw 3 rfl ?_
    intro hvn
    obtain ⟨nb, no, nc', hns⟩ := hvn.some (by rw [← List.length_pos_iff]; omega)
    simp only [Value.slice.injEq, true_and] at hns
    obtain ⟨rfl, rfl⟩ := hns
    refine K_shape 4 rfl ?_
    rintro ua uc rfl
    refine K_slcVw 4 rfl ?_
    intro hvu
    obtain ⟨ub, uo, uc', hus⟩ := hvu.some (by rw [← List.length_pos_iff]; omega)
    simp only [Value.slice.injEq, true_and] at hus
    obtain ⟨rfl, rfl⟩ := hus
    refine K_shape 6 rfl ?_
    rintro wa wc rfl
    refine K_drawA (fun w => Sat G w ([pts br (cl [.int .i64 room, .slice (some ⟨nb, no, none⟩) nowL.length nc, .slice (some ⟨ub, uo, none⟩) sureL.length uc, lv, sts, .slice wa wl.length wc, nxt, .bool down] 61), slc 40 1 (.slice (some ⟨nb, no, none⟩) nowL.length nc) nowL.length nowL])) (.st 0 (.st 1 (.st 2 (.st 3 (.st 4 (.st 5 (.st 6 (.st 7 (.st 8 (.st 9 (.st 10 (.st 11 (.st 12 (.act 13 .nil)))))))))))))) rfl (by kernel_rfl) (by kernel_rfl) (by kernel_rfl) (fun w hw => hw.ent (Ent.pickOnly ([0, 3]) rfl)) ?_
    (refine go ?_)
    refine J_at1 (U := tab) r rfl rfl rfl rfl rfl rfl rfl rfl hrn ?_
    refine J_loadAtS (U := tab) 1 r rfl rfl rfl hvn rfl hbv rfl rfl ?_
    (refine go ?_)
    refine J_at1 (U := tab) r rfl rfl rfl rfl rfl rfl rfl rfl hrs ?_
    refine J_storeSlc (U := tab) (q := r) 4 (fun _ _ => trivial) rfl rfl rfl rfl rfl rfl rfl hrs rfl ?_
    (refine go ?_)
    refine K_ent (slc_lift 83 3 none _) ?_
    refine K_loop (fun s : Nat × List (Nat × Nat × Value) × Option Addr × Nat => s.1 ≤ wl.length ∧ s.2.1 = keepW r (wl.take s.1)) (fun s => wl.length - s.1)
      (fun s => [(0, ptr br), (7, .int .i64 r), (8, .slice s.2.2.1 s.2.1.length s.2.2.2), (9, .int .i64 s.1)])
      (fun s => slc 83 3 (.slice s.2.2.1 s.2.1.length s.2.2.2) s.2.1.length (s.2.1.flatMap wcell) :: pts br (cl [.int .i64 room, .slice (some ⟨nb, no, none⟩) nowL.length nc, .slice (some ⟨ub, uo, none⟩) sureL.length uc, lv, sts, .slice wa wl.length wc, nxt, .bool down] 61) :: arrS 5 arrs :: arrS 111 nrows ::
        slc 40 1 (.slice (some ⟨nb, no, none⟩) nowL.length nc) nowL.length nowL :: slc 40 1 (.slice (some ⟨ub, uo, none⟩) sureL.length uc) sureL.length (sureL.set r (.slice ba bs.length bc)) :: slc 58 1 sts stsL.length stsL :: slc 83 3 (.slice wa wl.length wc) wl.length (wl.flatMap wcell) :: F) (0, [], none, 0) ⟨Nat.zero_le _, rfl⟩ rfl (by repeat (first | exact keep_nil | refine keep_cons rfl ?_)) (Ent.refl _) ?_
    rintro ⟨i, l', a', c'⟩ ⟨hi, hsub⟩ ih
    simp only at hi hsub
    have hlen : l'.length ≤ i := by rw [hsub]; exact Nat.le_trans (List.length_filter_le _ _) (by rw [List.length_take]; omega)
    (refine go ?_)
    refine K_condP rfl rfl ?_ ?_
    · intro hlt
      simp only at hlt
      have hi' : i < wl.length := by omega
      obtain ⟨x, hx⟩ : ∃ x, wl[i]? = some x := ⟨wl[i], by simp⟩
      have hg : ∀ q, q < 3 → (wl.flatMap wcell)[i * 3 + q]? = (wcell x)[q]? := fun q hq => chunk_get wcell_len hx q hq
      refine K_slcVw 7 rfl ?_
      intro hvw
      obtain ⟨bb, oo, cc, hsl⟩ := hvw.some (by rw [← List.length_pos_iff, chunk_len wcell_len]; omega)
      simp only [Value.slice.injEq, true_and] at hsl
      obtain ⟨rfl, rfl⟩ := hsl
      (refine go ?_)
      refine J_at (U := tab) i 3 rfl rfl rfl rfl rfl rfl rfl rfl hi' ?_
      (refine go ?_)
      refine J_loadAt (U := tab) 7 (i * 3 + 0) rfl rfl rfl hvw (Nat.add_assoc _ _ _) (hg 0 (by omega)) rfl rfl ?_
      (refine go ?_)
      refine K_condP rfl rfl ?_ ?_
      · intro hne
        (refine go ?_)
        refine J_at (U := tab) i 3 rfl rfl rfl rfl rfl rfl rfl rfl hi' ?_
        refine J_loadElem (U := tab) (es := wcell x) 7 (i * 3) rfl rfl rfl hvw rfl (fun q v hq => (hg q (by rcases Nat.lt_or_ge q 3 with h | h; exact h; rw [List.getElem?_eq_none (by rw [wcell_len]; exact h)] at hq; cases hq)).trans hq) rfl rfl rfl ?_
        obtain ⟨x1, x2, x3⟩ := x
        obtain ⟨y5, _, _, _, hb5⟩ := hwrr.left hx
        generalize y5.2.2 = b5 at hb5
        have hne2 : ¬ x1 = r := fun h => hne (by simp only [h])
        obtain ⟨xa, xc, hx3, _⟩ := hb5.shape
        simp only at hx3
        subst hx3
        refine J_buildSlice1 (U := tab) (cs := wcell (x1, x2, .slice xa b5.length xc)) rfl rfl rfl rfl rfl rfl rfl rfl rfl (fun _ _ _ => trivial) ?_
        intro b1
        refine J_append (U := tab) (mm := 1) (news := wcell (x1, x2, .slice xa b5.length xc)) 1 0 rfl rfl rfl rfl rfl rfl rfl rfl rfl rfl rfl rfl (Vw.pts rfl) rfl (by simp [wcell, Value.oneCell']) (by simp only; omega) (by show _ * 40 ≤ _; simp only; omega) (fun _ => rfl) (fun _ _ _ => trivial) ?_
        intro v'
        rw [show List.flatMap wcell l' ++ wcell (x1, x2, .slice xa b5.length xc) = (l' ++ [(x1, x2, Value.slice xa b5.length xc)]).flatMap wcell from by simp, show List.length l' + 1 = (l' ++ [(x1, x2, Value.slice xa b5.length xc)]).length from by simp]
        refine J_shape 1 rfl ?_
        rintro a2 c2 rfl
        (refine go ?_)
        refine K_again ih (i + 1, l' ++ [(x1, x2, Value.slice xa b5.length xc)], a2, c2) rfl ⟨by simp only; omega, by simp only; rw [keepW_snoc hx hne2, ← hsub]⟩ (by simp only; omega) (by repeat (first | exact keep_nil | refine keep_cons rfl ?_)) (Ent.drop _ _)
      · intro heq
        have heq' : x.1 = r := Decidable.byContradiction fun h => heq (by intro h2; exact h (by exact_mod_cast Int.ofNat.inj h2))
        (refine go ?_)
        refine K_again ih (i + 1, l', a', c') rfl ⟨by simp only; omega, by simp only; rw [keepW_skip hx heq', ← hsub]⟩ (by simp only; omega) (by repeat (first | exact keep_nil | refine keep_cons rfl ?_)) (Ent.refl _)
    · intro hge2
      simp only at hge2
      (refine go ?_)
      have hend : l' = keepW r wl := by rw [hsub, List.take_of_length_le (by omega)]
      subst hend
      have hD2 := hsyn (.slice a' (keepW r wl).length c')
      have hset : (sureL.set r (Value.slice ba bs.length bc)).length = sureL.length := by simp
      have hcl := rd_c br room (Value.slice (some ⟨nb, no, none⟩) nowL.length nc) (Value.slice (some ⟨ub, uo, none⟩) sureL.length uc) lv sts (Value.slice a' (keepW r wl).length c') nxt down nowL (sureL.set r (Value.slice ba bs.length bc)) stsL (keepW r wl) arrs nrows
      rw [hset] at hcl
      refine K_ent (Ent.pick [1, 2, 3, 4, 5, 6, 0] rfl) ?_
      refine K_ent (hcl _) ?_
      refine K_return hE Tryz.func42 rfl _ rfl ⟨_, by rw [hbsd] at hD2; exact hD2, rfl, rfl⟩ (Ent.fin [0] 1 rfl rfl)
end Go.Proofs.YtpdmbmnhgcnelaaGreat

/- the two disks, plain: each thing that is asked of both. -/
set_option linter.unusedVariables false
set_option linter.unusedSimpArgs false
namespace Go.Proofs.YtpdmbmnhgcnelaaGreat
open Go Go.SL
theorem getD_set {l : List (List UInt8)} {i : Nat} (h : i < l.length) (n : List UInt8) (j : Nat) : (l.set i n).getD j [] = if i = j then n else l.getD j [] := by
  rw [List.getD_eq_getElem?_getD, List.getElem?_set, List.getD_eq_getElem?_getD]
  by_cases hij : i = j
  · subst hij; rw [if_pos rfl, if_pos h, if_pos rfl]; rfl
  · rw [if_neg hij, if_neg hij]
theorem SimR.upd {A : Ab} {m : RM} {σ : Nat → Nat} (h : SimR A m σ) {f : Nat} (hf : f ∈ A.fs.map (·.1)) (n : List UInt8) (at_ : Nat) (b : List UInt8) :
    SimR { A with fs := Ab.upd A.fs f n, writes := A.writes ++ [(f, at_, b)] } { m with now := m.now.set (σ f) n, wr := m.wr ++ [(σ f, at_, b)] } σ := by
  have hid : (Ab.upd A.fs f n).map (·.1) = A.fs.map (·.1) := ids_map _ (fun x => if x.1 = f then (x.1, n, x.2.2) else x) (fun x => by by_cases hx : x.1 = f <;> simp [hx])
  have hfile : ∀ a ∈ A.fs.map (·.1), ({ A with fs := Ab.upd A.fs f n } : Ab).file a = if a = f then (n, (A.file a).2) else A.file a := fun a ha => by
    have := file_map A (fun x => if x.1 = f then (x.1, n, x.2.2) else x) (fun x => by by_cases hx : x.1 = f <;> simp [hx]) ha
    unfold Ab.upd
    rw [this]
    by_cases haf : a = f
    · simp [haf]
    · simp [haf]
  refine { room := h.room, off := h.off, plan := h.plan, ids := ?_, last := h.last, names := h.names, sts := h.sts, known := ?_, inj := ?_, lt := ?_, ls := ?_, now := ?_, sure := ?_, wr := ?_ }
  · exact hid ▸ h.ids
  · intro st hst x hx; exact hid ▸ h.known st hst x hx
  · intro a ha b hb; exact h.inj a (hid ▸ ha) b (hid ▸ hb)
  · intro a ha; rw [List.length_set]; exact h.lt a (hid ▸ ha)
  · rw [List.length_set]; exact h.ls
  · intro st hst x hx
    have hk := h.known st hst x hx
    have h2 := h.now st hst x hx
    unfold Ab.now RM.file at h2 ⊢
    have h3 := hfile _ hk
    have h4 : ({ A with fs := Ab.upd A.fs f n, writes := A.writes ++ [(f, at_, b)] } : Ab).file x.2 = ({ A with fs := Ab.upd A.fs f n } : Ab).file x.2 := rfl
    rw [h4, h3]
    simp only
    rw [getD_set (h.lt f hf)]
    by_cases hxf : x.2 = f
    · rw [if_pos hxf, if_pos (by rw [hxf])]
    · rw [if_neg hxf, if_neg (fun he => hxf (h.inj _ hk _ hf he.symm)), h2]
  · intro a ha
    have hk : a ∈ A.fs.map (·.1) := hid ▸ ha
    have h2 := h.sure a hk
    unfold Ab.sure at h2 ⊢
    have h3 := hfile _ hk
    have h4 : ({ A with fs := Ab.upd A.fs f n, writes := A.writes ++ [(f, at_, b)] } : Ab).file a = ({ A with fs := Ab.upd A.fs f n } : Ab).file a := rfl
    rw [h4, h3, ← h2]
    split <;> rfl
  · refine All2.snoc (h.wr.mono fun x y hh => ⟨hid.symm ▸ hh.1, hh.2⟩) ⟨hid.symm ▸ hf, rfl, rfl⟩
theorem SimR.updS {A : Ab} {m : RM} {σ : Nat → Nat} (h : SimR A m σ) {f : Nat} (hf : f ∈ A.fs.map (·.1)) (hw : A.now f = m.file (σ f)) :
    SimR { A with fs := Ab.updS A.fs f, writes := A.writes.filter fun x => !decide (x.1 = f) } { m with sure := m.sure.set (σ f) (m.file (σ f)), wr := m.wr.filter fun x => !decide (x.1 = σ f) } σ := by
  have hid : (Ab.updS A.fs f).map (·.1) = A.fs.map (·.1) := ids_map _ (fun x => if x.1 = f then (x.1, x.2.1, x.2.1) else x) (fun x => by by_cases hx : x.1 = f <;> simp [hx])
  have hfile : ∀ a ∈ A.fs.map (·.1), ({ A with fs := Ab.updS A.fs f } : Ab).file a = if a = f then ((A.file a).1, (A.file a).1) else A.file a := fun a ha => by
    have := file_map A (fun x => if x.1 = f then (x.1, x.2.1, x.2.1) else x) (fun x => by by_cases hx : x.1 = f <;> simp [hx]) ha
    unfold Ab.updS
    rw [this]
    by_cases haf : a = f
    · simp [haf]
    · simp [haf]
  refine { room := h.room, off := h.off, plan := h.plan, ids := ?_, last := h.last, names := h.names, sts := h.sts, known := ?_, inj := ?_, lt := ?_, ls := ?_, now := ?_, sure := ?_, wr := ?_ }
  · exact hid ▸ h.ids
  · intro st hst x hx; exact hid ▸ h.known st hst x hx
  · intro a ha b hb; exact h.inj a (hid ▸ ha) b (hid ▸ hb)
  · intro a ha; exact h.lt a (hid ▸ ha)
  · rw [List.length_set]; exact h.ls
  · intro st hst x hx
    have hk := h.known st hst x hx
    have h2 := h.now st hst x hx
    unfold Ab.now RM.file at h2 ⊢
    have h3 := hfile _ hk
    have h4 : ({ A with fs := Ab.updS A.fs f, writes := A.writes.filter fun x => !decide (x.1 = f) } : Ab).file x.2 = ({ A with fs := Ab.updS A.fs f } : Ab).file x.2 := rfl
    rw [h4, h3]
    simp only
    rw [← h2]
    split <;> rfl
  · intro a ha
    have hk : a ∈ A.fs.map (·.1) := hid ▸ ha
    have h2 := h.sure a hk
    unfold Ab.sure at h2 ⊢
    have h3 := hfile _ hk
    have h4 : ({ A with fs := Ab.updS A.fs f, writes := A.writes.filter fun x => !decide (x.1 = f) } : Ab).file a = ({ A with fs := Ab.updS A.fs f } : Ab).file a := rfl
    rw [h4, h3, getD_set (by rw [h.ls]; exact h.lt f hf)]
    by_cases haf : a = f
    · rw [if_pos haf, if_pos (by rw [haf]), haf]; exact hw
    · rw [if_neg haf, if_neg (fun he => haf (h.inj _ hk _ hf he.symm)), h2]
  · have hwm := All2.mono (q' := fun (x : Nat × Nat × List UInt8) (y : Nat × Nat × List UInt8) => x.1 ∈ (Ab.updS A.fs f).map (·.1) ∧ y.1 = σ x.1 ∧ y.2 = x.2) h.wr fun x y hh => ⟨hid.symm ▸ hh.1, hh.2⟩
    refine All2.filt hwm (p2 := fun x => !decide (x.1 = σ f)) ?_
    rintro x y ⟨h1, h2, _⟩
    rw [hid] at h1
    rw [h2]
    by_cases hx : x.1 = f
    · rw [hx]; simp
    · have hne : ¬ σ x.1 = σ f := fun he => hx (h.inj _ h1 _ hf he)
      simp [hx, hne]
theorem meet_no (A : Ab) : A.meet false = (1, A) := by unfold Ab.meet; rw [if_pos rfl]
theorem Sim.create {A : Ab} {m : RM} (h : Sim A m) (ok : Bool) (name : ByteArray) {f : Nat} (hf : f ∉ A.fs.map (·.1)) : (A.create ok name f).1 = (m.create ok name).1 ∧ Sim (A.create ok name f).2 (m.create ok name).2 := by
  obtain ⟨σ, h⟩ := h
  unfold Ab.create RM.create
  cases ok with
  | false => rw [meet_no]; exact ⟨rfl, σ, h⟩
  | true =>
  rw [if_neg (c := (true = false)) (by simp)]
  obtain ⟨h1, h2⟩ := h.meet
  have hfs : (A.meet true).2.fs = A.fs := (meet_fs A true).1
  rw [h1]
  by_cases hz : m.may.1 = 0
  case neg => rw [if_neg (c := (m.may.1 = 0)) hz, if_pos hz]; exact ⟨rfl, σ, h2⟩
  rw [if_pos (c := (m.may.1 = 0)) hz, if_neg (c := (m.may.1 ≠ 0)) (by simp [hz]), h2.look name]
  generalize (A.meet true).2 = A1 at h2 hfs
  generalize m.may.2 = m1 at h2
  cases hl : A1.look name with
  | some g => exact ⟨rfl, σ, h2⟩
  | none =>
  simp only [Option.isSome_none, Option.map_none, Bool.false_eq_true, if_false]
  rw [h2.names.len]
  by_cases h200 : 200 ≤ m1.l.length
  · rw [if_pos h200, if_pos h200]; exact ⟨rfl, σ, h2⟩
  rw [if_neg h200, if_neg h200]
  have hf' : f ∉ A1.fs.map (·.1) := by rw [hfs]; exact hf
  have hg := h2.grow hf'
  refine ⟨rfl, (fun a => if a = f then m1.now.length else σ a), ?_⟩
  have hn := hg.names.cons (nm := A1.names ++ [(name, f)]) (k := name) (f := f) (List.perm_append_singleton _ _) (lookIn_none hl)
  simp only [if_true] at hn
  refine hg.chg hn ?_ ?_
  · intro x hx
    rcases List.mem_append.1 hx with hx | hx
    · exact hg.known _ hg.last x hx
    · rw [List.mem_singleton.1 hx]; exact List.mem_cons_self ..
  · intro x hx
    rcases List.mem_append.1 hx with hx | hx
    · exact hg.now _ hg.last x hx
    · rw [List.mem_singleton.1 hx]
      unfold Ab.now RM.file
      rw [file_cons, if_pos rfl]
      simp only [if_true]
      exact (getD_last _).symm
/-- A name is looked for: nothing but the mistake, or its file. -/
theorem SimR.findK {A : Ab} {m : RM} {σ : Nat → Nat} (h : SimR A m σ) (name : ByteArray) :
    (m.may.1 ≠ 0 ∧ A.find name true = (m.may.1, none, (A.meet true).2)) ∨ (m.may.1 = 0 ∧ (A.meet true).2.look name = none ∧ m.may.2.find name = none ∧ A.find name true = (4, none, (A.meet true).2)) ∨
    (m.may.1 = 0 ∧ ∃ f, (name, f) ∈ (A.meet true).2.names ∧ m.may.2.find name = some (σ f) ∧ A.find name true = (0, some f, (A.meet true).2)) := by
  obtain ⟨h1, h2⟩ := h.meet
  unfold Ab.find
  by_cases hz : m.may.1 = 0
  · rw [if_pos (h1.trans hz)]
    have hlk := h2.look name
    cases hl : (A.meet true).2.look name with
    | none => rw [hl] at hlk; exact .inr (.inl ⟨hz, rfl, hlk, rfl⟩)
    | some f => rw [hl] at hlk; exact .inr (.inr ⟨hz, f, h2.lookK hl, hlk, rfl⟩)
  · rw [if_neg (fun he => hz (h1.symm.trans he)), h1]; exact .inl ⟨hz, rfl⟩
theorem find_no (A : Ab) (name : ByteArray) : A.find name false = (1, none, A) := by unfold Ab.find; rw [meet_no]; rfl
theorem Sim.write {A : Ab} {m : RM} (h : Sim A m) (ok : Bool) (name : ByteArray) (at_ : Nat) (b : List UInt8) : (A.write ok name at_ b).1 = (m.write ok name at_ b).1 ∧ Sim (A.write ok name at_ b).2 (m.write ok name at_ b).2 := by
  obtain ⟨σ, h⟩ := h
  unfold Ab.write RM.write
  cases ok with
  | false => rw [find_no]; exact ⟨rfl, σ, h⟩
  | true =>
  rw [if_neg (c := (true = false)) (by simp)]
  have h2 := h.meet.2
  rcases h.findK name with ⟨hz, hf⟩ | ⟨hz, hl, hfd, hf⟩ | ⟨hz, f, hn, hfd, hf⟩
  · rw [hf]; simp only; rw [if_neg hz, if_pos hz]; exact ⟨rfl, σ, h2⟩
  · rw [hf, if_neg (c := (m.may.1 ≠ 0)) (by simp [hz]), hfd]; exact ⟨rfl, σ, h2⟩
  · rw [hf, if_neg (c := (m.may.1 ≠ 0)) (by simp [hz]), hfd]
    simp only [if_true]
    generalize (A.meet true).2 = A1 at h2 hn
    generalize m.may.2 = m1 at h2
    have hnow := h2.now _ h2.last _ hn
    simp only at hnow
    have hroom := h2.room
    rw [hnow, h2.used]
    have hk : f ∈ A1.fs.map (·.1) := h2.known _ h2.last _ hn
    have hwl := wroteL_len (m1.file (σ f)) at_ b
    by_cases hc : A1.room < m1.used + (at_ + b.length - (m1.file (σ f)).length)
    · rw [if_pos hc, if_pos (by omega)]; exact ⟨rfl, σ, h2⟩
    · rw [if_neg hc, if_neg (by omega)]; exact ⟨rfl, σ, h2.upd hk (wroteL (m1.file (σ f)) at_ b) at_ b⟩
theorem Sim.sync {A : Ab} {m : RM} (h : Sim A m) (ok : Bool) (name : ByteArray) : (A.sync ok name).1 = (m.sync ok name).1 ∧ Sim (A.sync ok name).2 (m.sync ok name).2 := by
  obtain ⟨σ, h⟩ := h
  unfold Ab.sync RM.sync
  cases ok with
  | false => rw [find_no]; exact ⟨rfl, σ, h⟩
  | true =>
  rw [if_neg (c := (true = false)) (by simp)]
  have h2 := h.meet.2
  rcases h.findK name with ⟨hz, hf⟩ | ⟨hz, hl, hfd, hf⟩ | ⟨hz, f, hn, hfd, hf⟩
  · rw [hf]; simp only; rw [if_neg hz, if_pos hz]; exact ⟨rfl, σ, h2⟩
  · rw [hf, if_neg (c := (m.may.1 ≠ 0)) (by simp [hz]), hfd]; exact ⟨rfl, σ, h2⟩
  · rw [hf, if_neg (c := (m.may.1 ≠ 0)) (by simp [hz]), hfd]
    exact ⟨rfl, σ, h2.updS (h2.known _ h2.last _ hn) (h2.now _ h2.last _ hn)⟩
theorem mem_delN {l : List (ByteArray × Nat)} {k : ByteArray} {x : ByteArray × Nat} (h : x ∈ Ab.delN l k) : x ∈ l := (List.mem_filter.1 h).1
theorem Sim.remove {A : Ab} {m : RM} (h : Sim A m) (ok : Bool) (name : ByteArray) : (A.remove ok name).1 = (m.remove ok name).1 ∧ Sim (A.remove ok name).2 (m.remove ok name).2 := by
  obtain ⟨σ, h⟩ := h
  unfold Ab.remove RM.remove
  cases ok with
  | false => rw [find_no]; exact ⟨rfl, σ, h⟩
  | true =>
  rw [if_neg (c := (true = false)) (by simp)]
  have h2 := h.meet.2
  rcases h.findK name with ⟨hz, hf⟩ | ⟨hz, hl, hfd, hf⟩ | ⟨hz, f, hn, hfd, hf⟩
  · rw [hf, if_pos hz]; split <;> rename_i heq
    · simp only [Prod.mk.injEq] at heq; exact absurd heq.1 hz
    · simp only [Prod.mk.injEq] at heq; obtain ⟨rfl, _, rfl⟩ := heq; exact ⟨rfl, σ, h2⟩
  · rw [hf, if_neg (c := (m.may.1 ≠ 0)) (by simp [hz]), hfd]; exact ⟨rfl, σ, h2⟩
  · rw [hf, if_neg (c := (m.may.1 ≠ 0)) (by simp [hz]), hfd]
    exact ⟨rfl, σ, h2.chg (h2.names.del name) (fun x hx => h2.known _ h2.last _ (mem_delN hx)) (fun x hx => h2.now _ h2.last _ (mem_delN hx))⟩
theorem Sim.rename {A : Ab} {m : RM} (h : Sim A m) (ok : Bool) (old name : ByteArray) : (A.rename ok old name).1 = (m.rename ok old name).1 ∧ Sim (A.rename ok old name).2 (m.rename ok old name).2 := by
  obtain ⟨σ, h⟩ := h
  unfold Ab.rename RM.rename
  cases ok with
  | false => rw [find_no]; exact ⟨rfl, σ, h⟩
  | true =>
  rw [if_neg (c := (true = false)) (by simp)]
  have h2 := h.meet.2
  rcases h.findK old with ⟨hz, hf⟩ | ⟨hz, hl, hfd, hf⟩ | ⟨hz, f, hn, hfd, hf⟩
  · rw [hf, if_pos hz]; split <;> rename_i heq
    · simp only [Prod.mk.injEq] at heq; exact absurd heq.1 hz
    · simp only [Prod.mk.injEq] at heq; obtain ⟨rfl, _, rfl⟩ := heq; exact ⟨rfl, σ, h2⟩
  · rw [hf, if_neg (c := (m.may.1 ≠ 0)) (by simp [hz]), hfd]; exact ⟨rfl, σ, h2⟩
  · rw [hf, if_neg (c := (m.may.1 ≠ 0)) (by simp [hz]), hfd]
    have hmem : ∀ x ∈ Ab.setN (Ab.delN (A.meet true).2.names old) name f, x = (name, f) ∨ x ∈ (A.meet true).2.names := fun x hx => by
      rcases List.mem_cons.1 ((setN_perm (h2.names.del old).2 name f).mem_iff.1 hx) with hx | hx
      · exact .inl hx
      · exact .inr (mem_delN (mem_delN hx))
    refine ⟨rfl, σ, h2.chg ((h2.names.del old).set name f) (fun x hx => ?_) (fun x hx => ?_)⟩
    · rcases hmem x hx with rfl | hx
      · exact h2.known _ h2.last (old, f) hn
      · exact h2.known _ h2.last _ hx
    · rcases hmem x hx with rfl | hx
      · exact h2.now _ h2.last (old, f) hn
      · exact h2.now _ h2.last _ hx
theorem Sim.syncNames {A : Ab} {m : RM} (h : Sim A m) : A.syncNames.1 = m.syncNames.1 ∧ Sim A.syncNames.2 m.syncNames.2 := by
  obtain ⟨σ, h⟩ := h
  unfold Ab.syncNames RM.syncNames
  obtain ⟨h1, h2⟩ := h.meet
  by_cases hz : m.may.1 = 0
  · rw [if_pos (h1.trans hz), if_neg (c := (m.may.1 ≠ 0)) (by simp [hz])]
    exact ⟨rfl, σ, { room := h2.room, off := h2.off, plan := h2.plan, ids := h2.ids, last := List.mem_singleton.2 rfl, names := h2.names, sts := All2.one h2.names
                     known := fun st hst => by { rw [List.mem_singleton.1 hst]; exact h2.known _ h2.last }, inj := h2.inj, lt := h2.lt, ls := h2.ls
                     now := fun st hst => by { rw [List.mem_singleton.1 hst]; exact h2.now _ h2.last }, sure := h2.sure, wr := h2.wr }⟩
  · rw [if_neg (fun he => hz (h1.symm.trans he)), if_pos hz]; exact ⟨h1, σ, h2⟩
theorem Sim.size {A : Ab} {m : RM} (h : Sim A m) (name : ByteArray) : A.size name = m.size name := by
  obtain ⟨σ, h⟩ := h
  unfold Ab.size RM.size
  have hlk := h.look name
  cases hl : A.look name with
  | none => rw [hl] at hlk; rw [hlk]; rfl
  | some f => rw [hl] at hlk; rw [hlk]; simp only [Option.map_some]; rw [h.now _ h.last _ (h.lookK hl)]
theorem Sim.read {A : Ab} {m : RM} (h : Sim A m) (name : ByteArray) (at_ n : Int) : A.read name at_ n = m.read name at_ n := by
  obtain ⟨σ, h⟩ := h
  unfold Ab.read RM.read
  have hlk := h.look name
  rw [h.off]
  split
  · rfl
  cases hl : A.look name with
  | none => rw [hl] at hlk; rw [hlk]; rfl
  | some f => rw [hl] at hlk; rw [hlk]; simp only [Option.map_some]; rw [h.now _ h.last _ (h.lookK hl)]
end Go.Proofs.YtpdmbmnhgcnelaaGreat

/- both disks, plain: a plan, a crash. -/
set_option linter.unusedVariables false
set_option linter.unusedSimpArgs false
namespace Go.Proofs.YtpdmbmnhgcnelaaGreat
open Go Go.SL
namespace RM
def lasts (stay : List UInt8) (torn cut : Int) : Nat → List (Nat × Nat × List UInt8) → List (List UInt8) → List (List UInt8)
  | _, [], s => s
  | i, w :: ws, s => match Ab.kept stay torn cut i w.2.2 with
    | none => lasts stay torn cut (i + 1) ws s
    | some c => lasts stay torn cut (i + 1) ws (s.set w.1 (wroteL (s.getD w.1 []) w.2.1 c))
/-- Which names stand behind a crash. -/
def pick (sts : List (List Nm)) (names : Int) : List Nm := sts.getD (max 0 (min names (sts.length - 1))).toNat []
def crash (m : RM) (names : Int) (stay : List UInt8) (torn cut : Int) : RM :=
  { m with l := pick m.sts names, sts := [pick m.sts names], now := lasts stay torn cut 0 m.wr m.sure, sure := lasts stay torn cut 0 m.wr m.sure, wr := [], nxt := [], down := false }
def plan (m : RM) (p : List UInt8) : RM := { m with nxt := p }
end RM
theorem rlasts_len (stay : List UInt8) (torn cut : Int) : ∀ (ws : List (Nat × Nat × List UInt8)) (i : Nat) (s : List (List UInt8)), (RM.lasts stay torn cut i ws s).length = s.length
  | [], i, s => rfl
  | w :: ws, i, s => by
    unfold RM.lasts
    split
    · exact rlasts_len stay torn cut ws (i + 1) s
    · rw [rlasts_len stay torn cut ws (i + 1) _, List.length_set]
theorem upd_find {fs : List (Nat × List UInt8 × List UInt8)} {f : Nat} (s : List UInt8) {x : Nat × List UInt8 × List UInt8} (h : fs.find? (fun x => decide (x.1 = f)) = some x) :
    (Ab.updSure fs f s).find? (fun x => decide (x.1 = f)) = some (f, x.2.1, s) := by
  unfold Ab.updSure
  rw [find_map_same _ (fun x => by split <;> rfl), h]
  have : x.1 = f := by simpa using List.find?_some h
  simp [this]
/-- What is sure of a file, among these. -/
def sureOf (fs : List (Nat × List UInt8 × List UInt8)) (f : Nat) : List UInt8 := (((fs.find? fun x => decide (x.1 = f)).map (·.2)).getD ([], [])).2
theorem lasts_sim {σ : Nat → Nat} {ids : List Nat} {n : Nat} (inj : ∀ a ∈ ids, ∀ b ∈ ids, σ a = σ b → a = b) (lt : ∀ a ∈ ids, σ a < n) (stay : List UInt8) (torn cut : Int) :
    ∀ (ws : List (Nat × Nat × List UInt8)) (ws' : List (Nat × Nat × List UInt8)) (i : Nat) (fs : List (Nat × List UInt8 × List UInt8)) (s : List (List UInt8)), All2 (fun x y => x.1 ∈ ids ∧ y.1 = σ x.1 ∧ y.2 = x.2) ws ws' → fs.map (·.1) = ids → s.length = n →
    (∀ a ∈ ids, sureOf fs a = s.getD (σ a) []) → ∀ a ∈ ids, sureOf (Ab.lasts stay torn cut i ws fs) a = (RM.lasts stay torn cut i ws' s).getD (σ a) []
  | [], ws', i, fs, s, hw, hids, hn, hs => by
    have : ws' = [] := List.eq_nil_of_length_eq_zero hw.1.symm
    subst this
    exact hs
  | w :: ws, ws', i, fs, s, hw, hids, hn, hs => by
    match ws', hw with
    | w' :: ws', hw =>
    obtain ⟨h1, h2, h3⟩ := hw.2 0 w w' rfl rfl
    have hw2 : All2 (fun x y => x.1 ∈ ids ∧ y.1 = σ x.1 ∧ y.2 = x.2) ws ws' := ⟨by have := hw.1; simpa using this, fun j x y hx hy => hw.2 (j + 1) x y hx hy⟩
    obtain ⟨w0, w1, w2⟩ := w
    obtain ⟨v0, v1⟩ := w'
    simp only at h1 h2 h3
    subst h2 h3
    unfold Ab.lasts RM.lasts
    simp only
    cases hk : Ab.kept stay torn cut i w2 with
    | none => exact lasts_sim inj lt stay torn cut ws ws' (i + 1) fs s hw2 hids hn hs
    | some c =>
      simp only
      refine lasts_sim inj lt stay torn cut ws ws' (i + 1) _ _ hw2 ?_ (by rw [List.length_set]; exact hn) fun a ha => ?_
      · unfold Ab.updSure
        rw [ids_map _ _ (fun x => by split <;> rfl)]; exact hids
      have hlt := lt w0 h1
      have hs0 := hs w0 h1
      have e0 : (((fs.find? fun x => decide (x.1 = w0)).map (·.2)).getD ([], [])).2 = s.getD (σ w0) [] := hs0
      rw [e0]
      by_cases hw0 : a = w0
      · subst hw0
        obtain ⟨x, hx, -⟩ := find_mem (fs := fs) (f := a) (by rw [hids]; exact ha)
        unfold sureOf
        rw [upd_find _ hx]
        simp [hn ▸ hlt]
      · have hne : σ a ≠ σ w0 := fun e => hw0 (inj a ha w0 h1 e)
        unfold sureOf
        rw [updSure_find _ _ _ _ (fun e => hw0 e.symm)]
        have := hs a ha
        unfold sureOf at this
        rw [this, List.getD_eq_getElem?_getD, List.getD_eq_getElem?_getD, List.getElem?_set_ne (fun e => hne e.symm)]
theorem Sim.crash {A : Ab} {m : RM} (h : Sim A m) (names : Int) (stay : List UInt8) (torn cut : Int) : Sim (A.crash names stay torn cut) (m.crash names stay torn cut) := by
  obtain ⟨σ, h⟩ := h
  have hlen := h.sts.1
  have hpos : 0 < A.states.length := List.length_pos_of_mem h.last
  obtain ⟨q, hq⟩ : ∃ q, q = (max 0 (min names (A.states.length - 1))).toNat := ⟨_, rfl⟩
  have hql : q < A.states.length := by omega
  obtain ⟨nm, hnm⟩ : ∃ nm, A.states[q]? = some nm := ⟨A.states[q], by simp [hql]⟩
  obtain ⟨nm', hnm', hNR⟩ := h.sts.left hnm
  have hmem := List.mem_of_getElem? hnm
  have e1 : A.states.getD (max 0 (min names (A.states.length - 1))).toNat [] = nm := by rw [← hq, List.getD_eq_getElem?_getD, hnm]; rfl
  have e2 : RM.pick m.sts names = nm' := by unfold RM.pick; rw [← hlen, ← hq, List.getD_eq_getElem?_getD, hnm']; rfl
  have hsim := lasts_sim (n := m.sure.length) h.inj (fun a ha => by rw [h.ls]; exact h.lt a ha) stay torn cut A.writes m.wr 0 A.fs m.sure h.wr rfl rfl h.sure
  have hids : ((A.crash names stay torn cut).fs.map (·.1)) = A.fs.map (·.1) := by
    simp only [Ab.crash]
    rw [ids_map _ _ (fun x => by split <;> rfl), lasts_id]
  have hfile : ∀ a ∈ A.fs.map (·.1), (A.crash names stay torn cut).sure a = sureOf (Ab.lasts stay torn cut 0 A.writes A.fs) a ∧ (a ∈ Ab.reach (A.states ++ [nm]) → (A.crash names stay torn cut).now a = sureOf (Ab.lasts stay torn cut 0 A.writes A.fs) a) := fun a ha => by
    obtain ⟨x, hx, hxa⟩ := find_mem (fs := Ab.lasts stay torn cut 0 A.writes A.fs) (f := a) (by rw [lasts_id]; exact ha)
    have e : (A.crash names stay torn cut).file a = if a ∈ Ab.reach (A.states ++ [nm]) then (x.2.2, x.2.2) else x.2 := by
      simp only [Ab.crash, Ab.file]
      rw [e1, find_map_same _ (fun x => by split <;> rfl), hx]
      simp only [Option.map_some, Option.getD_some]
      rw [hxa]
      split <;> rfl
    unfold Ab.sure Ab.now sureOf
    rw [e, hx]
    refine ⟨by split <;> rfl, fun hr => by rw [if_pos hr]; rfl⟩
  refine ⟨σ, { room := h.room, off := rfl, plan := rfl, ids := by rw [hids]; exact h.ids, last := ?_, names := ?_, sts := ?_, known := ?_, inj := by rw [hids]; exact h.inj, lt := ?_, ls := rfl, now := ?_, sure := ?_, wr := All2.nil }⟩
  · simp [Ab.crash]
  · show NR σ (A.states.getD _ []) (RM.pick m.sts names)
    rw [e1, e2]; exact hNR
  · show All2 (NR σ) [A.states.getD _ []] [RM.pick m.sts names]
    rw [e1, e2]; exact All2.one hNR
  · intro st hst x hx
    rw [hids]
    have : st = nm := by
      have hst' : st ∈ [A.states.getD (max 0 (min names (A.states.length - 1))).toNat []] := hst
      rw [e1] at hst'
      exact List.mem_singleton.1 hst'
    subst this
    exact h.known st hmem x hx
  · intro a ha
    rw [hids] at ha
    show σ a < (RM.lasts stay torn cut 0 m.wr m.sure).length
    rw [rlasts_len, h.ls]; exact h.lt a ha
  · intro st hst x hx
    have : st = nm := by
      have hst' : st ∈ [A.states.getD (max 0 (min names (A.states.length - 1))).toNat []] := hst
      rw [e1] at hst'
      exact List.mem_singleton.1 hst'
    subst this
    have ha := h.known st hmem x hx
    rw [(hfile x.2 ha).2 (by unfold Ab.reach; rw [List.mem_flatMap]; exact ⟨st, List.mem_append_left _ hmem, List.mem_map.2 ⟨x, hx, rfl⟩⟩)]
    exact hsim x.2 ha
  · intro a ha
    rw [hids] at ha
    rw [(hfile a ha).1]
    exact hsim a ha
theorem Sim.plan {A : Ab} {m : RM} (h : Sim A m) (p : List UInt8) : Sim { A with plan := p } (m.plan p) := by
  obtain ⟨σ, h⟩ := h
  exact ⟨σ, h.room, h.off, rfl, h.ids, h.last, h.names, h.sts, h.known, h.inj, h.lt, h.ls, h.now, h.sure, h.wr⟩
end Go.Proofs.YtpdmbmnhgcnelaaGreat

/- journal, part q: of the reference: number, Head, Uint, Record. -/
set_option linter.unusedVariables false
set_option linter.unusedSimpArgs false
namespace Go.Proofs.YtpdmbmnhgcnelaaGreat
open Go Go.SL
attribute [local irreducible] J K Ctr Ends pts slc mapR mapI sbRow stock arrS loopP CtrY diskA

theorem u8_ofInt (m : Nat) (z : Int) (h : z = ((m % 256 : Nat) : Int)) : Value.int .u8 z = u8 (UInt8.ofNat m) := by
  subst h; simp [u8, UInt8.toNat_ofNat']
theorem refNumber_any (n : Nat) (h : n < 4294967296) : Ctr Tryz.prog 104 [.int .i64 (n : Int)] [] (fun r H => ∃ b, r = .slice (some ⟨b, 0, none⟩) 4 4 ∧ H = [pts b (cl (bV (le4 n)) 5)]) := by
  refine Ctr.enter Tryz.func104 (by kernel_rfl) rfl Tryz.ntmps104 rfl rfl ?_
  intro G F R hE
  (repeat (first | refine go1 ?_ | refine J_fork ?_ ?_ | refine J_rem rfl rfl rfl (by omega) (by omega) ?_ | refine J_quo rfl rfl rfl (by omega) (by omega) (by simp only [inK]; omega) ?_ | refine J_convW (U := tab) rfl rfl rfl rfl rfl rfl ?_))
  refine J_slot 5 (u8 (UInt8.ofNat n)) rfl (u8_ofInt n _ (by omega)) ?_
  refine J_slot 9 (u8 (UInt8.ofNat (n / 256))) rfl (u8_ofInt (n / 256) _ (by omega)) ?_
  refine J_slot 13 (u8 (UInt8.ofNat (n / 65536))) rfl (u8_ofInt (n / 65536) _ (by omega)) ?_
  refine J_slot 16 (u8 (UInt8.ofNat (n / 16777216))) rfl (u8_ofInt (n / 16777216) _ (by omega)) ?_
  refine J_buildSlice1 (U := tab) (cs := bV (le4 n)) rfl rfl rfl rfl rfl rfl rfl rfl rfl (fun _ _ _ => trivial) ?_
  intro b
  (refine go ?_)
  (first | refine K_return hE Tryz.func104 rfl _ rfl ⟨b, rfl, rfl⟩ entA | refine K_fallEnd hE Tryz.func104 rfl _ rfl ⟨b, rfl, rfl⟩ entA)
set_option maxRecDepth 20000 in
theorem refHead_any (n m : Nat) (h : n < 4294967296) (h2 : m < 4294967296) : Ctr Tryz.prog 72 [.int .i64 (n : Int), .int .i64 (m : Int)] [] (fun r H => H = [slc 5 1 r (headL n m).length (bV (headL n m))]) := by
  refine Ctr.enter Tryz.func72 (by kernel_rfl) rfl Tryz.ntmps72 rfl rfl ?_
  intro G F R hE
  (refine go ?_)
  (first | refine J_callE rfl rfl rfl rfl (refNumber_any n h) entA ?_ (fun _ _ _ _ _ => trivial) | refine J_call0E rfl rfl rfl (refNumber_any n h) entA ?_ (fun _ _ _ _ _ => trivial) | (refine go ?_; first | refine J_callE rfl rfl rfl rfl (refNumber_any n h) entA ?_ (fun _ _ _ _ _ => trivial) | refine J_call0E rfl rfl rfl (refNumber_any n h) entA ?_ (fun _ _ _ _ _ => trivial)))
  rintro _ _ ⟨b1, rfl, rfl⟩
  (refine go ?_)
  (first | refine J_callE rfl rfl rfl rfl (refNumber_any m h2) entA ?_ (fun _ _ _ _ _ => trivial) | refine J_call0E rfl rfl rfl (refNumber_any m h2) entA ?_ (fun _ _ _ _ _ => trivial) | (refine go ?_; first | refine J_callE rfl rfl rfl rfl (refNumber_any m h2) entA ?_ (fun _ _ _ _ _ => trivial) | refine J_call0E rfl rfl rfl (refNumber_any m h2) entA ?_ (fun _ _ _ _ _ => trivial)))
  rintro _ _ ⟨b2, rfl, rfl⟩
  refine J_ent (Ent.pick [1, 0] rfl) ?_
  refine J_ent (slc_row 5 1 b1 4 4 (bV (le4 n)) [] _ rfl (Nat.le_refl _) (by simp [bV, le4])) ?_
  refine J_append (U := tab) (mm := 4) (news := bV (le4 m)) 0 1 rfl rfl rfl rfl rfl rfl rfl rfl rfl rfl rfl rfl (Vw.pts rfl) rfl (bV_one _) (by omega) (by show (_ + _) * 1 ≤ _; omega) (fun _ => rfl) (fun _ _ _ => trivial) ?_
  intro v1
  obtain ⟨t, ht⟩ : ∃ t, t = le4 n ++ le4 m := ⟨_, rfl⟩
  have htl : t.length = 8 := by rw [ht]; rfl
  rw [show bV (le4 n) ++ bV (le4 m) = bV t from by rw [ht]; simp [bV], show 4 + 4 = t.length from htl.symm]
  (first | refine J_shape 0 rfl ?_ | refine K_shape 0 rfl ?_)
  rintro va vc rfl
  refine J_slcB (bs := t) 0 rfl ?_
  intro hbt
  (refine go ?_)
  refine J_buildSlice1 (U := tab) (cs := []) rfl rfl rfl rfl rfl rfl rfl rfl rfl (fun _ _ _ => trivial) ?_
  intro b3
  refine J_ent (slc_row 5 1 b3 0 0 [] [] _ rfl (Nat.le_refl _) (by simp)) ?_
  (refine go ?_)
  refine J_append (U := tab) (mm := t.length) (news := bV t) 0 1 rfl rfl rfl rfl rfl rfl rfl rfl rfl rfl rfl rfl hbt.1 (by show _ = _ * 1; rw [bV_length]; omega) (bV_one _) (by omega) (by show (_ + _) * 1 ≤ _; omega) (fun _ => rfl) (fun _ _ _ => trivial) ?_
  intro v2
  (first | refine J_shape 0 rfl ?_ | refine K_shape 0 rfl ?_)
  rintro va2 vc2 rfl
  (refine go ?_)
  refine J_append (U := tab) (mm := t.length) (news := bV t) 0 1 rfl rfl rfl rfl rfl rfl rfl rfl rfl rfl rfl rfl hbt.1 (by show _ = _ * 1; rw [bV_length]; omega) (bV_one _) (by omega) (by show (_ + _) * 1 ≤ _; omega) (fun _ => rfl) (fun _ _ _ => trivial) ?_
  intro v3
  rw [show [] ++ bV t ++ bV t = bV (headL n m) from by rw [ht]; simp [bV, headL], show 0 + t.length + t.length = (headL n m).length from by rw [headL_len]; omega]
  (first | refine J_shape 0 rfl ?_ | refine K_shape 0 rfl ?_)
  rintro va3 vc3 rfl
  (refine go ?_)
  (first | refine K_return hE Tryz.func72 rfl _ rfl rfl entA | refine K_fallEnd hE Tryz.func72 rfl _ rfl rfl entA)
set_option maxRecDepth 20000 in
theorem refUint_any (n : Nat) (hn : n ≤ 1000000000000) : Ctr Tryz.prog 105 [.int .u64 (n : Int)] [] (fun r H => H = [slc 5 1 r (uv n).length (bV (uv n))]) := by
  have hnl := uv_len10 (n := n) (by omega)
  refine Ctr.enter Tryz.func105 (by kernel_rfl) rfl Tryz.ntmps105 rfl rfl ?_
  intro G F R hE
  (refine go ?_)
  refine K_ent (slc_lift 5 1 none _) ?_
  refine K_loop (fun y : Value × List UInt8 × Nat => y.2.2 ≤ n ∧ y.2.1 ++ uv y.2.2 = uv n) (fun y => y.2.2)
    (fun y => [(0, .int .u64 (y.2.2 : Int)), (3, y.1)])
    (fun y => slc 5 1 y.1 y.2.1.length (bV y.2.1) :: F) (.slice none 0 0, [], n) ⟨Nat.le_refl _, rfl⟩ rfl (by repeat (first | exact keep_nil | refine keep_cons rfl ?_)) entA ?_
  rintro ⟨v, acc, m⟩ ⟨hm, hacc⟩ ih
  simp only at hm hacc
  have hal : acc.length + (uv m).length = (uv n).length := by rw [← hacc, List.length_append]
  have hpos := uv_pos m
  (first | refine J_shape 0 rfl ?_ | refine K_shape 0 rfl ?_)
  intro va vc hvv
  simp only at hvv
  subst hvv
  simp only
  (refine go ?_)
  refine K_condP rfl rfl ?_ ?_
  · intro hbig
    have hm128 : ¬ m < 128 := by omega
    have huv := uv_big hm128
    have hul : (uv m).length = (uv (m / 128)).length + 1 := by rw [huv]; simp
    (repeat (first | refine go1 ?_ | refine J_fork ?_ ?_ | refine J_rem rfl rfl rfl (by omega) (by omega) ?_ | refine J_convW (U := tab) rfl rfl rfl rfl rfl rfl ?_))
    refine J_slot 10 (u8 (UInt8.ofNat (m % 128 + 128))) rfl (u8_ofInt (m % 128 + 128) _ (by omega)) ?_
    refine J_buildSlice1 (U := tab) (cs := bV [UInt8.ofNat (m % 128 + 128)]) rfl rfl rfl rfl rfl rfl rfl rfl rfl (fun _ _ _ => trivial) ?_
    intro b
    (refine go ?_)
    refine J_append (U := tab) (mm := 1) (news := bV [UInt8.ofNat (m % 128 + 128)]) 1 0 rfl rfl rfl rfl rfl rfl rfl rfl rfl rfl rfl rfl (Vw.pts rfl) rfl (bV_one _) (by omega) (by show (_ + _) * 1 ≤ _; omega) (fun _ => rfl) (fun _ _ _ => trivial) ?_
    intro v1
    rw [show bV acc ++ bV [UInt8.ofNat (m % 128 + 128)] = bV (acc ++ [UInt8.ofNat (m % 128 + 128)]) from by simp [bV], show acc.length + 1 = (acc ++ [UInt8.ofNat (m % 128 + 128)]).length from by simp]
    (first | refine J_shape 1 rfl ?_ | refine K_shape 1 rfl ?_)
    rintro va1 vc1 rfl
    (repeat (first | refine go1 ?_ | refine J_fork ?_ ?_ | refine J_quo rfl rfl rfl (by omega) (by omega) (by simp only [inK]; omega) ?_))
    (first | refine J_slot 0 ((.int .u64 ((m / 128 : Nat) : Int))) rfl ((congrArg (Value.int .u64) (by omega))) ?_ | refine K_slot 0 ((.int .u64 ((m / 128 : Nat) : Int))) rfl ((congrArg (Value.int .u64) (by omega))) ?_)
    refine K_again ih (.slice va1 (acc ++ [UInt8.ofNat (m % 128 + 128)]).length vc1, acc ++ [UInt8.ofNat (m % 128 + 128)], m / 128) rfl (⟨by simp only; omega, by simp only; rw [List.append_assoc, List.singleton_append, ← huv]; exact hacc⟩) (by simp only; omega) (by repeat (first | exact keep_nil | refine keep_cons rfl ?_)) entA
  intro hsm
  have hm128 : m < 128 := by omega
  have huv := uv_small hm128
  (repeat (first | refine go1 ?_ | refine J_fork ?_ ?_ | refine J_convW (U := tab) rfl rfl rfl rfl rfl rfl ?_))
  refine J_slot 17 (u8 (UInt8.ofNat m)) rfl (u8_ofInt m _ (by omega)) ?_
  refine J_buildSlice1 (U := tab) (cs := bV [UInt8.ofNat m]) rfl rfl rfl rfl rfl rfl rfl rfl rfl (fun _ _ _ => trivial) ?_
  intro b
  (refine go ?_)
  refine J_append (U := tab) (mm := 1) (news := bV [UInt8.ofNat m]) 1 0 rfl rfl rfl rfl rfl rfl rfl rfl rfl rfl rfl rfl (Vw.pts rfl) rfl (bV_one _) (by omega) (by show (_ + _) * 1 ≤ _; omega) (fun _ => rfl) (fun _ _ _ => trivial) ?_
  intro v1
  rw [show bV acc ++ bV [UInt8.ofNat m] = bV (uv n) from by rw [← hacc, huv]; simp [bV], show acc.length + 1 = (uv n).length from by rw [← hacc, huv]; simp]
  (first | refine J_shape 1 rfl ?_ | refine K_shape 1 rfl ?_)
  rintro va1 vc1 rfl
  (refine go ?_)
  (first | refine K_return hE Tryz.func105 rfl _ rfl rfl entA | refine K_fallEnd hE Tryz.func105 rfl _ rfl rfl entA)
theorem refRecord_any (A : HP) (v : Value) (bs : List UInt8) (hv : BAt A v bs) (hl : bs.length ≤ 1000000000000) :
    Ctr Tryz.prog 75 [v] [A] (fun r H => H = [slc 5 1 r (encL bs).length (bV (encL bs)), A]) := by
  obtain ⟨a, c, rfl, hc⟩ := hv.2
  refine Ctr.enter Tryz.func75 (by kernel_rfl) rfl Tryz.ntmps75 rfl rfl ?_
  intro G F R hE
  (refine go ?_)
  (first | refine J_callE rfl rfl rfl rfl (refUint_any bs.length (by omega)) entA ?_ (fun _ _ _ _ _ => trivial) | refine J_call0E rfl rfl rfl (refUint_any bs.length (by omega)) entA ?_ (fun _ _ _ _ _ => trivial) | (refine go ?_; first | refine J_callE rfl rfl rfl rfl (refUint_any bs.length (by omega)) entA ?_ (fun _ _ _ _ _ => trivial) | refine J_call0E rfl rfl rfl (refUint_any bs.length (by omega)) entA ?_ (fun _ _ _ _ _ => trivial)))
  rintro r _ rfl
  (first | refine J_shape 0 rfl ?_ | refine K_shape 0 rfl ?_)
  rintro ra rc rfl
  (refine go ?_)
  have hu := uv_len10 (n := bs.length) (by omega)
  refine J_append (U := tab) (mm := bs.length) (news := bV bs) 0 1 rfl rfl rfl rfl rfl rfl rfl rfl rfl rfl rfl rfl hv.1 (by show _ = _ * 1; rw [bV_length]; omega) (bV_one _) (by omega) (by show (_ + _) * 1 ≤ _; omega) (fun _ => rfl) (fun _ _ _ => trivial) ?_
  intro v1
  rw [show bV (uv bs.length) ++ bV bs = bV (encL bs) from by simp [bV, encL], show (uv bs.length).length + bs.length = (encL bs).length from by simp [encL]]
  (refine go ?_)
  (first | refine K_return hE Tryz.func75 rfl _ rfl rfl entA | refine K_fallEnd hE Tryz.func75 rfl _ rfl rfl entA)
end Go.Proofs.YtpdmbmnhgcnelaaGreat

/- the reference's journal, part a: ToUint, of. -/
set_option linter.unusedVariables false
set_option linter.unusedSimpArgs false
namespace Go.Proofs.YtpdmbmnhgcnelaaGreat
open Go Go.SL
/-- cut, of two bytes at most. -/
def cutR (bs : List UInt8) : Nat × Nat :=
  if 1 ≤ bs.length ∧ (bs.getD 0 0).toNat < 128 then ((bs.getD 0 0).toNat, 1)
  else if 2 ≤ bs.length ∧ (bs.getD 1 0).toNat < 128 ∧ (bs.getD 1 0).toNat ≠ 0 then ((bs.getD 0 0).toNat % 128 + (bs.getD 1 0).toNat * 128, 2) else (0, 0)
theorem toUint_cutR {bs : List UInt8} (hl : bs.length ≤ 2) : toUintA bs = if (cutR bs).2 = 0 ∨ (cutR bs).2 ≠ bs.length then none else some (cutR bs).1 := by
  match bs, hl with
  | [], _ => rfl
  | [a], _ =>
    by_cases ha : a.toNat < 128
    · simp [toUintA, cutA, cutL, cutR, ha]
    · simp [toUintA, cutA, cutL, cutR, ha]
  | [a, b], _ =>
    by_cases ha : a.toNat < 128
    · simp [toUintA, cutA, cutL, cutR, ha]
    · by_cases hb : b.toNat < 128
      · by_cases hb0 : b.toNat = 0
        · simp [toUintA, cutA, cutL, cutR, ha, hb0]
        · simp [toUintA, cutA, cutL, cutR, ha, hb, hb0]; try omega
      · simp [toUintA, cutA, cutL, cutR, ha, hb]
def accN (bs : List UInt8) : Nat → Nat
  | 0 => 0
  | 1 => (bs.getD 0 0).toNat % 128
  | _ => (bs.getD 0 0).toNat % 128 + (bs.getD 1 0).toNat % 128 * 128
def worN : Nat → Nat
  | 0 => 1
  | 1 => 128
  | _ => 16384
attribute [local irreducible] J K Ctr Ends pts slc mapR mapI sbRow stock arrS loopP CtrY diskA

set_option maxRecDepth 20000 in
theorem refCut_any (A : HP) (v : Value) (bs : List UInt8) (hv : BAt A v bs) (hl : bs.length ≤ 2) :
    Ctr Tryz.prog 116 [v] [A] (fun r H => r = .tuple #[.int .u64 ((cutR bs).1 : Int), .int .i64 ((cutR bs).2 : Int)] ∧ H = [A]) := by
  obtain ⟨a, c, rfl, hc⟩ := hv.2
  have hx : ∀ x : UInt8, x.toNat < 256 := fun x => x.toNat_lt
  have hb0 := hx (bs.getD 0 0); have hb1 := hx (bs.getD 1 0)
  refine Ctr.enter Tryz.func116 (by kernel_rfl) rfl Tryz.ntmps116 rfl rfl ?_
  intro G F R hE
  (refine go ?_)
  refine K_loop (fun i : Nat => i ≤ bs.length ∧ (1 ≤ i → ¬ (bs.getD 0 0).toNat < 128) ∧ (2 ≤ i → ¬ (bs.getD 1 0).toNat < 128)) (fun i => bs.length - i)
    (fun i => [(0, .slice a bs.length c), (4, .int .u64 (accN bs i : Int)), (5, .int .u64 (worN i : Int)), (6, .int .i64 (i : Int))])
    (fun _ => A :: F) 0 ⟨Nat.zero_le _, by omega, by omega⟩ rfl (by repeat (first | exact keep_nil | refine keep_cons rfl ?_)) entA ?_
  rintro i ⟨hi, h0, h1⟩ ih
  have hi2 : i = 0 ∨ i = 1 ∨ i = 2 := by omega
  by_cases hge : bs.length ≤ i
  case pos =>
    have hres : cutR bs = (0, 0) := by
      unfold cutR
      rw [if_neg (fun h => h0 (by omega) h.2), if_neg (fun h => h1 (by omega) h.2.1)]
    rw [hres] at hE
    (refine go ?_)
    (first | refine J_slot 12 ((.bool false)) rfl ((congrArg Value.bool (decide_eq_false (by omega)))) ?_ | refine K_slot 12 ((.bool false)) rfl ((congrArg Value.bool (decide_eq_false (by omega)))) ?_)
    (refine go ?_)
    (first | refine K_return hE Tryz.func116 rfl _ rfl ⟨rfl, rfl⟩ entA | refine K_fallEnd hE Tryz.func116 rfl _ rfl ⟨rfl, rfl⟩ entA)
  obtain ⟨b, o, c', hsl⟩ := bV_at hv.1 (by omega)
  simp only [Value.slice.injEq, true_and] at hsl
  obtain ⟨rfl, rfl⟩ := hsl
  rcases hi2 with rfl | rfl | rfl
  case inr.inr => exfalso; omega
  · rw [show accN bs 0 = 0 from rfl, show worN 0 = 1 from rfl]
    (refine go ?_)
    (first | refine J_slot 12 ((.bool true)) rfl ((congrArg Value.bool (decide_eq_true (by omega)))) ?_ | refine K_slot 12 ((.bool true)) rfl ((congrArg Value.bool (decide_eq_true (by omega)))) ?_)
    (refine go ?_)
    refine J_at1 (U := tab) 0 rfl rfl rfl rfl rfl rfl rfl rfl (by omega) ?_
    refine J_loadAt (U := tab) 0 0 rfl rfl rfl hv.1 rfl (bV_getD (by omega)) rfl rfl ?_
    (repeat (first | refine go1 ?_ | refine J_fork ?_ ?_ | refine J_rem rfl rfl rfl (by omega) (by omega) ?_ | refine J_mul rfl rfl rfl (by simp only [inK]; omega) ?_))
    (first | refine J_slot 4 ((.int .u64 ((accN bs 1 : Nat) : Int))) rfl ((congrArg (Value.int .u64) (by show _ = (((bs.getD 0 0).toNat % 128 : Nat) : Int); omega))) ?_ | refine K_slot 4 ((.int .u64 ((accN bs 1 : Nat) : Int))) rfl ((congrArg (Value.int .u64) (by show _ = (((bs.getD 0 0).toNat % 128 : Nat) : Int); omega))) ?_)
    (first | refine J_slot 5 ((.int .u64 ((worN 1 : Nat) : Int))) rfl ((congrArg (Value.int .u64) (by show _ = ((128 : Nat) : Int); omega))) ?_ | refine K_slot 5 ((.int .u64 ((worN 1 : Nat) : Int))) rfl ((congrArg (Value.int .u64) (by show _ = ((128 : Nat) : Int); omega))) ?_)
    refine J_at1 (U := tab) 0 rfl rfl rfl rfl rfl rfl rfl rfl (by omega) ?_
    refine J_loadAt (U := tab) 0 0 rfl rfl rfl hv.1 rfl (bV_getD (by omega)) rfl rfl ?_
    (refine go ?_)
    refine K_condP rfl rfl ?_ ?_
    · intro hlt
      have hlt' : (bs.getD 0 0).toNat < 128 := by omega
      have hres : cutR bs = ((bs.getD 0 0).toNat, 1) := by unfold cutR; rw [if_pos ⟨by omega, hlt'⟩]
      rw [hres] at hE
      (refine go ?_)
      (first | refine J_slot 2 ((.int .u64 (((bs.getD 0 0).toNat : Nat) : Int))) rfl ((congrArg (Value.int .u64) (by show (((bs.getD 0 0).toNat % 128 : Nat) : Int) = _; omega))) ?_ | refine K_slot 2 ((.int .u64 (((bs.getD 0 0).toNat : Nat) : Int))) rfl ((congrArg (Value.int .u64) (by show (((bs.getD 0 0).toNat % 128 : Nat) : Int) = _; omega))) ?_)
      (first | refine K_return hE Tryz.func116 rfl _ rfl ⟨rfl, rfl⟩ entA | refine K_fallEnd hE Tryz.func116 rfl _ rfl ⟨rfl, rfl⟩ entA)
    · intro hge2
      (refine go ?_)
      refine K_again ih (1 : Nat) rfl ⟨by omega, fun _ => by omega, by omega⟩ (by omega) (by repeat (first | exact keep_nil | refine keep_cons rfl ?_)) entA
  · rw [show accN bs 1 = (bs.getD 0 0).toNat % 128 from rfl, show worN 1 = 128 from rfl]
    (refine go ?_)
    (first | refine J_slot 12 ((.bool true)) rfl ((congrArg Value.bool (decide_eq_true (by omega)))) ?_ | refine K_slot 12 ((.bool true)) rfl ((congrArg Value.bool (decide_eq_true (by omega)))) ?_)
    (refine go ?_)
    refine J_at1 (U := tab) 1 rfl rfl rfl rfl rfl rfl rfl rfl (by omega) ?_
    refine J_loadAt (U := tab) 0 1 rfl rfl rfl hv.1 rfl (bV_getD (by omega)) rfl rfl ?_
    (repeat (first | refine go1 ?_ | refine J_fork ?_ ?_ | refine J_rem rfl rfl rfl (by omega) (by omega) ?_ | refine J_mul rfl rfl rfl (by simp only [inK]; omega) ?_))
    (first | refine J_slot 4 ((.int .u64 ((accN bs 2 : Nat) : Int))) rfl ((congrArg (Value.int .u64) (by show _ = (((bs.getD 0 0).toNat % 128 + (bs.getD 1 0).toNat % 128 * 128 : Nat) : Int); omega))) ?_ | refine K_slot 4 ((.int .u64 ((accN bs 2 : Nat) : Int))) rfl ((congrArg (Value.int .u64) (by show _ = (((bs.getD 0 0).toNat % 128 + (bs.getD 1 0).toNat % 128 * 128 : Nat) : Int); omega))) ?_)
    (first | refine J_slot 5 ((.int .u64 ((worN 2 : Nat) : Int))) rfl ((congrArg (Value.int .u64) (by show _ = ((16384 : Nat) : Int); omega))) ?_ | refine K_slot 5 ((.int .u64 ((worN 2 : Nat) : Int))) rfl ((congrArg (Value.int .u64) (by show _ = ((16384 : Nat) : Int); omega))) ?_)
    refine J_at1 (U := tab) 1 rfl rfl rfl rfl rfl rfl rfl rfl (by omega) ?_
    refine J_loadAt (U := tab) 0 1 rfl rfl rfl hv.1 rfl (bV_getD (by omega)) rfl rfl ?_
    (refine go ?_)
    have h00 := h0 (by omega)
    refine K_condP rfl rfl ?_ ?_
    · intro hlt
      (refine go ?_)
      refine J_at1 (U := tab) 1 rfl rfl rfl rfl rfl rfl rfl rfl (by omega) ?_
      (refine go ?_)
      refine J_loadAt (U := tab) 0 1 rfl rfl rfl hv.1 rfl (bV_getD (by omega)) rfl rfl ?_
      (refine go ?_)
      refine K_condP rfl rfl ?_ ?_
      · intro hz
        have hz' : (bs.getD 1 0).toNat = 0 := by omega
        have hres : cutR bs = (0, 0) := by unfold cutR; rw [if_neg (fun h => h00 h.2), if_neg (fun h => h.2.2 hz')]
        rw [hres] at hE
        (refine go ?_)
        (first | refine K_return hE Tryz.func116 rfl _ rfl ⟨rfl, rfl⟩ entA | refine K_fallEnd hE Tryz.func116 rfl _ rfl ⟨rfl, rfl⟩ entA)
      · intro hz
        have hres : cutR bs = ((bs.getD 0 0).toNat % 128 + (bs.getD 1 0).toNat * 128, 2) := by unfold cutR; rw [if_neg (fun h => h00 h.2), if_pos ⟨by omega, by omega, fun h => hz (by omega)⟩]
        rw [hres] at hE
        (refine go ?_)
        (first | refine J_slot 2 ((.int .u64 (((bs.getD 0 0).toNat % 128 + (bs.getD 1 0).toNat * 128 : Nat) : Int))) rfl ((congrArg (Value.int .u64) (by show (((bs.getD 0 0).toNat % 128 + (bs.getD 1 0).toNat % 128 * 128 : Nat) : Int) = _; omega))) ?_ | refine K_slot 2 ((.int .u64 (((bs.getD 0 0).toNat % 128 + (bs.getD 1 0).toNat * 128 : Nat) : Int))) rfl ((congrArg (Value.int .u64) (by show (((bs.getD 0 0).toNat % 128 + (bs.getD 1 0).toNat % 128 * 128 : Nat) : Int) = _; omega))) ?_)
        (first | refine K_return hE Tryz.func116 rfl _ rfl ⟨rfl, rfl⟩ entA | refine K_fallEnd hE Tryz.func116 rfl _ rfl ⟨rfl, rfl⟩ entA)
    · intro hge2
      (refine go ?_)
      refine K_again ih (2 : Nat) rfl ⟨by omega, fun _ => h00, fun _ => by omega⟩ (by omega) (by repeat (first | exact keep_nil | refine keep_cons rfl ?_)) entA
theorem refToUint_any (A : HP) (v : Value) (bs : List UInt8) (hv : BAt A v bs) (hl : bs.length ≤ 2) :
    Ctr Tryz.prog 100 [v] [A] (fun r H => r = (match toUintA bs with
      | some n => .tuple #[.int .u64 (n : Int), .int .i64 0]
      | none => .tuple #[.int .u64 0, .int .i64 2]) ∧ H = [A]) := by
  obtain ⟨a, c, rfl, hc⟩ := hv.2
  have htu := toUint_cutR hl
  refine Ctr.enter Tryz.func100 (by kernel_rfl) rfl Tryz.ntmps100 rfl rfl ?_
  intro G F R hE
  (refine go ?_)
  (first | refine J_callE rfl rfl rfl rfl (refCut_any A _ bs hv hl) entA ?_ (fun _ _ _ _ _ => trivial) | refine J_call0E rfl rfl rfl (refCut_any A _ bs hv hl) entA ?_ (fun _ _ _ _ _ => trivial) | (refine go ?_; first | refine J_callE rfl rfl rfl rfl (refCut_any A _ bs hv hl) entA ?_ (fun _ _ _ _ _ => trivial) | refine J_call0E rfl rfl rfl (refCut_any A _ bs hv hl) entA ?_ (fun _ _ _ _ _ => trivial)))
  rintro _ _ ⟨rfl, rfl⟩
  repeat' (first | (with_reducible intro _hh) | refine go1 ?_ | refine J_fork ?_ ?_ | refine J_gsP rfl rfl rfl rfl ?_ ?_ | refine K_condP rfl rfl ?_ ?_)
  · rw [htu, if_pos (by omega)] at hE
    (first | refine K_return hE Tryz.func100 rfl _ rfl ⟨rfl, rfl⟩ entA | refine K_fallEnd hE Tryz.func100 rfl _ rfl ⟨rfl, rfl⟩ entA)
  · rw [htu, if_pos (by omega)] at hE
    (first | refine K_return hE Tryz.func100 rfl _ rfl ⟨rfl, rfl⟩ entA | refine K_fallEnd hE Tryz.func100 rfl _ rfl ⟨rfl, rfl⟩ entA)
  · rw [htu, if_neg (by omega)] at hE
    (first | refine K_return hE Tryz.func100 rfl _ rfl ⟨rfl, rfl⟩ entA | refine K_fallEnd hE Tryz.func100 rfl _ rfl ⟨rfl, rfl⟩ entA)
theorem refOf_any (A : HP) (v : Value) (bs : List UInt8) (hv : Vw A v bs.length (bV bs)) (h : 4 ≤ bs.length) : Ctr Tryz.prog 67 [v] [A] (fun r H => r = .int .i64 (leN bs : Int) ∧ H = [A]) := by
  obtain ⟨b, o, c, rfl⟩ := bV_at hv (by omega)
  have hx : ∀ x : UInt8, x.toNat < 256 := fun x => x.toNat_lt
  have h0 := hx (bs.getD 0 0); have h1 := hx (bs.getD 1 0); have h2 := hx (bs.getD 2 0); have h3 := hx (bs.getD 3 0)
  have hle : leN bs = (bs.getD 0 0).toNat + (bs.getD 1 0).toNat * 2 ^ 8 + (bs.getD 2 0).toNat * 2 ^ 16 + (bs.getD 3 0).toNat * 2 ^ 24 := rfl
  refine Ctr.enter Tryz.func67 (by kernel_rfl) rfl Tryz.ntmps67 rfl rfl ?_
  intro G F R hE
  (refine go ?_)
  refine K_drawA (fun w => Sat G w ([A])) (sts 0 23 .nil) rfl (by kernel_rfl) (by kernel_rfl) (by kernel_rfl) (fun w hw => hw.ent entA) ?_
  (refine go ?_)
  refine J_at1 (U := tab) 0 rfl rfl rfl rfl rfl rfl rfl rfl (by omega) ?_
  refine J_loadAtS (U := tab) 0 0 rfl rfl rfl hv rfl (bV_getD (by omega)) rfl rfl ?_
  (refine go ?_)
  refine J_at1 (U := tab) 1 rfl rfl rfl rfl rfl rfl rfl rfl (by omega) ?_
  refine J_loadAtS (U := tab) 0 1 rfl rfl rfl hv rfl (bV_getD (by omega)) rfl rfl ?_
  (repeat (first | refine go1 ?_ | refine J_fork ?_ ?_ | refine J_mul rfl rfl rfl (by simp only [inK]; omega) ?_))
  refine J_at1 (U := tab) 2 rfl rfl rfl rfl rfl rfl rfl rfl (by omega) ?_
  refine J_loadAtS (U := tab) 0 2 rfl rfl rfl hv rfl (bV_getD (by omega)) rfl rfl ?_
  (repeat (first | refine go1 ?_ | refine J_fork ?_ ?_ | refine J_mul rfl rfl rfl (by simp only [inK]; omega) ?_))
  refine J_at1 (U := tab) 3 rfl rfl rfl rfl rfl rfl rfl rfl (by omega) ?_
  refine J_loadAtS (U := tab) 0 3 rfl rfl rfl hv rfl (bV_getD (by omega)) rfl rfl ?_
  (repeat (first | refine go1 ?_ | refine J_fork ?_ ?_ | refine J_mul rfl rfl rfl (by simp only [inK]; omega) ?_))
  refine K_slot 2 (.int .i64 (leN bs : Int)) rfl (congrArg (Value.int .i64) (by rw [hle]; omega)) ?_
  (first | refine K_return hE Tryz.func67 rfl _ rfl ⟨rfl, rfl⟩ entA | refine K_fallEnd hE Tryz.func67 rfl _ rfl ⟨rfl, rfl⟩ entA)
end Go.Proofs.YtpdmbmnhgcnelaaGreat

/- the reference's disk, part u: Rename, Remove. -/
set_option linter.unusedVariables false
set_option linter.unusedSimpArgs false
namespace Go.Proofs.YtpdmbmnhgcnelaaGreat
open Go Go.SL
theorem RM.without_len (l : List Nm) (name : ByteArray) : (RM.without l name).length ≤ l.length := List.length_filter_le _ _
attribute [local irreducible] J K Ctr Ends pts slc mapR mapI sbRow stock arrS

set_option maxRecDepth 20000 in
theorem mRename_any (br k : Nat) (D : RDk) (m : RM) (hR : RR D m) (hM : MOk m k) (old name : ByteArray) (hs : old.size ≤ 9223372036854775807) (hs2 : name.size ≤ 9223372036854775807) :
    Ctr Tryz.prog 73 [ptr br, .string old, .string name] [rd br D] (fun v H => ∃ D', RR D' (m.rename (isName old && isName name) old name).2 ∧ v = .int .i64 ((m.rename (isName old && isName name) old name).1 : Int) ∧ H = [rd br D']) := by
  refine Ctr.enter Tryz.func73 (by kernel_rfl) rfl Tryz.ntmps73 rfl rfl ?_
  intro G F R hE
  (refine go ?_)
  refine J_call [] rfl rfl rfl rfl (mIsName_any old hs) rfl (fun _ _ _ _ _ => trivial) ?_
  rintro _ _ ⟨rfl, rfl⟩
  (refine go ?_)
  refine J_call [] rfl rfl rfl rfl (mIsName_any name hs2) rfl (fun _ _ _ _ _ => trivial) ?_
  rintro _ _ ⟨rfl, rfl⟩
  generalize isName old = i1 at hE
  generalize isName name = i2 at hE
  cases i1 <;> cases i2
  case true.true =>
    (refine go ?_)
    refine J_call [0] rfl rfl rfl rfl (mMay_any br D m hR) rfl (fun _ _ _ _ _ => trivial) ?_
    rintro _ _ ⟨D', hD', rfl, rfl⟩
    simp only [Bool.and_self] at hE
    by_cases hz : m.may.1 = 0
    case neg =>
      have hm : m.rename true old name = m.may := by unfold RM.rename; rw [if_neg (by simp), if_pos hz]
      rw [hm] at hE
      (refine go ?_)
      refine K_condP rfl rfl ?_ ?_
      · intro _
        (refine go ?_)
        refine K_return hE Tryz.func73 rfl _ rfl ⟨_, hD', rfl, rfl⟩ (Ent.fin [0] 0 rfl rfl)
      intro h; exact absurd (by simpa using h) hz
    have hMm := hM.may
    rw [hz]
    have hm1 : m.rename true old name = match m.may.2.find old with
        | none => (4, m.may.2)
        | some f => (0, m.may.2.named (RM.with_ (RM.without (RM.without m.may.2.l old) name) (name, f))) := by
      unfold RM.rename; rw [if_neg (by simp), if_neg (fun h => h hz)]; rfl
    rw [hm1] at hE
    generalize m.may.2 = m1 at hD' hMm hE
    (refine go ?_)
    refine J_call [0] rfl rfl rfl rfl (mFind_any br k D' m1 hD' hMm old) rfl (fun _ _ _ _ _ => trivial) ?_
    rintro _ _ ⟨rfl, rfl⟩
    cases hfd : m1.find old with
    | none =>
      rw [hfd] at hE
      simp only [fI]
      (refine go ?_)
      refine K_return hE Tryz.func73 rfl _ rfl ⟨_, hD', rfl, rfl⟩ (Ent.fin [0] 0 rfl rfl)
    | some r2 =>
    rw [hfd] at hE
    simp only [fI]
    simp only at hE
    obtain ⟨room, now, sure, lv, sts, wrs, nxt, down, nowL, sureL, stsL, wl, arrs, nrows⟩ := D'
    have hl := hD'.l
    have hlk := hMm.ll
    have hkk := hMm.kk
    have hsk := hMm.sk
    generalize hml : m1.l = l at hl hlk hE
    simp only at hl
    obtain ⟨a, cap, rfl, hcap⟩ := hl.shape
    refine J_ent (rd_o _ _ _ _ _ _ _ _ _ _ _ _ _ _ _ _) ?_
    (refine go ?_)
    refine J_call [2] rfl rfl rfl rfl (mWithout_any (arrS 111 nrows) _ l old (hl.view _) (by omega)) rfl (fun _ _ _ _ _ => trivial) ?_
    rintro r3 _ rfl
    have hw1 := RM.without_len l old
    refine J_shape 0 rfl ?_
    rintro a3 c3 rfl
    (refine go ?_)
    refine J_slcVw 0 rfl ?_
    intro hv1
    refine J_call [0] rfl rfl rfl rfl (mWithout_any (slc 111 2 _ (RM.without l old).length ((RM.without l old).flatMap ncell)) _ (RM.without l old) name hv1 (by omega)) rfl (fun _ _ _ _ _ => trivial) ?_
    rintro r4 _ rfl
    have hw2 := RM.without_len (RM.without l old) name
    refine J_shape 0 rfl ?_
    rintro a4 c4 rfl
    refine J_slcVw 0 rfl ?_
    intro hv2
    (refine go ?_)
    refine J_call [0] rfl rfl rfl rfl (mWith_any (slc 111 2 _ (RM.without (RM.without l old) name).length ((RM.without (RM.without l old) name).flatMap ncell)) _ (RM.without (RM.without l old) name) (name, r2) hv2 (by omega)) rfl (fun _ _ _ _ _ => trivial) ?_
    rintro r5 _ rfl
    refine J_ent (Ent.pick [0, 3] rfl) ?_
    refine J_ent (Ent.join _ _ _) ?_
    refine J_open (row_slcO 111 2 _ _ _ _) ?_
    rintro nrows' ⟨hrin, hsubr⟩
    refine J_ent (Ent.pick [3, 4, 0, 5, 6, 7, 8] rfl) ?_
    refine J_ent (rd_c br room now sure (Value.slice a l.length cap) sts wrs nxt down nowL sureL stsL wl arrs nrows' _) ?_
    have hD2 := hD'.setRows hsubr
    (refine go ?_)
    first
    | refine J_call [0] rfl rfl rfl rfl (mNamed_any br k _ _ hD2 (by omega) _ _ hrin) rfl (fun _ _ _ _ _ => trivial) ?_
    | refine J_call0 [0] rfl rfl rfl (mNamed_any br k _ _ hD2 (by omega) _ _ hrin) rfl (fun _ _ _ _ _ => trivial) ?_
    rintro _ _ ⟨D3, hD3, rfl⟩
    (refine go ?_)
    refine K_return hE Tryz.func73 rfl _ rfl ⟨_, hD3, rfl, rfl⟩ (Ent.fin [0] 2 rfl rfl)
  all_goals
    have hm : m.rename false old name = (1, m) := by unfold RM.rename; rw [if_pos rfl]
    simp only [Bool.and_false, Bool.false_and, Bool.and_self] at hE
    rw [hm] at hE
    (refine go ?_)
    refine K_return hE Tryz.func73 rfl _ rfl ⟨_, hR, rfl, rfl⟩ (Ent.fin [0] 0 rfl rfl)

set_option maxRecDepth 20000 in
theorem mRemove_any (br k : Nat) (D : RDk) (m : RM) (hR : RR D m) (hM : MOk m k) (name : ByteArray) (hs : name.size ≤ 9223372036854775807) :
    Ctr Tryz.prog 69 [ptr br, .string name] [rd br D] (fun v H => ∃ D', RR D' (m.remove (isName name) name).2 ∧ v = .int .i64 ((m.remove (isName name) name).1 : Int) ∧ H = [rd br D']) := by
  refine Ctr.enter Tryz.func69 (by kernel_rfl) rfl Tryz.ntmps69 rfl rfl ?_
  intro G F R hE
  (refine go ?_)
  refine J_call [] rfl rfl rfl rfl (mIsName_any name hs) rfl (fun _ _ _ _ _ => trivial) ?_
  rintro _ _ ⟨rfl, rfl⟩
  generalize isName name = i1 at hE
  cases i1 with
  | false =>
    have hm : m.remove false name = (1, m) := by unfold RM.remove; rw [if_pos rfl]
    rw [hm] at hE
    (refine go ?_)
    refine K_return hE Tryz.func69 rfl _ rfl ⟨_, hR, rfl, rfl⟩ (Ent.fin [0] 0 rfl rfl)
  | true =>
    (refine go ?_)
    refine J_call [0] rfl rfl rfl rfl (mMay_any br D m hR) rfl (fun _ _ _ _ _ => trivial) ?_
    rintro _ _ ⟨D', hD', rfl, rfl⟩
    by_cases hz : m.may.1 = 0
    case neg =>
      have hm : m.remove true name = m.may := by unfold RM.remove; rw [if_neg (by simp), if_pos hz]
      rw [hm] at hE
      (refine go ?_)
      refine K_condP rfl rfl ?_ ?_
      · intro _
        (refine go ?_)
        refine K_return hE Tryz.func69 rfl _ rfl ⟨_, hD', rfl, rfl⟩ (Ent.fin [0] 0 rfl rfl)
      intro h; exact absurd (by simpa using h) hz
    have hMm := hM.may
    rw [hz]
    have hm1 : m.remove true name = match m.may.2.find name with
        | none => (4, m.may.2)
        | some _ => (0, m.may.2.named (RM.without m.may.2.l name)) := by
      unfold RM.remove; rw [if_neg (by simp), if_neg (fun h => h hz)]; rfl
    rw [hm1] at hE
    generalize m.may.2 = m1 at hD' hMm hE
    (refine go ?_)
    refine J_call [0] rfl rfl rfl rfl (mFind_any br k D' m1 hD' hMm name) rfl (fun _ _ _ _ _ => trivial) ?_
    rintro _ _ ⟨rfl, rfl⟩
    cases hfd : m1.find name with
    | none =>
      rw [hfd] at hE
      simp only [fI]
      (refine go ?_)
      refine K_return hE Tryz.func69 rfl _ rfl ⟨_, hD', rfl, rfl⟩ (Ent.fin [0] 0 rfl rfl)
    | some r2 =>
    rw [hfd] at hE
    simp only [fI]
    simp only at hE
    obtain ⟨room, now, sure, lv, sts, wrs, nxt, down, nowL, sureL, stsL, wl, arrs, nrows⟩ := D'
    have hl := hD'.l
    have hlk := hMm.ll
    have hkk := hMm.kk
    have hsk := hMm.sk
    generalize hml : m1.l = l at hl hlk hE
    simp only at hl
    obtain ⟨a, cap, rfl, hcap⟩ := hl.shape
    refine J_ent (rd_o _ _ _ _ _ _ _ _ _ _ _ _ _ _ _ _) ?_
    (refine go ?_)
    refine J_call [2] rfl rfl rfl rfl (mWithout_any (arrS 111 nrows) _ l name (hl.view _) (by omega)) rfl (fun _ _ _ _ _ => trivial) ?_
    rintro r3 _ rfl
    refine J_ent (Ent.join _ _ _) ?_
    refine J_open (row_slcO 111 2 _ _ _ _) ?_
    rintro nrows' ⟨hrin, hsubr⟩
    refine J_ent (Ent.pick [1, 2, 0, 3, 4, 5, 6] rfl) ?_
    refine J_ent (rd_c br room now sure (Value.slice a l.length cap) sts wrs nxt down nowL sureL stsL wl arrs nrows' _) ?_
    have hD2 := hD'.setRows hsubr
    (refine go ?_)
    first
    | refine J_call [0] rfl rfl rfl rfl (mNamed_any br k _ _ hD2 (by omega) _ _ hrin) rfl (fun _ _ _ _ _ => trivial) ?_
    | refine J_call0 [0] rfl rfl rfl (mNamed_any br k _ _ hD2 (by omega) _ _ hrin) rfl (fun _ _ _ _ _ => trivial) ?_
    rintro _ _ ⟨D3, hD3, rfl⟩
    (refine go ?_)
    refine K_return hE Tryz.func69 rfl _ rfl ⟨_, hD3, rfl, rfl⟩ (Ent.fin [0] 0 rfl rfl)
end Go.Proofs.YtpdmbmnhgcnelaaGreat

/- the reference's disk, plain: its numbers stay small. -/
set_option linter.unusedVariables false
set_option linter.unusedSimpArgs false
namespace Go.Proofs.YtpdmbmnhgcnelaaGreat
open Go Go.SL
theorem MOk.up {m : RM} {k k' : Nat} (h : MOk m k) (hk : k ≤ k') (hk' : k' ≤ 100000) : MOk m k' :=
  ⟨h.nl, Nat.le_trans h.nk hk, h.now, h.sure, h.l, Nat.le_trans h.ll hk, fun st hst => ⟨(h.sts st hst).1, Nat.le_trans (h.sts st hst).2 hk⟩, h.full, Nat.le_trans h.sk (Nat.succ_le_succ hk), h.wr, Nat.le_trans h.wk hk, hk', h.room⟩
theorem MOk.named {m : RM} {k : Nat} (h : MOk m k) (hk : k + 1 ≤ 100000) {l : List Nm} (h1 : ∀ x ∈ l, x.2 < m.now.length) (h2 : l.length ≤ k + 1) : MOk (m.named l) (k + 1) :=
  { nl := h.nl, nk := Nat.le_succ_of_le h.nk, now := h.now, sure := h.sure, l := h1, ll := h2
    sts := fun st hst => by
      rcases List.mem_append.1 hst with hst | hst
      · exact ⟨(h.sts st hst).1, Nat.le_succ_of_le (h.sts st hst).2⟩
      · rw [List.mem_singleton.1 hst]; exact ⟨h1, h2⟩
    full := fun he => by have := congrArg List.length he; simp [RM.named] at this
    sk := by show (m.sts ++ [l]).length ≤ _; have := h.sk; simp only [List.length_append, List.length_singleton]; omega
    wr := h.wr, wk := Nat.le_succ_of_le h.wk, kk := hk, room := h.room }
theorem mem_with {l : List Nm} {x y : Nm} (h : y ∈ RM.with_ l x) : y = x ∨ y ∈ l := List.mem_cons.1 ((with_perm l x).mem_iff.1 h)
theorem mem_without {l : List Nm} {k : ByteArray} {y : Nm} (h : y ∈ RM.without l k) : y ∈ l := (List.mem_filter.1 h).1
theorem MOk.create {m : RM} {k : Nat} (h : MOk m k) (hk : k + 1 ≤ 100000) (ok : Bool) (name : ByteArray) : MOk (m.create ok name).2 (k + 1) := by
  have h0 : MOk m (k + 1) := h.up (Nat.le_succ _) hk
  have h1 := h.may
  have h2 : MOk m.may.2 (k + 1) := h1.up (Nat.le_succ _) hk
  unfold RM.create
  split
  · exact h0
  split
  · exact h2
  split
  · exact h2
  split
  · exact h2
  generalize m.may.2 = m1 at h1 h2
  have hnl : (m1.now ++ [[]]).length = m1.now.length + 1 := by simp
  refine { nl := ?_, nk := ?_, now := ?_, sure := ?_, l := ?_, ll := ?_, sts := ?_, full := ?_, sk := ?_, wr := ?_, wk := ?_, kk := hk, room := h1.room }
  · show (m1.sure ++ [[]]).length = (m1.now ++ [[]]).length; simp [h1.nl]
  · show (m1.now ++ [[]]).length ≤ _; have := h1.nk; omega
  · intro b hb
    rcases List.mem_append.1 hb with hb | hb
    · exact h1.now b hb
    · rw [List.mem_singleton.1 hb]; exact Nat.zero_le _
  · intro b hb
    rcases List.mem_append.1 hb with hb | hb
    · exact h1.sure b hb
    · rw [List.mem_singleton.1 hb]; exact Nat.zero_le _
  · intro x hx
    show _ < (m1.now ++ [[]]).length
    rcases mem_with hx with rfl | hx
    · simp only; omega
    · have := h1.l x hx; omega
  · show (RM.with_ m1.l _).length ≤ _; rw [with_len]; have := h1.ll; omega
  · intro st hst
    show (∀ x ∈ st, x.2 < (m1.now ++ [[]]).length) ∧ _
    rcases List.mem_append.1 hst with hst | hst
    · exact ⟨fun x hx => by have := (h1.sts st hst).1 x hx; omega, Nat.le_succ_of_le (h1.sts st hst).2⟩
    · rw [List.mem_singleton.1 hst]
      refine ⟨fun x hx => ?_, by show (RM.with_ m1.l _).length ≤ _; rw [with_len]; have := h1.ll; omega⟩
      rcases mem_with hx with rfl | hx
      · simp only; omega
      · have := h1.l x hx; omega
  · intro he; have := congrArg List.length he; simp [RM.named] at this
  · show (m1.sts ++ [_]).length ≤ _; have := h1.sk; simp only [List.length_append, List.length_singleton]; omega
  · intro x hx
    show _ < (m1.now ++ [[]]).length ∧ _
    have := h1.wr x hx
    exact ⟨by omega, this.2⟩
  · exact Nat.le_succ_of_le h1.wk
theorem MOk.write {m : RM} {k : Nat} (h : MOk m k) (hk : k + 1 ≤ 100000) (ok : Bool) (name : ByteArray) (at_ : Nat) (b : List UInt8) (hb : ok = true → at_ + b.length ≤ 1048576) : MOk (m.write ok name at_ b).2 (k + 1) := by
  have h0 : MOk m (k + 1) := h.up (Nat.le_succ _) hk
  have h1 := h.may
  have h2 : MOk m.may.2 (k + 1) := h1.up (Nat.le_succ _) hk
  have hl := fun f hf => RM.find_lt h1 (name := name) (f := f) hf
  unfold RM.write
  split
  · exact h0
  rename_i hok
  have hb := hb (by simpa using hok)
  split
  · exact h2
  generalize m.may.2 = m1 at h1 h2 hl
  split
  · exact h2
  rename_i f hf
  split
  · exact h2
  have hwl := wroteL_len (m1.file f) at_ b
  have hfl : (m1.file f).length ≤ 1048576 := by
    unfold RM.file
    rw [List.getD_eq_getElem?_getD]
    cases hg : m1.now[f]? with
    | none => simp
    | some b => exact h1.now b (List.mem_of_getElem? hg)
  have hset : (m1.now.set f (wroteL (m1.file f) at_ b)).length = m1.now.length := List.length_set ..
  refine { nl := ?_, nk := ?_, now := ?_, sure := h1.sure, l := ?_, ll := Nat.le_succ_of_le h1.ll, sts := ?_, full := h1.full, sk := Nat.le_succ_of_le h1.sk, wr := ?_, wk := ?_, kk := hk, room := h1.room }
  · show m1.sure.length = (m1.now.set f (wroteL (m1.file f) at_ b)).length; rw [hset]; exact h1.nl
  · show (m1.now.set f (wroteL (m1.file f) at_ b)).length ≤ _; rw [hset]; exact Nat.le_succ_of_le h1.nk
  · intro x hx
    rcases List.mem_or_eq_of_mem_set hx with hx | rfl
    · exact h1.now x hx
    · rw [hwl]; omega
  · intro x hx; show _ < (m1.now.set f (wroteL (m1.file f) at_ b)).length; rw [hset]; exact h1.l x hx
  · intro st hst; show (∀ x ∈ st, x.2 < (m1.now.set f (wroteL (m1.file f) at_ b)).length) ∧ _; rw [hset]; exact ⟨(h1.sts st hst).1, Nat.le_succ_of_le (h1.sts st hst).2⟩
  · intro x hx
    show _ < (m1.now.set f (wroteL (m1.file f) at_ b)).length ∧ _
    rw [hset]
    rcases List.mem_append.1 hx with hx | hx
    · exact h1.wr x hx
    · rw [List.mem_singleton.1 hx]; exact ⟨hl f hf, hb⟩
  · show (m1.wr ++ [_]).length ≤ _; have := h1.wk; simp only [List.length_append, List.length_singleton]; omega
theorem MOk.sync {m : RM} {k : Nat} (h : MOk m k) (ok : Bool) (name : ByteArray) : MOk (m.sync ok name).2 k := by
  have h1 := h.may
  have hl := fun f hf => RM.find_lt h1 (name := name) (f := f) hf
  unfold RM.sync
  split
  · exact h
  split
  · exact h1
  generalize m.may.2 = m1 at h1 hl
  split
  · exact h1
  rename_i f hf
  have hfl : (m1.file f).length ≤ 1048576 := by
    unfold RM.file
    rw [List.getD_eq_getElem?_getD]
    cases hg : m1.now[f]? with
    | none => simp
    | some b => exact h1.now b (List.mem_of_getElem? hg)
  exact { nl := by show (m1.sure.set f (m1.file f)).length = _; rw [List.length_set]; exact h1.nl
          nk := h1.nk, now := h1.now
          sure := fun x hx => by
            rcases List.mem_or_eq_of_mem_set hx with hx | rfl
            · exact h1.sure x hx
            · exact hfl
          l := h1.l, ll := h1.ll, sts := h1.sts, full := h1.full, sk := h1.sk, wr := fun x hx => h1.wr x (List.mem_filter.1 hx).1
          wk := Nat.le_trans (List.length_filter_le _ _) h1.wk, kk := h1.kk, room := h1.room }
theorem MOk.rename {m : RM} {k : Nat} (h : MOk m k) (hk : k + 1 ≤ 100000) (ok : Bool) (old name : ByteArray) : MOk (m.rename ok old name).2 (k + 1) := by
  have h0 : MOk m (k + 1) := h.up (Nat.le_succ _) hk
  have h1 := h.may
  have h2 : MOk m.may.2 (k + 1) := h1.up (Nat.le_succ _) hk
  have hl := fun f hf => RM.find_lt h1 (name := old) (f := f) hf
  unfold RM.rename
  split
  · exact h0
  split
  · exact h2
  generalize m.may.2 = m1 at h1 h2 hl
  split
  · exact h2
  rename_i f hf
  refine h1.named hk (fun x hx => ?_) ?_
  · rcases mem_with hx with rfl | hx
    · exact hl f hf
    · exact h1.l x (mem_without (mem_without hx))
  · rw [with_len]
    have := RM.without_len (RM.without m1.l old) name
    have := RM.without_len m1.l old
    have := h1.ll
    omega
theorem MOk.remove {m : RM} {k : Nat} (h : MOk m k) (hk : k + 1 ≤ 100000) (ok : Bool) (name : ByteArray) : MOk (m.remove ok name).2 (k + 1) := by
  have h0 : MOk m (k + 1) := h.up (Nat.le_succ _) hk
  have h1 := h.may
  have h2 : MOk m.may.2 (k + 1) := h1.up (Nat.le_succ _) hk
  unfold RM.remove
  split
  · exact h0
  split
  · exact h2
  generalize m.may.2 = m1 at h1 h2
  split
  · exact h2
  refine h1.named hk (fun x hx => h1.l x (mem_without hx)) ?_
  have := RM.without_len m1.l name
  have := h1.ll
  omega
theorem MOk.syncNames {m : RM} {k : Nat} (h : MOk m k) : MOk m.syncNames.2 k := by
  have h1 := h.may
  unfold RM.syncNames
  split
  · exact h1
  exact { nl := h1.nl, nk := h1.nk, now := h1.now, sure := h1.sure, l := h1.l, ll := h1.ll, sts := fun st hst => by rw [List.mem_singleton.1 hst]; exact ⟨h1.l, h1.ll⟩
          full := fun he => by cases he
          sk := Nat.succ_le_succ (Nat.zero_le _), wr := h1.wr, wk := h1.wk, kk := h1.kk, room := h1.room }
end Go.Proofs.YtpdmbmnhgcnelaaGreat

/- the reference's journal, part b: records. -/
set_option linter.unusedVariables false
set_option linter.unusedSimpArgs false
namespace Go.Proofs.YtpdmbmnhgcnelaaGreat
open Go Go.SL
def stN (bs : List UInt8) : Nat → Nat × Nat
  | 0 => (0, 0)
  | 1 => (0, 0)
  | 2 => ((toUintA (bs.take 1)).map fun n => (n, 1)).getD (0, 0)
  | _ => match toUintA (bs.take 1) with
    | some n => (n, 1)
    | none => ((toUintA (bs.take 2)).map fun n => (n, 2)).getD (0, 0)
theorem stN_small (bs : List UInt8) (k : Nat) : (stN bs k).1 < 16384 ∧ (stN bs k).2 ≤ 2 := by
  have h1 : ∀ n, toUintA (bs.take 1) = some n → n < 16384 := fun n h => toUint_small h (by rw [List.length_take]; omega)
  have h2 : ∀ n, toUintA (bs.take 2) = some n → n < 16384 := fun n h => toUint_small h (by rw [List.length_take]; omega)
  have z0 : ((0, 0) : Nat × Nat).1 < 16384 ∧ ((0, 0) : Nat × Nat).2 ≤ 2 := by decide
  match k with
  | 0 => exact z0
  | 1 => exact z0
  | 2 =>
    unfold stN
    cases h : toUintA (bs.take 1) with
    | none => exact z0
    | some n => exact ⟨h1 n h, (by decide : (1 : Nat) ≤ 2)⟩
  | k + 3 =>
    unfold stN
    cases h : toUintA (bs.take 1) with
    | none =>
      simp only
      cases h' : toUintA (bs.take 2) with
      | none => exact z0
      | some n => exact ⟨h2 n h', (by decide : (2 : Nat) ≤ 2)⟩
    | some n => exact ⟨h1 n h, (by decide : (1 : Nat) ≤ 2)⟩
theorem stN_none {bs : List UInt8} {k : Nat} (hk : k = 1 ∨ k = 2) (h : toUintA (bs.take k) = none) : stN bs (k + 1) = stN bs k := by
  rcases hk with rfl | rfl
  · unfold stN; rw [h]; rfl
  · unfold stN; rw [h]; cases toUintA (bs.take 1) <;> rfl
theorem stN_some {bs : List UInt8} {k n : Nat} (hk : k = 1 ∨ k = 2) (h : toUintA (bs.take k) = some n) : stN bs (k + 1) = if (stN bs k).2 = 0 then (n, k) else stN bs k := by
  rcases hk with rfl | rfl
  · unfold stN; rw [h]; rfl
  · unfold stN; rw [h]; cases toUintA (bs.take 1) <;> rfl
theorem toUint_nil : toUintA [] = none := rfl
theorem stN_long (bs : List UInt8) {k : Nat} (hk : k ≤ 3) (h1 : 1 ≤ k) (hl : k - 1 ≤ bs.length) (he : 2 < k ∨ bs.length < k) : longA bs = if (stN bs k).2 = 0 then none else some ((stN bs k).2, (stN bs k).1) := by
  have hk3 : k = 1 ∨ k = 2 ∨ k = 3 := by omega
  rcases hk3 with rfl | rfl | rfl
  · have : bs = [] := List.eq_nil_of_length_eq_zero (by omega)
    subst this; rfl
  · have hb : bs.length = 1 := by omega
    unfold longA stN
    rw [if_pos (by omega)]
    cases h : toUintA (bs.take 1) with
    | none => simp only; rw [if_neg (by omega)]; rfl
    | some n => rfl
  · have hb : 2 ≤ bs.length := by omega
    unfold longA stN
    rw [if_pos (by omega)]
    cases h : toUintA (bs.take 1) with
    | none =>
      simp only
      rw [if_pos hb]
      cases h' : toUintA (bs.take 2) with
      | none => rfl
      | some n => rfl
    | some n => rfl
theorem RowsR.snoc {M M' : Arrs} {cs : List Value} {ls : List (List UInt8)} {x : List UInt8} {rv : Value} (hR : RowsR M cs ls) (hr : RIn M' 1 rv x.length (bV x)) (hs : ∀ y ∈ M, y ∈ M') : RowsR M' (cs ++ [rv]) (ls ++ [x]) := by
  refine ⟨by simp [hR.1], fun j y hj => ?_⟩
  rw [List.getElem?_append] at hj ⊢
  rw [hR.1]
  split at hj
  · rename_i hlt
    obtain ⟨cv, h1, h2⟩ := hR.2 j y hj
    rw [if_pos hlt]
    exact ⟨cv, h1, h2.mono hs⟩
  · rename_i hge
    rw [if_neg hge]
    have h0 : j - ls.length = 0 := by
      rcases Nat.eq_zero_or_pos (j - ls.length) with h | h
      · exact h
      · rw [List.getElem?_eq_none (by simp; omega)] at hj; cases hj
    rw [h0] at hj ⊢
    cases hj
    exact ⟨rv, rfl, hr⟩
attribute [local irreducible] J K Ctr Ends pts slc mapR mapI sbRow stock arrS loopP CtrY diskA LI listH

set_option maxRecDepth 20000 in
theorem refRecords_any (A : HP) (v : Value) (bs : List UInt8) (hv : BAt A v bs) (hl : bs.length ≤ 2000000) :
    Ctr Tryz.prog 68 [v] [A] (fun r H => H = [listH r (recordsA bs), A]) := by
  have hbd := (recordsA_bound bs).2.1
  obtain ⟨a, c, rfl, hc⟩ := hv.2
  refine Ctr.enter Tryz.func68 (by kernel_rfl) rfl Tryz.ntmps68 rfl rfl ?_
  intro G F R hE
  (refine go ?_)
  refine K_ent (slc_lift 40 1 none _) ?_
  refine K_ent (Ent.trans (arrS_nil 5 _) (Ent.pick [1, 0] rfl)) ?_
  refine K_loop (fun y : (Option Addr × Nat) × List UInt8 × List (List UInt8) × (Option Addr × Nat) × List Value × Arrs => BAt A (.slice y.1.1 y.2.1.length y.1.2) y.2.1 ∧ y.2.2.1 ++ recordsA y.2.1 = recordsA bs ∧ RowsR y.2.2.2.2.2 y.2.2.2.2.1 y.2.2.1 ∧ y.2.1.length ≤ bs.length) (fun y => y.2.1.length)
    (fun y => [(0, .slice y.1.1 y.2.1.length y.1.2), (3, .slice y.2.2.2.1.1 y.2.2.1.length y.2.2.2.1.2)])
    (fun y => slc 40 1 (.slice y.2.2.2.1.1 y.2.2.1.length y.2.2.2.1.2) y.2.2.1.length y.2.2.2.2.1 :: arrS 5 y.2.2.2.2.2 :: A :: F) ((a, c), bs, [], (none, 0), [], []) ⟨hv, rfl, ⟨rfl, fun j y hj => by simp at hj⟩, Nat.le_refl _⟩ rfl (by repeat (first | exact keep_nil | refine keep_cons rfl ?_)) entA ?_
  rintro ⟨⟨a1, c1⟩, b1, acc, ⟨oa, oc⟩, cs, M⟩ ⟨hv1, hacc, hR, hb1⟩ ih0
  simp only at hv1 hacc hR hb1
  have hc1 : b1.length ≤ c1 := by
    obtain ⟨_, _, h1, h2⟩ := hv1.2
    simp only [Value.slice.injEq] at h1
    omega
  have hal : acc.length + (recordsA b1).length = (recordsA bs).length := by rw [← hacc, List.length_append]
  (refine go ?_)
  refine K_loop (fun k : Nat => 1 ≤ k ∧ k ≤ 3 ∧ k - 1 ≤ b1.length) (fun k => 3 - k)
    (fun k => [(0, .slice a1 b1.length c1), (3, .slice oa acc.length oc), (4, .int .i64 ((stN b1 k).1 : Int)), (5, .int .i64 ((stN b1 k).2 : Int)), (6, .int .i64 (k : Int))])
    (fun _ => slc 40 1 (.slice oa acc.length oc) acc.length cs :: arrS 5 M :: A :: F) 1 ⟨by omega, by omega, by omega⟩ rfl (by repeat (first | exact keep_nil | refine keep_cons rfl ?_)) entA ?_
  rintro k ⟨hk1, hk3, hkl⟩ ih
  by_cases hin : k ≤ 2 ∧ k ≤ b1.length
  case pos =>
    obtain ⟨hin1, hin2⟩ := hin
    (refine go ?_)
    (first | refine J_slot 11 ((.bool true)) rfl ((congrArg Value.bool (decide_eq_true (by omega)))) ?_ | refine K_slot 11 ((.bool true)) rfl ((congrArg Value.bool (decide_eq_true (by omega)))) ?_)
    (refine go ?_)
    refine K_condP rfl rfl ?_ ?_
    case' refine_2 => (intro h; exfalso; omega)
    intro _
    (refine go ?_)
    refine J_sliceAny (U := tab) (p := 0) (q := (k : Int)) rfl rfl rfl rfl rfl rfl rfl (by omega) (by omega) (.inr (by omega)) ?_
    have hf := hv1.front k hin2
    refine J_slot 22 (.slice (sliceAt a1 c1 0 1) k c1) rfl (by rw [show (0 : Int).toNat = 0 from rfl, show ((k : Int)).toNat = k from by omega]; rfl) ?_
    (first | refine J_callE rfl rfl rfl rfl (refToUint_any A _ (b1.take k) hf (by rw [List.length_take]; omega)) entA ?_ (fun _ _ _ _ _ => trivial) | refine J_call0E rfl rfl rfl (refToUint_any A _ (b1.take k) hf (by rw [List.length_take]; omega)) entA ?_ (fun _ _ _ _ _ => trivial) | (refine go ?_; first | refine J_callE rfl rfl rfl rfl (refToUint_any A _ (b1.take k) hf (by rw [List.length_take]; omega)) entA ?_ (fun _ _ _ _ _ => trivial) | refine J_call0E rfl rfl rfl (refToUint_any A _ (b1.take k) hf (by rw [List.length_take]; omega)) entA ?_ (fun _ _ _ _ _ => trivial)))
    have hk12 : k = 1 ∨ k = 2 := by omega
    cases hu : toUintA (b1.take k) with
    | none =>
      rintro _ _ ⟨rfl, rfl⟩
      rw [← stN_none hk12 hu]
      (refine go ?_)
      refine K_again ih (k + 1 : Nat) rfl ⟨by omega, by omega, by omega⟩ (by omega) (by repeat (first | exact keep_nil | refine keep_cons rfl ?_)) entA
    | some n =>
      rintro _ _ ⟨rfl, rfl⟩
      have hn16 := toUint_small hu (by rw [List.length_take]; omega)
      have hs := stN_some hk12 hu
      by_cases hm0 : (stN b1 k).2 = 0
      · rw [if_pos hm0] at hs
        (refine go ?_)
        refine K_condP rfl rfl ?_ ?_
        case' refine_2 => (intro h; exact absurd (by omega) h)
        intro _
        (refine go ?_)
        (first | refine J_slot 4 ((.int .i64 ((stN b1 (k + 1)).1 : Int))) rfl ((by rw [hs])) ?_ | refine K_slot 4 ((.int .i64 ((stN b1 (k + 1)).1 : Int))) rfl ((by rw [hs])) ?_)
        (first | refine J_slot 5 ((.int .i64 ((stN b1 (k + 1)).2 : Int))) rfl ((by rw [hs])) ?_ | refine K_slot 5 ((.int .i64 ((stN b1 (k + 1)).2 : Int))) rfl ((by rw [hs])) ?_)
        refine K_again ih (k + 1 : Nat) rfl ⟨by omega, by omega, by omega⟩ (by omega) (by repeat (first | exact keep_nil | refine keep_cons rfl ?_)) entA
      · rw [if_neg hm0] at hs
        (refine go ?_)
        refine K_condP rfl rfl ?_ ?_
        · intro h; exact absurd (by omega) hm0
        intro _
        (refine go ?_)
        rw [← hs]
        refine K_again ih (k + 1 : Nat) rfl ⟨by omega, by omega, by omega⟩ (by omega) (by repeat (first | exact keep_nil | refine keep_cons rfl ?_)) entA
  have hlong := stN_long b1 hk3 hk1 hkl (by omega)
  obtain ⟨hn16, hm2⟩ := stN_small b1 k
  have hlp := fun k n h => longA_pos (bs := b1) (k := k) (n := n) h
  generalize (stN b1 k).1 = n at hlong hn16
  generalize (stN b1 k).2 = many at hlong hm2
  rcases Nat.lt_or_ge 2 k with h3 | h3
  case' inl =>
    (refine go ?_)
    (first | refine J_slot 11 ((.bool false)) rfl ((congrArg Value.bool (decide_eq_false (by omega)))) ?_ | refine K_slot 11 ((.bool false)) rfl ((congrArg Value.bool (decide_eq_false (by omega)))) ?_)
    (refine go ?_)
  case' inr =>
    (refine go ?_)
    (first | refine J_slot 11 ((.bool true)) rfl ((congrArg Value.bool (decide_eq_true (by omega)))) ?_ | refine K_slot 11 ((.bool true)) rfl ((congrArg Value.bool (decide_eq_true (by omega)))) ?_)
    (refine go ?_)
    (first | refine J_slot 16 ((.bool false)) rfl ((congrArg Value.bool (decide_eq_false (by omega)))) ?_ | refine K_slot 16 ((.bool false)) rfl ((congrArg Value.bool (decide_eq_false (by omega)))) ?_)
    (refine go ?_)
  all_goals
    repeat' (first | (with_reducible intro _hh) | refine go1 ?_ | refine J_fork ?_ ?_ | refine J_gsP rfl rfl rfl rfl ?_ ?_ | refine K_condP rfl rfl ?_ ?_)
    any_goals (
      have hnil : recordsA b1 = [] := by
        by_cases hm0 : many = 0
        · rw [if_pos hm0] at hlong; exact recordsA_none hlong
        · rw [if_neg hm0] at hlong; exact recordsA_bad hlong (by omega)
      rw [hnil, List.append_nil] at hacc
      rw [← hacc] at hE
      refine K_ent (listH_in hR _) ?_
      (first | refine K_return hE Tryz.func68 rfl _ rfl rfl entA | refine K_fallEnd hE Tryz.func68 rfl _ rfl rfl entA))
    have hm0 : ¬ many = 0 := by omega
    rw [if_neg hm0] at hlong
    obtain ⟨hp1, hp2, hp3, _⟩ := hlp _ _ hlong
    have hcons := recordsA_cons hlong ⟨by omega, by omega⟩
    obtain ⟨x, hx⟩ : ∃ x, x = (b1.drop many).take n := ⟨_, rfl⟩
    have hxl : x.length = n := by rw [hx, List.length_take, List.length_drop]; omega
    rw [← hx] at hcons
    rw [hcons] at hacc hal
    rw [List.length_cons] at hal
    refine J_buildSlice1 (U := tab) (cs := []) rfl rfl rfl rfl rfl rfl rfl rfl rfl (fun _ _ _ => trivial) ?_
    intro b0
    refine J_ent (slc_row 5 1 b0 0 0 [] [] _ rfl (Nat.le_refl _) (by simp)) ?_
    (refine go ?_)
    refine J_sliceAny (U := tab) (p := (many : Int)) (q := (many : Int) + (n : Int)) rfl rfl rfl rfl rfl rfl rfl (by omega) (by omega) (.inr (by omega)) ?_
    have hp := hv1.piece many (many + n) (by omega) (by omega)
    rw [show many + n - many = n from by omega, ← hx] at hp
    refine J_slot 57 (.slice (sliceAt a1 c1 many 1) n (c1 - many)) rfl (by rw [show ((many : Int)).toNat = many from by omega, show ((many : Int) + (n : Int)).toNat = many + n from by omega, show many + n - many = n from by omega]; rfl) ?_
    refine J_append (U := tab) (mm := n) (news := bV x) 0 3 rfl rfl rfl rfl rfl rfl rfl rfl rfl rfl rfl rfl (by have := hp.1; rw [hxl] at this; exact this) (by show _ = _ * 1; rw [bV_length]; omega) (bV_one _) (by omega) (by show _ * 1 ≤ _; omega) (fun _ => rfl) (fun _ _ _ => trivial) ?_
    intro v1
    rw [show (0 : Nat) + n = x.length from by omega, List.nil_append]
    (first | refine J_shape 0 rfl ?_ | refine K_shape 0 rfl ?_)
    rintro xa xc rfl
    (refine go ?_)
    refine J_buildSlice1 (U := tab) rfl rfl rfl rfl rfl rfl rfl rfl rfl (fun _ _ _ => trivial) ?_
    intro b2
    refine J_append (U := tab) (mm := 1) (news := [.slice xa x.length xc]) 2 0 rfl rfl rfl rfl rfl rfl rfl rfl rfl rfl rfl rfl (Vw.pts rfl) rfl (by simp [Value.oneCell']) (by omega) (by show (_ + 1) * 24 ≤ _; omega) (fun _ => rfl) (fun _ _ _ => trivial) ?_
    intro v2
    rw [show acc.length + 1 = (acc ++ [x]).length from by simp]
    (first | refine J_shape 2 rfl ?_ | refine K_shape 2 rfl ?_)
    rintro oa2 oc2 rfl
    (refine go ?_)
    refine J_sliceAny (U := tab) (p := (many : Int) + (n : Int)) (q := (b1.length : Int)) rfl rfl rfl rfl rfl rfl rfl (by omega) (by omega) (.inl rfl) ?_
    have hct := hv1.cut (many + n) (by omega)
    rw [show b1.length - (many + n) = (b1.drop (many + n)).length from by rw [List.length_drop]] at hct
    refine J_slot 65 (.slice (sliceAt a1 c1 (many + n) 1) (b1.drop (many + n)).length (c1 - (many + n))) rfl (by rw [show ((many : Int) + (n : Int)).toNat = many + n from by omega, show ((b1.length : Int)).toNat = b1.length from by omega, List.length_drop]; rfl) ?_
    (refine go ?_)
    refine K_ent (Ent.pick [1, 3] rfl) ?_
    refine K_ent (Ent.join _ _ _) ?_
    refine K_open (row_slcO 5 1 x.length _ (bV x) M) ?_
    rintro M' ⟨hrin, hsub⟩
    refine K_again ih0 ((sliceAt a1 c1 (many + n) 1, c1 - (many + n)), b1.drop (many + n), acc ++ [x], (oa2, oc2), cs ++ [.slice xa x.length xc], M') rfl ⟨hct, by simp only; rw [List.append_assoc]; exact hacc, hR.snoc hrin hsub, by simp only [List.length_drop]; omega⟩ (by simp only [List.length_drop]; omega) (by repeat (first | exact keep_nil | refine keep_cons rfl ?_)) entA
end Go.Proofs.YtpdmbmnhgcnelaaGreat

