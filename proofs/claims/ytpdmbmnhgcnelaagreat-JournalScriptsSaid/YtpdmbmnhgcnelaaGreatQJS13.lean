/- Texts of one claim, joined: Ui, Uj, Uk, Um, Un. -/
import Derived.Test.YtpdmbmnhgcnelaaGreatQJS5
import Derived.Test.YtpdmbmnhgcnelaaGreatQJS10
import Derived.Test.YtpdmbmnhgcnelaaGreatQJS12
/- the reference's journal: Compact. -/
set_option linter.unusedVariables false
set_option linter.unusedSimpArgs false
namespace Go.Proofs.YtpdmbmnhgcnelaaGreat
open Go Go.SL
attribute [local irreducible] J K Ctr Ends pts slc mapR mapI sbRow stock arrS loopP CtrY diskA LI listH rdM

set_option maxRecDepth 20000 in
theorem refCompact_any (jb br k : Nat) (name : ByteArray) (hname : name.size ≤ 1000000000) (m : RM) (hM : MOk m k) (hk : k + 4 ≤ 100000) (x : JN) (A : HP) (lv : Value) (ls : List (List UInt8)) (hv : LAt A lv ls) (hl : (ls.flatMap encL).length ≤ 100000000) (hn : ls.length ≤ 1000000000) :
    Ctr Tryz.prog 36 [ptr jb, lv] [rdM br m, rjH jb br name x, A]
      (fun r H => r = .int .i64 ((m.compactJ name x ls).1 : Int) ∧ H = [rdM br (m.compactJ name x ls).2.1, rjH jb br name (m.compactJ name x ls).2.2, A]) := by
  obtain ⟨n, s, c, bk⟩ := x
  have hv0 := hv
  obtain ⟨cs, hvw, hcl, ⟨a, cc, rfl, hcc⟩, hel⟩ := hv
  dsimp only [rjH]
  refine Ctr.enter Tryz.func36 (by kernel_rfl) rfl Tryz.ntmps36 rfl rfl ?_
  intro G F R hE
  dsimp only [RM.compactJ] at hE
  cases bk with
  | true =>
    simp only [if_true] at hE
    (refine go ?_)
    (first | refine K_return hE Tryz.func36 rfl _ rfl ⟨rfl, rfl⟩ entA | refine K_fallEnd hE Tryz.func36 rfl _ rfl ⟨rfl, rfl⟩ entA)
  | false =>
    simp only [Bool.false_eq_true, if_false] at hE
    (refine go ?_)
    refine K_loop (fun i : Nat => i ≤ ls.length ∧ ∀ (j : Nat) (y : List UInt8), j < i → ls[j]? = some y → y.length ≤ 4096) (fun i => ls.length - i)
      (fun i => [(0, ptr jb), (0 + 1, .slice a ls.length cc), (5, .int .i64 0), (6, .int .i64 (i : Int))])
      (fun _ => rdM br m :: pts jb (cl [ptr br, .string name, .int .i64 n, .int .i64 s, .int .i64 c, .bool false] 48) :: A :: F) 0 ⟨Nat.zero_le _, fun j y hj => by omega⟩ rfl (by repeat (first | exact keep_nil | refine keep_cons rfl ?_)) entA ?_
    rintro i ⟨hi, hsm⟩ ih
    (refine go ?_)
    refine K_condP rfl rfl ?_ ?_
    case' refine_1 =>
      intro hlt
      have hi1 : i < ls.length := by omega
      obtain ⟨y, hy⟩ : ∃ y, ls[i]? = some y := ⟨ls[i], by simp⟩
      obtain ⟨cv, hcv, hby⟩ := hel i y hy
      obtain ⟨b1, o1, k1, hs1⟩ := hvw.some (by intro e; rw [e] at hcv; simp at hcv)
      simp only [Value.slice.injEq, true_and] at hs1
      obtain ⟨rfl, rfl⟩ := hs1
      obtain ⟨ay, ky, rfl, hky⟩ := hby.2
      (refine go ?_)
      refine J_at1 (U := tab) i rfl rfl rfl rfl rfl rfl rfl rfl hi1 ?_
      refine J_isLoad ?_
      refine J_loadAt (U := tab) 2 i rfl rfl rfl hvw rfl hcv rfl rfl ?_
      (refine go ?_)
      refine K_condP rfl rfl ?_ ?_
      · intro hbig
        rw [if_pos (List.any_eq_true.2 ⟨y, List.mem_of_getElem? hy, decide_eq_true (by omega)⟩)] at hE
        (refine go ?_)
        (first | refine K_return hE Tryz.func36 rfl _ rfl ⟨rfl, rfl⟩ entA | refine K_fallEnd hE Tryz.func36 rfl _ rfl ⟨rfl, rfl⟩ entA)
      intro hok
      (refine go ?_)
      refine K_again ih (i + 1) rfl (⟨by omega, fun j z hj hz => by
        rcases Nat.lt_or_ge j i with h | h
        · exact hsm j z h hz
        · have : j = i := by omega
          subst this
          rw [hy] at hz; cases hz; omega⟩) (by omega) (by repeat (first | exact keep_nil | refine keep_cons rfl ?_)) entA
    intro hge
    have hie : i = ls.length := by omega
    have hany : ¬ (ls.any fun b => decide (4096 < b.length)) = true := fun h => by
      obtain ⟨y, hy, hb⟩ := List.any_eq_true.1 h
      obtain ⟨j, hj, rfl⟩ := List.getElem_of_mem hy
      have := hsm j _ (by omega) (List.getElem?_eq_getElem hj)
      simp at hb; omega
    rw [if_neg hany] at hE
    clear ih
    (refine go ?_)
    refine K_loop (fun i : Nat => i ≤ ls.length ∧ ((ls.take i).flatMap encL).length ≤ 524288) (fun i => ls.length - i)
      (fun i => [(0, ptr jb), (0 + 1, .slice a ls.length cc), (5, .int .i64 (((ls.take i).flatMap encL).length : Int)), (7, .int .i64 (i : Int))])
      (fun _ => rdM br m :: pts jb (cl [ptr br, .string name, .int .i64 n, .int .i64 s, .int .i64 c, .bool false] 48) :: A :: F) 0 ⟨Nat.zero_le _, by simp⟩ rfl (by repeat (first | exact keep_nil | refine keep_cons rfl ?_)) entA ?_
    rintro i2 ⟨hi2, hsum⟩ ih
    (refine go ?_)
    refine K_condP rfl rfl ?_ ?_
    case' refine_1 =>
      intro hlt
      have hi1 : i2 < ls.length := by omega
      obtain ⟨y, hy⟩ : ∃ y, ls[i2]? = some y := ⟨ls[i2], by simp⟩
      obtain ⟨cv, hcv, hby⟩ := hel i2 y hy
      obtain ⟨b1, o1, k1, hs1⟩ := hvw.some (by intro e; rw [e] at hcv; simp at hcv)
      simp only [Value.slice.injEq, true_and] at hs1
      obtain ⟨rfl, rfl⟩ := hs1
      obtain ⟨ay, ky, rfl, hky⟩ := hby.2
      have hft := flatT_take hy
      have hfl : ((ls.take (i2 + 1)).flatMap encL).length = ((ls.take i2).flatMap encL).length + (encL y).length := by rw [hft, List.length_append]
      have hle := flatT_le ls (i2 + 1)
      have hy4 := hsm i2 y (by omega) hy
      have hexl := encL_len y (by omega)
      (refine go ?_)
      refine J_at1 (U := tab) i2 rfl rfl rfl rfl rfl rfl rfl rfl hi1 ?_
      refine J_isLoad ?_
      refine J_loadAt (U := tab) 2 i2 rfl rfl rfl hvw rfl hcv rfl rfl ?_
      (first | refine J_callE rfl rfl rfl rfl (refRecord_any A _ y hby (by omega)) entA ?_ (fun _ _ _ _ _ => trivial) | refine J_call0E rfl rfl rfl (refRecord_any A _ y hby (by omega)) entA ?_ (fun _ _ _ _ _ => trivial) | (refine go ?_; first | refine J_callE rfl rfl rfl rfl (refRecord_any A _ y hby (by omega)) entA ?_ (fun _ _ _ _ _ => trivial) | refine J_call0E rfl rfl rfl (refRecord_any A _ y hby (by omega)) entA ?_ (fun _ _ _ _ _ => trivial)))
      rintro r _ rfl
      (first | refine J_shape 0 rfl ?_ | refine K_shape 0 rfl ?_)
      rintro ra rc rfl
      (refine go ?_)
      refine K_condP rfl rfl ?_ ?_
      · intro hbig
        rw [if_pos (by omega)] at hE
        (refine go ?_)
        (first | refine K_return hE Tryz.func36 rfl _ rfl ⟨rfl, rfl⟩ entA | refine K_fallEnd hE Tryz.func36 rfl _ rfl ⟨rfl, rfl⟩ entA)
      intro hok
      (first | refine J_slot 5 ((.int .i64 (((ls.take (i2 + 1)).flatMap encL).length : Int))) rfl ((congrArg (Value.int .i64) (by rw [hfl]; simp))) ?_ | refine K_slot 5 ((.int .i64 (((ls.take (i2 + 1)).flatMap encL).length : Int))) rfl ((congrArg (Value.int .i64) (by rw [hfl]; simp))) ?_)
      (refine go ?_)
      refine K_again ih (i2 + 1) rfl (⟨by omega, by omega⟩) (by omega) (by repeat (first | exact keep_nil | refine keep_cons rfl ?_)) entA
    intro hge
    have hie : i2 = ls.length := by omega
    subst hie
    rw [List.take_length] at hsum
    rw [if_neg (by omega)] at hE
    (refine go ?_)
    (first | refine J_callE rfl rfl rfl rfl (refPut_any br jb k m hM hk name hname n s c false A _ ls hv0 hl hn) entA ?_ (fun _ _ _ _ _ => trivial) | refine J_call0E rfl rfl rfl (refPut_any br jb k m hM hk name hname n s c false A _ ls hv0 hl hn) entA ?_ (fun _ _ _ _ _ => trivial) | (refine go ?_; first | refine J_callE rfl rfl rfl rfl (refPut_any br jb k m hM hk name hname n s c false A _ ls hv0 hl hn) entA ?_ (fun _ _ _ _ _ => trivial) | refine J_call0E rfl rfl rfl (refPut_any br jb k m hM hk name hname n s c false A _ ls hv0 hl hn) entA ?_ (fun _ _ _ _ _ => trivial)))
    rintro _ _ ⟨rfl, rfl⟩
    by_cases hz : (m.put name ls).1 = 0
    · rw [if_pos hz] at hE
      rw [if_pos hz, hz]
      have hbk := refBroke_any jb br name ⟨1, ((ls.flatMap encL).length : Int), ((ls.flatMap encL).length : Int), false⟩ 0
      rw [if_pos rfl] at hbk
      (first | refine J_callE rfl rfl rfl rfl (hbk) entA ?_ (fun _ _ _ _ _ => trivial) | refine J_call0E rfl rfl rfl (hbk) entA ?_ (fun _ _ _ _ _ => trivial) | (refine go ?_; first | refine J_callE rfl rfl rfl rfl (hbk) entA ?_ (fun _ _ _ _ _ => trivial) | refine J_call0E rfl rfl rfl (hbk) entA ?_ (fun _ _ _ _ _ => trivial)))
      rintro _ _ ⟨rfl, rfl⟩
      rw [hz] at hE
      (refine go ?_)
      (first | refine K_return hE Tryz.func36 rfl _ rfl ⟨rfl, rfl⟩ entA | refine K_fallEnd hE Tryz.func36 rfl _ rfl ⟨rfl, rfl⟩ entA)
    · rw [if_neg hz] at hE
      rw [if_neg hz]
      have hbk := refBroke_any jb br name ⟨n, s, c, false⟩ (m.put name ls).1
      rw [if_neg hz] at hbk
      (first | refine J_callE rfl rfl rfl rfl (hbk) entA ?_ (fun _ _ _ _ _ => trivial) | refine J_call0E rfl rfl rfl (hbk) entA ?_ (fun _ _ _ _ _ => trivial) | (refine go ?_; first | refine J_callE rfl rfl rfl rfl (hbk) entA ?_ (fun _ _ _ _ _ => trivial) | refine J_call0E rfl rfl rfl (hbk) entA ?_ (fun _ _ _ _ _ => trivial)))
      rintro _ _ ⟨rfl, rfl⟩
      (refine go ?_)
      (first | refine K_return hE Tryz.func36 rfl _ rfl ⟨rfl, rfl⟩ entA | refine K_fallEnd hE Tryz.func36 rfl _ rfl ⟨rfl, rfl⟩ entA)
end Go.Proofs.YtpdmbmnhgcnelaaGreat

/- the reference's disk: Crash, as the model says. -/
set_option linter.unusedVariables false
set_option linter.unusedSimpArgs false
namespace Go.Proofs.YtpdmbmnhgcnelaaGreat
open Go Go.SL
attribute [local irreducible] J K Ctr Ends pts slc mapR mapI sbRow stock arrS

theorem rlasts_none {stay : List UInt8} {torn cut : Int} {ws : List (Nat × Nat × List UInt8)} {i f a : Nat} {b : List UInt8} (h : ws[i]? = some (f, a, b)) (hk : Ab.kept stay torn cut i b = none) (s : List (List UInt8)) :
    RM.lasts stay torn cut (i + 1) (ws.drop (i + 1)) s = RM.lasts stay torn cut i (ws.drop i) s := by
  rw [drop_cons h]
  simp only [RM.lasts, hk]
theorem rlasts_some {stay : List UInt8} {torn cut : Int} {ws : List (Nat × Nat × List UInt8)} {i f a : Nat} {b c : List UInt8} (h : ws[i]? = some (f, a, b)) (hk : Ab.kept stay torn cut i b = some c) (s : List (List UInt8)) :
    RM.lasts stay torn cut (i + 1) (ws.drop (i + 1)) (s.set f (wroteL (s.getD f []) a c)) = RM.lasts stay torn cut i (ws.drop i) s := by
  rw [drop_cons h]
  simp only [RM.lasts, hk]
theorem told_bit {stay : List UInt8} {i : Nat} {sx : UInt8} (hsx : stay[i / 8]? = some sx) : decide (IntKind.u8.wrap ↑(BitVec.ofInt IntKind.u8.bits ↑(sx.toNat / 2 ^ (i % 8)) &&& BitVec.ofInt IntKind.u8.bits 1).toNat = 1) = toldAt stay i := by
  have hsb : sx.toNat / 2 ^ (i % 8) < 256 := Nat.lt_of_le_of_lt (Nat.div_le_self _ _) sx.toNat_lt
  have := and_one_u8 _ hsb
  have hi8 : i / 8 < stay.length := by
    rcases Nat.lt_or_ge (i / 8) stay.length with h | h
    · exact h
    · rw [List.getElem?_eq_none h] at hsx; cases hsx
  unfold toldAt
  rw [decide_eq_decide, List.getD_eq_getElem?_getD, hsx, this]
  simp only [Option.getD_some]
  omega
set_option maxHeartbeats 2000000 in
set_option maxRecDepth 20000 in
theorem mCrash_any (br k : Nat) (D : RDk) (m : RM) (hR : RR D m) (hM : MOk m k) (last torn cut : Int) (X : HP) (bv : Value) (stay : List UInt8) (hv : Vw X bv stay.length (bV stay)) (hsl : stay.length ≤ 9223372036854775807)
    (h1 : -9223372036854775808 ≤ last ∧ last ≤ 9223372036854775807) (h2 : -9223372036854775808 ≤ torn ∧ torn ≤ 9223372036854775807) (h3 : -9223372036854775808 ≤ cut ∧ cut ≤ 9223372036854775807) :
    Ctr Tryz.prog 12 [ptr br, .int .i64 last, bv, .int .i64 torn, .int .i64 cut] [rd br D, X] (fun v H => ∃ D', RR D' (m.crash last stay torn cut) ∧ H = [rd br D', X]) := by
  obtain ⟨a0, c0, rfl⟩ := hv.shape
  obtain ⟨room, now, sure, lv, sts, wrs, nxt, down, nowL, sureL, stsL, wl, arrs, nrows⟩ := D
  have hkk := hM.kk
  have hwk := hR.wr.1
  have hwk2 := hM.wk
  have hnl := hR.sure.1
  have hnl2 := hR.now.1
  have hnl3 := hM.nl
  have hnk := hM.nk
  have hsl1 := hR.sts.1
  have hsl2 := hM.sk
  have hfull := List.length_pos_iff.2 hM.full
  simp only at hwk hnl hnl2 hsl1
  have hnl : sureL.length = nowL.length := by omega
  have hpos : 0 < stsL.length := by omega
  refine Ctr.enter Tryz.func12 (by kernel_rfl) rfl Tryz.ntmps12 rfl rfl ?_
  intro G F R hE
  (refine K_ent (rd_o _ _ _ _ _ _ _ _ _ _ _ _ _ _ _ _) ?_)
  refine K_shape 5 rfl ?_
  rintro sa sc rfl
  refine K_slcVw 5 rfl ?_
  intro hvs
  obtain ⟨sb, so, sc', hss⟩ := hvs.some (by rw [← List.length_pos_iff]; omega)
  simp only [Value.slice.injEq, true_and] at hss
  obtain ⟨rfl, rfl⟩ := hss
  obtain ⟨q, hq⟩ : ∃ q : Nat, max 0 (min last ((stsL.length : Int) - 1)) = q := Int.eq_ofNat_of_zero_le (by omega)
  have hqs : q < stsL.length := by omega
  obtain ⟨lv2, hlv2⟩ : ∃ v, stsL[q]? = some v := ⟨stsL[q], by simp⟩
  obtain ⟨l2, hl2m, hl2⟩ := hR.sts.left hlv2
  simp only at hl2
  have hpick : RM.pick m.sts last = l2 := by
    unfold RM.pick
    rw [List.getD_eq_getElem?_getD, show (max 0 (min last ((m.sts.length : Int) - 1))).toNat = q from by omega, hl2m]; rfl
  obtain ⟨la, lc, rfl, _⟩ := hl2.shape
  refine K_drawA (fun w => Sat G w ([pts br (cl [.int .i64 room, now, sure, lv, .slice (some ⟨sb, so, none⟩) stsL.length sc, wrs, nxt, .bool down] 61), slc 58 1 (.slice (some ⟨sb, so, none⟩) stsL.length sc) stsL.length stsL])) (.st 0 (.st 1 (.st 2 (.st 3 (.st 4 (.st 5 (.st 6 (.st 7 (.st 8 (.st 9 (.st 10 (.st 11 (.st 12 (.st 13 (.st 14 (.st 15 (.st 16 (.st 17 (.act 18 .nil))))))))))))))))))) rfl (by kernel_rfl) (by kernel_rfl) (by kernel_rfl) (fun w hw => hw.ent (Ent.pickOnly ([0, 5]) rfl)) ?_
  (refine go ?_)
  refine J_at1 (U := tab) q rfl rfl rfl rfl rfl rfl rfl hq hqs ?_
  refine J_loadAtS (U := tab) 1 q rfl rfl rfl hvs rfl hlv2 rfl rfl ?_
  (refine go ?_)
  refine J_buildSlice1 (U := tab) rfl rfl rfl rfl rfl rfl rfl rfl rfl (fun _ _ _ => trivial) ?_
  intro b0
  (refine go ?_)
  refine K_ent (slc_row 58 1 b0 1 1 [.slice la l2.length lc] [] _ rfl (Nat.le_refl _) (by simp)) ?_
  refine K_ent (Ent.pick [1, 2, 3, 4, 5, 0, 7] rfl) ?_
  refine K_shape 4 rfl ?_
  rintro ua uc rfl
  refine K_shape 6 rfl ?_
  rintro wa wc rfl
  rw [hnl]
  have hwlk : wl.length ≤ 100000 := by omega
  refine K_loop (fun s : Nat × List Value × Arrs × List (List UInt8) => s.1 ≤ wl.length ∧ s.2.1.length = nowL.length ∧ All2 (fun v b => BIn s.2.2.1 v b) s.2.1 s.2.2.2 ∧ (∀ b ∈ s.2.2.2, b.length ≤ 1048576) ∧ (∀ x ∈ arrs, x ∈ s.2.2.1) ∧ RM.lasts stay torn cut s.1 (m.wr.drop s.1) s.2.2.2 = RM.lasts stay torn cut 0 m.wr m.sure) (fun s => wl.length - s.1)
    (fun s => [(0, ptr br), (2, .slice a0 stay.length c0), (3, .int .i64 torn), (4, .int .i64 cut), (10, .int .i64 s.1)])
    (fun s => pts br (cl [.int .i64 room, now, .slice ua nowL.length uc, .slice la l2.length lc, .slice (some ⟨b0, 0, none⟩) 1 1, .slice wa wl.length wc, nxt, .bool down] 61) :: arrS 5 s.2.2.1 :: arrS 111 nrows ::
        slc 40 1 now nowL.length nowL :: slc 40 1 (.slice ua nowL.length uc) nowL.length s.2.1 :: slc 58 1 (.slice (some ⟨b0, 0, none⟩) 1 1) 1 [.slice la l2.length lc] :: slc 83 3 (.slice wa wl.length wc) wl.length (wl.flatMap wcell) :: X :: F)
    (0, sureL, arrs, m.sure) ⟨Nat.zero_le _, hnl, hR.sure, hM.sure, fun _ h => h, rfl⟩ rfl (by repeat (first | exact keep_nil | refine keep_cons rfl ?_)) (Ent.to [0, 1, 2, 3, 4, 5, 6, 8] 1 rfl rfl rfl) ?_
  rintro ⟨i, sureL1, arrs1, S1⟩ ⟨hi, hsl1, hsB, hsm, hsub, hlast⟩ ih
  simp only at hi hsl1 hsB hsm hsub hlast
  (refine go ?_)
  refine K_condP rfl rfl ?_ ?_
  · intro hlt
    simp only at hlt
    have hi' : i < wl.length := by omega
    obtain ⟨⟨x1, x2, x3⟩, hx⟩ : ∃ x, wl[i]? = some x := ⟨wl[i], by simp⟩
    obtain ⟨⟨y1, y2, b5⟩, hy, hxy1, hxy2, hb5⟩ := hR.wr.left hx
    simp only at hxy1 hxy2 hb5
    subst hxy1 hxy2
    obtain ⟨hx1, hb5l⟩ := hM.wr _ (List.mem_of_getElem? hy)
    simp only at hx1 hb5l
    obtain ⟨xa, xc, rfl, hxc⟩ := hb5.shape
    have hg : ∀ q, q < 3 → (wl.flatMap wcell)[i * 3 + q]? = (wcell (x1, x2, Value.slice xa b5.length xc))[q]? := fun q hq => chunk_get wcell_len hx q hq
    refine K_slcVw 6 rfl ?_
    intro hvw
    obtain ⟨bb, oo, cc, hsl⟩ := hvw.some (by rw [← List.length_pos_iff, chunk_len wcell_len]; omega)
    simp only [Value.slice.injEq, true_and] at hsl
    obtain ⟨rfl, rfl⟩ := hsl
    refine K_slcVw 4 rfl ?_
    intro hvu
    simp only at hvu
    obtain ⟨ub, uo, uc', hus⟩ := hvu.some (by rw [← List.length_pos_iff]; omega)
    simp only [Value.slice.injEq, true_and] at hus
    obtain ⟨rfl, rfl⟩ := hus
    (refine go ?_)
    refine J_at (U := tab) i 3 rfl rfl rfl rfl rfl rfl rfl rfl hi' ?_
    refine J_loadElem (U := tab) (es := wcell (x1, x2, .slice xa b5.length xc)) 6 (i * 3) rfl rfl rfl hvw rfl (fun q v hq => (hg q (by rcases Nat.lt_or_ge q 3 with h | h; exact h; rw [List.getElem?_eq_none (by rw [wcell_len]; exact h)] at hq; cases hq)).trans hq) rfl rfl rfl ?_
    refine J_alloc (U := tab) rfl rfl rfl (fun _ _ _ => trivial) ?_
    intro bw1
    (refine go ?_)
    refine J_quo rfl rfl rfl (by omega) (by omega) (by simp only [inK]; omega) ?_
    refine J_slot 58 (.int .i64 ((i / 8 : Nat) : Int)) rfl (congrArg (Value.int .i64) (by show (i : Int) / 8 = ((i / 8 : Nat) : Int); omega)) ?_
    (refine go ?_)
    by_cases hi8 : i / 8 < stay.length
    · refine J_slot 62 (.bool true) rfl (congrArg Value.bool (decide_eq_true (by omega))) ?_
      obtain ⟨bst, ost, cst, hsst⟩ := hv.some (by rw [← List.length_pos_iff, bV_length]; omega)
      simp only [Value.slice.injEq, true_and] at hsst
      obtain ⟨rfl, rfl⟩ := hsst
      obtain ⟨sx, hsx⟩ : ∃ x, stay[i / 8]? = some x := ⟨stay[i / 8]'hi8, by simp⟩
      have hsb : sx.toNat / 2 ^ (i % 8) < 256 := Nat.lt_of_le_of_lt (Nat.div_le_self _ _) sx.toNat_lt
      have hsh : (sx.toNat : Int) / 2 ^ (min (((i % 8 : Nat) : Int).toNat) IntKind.u8.bits) = ((sx.toNat / 2 ^ (i % 8) : Nat) : Int) := by
        have e1 : min (((i % 8 : Nat) : Int).toNat) IntKind.u8.bits = i % 8 := by show min (i % 8) 8 = i % 8; omega
        rw [e1]; simp
      ((refine go ?_); refine J_quo rfl rfl rfl (by omega) (by omega) (by simp only [inK]; omega) ?_; (refine go ?_); refine J_at1 (U := tab) (i / 8) rfl rfl rfl rfl rfl rfl rfl (by show (i : Int) / 8 = ((i / 8 : Nat) : Int); omega) hi8 ?_; (refine go ?_); refine J_loadV (U := tab) 8 rfl rfl rfl (hv.cell (bV_get hsx)) rfl rfl ?_; (refine go ?_); refine J_rem rfl rfl rfl (by omega) (by omega) ?_; refine J_slot 69 (.int .i64 ((i % 8 : Nat) : Int)) rfl (congrArg (Value.int .i64) (by show (i : Int) % 8 = ((i % 8 : Nat) : Int); omega)) ?_; (refine go ?_); refine J_shr rfl rfl rfl (by omega) ?_; refine J_slot 71 (.int .u8 ((sx.toNat / 2 ^ (i % 8) : Nat) : Int)) rfl (congrArg (Value.int .u8) hsh) ?_; (refine go ?_); refine K_slot 74 (.bool (toldAt stay i)) rfl (congrArg Value.bool (told_bit hsx)) ?_)
      cases htd : toldAt stay i with
      | true =>
        (refine go ?_)
        (first | refine J_slot 83 ((.bool true)) rfl ((congrArg Value.bool (decide_eq_true rfl))) ?_ | refine K_slot 83 ((.bool true)) rfl ((congrArg Value.bool (decide_eq_true rfl))) ?_)
        (refine go ?_)
        refine J_quo rfl rfl rfl (by omega) (by omega) (by simp only [inK]; omega) ?_
        (refine go ?_)
        refine J_slot 90 (.bool true) rfl (congrArg Value.bool (decide_eq_true (by omega))) ?_
        ((refine go ?_); refine J_quo rfl rfl rfl (by omega) (by omega) (by simp only [inK]; omega) ?_; (refine go ?_); refine J_at1 (U := tab) (i / 8) rfl rfl rfl rfl rfl rfl rfl (by show (i : Int) / 8 = ((i / 8 : Nat) : Int); omega) hi8 ?_; (refine go ?_); refine J_loadV (U := tab) 8 rfl rfl rfl (hv.cell (bV_get hsx)) rfl rfl ?_; (refine go ?_); refine J_rem rfl rfl rfl (by omega) (by omega) ?_; refine J_slot 97 (.int .i64 ((i % 8 : Nat) : Int)) rfl (congrArg (Value.int .i64) (by show (i : Int) % 8 = ((i % 8 : Nat) : Int); omega)) ?_; (refine go ?_); refine J_shr rfl rfl rfl (by omega) ?_; refine J_slot 99 (.int .u8 ((sx.toNat / 2 ^ (i % 8) : Nat) : Int)) rfl (congrArg (Value.int .u8) hsh) ?_; (refine go ?_); refine K_slot 13 (.bool (toldAt stay i)) rfl (congrArg Value.bool (told_bit hsx)) ?_)
        rw [htd]
        (refine go ?_)
        refine K_condP rfl rfl ?_ ?_
        · intro htorn
          have htorn : (i : Int) = torn := htorn
          (refine go ?_)
          (obtain ⟨nn, hnn⟩ : ∃ nn : Nat, max 0 (min cut (b5.length : Int)) = nn := ⟨(max 0 (min cut (b5.length : Int))).toNat, by omega⟩; refine K_slot 12 (.int .i64 (nn : Int)) rfl (congrArg (Value.int .i64) hnn) ?_; have hk0 := kept_torn (stay := stay) (b := b5) htorn hnn; refine K_condP rfl rfl ?_ ?_; (· intro hpos; have hk : Ab.kept stay torn cut i b5 = some (b5.take nn) := (by rw [hk0, if_neg (by omega)]); (obtain ⟨sv, hsv⟩ : ∃ v, sureL1[x1]? = some v := ⟨sureL1[x1]'(by omega), by simp⟩; obtain ⟨sbs, hsbm, hsbs⟩ := hsB.left hsv; have hsbl := hsm sbs (List.mem_of_getElem? hsbm); obtain ⟨va, vc, rfl, _⟩ := hsbs.shape; have hb6 := (hb5.mono hsub).cut 0 nn (by omega); rw [List.drop_zero, Nat.sub_zero] at hb6; have hl6 : (b5.take nn).length = nn := (by rw [List.length_take]; omega); have hwl := wroteL_len sbs x2 (b5.take nn); refine K_drawA (fun w => Sat G w ([pts bw1 (cl [.int .i64 x1, .int .i64 x2, .slice xa b5.length xc] 83), pts br (cl [.int .i64 room, now, .slice (some ⟨ub, uo, none⟩) nowL.length uc, .slice la l2.length lc, .slice (some ⟨b0, 0, none⟩) 1 1, .slice (some ⟨bb, oo, none⟩) wl.length wc, nxt, .bool down] 61), slc 40 1 (.slice (some ⟨ub, uo, none⟩) nowL.length uc) nowL.length sureL1])) (.st 0 (.st 1 (.st 2 (.st 3 (.st 4 (.st 5 (.st 6 (.st 7 (.st 8 (.st 9 (.st 10 (.st 11 (.st 12 (.st 13 (.st 14 (.st 15 (.st 16 (.st 17 (.st 18 (.st 19 (.act 20 (.st 21 (.act 22 .nil))))))))))))))))))))))) rfl (by kernel_rfl) (by kernel_rfl) (by kernel_rfl) (fun w hw => hw.ent entA) ?_; (refine go ?_); refine J_at1 (U := tab) x1 rfl rfl rfl rfl rfl rfl rfl rfl (by omega) ?_; (refine go ?_); refine J_loadAtS (U := tab) 2 x1 rfl rfl rfl hvu rfl hsv rfl rfl ?_; (refine go ?_); refine J_sliceAny (U := tab) (p := 0) (q := (nn : Int)) rfl rfl rfl rfl rfl rfl rfl (Int.le_refl _) (by omega) (.inr (by omega)) ?_; refine J_slot 134 (.slice (sliceAt xa xc 0 1) (b5.take nn).length xc) rfl (by rw [hl6]; rfl) ?_; have hb7 := hb6.view 5; (first | refine J_callE rfl rfl rfl rfl ((Wrote_ref (arrS 5 arrs1) _ _ sbs (b5.take nn) x2 (hsbs.view _) (by rw [hl6]; rw [hl6] at hb7; exact hb7) (by omega))) entA ?_ (fun _ _ w hp hw => by obtain rfl := hp; exact hw.ent entA) | refine J_call0E rfl rfl rfl ((Wrote_ref (arrS 5 arrs1) _ _ sbs (b5.take nn) x2 (hsbs.view _) (by rw [hl6]; rw [hl6] at hb7; exact hb7) (by omega))) entA ?_ (fun _ _ w hp hw => by obtain rfl := hp; exact hw.ent entA)); rintro rv _ rfl; refine J_shape 0 rfl ?_; rintro ra rc rfl; (refine go ?_); refine J_at1 (U := tab) x1 rfl rfl rfl rfl rfl rfl rfl rfl (by omega) ?_; refine J_storeSlc (U := tab) (q := x1) 6 (fun _ _ => trivial) rfl rfl rfl rfl rfl rfl rfl (by omega) rfl ?_; (refine go ?_); refine K_ent (Ent.pick [0, 1] rfl) ?_; refine K_ent (Ent.join _ _ _) ?_; refine K_open (arrS_slcO 5 _ _ _) ?_; rintro arrs2 ⟨hbw, hsub2⟩; have hset : S1.getD x1 [] = sbs := (by rw [List.getD_eq_getElem?_getD, hsbm]; rfl); have hk2 := rlasts_some hy hk S1; rw [hset] at hk2; refine K_again ih (i + 1, sureL1.set x1 (Value.slice ra (wroteL sbs x2 (b5.take nn)).length rc), arrs2, S1.set x1 (wroteL sbs x2 (b5.take nn))) rfl ⟨by simp only; omega, by simp only [List.length_set]; exact hsl1, All2.set (hsB.mono fun x y h => BIn.mono h hsub2) x1 hbw, (fun b hb => by rcases List.mem_or_eq_of_mem_set hb with h | rfl; exact hsm b h; omega), fun x hx => hsub2 x (hsub x hx), hk2.trans hlast⟩ (by simp only; omega) (by repeat (first | exact keep_nil | refine keep_cons rfl ?_)) entA)); (· intro hz; have hk : Ab.kept stay torn cut i b5 = none := (by rw [hk0, if_pos (by omega)]); (refine go ?_); (refine K_again ih (i + 1, sureL1, arrs1, S1) rfl ⟨by simp only; omega, hsl1, hsB, hsm, hsub, (rlasts_none hy hk S1).trans hlast⟩ (by simp only; omega) (by repeat (first | exact keep_nil | refine keep_cons rfl ?_)) entA)))
        · intro htorn
          have htorn : (i : Int) ≠ torn := htorn
          have hk : Ab.kept stay torn cut i b5 = some b5 := by rw [kept_else htorn, htd]; rfl
          obtain ⟨nn, hnn⟩ : ∃ nn : Nat, nn = b5.length := ⟨_, rfl⟩
          have hk : Ab.kept stay torn cut i b5 = some (b5.take nn) := by rw [hk, hnn, List.take_length]
          refine K_slot 12 (.int .i64 (nn : Int)) rfl (congrArg (Value.int .i64) (by rw [hnn])) ?_
          (refine go ?_)
          (obtain ⟨sv, hsv⟩ : ∃ v, sureL1[x1]? = some v := ⟨sureL1[x1]'(by omega), by simp⟩; obtain ⟨sbs, hsbm, hsbs⟩ := hsB.left hsv; have hsbl := hsm sbs (List.mem_of_getElem? hsbm); obtain ⟨va, vc, rfl, _⟩ := hsbs.shape; have hb6 := (hb5.mono hsub).cut 0 nn (by omega); rw [List.drop_zero, Nat.sub_zero] at hb6; have hl6 : (b5.take nn).length = nn := (by rw [List.length_take]; omega); have hwl := wroteL_len sbs x2 (b5.take nn); refine K_drawA (fun w => Sat G w ([pts bw1 (cl [.int .i64 x1, .int .i64 x2, .slice xa b5.length xc] 83), pts br (cl [.int .i64 room, now, .slice (some ⟨ub, uo, none⟩) nowL.length uc, .slice la l2.length lc, .slice (some ⟨b0, 0, none⟩) 1 1, .slice (some ⟨bb, oo, none⟩) wl.length wc, nxt, .bool down] 61), slc 40 1 (.slice (some ⟨ub, uo, none⟩) nowL.length uc) nowL.length sureL1])) (.st 0 (.st 1 (.st 2 (.st 3 (.st 4 (.st 5 (.st 6 (.st 7 (.st 8 (.st 9 (.st 10 (.st 11 (.st 12 (.st 13 (.st 14 (.st 15 (.st 16 (.st 17 (.st 18 (.st 19 (.act 20 (.st 21 (.act 22 .nil))))))))))))))))))))))) rfl (by kernel_rfl) (by kernel_rfl) (by kernel_rfl) (fun w hw => hw.ent entA) ?_; (refine go ?_); refine J_at1 (U := tab) x1 rfl rfl rfl rfl rfl rfl rfl rfl (by omega) ?_; (refine go ?_); refine J_loadAtS (U := tab) 2 x1 rfl rfl rfl hvu rfl hsv rfl rfl ?_; (refine go ?_); refine J_sliceAny (U := tab) (p := 0) (q := (nn : Int)) rfl rfl rfl rfl rfl rfl rfl (Int.le_refl _) (by omega) (.inr (by omega)) ?_; refine J_slot 134 (.slice (sliceAt xa xc 0 1) (b5.take nn).length xc) rfl (by rw [hl6]; rfl) ?_; have hb7 := hb6.view 5; (first | refine J_callE rfl rfl rfl rfl ((Wrote_ref (arrS 5 arrs1) _ _ sbs (b5.take nn) x2 (hsbs.view _) (by rw [hl6]; rw [hl6] at hb7; exact hb7) (by omega))) entA ?_ (fun _ _ w hp hw => by obtain rfl := hp; exact hw.ent entA) | refine J_call0E rfl rfl rfl ((Wrote_ref (arrS 5 arrs1) _ _ sbs (b5.take nn) x2 (hsbs.view _) (by rw [hl6]; rw [hl6] at hb7; exact hb7) (by omega))) entA ?_ (fun _ _ w hp hw => by obtain rfl := hp; exact hw.ent entA)); rintro rv _ rfl; refine J_shape 0 rfl ?_; rintro ra rc rfl; (refine go ?_); refine J_at1 (U := tab) x1 rfl rfl rfl rfl rfl rfl rfl rfl (by omega) ?_; refine J_storeSlc (U := tab) (q := x1) 6 (fun _ _ => trivial) rfl rfl rfl rfl rfl rfl rfl (by omega) rfl ?_; (refine go ?_); refine K_ent (Ent.pick [0, 1] rfl) ?_; refine K_ent (Ent.join _ _ _) ?_; refine K_open (arrS_slcO 5 _ _ _) ?_; rintro arrs2 ⟨hbw, hsub2⟩; have hset : S1.getD x1 [] = sbs := (by rw [List.getD_eq_getElem?_getD, hsbm]; rfl); have hk2 := rlasts_some hy hk S1; rw [hset] at hk2; refine K_again ih (i + 1, sureL1.set x1 (Value.slice ra (wroteL sbs x2 (b5.take nn)).length rc), arrs2, S1.set x1 (wroteL sbs x2 (b5.take nn))) rfl ⟨by simp only; omega, by simp only [List.length_set]; exact hsl1, All2.set (hsB.mono fun x y h => BIn.mono h hsub2) x1 hbw, (fun b hb => by rcases List.mem_or_eq_of_mem_set hb with h | rfl; exact hsm b h; omega), fun x hx => hsub2 x (hsub x hx), hk2.trans hlast⟩ (by simp only; omega) (by repeat (first | exact keep_nil | refine keep_cons rfl ?_)) entA)
      | false =>
        (refine go ?_)
        by_cases hb0 : b5.length = 0
        · (first | refine J_slot 83 ((.bool true)) rfl ((congrArg Value.bool (decide_eq_true (by show (0 : Int) = (b5.length : Int); omega)))) ?_ | refine K_slot 83 ((.bool true)) rfl ((congrArg Value.bool (decide_eq_true (by show (0 : Int) = (b5.length : Int); omega)))) ?_)
          (refine go ?_)
          refine J_quo rfl rfl rfl (by omega) (by omega) (by simp only [inK]; omega) ?_
          (refine go ?_)
          refine J_slot 90 (.bool true) rfl (congrArg Value.bool (decide_eq_true (by omega))) ?_
          ((refine go ?_); refine J_quo rfl rfl rfl (by omega) (by omega) (by simp only [inK]; omega) ?_; (refine go ?_); refine J_at1 (U := tab) (i / 8) rfl rfl rfl rfl rfl rfl rfl (by show (i : Int) / 8 = ((i / 8 : Nat) : Int); omega) hi8 ?_; (refine go ?_); refine J_loadV (U := tab) 8 rfl rfl rfl (hv.cell (bV_get hsx)) rfl rfl ?_; (refine go ?_); refine J_rem rfl rfl rfl (by omega) (by omega) ?_; refine J_slot 97 (.int .i64 ((i % 8 : Nat) : Int)) rfl (congrArg (Value.int .i64) (by show (i : Int) % 8 = ((i % 8 : Nat) : Int); omega)) ?_; (refine go ?_); refine J_shr rfl rfl rfl (by omega) ?_; refine J_slot 99 (.int .u8 ((sx.toNat / 2 ^ (i % 8) : Nat) : Int)) rfl (congrArg (Value.int .u8) hsh) ?_; (refine go ?_); refine K_slot 13 (.bool (toldAt stay i)) rfl (congrArg Value.bool (told_bit hsx)) ?_)
          rw [htd]
          (refine go ?_)
          refine K_condP rfl rfl ?_ ?_
          · intro htorn
            have htorn : (i : Int) = torn := htorn
            (refine go ?_)
            (obtain ⟨nn, hnn⟩ : ∃ nn : Nat, max 0 (min cut (b5.length : Int)) = nn := ⟨(max 0 (min cut (b5.length : Int))).toNat, by omega⟩; refine K_slot 12 (.int .i64 (nn : Int)) rfl (congrArg (Value.int .i64) hnn) ?_; have hk0 := kept_torn (stay := stay) (b := b5) htorn hnn; refine K_condP rfl rfl ?_ ?_; (· intro hpos; have hk : Ab.kept stay torn cut i b5 = some (b5.take nn) := (by rw [hk0, if_neg (by omega)]); (obtain ⟨sv, hsv⟩ : ∃ v, sureL1[x1]? = some v := ⟨sureL1[x1]'(by omega), by simp⟩; obtain ⟨sbs, hsbm, hsbs⟩ := hsB.left hsv; have hsbl := hsm sbs (List.mem_of_getElem? hsbm); obtain ⟨va, vc, rfl, _⟩ := hsbs.shape; have hb6 := (hb5.mono hsub).cut 0 nn (by omega); rw [List.drop_zero, Nat.sub_zero] at hb6; have hl6 : (b5.take nn).length = nn := (by rw [List.length_take]; omega); have hwl := wroteL_len sbs x2 (b5.take nn); refine K_drawA (fun w => Sat G w ([pts bw1 (cl [.int .i64 x1, .int .i64 x2, .slice xa b5.length xc] 83), pts br (cl [.int .i64 room, now, .slice (some ⟨ub, uo, none⟩) nowL.length uc, .slice la l2.length lc, .slice (some ⟨b0, 0, none⟩) 1 1, .slice (some ⟨bb, oo, none⟩) wl.length wc, nxt, .bool down] 61), slc 40 1 (.slice (some ⟨ub, uo, none⟩) nowL.length uc) nowL.length sureL1])) (.st 0 (.st 1 (.st 2 (.st 3 (.st 4 (.st 5 (.st 6 (.st 7 (.st 8 (.st 9 (.st 10 (.st 11 (.st 12 (.st 13 (.st 14 (.st 15 (.st 16 (.st 17 (.st 18 (.st 19 (.act 20 (.st 21 (.act 22 .nil))))))))))))))))))))))) rfl (by kernel_rfl) (by kernel_rfl) (by kernel_rfl) (fun w hw => hw.ent entA) ?_; (refine go ?_); refine J_at1 (U := tab) x1 rfl rfl rfl rfl rfl rfl rfl rfl (by omega) ?_; (refine go ?_); refine J_loadAtS (U := tab) 2 x1 rfl rfl rfl hvu rfl hsv rfl rfl ?_; (refine go ?_); refine J_sliceAny (U := tab) (p := 0) (q := (nn : Int)) rfl rfl rfl rfl rfl rfl rfl (Int.le_refl _) (by omega) (.inr (by omega)) ?_; refine J_slot 134 (.slice (sliceAt xa xc 0 1) (b5.take nn).length xc) rfl (by rw [hl6]; rfl) ?_; have hb7 := hb6.view 5; (first | refine J_callE rfl rfl rfl rfl ((Wrote_ref (arrS 5 arrs1) _ _ sbs (b5.take nn) x2 (hsbs.view _) (by rw [hl6]; rw [hl6] at hb7; exact hb7) (by omega))) entA ?_ (fun _ _ w hp hw => by obtain rfl := hp; exact hw.ent entA) | refine J_call0E rfl rfl rfl ((Wrote_ref (arrS 5 arrs1) _ _ sbs (b5.take nn) x2 (hsbs.view _) (by rw [hl6]; rw [hl6] at hb7; exact hb7) (by omega))) entA ?_ (fun _ _ w hp hw => by obtain rfl := hp; exact hw.ent entA)); rintro rv _ rfl; refine J_shape 0 rfl ?_; rintro ra rc rfl; (refine go ?_); refine J_at1 (U := tab) x1 rfl rfl rfl rfl rfl rfl rfl rfl (by omega) ?_; refine J_storeSlc (U := tab) (q := x1) 6 (fun _ _ => trivial) rfl rfl rfl rfl rfl rfl rfl (by omega) rfl ?_; (refine go ?_); refine K_ent (Ent.pick [0, 1] rfl) ?_; refine K_ent (Ent.join _ _ _) ?_; refine K_open (arrS_slcO 5 _ _ _) ?_; rintro arrs2 ⟨hbw, hsub2⟩; have hset : S1.getD x1 [] = sbs := (by rw [List.getD_eq_getElem?_getD, hsbm]; rfl); have hk2 := rlasts_some hy hk S1; rw [hset] at hk2; refine K_again ih (i + 1, sureL1.set x1 (Value.slice ra (wroteL sbs x2 (b5.take nn)).length rc), arrs2, S1.set x1 (wroteL sbs x2 (b5.take nn))) rfl ⟨by simp only; omega, by simp only [List.length_set]; exact hsl1, All2.set (hsB.mono fun x y h => BIn.mono h hsub2) x1 hbw, (fun b hb => by rcases List.mem_or_eq_of_mem_set hb with h | rfl; exact hsm b h; omega), fun x hx => hsub2 x (hsub x hx), hk2.trans hlast⟩ (by simp only; omega) (by repeat (first | exact keep_nil | refine keep_cons rfl ?_)) entA)); (· intro hz; have hk : Ab.kept stay torn cut i b5 = none := (by rw [hk0, if_pos (by omega)]); (refine go ?_); (refine K_again ih (i + 1, sureL1, arrs1, S1) rfl ⟨by simp only; omega, hsl1, hsB, hsm, hsub, (rlasts_none hy hk S1).trans hlast⟩ (by simp only; omega) (by repeat (first | exact keep_nil | refine keep_cons rfl ?_)) entA)))
          · intro htorn
            have htorn : (i : Int) ≠ torn := htorn
            have hk : Ab.kept stay torn cut i b5 = none := by rw [kept_else htorn, htd]; rfl
            (refine go ?_)
            (refine K_again ih (i + 1, sureL1, arrs1, S1) rfl ⟨by simp only; omega, hsl1, hsB, hsm, hsub, (rlasts_none hy hk S1).trans hlast⟩ (by simp only; omega) (by repeat (first | exact keep_nil | refine keep_cons rfl ?_)) entA)
        · (first | refine J_slot 83 ((.bool false)) rfl ((congrArg Value.bool (decide_eq_false (by show ¬ (0 : Int) = (b5.length : Int); omega)))) ?_ | refine K_slot 83 ((.bool false)) rfl ((congrArg Value.bool (decide_eq_false (by show ¬ (0 : Int) = (b5.length : Int); omega)))) ?_)
          (refine go ?_)
          refine K_condP rfl rfl ?_ ?_
          · intro htorn
            have htorn : (i : Int) = torn := htorn
            (refine go ?_)
            (obtain ⟨nn, hnn⟩ : ∃ nn : Nat, max 0 (min cut (b5.length : Int)) = nn := ⟨(max 0 (min cut (b5.length : Int))).toNat, by omega⟩; refine K_slot 12 (.int .i64 (nn : Int)) rfl (congrArg (Value.int .i64) hnn) ?_; have hk0 := kept_torn (stay := stay) (b := b5) htorn hnn; refine K_condP rfl rfl ?_ ?_; (· intro hpos; have hk : Ab.kept stay torn cut i b5 = some (b5.take nn) := (by rw [hk0, if_neg (by omega)]); (obtain ⟨sv, hsv⟩ : ∃ v, sureL1[x1]? = some v := ⟨sureL1[x1]'(by omega), by simp⟩; obtain ⟨sbs, hsbm, hsbs⟩ := hsB.left hsv; have hsbl := hsm sbs (List.mem_of_getElem? hsbm); obtain ⟨va, vc, rfl, _⟩ := hsbs.shape; have hb6 := (hb5.mono hsub).cut 0 nn (by omega); rw [List.drop_zero, Nat.sub_zero] at hb6; have hl6 : (b5.take nn).length = nn := (by rw [List.length_take]; omega); have hwl := wroteL_len sbs x2 (b5.take nn); refine K_drawA (fun w => Sat G w ([pts bw1 (cl [.int .i64 x1, .int .i64 x2, .slice xa b5.length xc] 83), pts br (cl [.int .i64 room, now, .slice (some ⟨ub, uo, none⟩) nowL.length uc, .slice la l2.length lc, .slice (some ⟨b0, 0, none⟩) 1 1, .slice (some ⟨bb, oo, none⟩) wl.length wc, nxt, .bool down] 61), slc 40 1 (.slice (some ⟨ub, uo, none⟩) nowL.length uc) nowL.length sureL1])) (.st 0 (.st 1 (.st 2 (.st 3 (.st 4 (.st 5 (.st 6 (.st 7 (.st 8 (.st 9 (.st 10 (.st 11 (.st 12 (.st 13 (.st 14 (.st 15 (.st 16 (.st 17 (.st 18 (.st 19 (.act 20 (.st 21 (.act 22 .nil))))))))))))))))))))))) rfl (by kernel_rfl) (by kernel_rfl) (by kernel_rfl) (fun w hw => hw.ent entA) ?_; (refine go ?_); refine J_at1 (U := tab) x1 rfl rfl rfl rfl rfl rfl rfl rfl (by omega) ?_; (refine go ?_); refine J_loadAtS (U := tab) 2 x1 rfl rfl rfl hvu rfl hsv rfl rfl ?_; (refine go ?_); refine J_sliceAny (U := tab) (p := 0) (q := (nn : Int)) rfl rfl rfl rfl rfl rfl rfl (Int.le_refl _) (by omega) (.inr (by omega)) ?_; refine J_slot 134 (.slice (sliceAt xa xc 0 1) (b5.take nn).length xc) rfl (by rw [hl6]; rfl) ?_; have hb7 := hb6.view 5; (first | refine J_callE rfl rfl rfl rfl ((Wrote_ref (arrS 5 arrs1) _ _ sbs (b5.take nn) x2 (hsbs.view _) (by rw [hl6]; rw [hl6] at hb7; exact hb7) (by omega))) entA ?_ (fun _ _ w hp hw => by obtain rfl := hp; exact hw.ent entA) | refine J_call0E rfl rfl rfl ((Wrote_ref (arrS 5 arrs1) _ _ sbs (b5.take nn) x2 (hsbs.view _) (by rw [hl6]; rw [hl6] at hb7; exact hb7) (by omega))) entA ?_ (fun _ _ w hp hw => by obtain rfl := hp; exact hw.ent entA)); rintro rv _ rfl; refine J_shape 0 rfl ?_; rintro ra rc rfl; (refine go ?_); refine J_at1 (U := tab) x1 rfl rfl rfl rfl rfl rfl rfl rfl (by omega) ?_; refine J_storeSlc (U := tab) (q := x1) 6 (fun _ _ => trivial) rfl rfl rfl rfl rfl rfl rfl (by omega) rfl ?_; (refine go ?_); refine K_ent (Ent.pick [0, 1] rfl) ?_; refine K_ent (Ent.join _ _ _) ?_; refine K_open (arrS_slcO 5 _ _ _) ?_; rintro arrs2 ⟨hbw, hsub2⟩; have hset : S1.getD x1 [] = sbs := (by rw [List.getD_eq_getElem?_getD, hsbm]; rfl); have hk2 := rlasts_some hy hk S1; rw [hset] at hk2; refine K_again ih (i + 1, sureL1.set x1 (Value.slice ra (wroteL sbs x2 (b5.take nn)).length rc), arrs2, S1.set x1 (wroteL sbs x2 (b5.take nn))) rfl ⟨by simp only; omega, by simp only [List.length_set]; exact hsl1, All2.set (hsB.mono fun x y h => BIn.mono h hsub2) x1 hbw, (fun b hb => by rcases List.mem_or_eq_of_mem_set hb with h | rfl; exact hsm b h; omega), fun x hx => hsub2 x (hsub x hx), hk2.trans hlast⟩ (by simp only; omega) (by repeat (first | exact keep_nil | refine keep_cons rfl ?_)) entA)); (· intro hz; have hk : Ab.kept stay torn cut i b5 = none := (by rw [hk0, if_pos (by omega)]); (refine go ?_); (refine K_again ih (i + 1, sureL1, arrs1, S1) rfl ⟨by simp only; omega, hsl1, hsB, hsm, hsub, (rlasts_none hy hk S1).trans hlast⟩ (by simp only; omega) (by repeat (first | exact keep_nil | refine keep_cons rfl ?_)) entA)))
          · intro htorn
            have htorn : (i : Int) ≠ torn := htorn
            have hk : Ab.kept stay torn cut i b5 = none := by rw [kept_else htorn, htd]; rfl
            (refine go ?_)
            (refine K_again ih (i + 1, sureL1, arrs1, S1) rfl ⟨by simp only; omega, hsl1, hsB, hsm, hsub, (rlasts_none hy hk S1).trans hlast⟩ (by simp only; omega) (by repeat (first | exact keep_nil | refine keep_cons rfl ?_)) entA)
    · refine J_slot 62 (.bool false) rfl (congrArg Value.bool (decide_eq_false (by omega))) ?_
      have htd : toldAt stay i = false := by unfold toldAt; exact decide_eq_false (by omega)
      (refine go ?_)
      by_cases hb0 : b5.length = 0
      · (first | refine J_slot 83 ((.bool true)) rfl ((congrArg Value.bool (decide_eq_true (by show (0 : Int) = (b5.length : Int); omega)))) ?_ | refine K_slot 83 ((.bool true)) rfl ((congrArg Value.bool (decide_eq_true (by show (0 : Int) = (b5.length : Int); omega)))) ?_)
        (refine go ?_)
        refine J_quo rfl rfl rfl (by omega) (by omega) (by simp only [inK]; omega) ?_
        (refine go ?_)
        refine J_slot 90 (.bool false) rfl (congrArg Value.bool (decide_eq_false (by omega))) ?_
        (refine go ?_)
        refine K_condP rfl rfl ?_ ?_
        · intro htorn
          have htorn : (i : Int) = torn := htorn
          (refine go ?_)
          (obtain ⟨nn, hnn⟩ : ∃ nn : Nat, max 0 (min cut (b5.length : Int)) = nn := ⟨(max 0 (min cut (b5.length : Int))).toNat, by omega⟩; refine K_slot 12 (.int .i64 (nn : Int)) rfl (congrArg (Value.int .i64) hnn) ?_; have hk0 := kept_torn (stay := stay) (b := b5) htorn hnn; refine K_condP rfl rfl ?_ ?_; (· intro hpos; have hk : Ab.kept stay torn cut i b5 = some (b5.take nn) := (by rw [hk0, if_neg (by omega)]); (obtain ⟨sv, hsv⟩ : ∃ v, sureL1[x1]? = some v := ⟨sureL1[x1]'(by omega), by simp⟩; obtain ⟨sbs, hsbm, hsbs⟩ := hsB.left hsv; have hsbl := hsm sbs (List.mem_of_getElem? hsbm); obtain ⟨va, vc, rfl, _⟩ := hsbs.shape; have hb6 := (hb5.mono hsub).cut 0 nn (by omega); rw [List.drop_zero, Nat.sub_zero] at hb6; have hl6 : (b5.take nn).length = nn := (by rw [List.length_take]; omega); have hwl := wroteL_len sbs x2 (b5.take nn); refine K_drawA (fun w => Sat G w ([pts bw1 (cl [.int .i64 x1, .int .i64 x2, .slice xa b5.length xc] 83), pts br (cl [.int .i64 room, now, .slice (some ⟨ub, uo, none⟩) nowL.length uc, .slice la l2.length lc, .slice (some ⟨b0, 0, none⟩) 1 1, .slice (some ⟨bb, oo, none⟩) wl.length wc, nxt, .bool down] 61), slc 40 1 (.slice (some ⟨ub, uo, none⟩) nowL.length uc) nowL.length sureL1])) (.st 0 (.st 1 (.st 2 (.st 3 (.st 4 (.st 5 (.st 6 (.st 7 (.st 8 (.st 9 (.st 10 (.st 11 (.st 12 (.st 13 (.st 14 (.st 15 (.st 16 (.st 17 (.st 18 (.st 19 (.act 20 (.st 21 (.act 22 .nil))))))))))))))))))))))) rfl (by kernel_rfl) (by kernel_rfl) (by kernel_rfl) (fun w hw => hw.ent entA) ?_; (refine go ?_); refine J_at1 (U := tab) x1 rfl rfl rfl rfl rfl rfl rfl rfl (by omega) ?_; (refine go ?_); refine J_loadAtS (U := tab) 2 x1 rfl rfl rfl hvu rfl hsv rfl rfl ?_; (refine go ?_); refine J_sliceAny (U := tab) (p := 0) (q := (nn : Int)) rfl rfl rfl rfl rfl rfl rfl (Int.le_refl _) (by omega) (.inr (by omega)) ?_; refine J_slot 134 (.slice (sliceAt xa xc 0 1) (b5.take nn).length xc) rfl (by rw [hl6]; rfl) ?_; have hb7 := hb6.view 5; (first | refine J_callE rfl rfl rfl rfl ((Wrote_ref (arrS 5 arrs1) _ _ sbs (b5.take nn) x2 (hsbs.view _) (by rw [hl6]; rw [hl6] at hb7; exact hb7) (by omega))) entA ?_ (fun _ _ w hp hw => by obtain rfl := hp; exact hw.ent entA) | refine J_call0E rfl rfl rfl ((Wrote_ref (arrS 5 arrs1) _ _ sbs (b5.take nn) x2 (hsbs.view _) (by rw [hl6]; rw [hl6] at hb7; exact hb7) (by omega))) entA ?_ (fun _ _ w hp hw => by obtain rfl := hp; exact hw.ent entA)); rintro rv _ rfl; refine J_shape 0 rfl ?_; rintro ra rc rfl; (refine go ?_); refine J_at1 (U := tab) x1 rfl rfl rfl rfl rfl rfl rfl rfl (by omega) ?_; refine J_storeSlc (U := tab) (q := x1) 6 (fun _ _ => trivial) rfl rfl rfl rfl rfl rfl rfl (by omega) rfl ?_; (refine go ?_); refine K_ent (Ent.pick [0, 1] rfl) ?_; refine K_ent (Ent.join _ _ _) ?_; refine K_open (arrS_slcO 5 _ _ _) ?_; rintro arrs2 ⟨hbw, hsub2⟩; have hset : S1.getD x1 [] = sbs := (by rw [List.getD_eq_getElem?_getD, hsbm]; rfl); have hk2 := rlasts_some hy hk S1; rw [hset] at hk2; refine K_again ih (i + 1, sureL1.set x1 (Value.slice ra (wroteL sbs x2 (b5.take nn)).length rc), arrs2, S1.set x1 (wroteL sbs x2 (b5.take nn))) rfl ⟨by simp only; omega, by simp only [List.length_set]; exact hsl1, All2.set (hsB.mono fun x y h => BIn.mono h hsub2) x1 hbw, (fun b hb => by rcases List.mem_or_eq_of_mem_set hb with h | rfl; exact hsm b h; omega), fun x hx => hsub2 x (hsub x hx), hk2.trans hlast⟩ (by simp only; omega) (by repeat (first | exact keep_nil | refine keep_cons rfl ?_)) entA)); (· intro hz; have hk : Ab.kept stay torn cut i b5 = none := (by rw [hk0, if_pos (by omega)]); (refine go ?_); (refine K_again ih (i + 1, sureL1, arrs1, S1) rfl ⟨by simp only; omega, hsl1, hsB, hsm, hsub, (rlasts_none hy hk S1).trans hlast⟩ (by simp only; omega) (by repeat (first | exact keep_nil | refine keep_cons rfl ?_)) entA)))
        · intro htorn
          have htorn : (i : Int) ≠ torn := htorn
          have hk : Ab.kept stay torn cut i b5 = none := by rw [kept_else htorn, htd]; rfl
          (refine go ?_)
          (refine K_again ih (i + 1, sureL1, arrs1, S1) rfl ⟨by simp only; omega, hsl1, hsB, hsm, hsub, (rlasts_none hy hk S1).trans hlast⟩ (by simp only; omega) (by repeat (first | exact keep_nil | refine keep_cons rfl ?_)) entA)
      · (first | refine J_slot 83 ((.bool false)) rfl ((congrArg Value.bool (decide_eq_false (by show ¬ (0 : Int) = (b5.length : Int); omega)))) ?_ | refine K_slot 83 ((.bool false)) rfl ((congrArg Value.bool (decide_eq_false (by show ¬ (0 : Int) = (b5.length : Int); omega)))) ?_)
        (refine go ?_)
        refine K_condP rfl rfl ?_ ?_
        · intro htorn
          have htorn : (i : Int) = torn := htorn
          (refine go ?_)
          (obtain ⟨nn, hnn⟩ : ∃ nn : Nat, max 0 (min cut (b5.length : Int)) = nn := ⟨(max 0 (min cut (b5.length : Int))).toNat, by omega⟩; refine K_slot 12 (.int .i64 (nn : Int)) rfl (congrArg (Value.int .i64) hnn) ?_; have hk0 := kept_torn (stay := stay) (b := b5) htorn hnn; refine K_condP rfl rfl ?_ ?_; (· intro hpos; have hk : Ab.kept stay torn cut i b5 = some (b5.take nn) := (by rw [hk0, if_neg (by omega)]); (obtain ⟨sv, hsv⟩ : ∃ v, sureL1[x1]? = some v := ⟨sureL1[x1]'(by omega), by simp⟩; obtain ⟨sbs, hsbm, hsbs⟩ := hsB.left hsv; have hsbl := hsm sbs (List.mem_of_getElem? hsbm); obtain ⟨va, vc, rfl, _⟩ := hsbs.shape; have hb6 := (hb5.mono hsub).cut 0 nn (by omega); rw [List.drop_zero, Nat.sub_zero] at hb6; have hl6 : (b5.take nn).length = nn := (by rw [List.length_take]; omega); have hwl := wroteL_len sbs x2 (b5.take nn); refine K_drawA (fun w => Sat G w ([pts bw1 (cl [.int .i64 x1, .int .i64 x2, .slice xa b5.length xc] 83), pts br (cl [.int .i64 room, now, .slice (some ⟨ub, uo, none⟩) nowL.length uc, .slice la l2.length lc, .slice (some ⟨b0, 0, none⟩) 1 1, .slice (some ⟨bb, oo, none⟩) wl.length wc, nxt, .bool down] 61), slc 40 1 (.slice (some ⟨ub, uo, none⟩) nowL.length uc) nowL.length sureL1])) (.st 0 (.st 1 (.st 2 (.st 3 (.st 4 (.st 5 (.st 6 (.st 7 (.st 8 (.st 9 (.st 10 (.st 11 (.st 12 (.st 13 (.st 14 (.st 15 (.st 16 (.st 17 (.st 18 (.st 19 (.act 20 (.st 21 (.act 22 .nil))))))))))))))))))))))) rfl (by kernel_rfl) (by kernel_rfl) (by kernel_rfl) (fun w hw => hw.ent entA) ?_; (refine go ?_); refine J_at1 (U := tab) x1 rfl rfl rfl rfl rfl rfl rfl rfl (by omega) ?_; (refine go ?_); refine J_loadAtS (U := tab) 2 x1 rfl rfl rfl hvu rfl hsv rfl rfl ?_; (refine go ?_); refine J_sliceAny (U := tab) (p := 0) (q := (nn : Int)) rfl rfl rfl rfl rfl rfl rfl (Int.le_refl _) (by omega) (.inr (by omega)) ?_; refine J_slot 134 (.slice (sliceAt xa xc 0 1) (b5.take nn).length xc) rfl (by rw [hl6]; rfl) ?_; have hb7 := hb6.view 5; (first | refine J_callE rfl rfl rfl rfl ((Wrote_ref (arrS 5 arrs1) _ _ sbs (b5.take nn) x2 (hsbs.view _) (by rw [hl6]; rw [hl6] at hb7; exact hb7) (by omega))) entA ?_ (fun _ _ w hp hw => by obtain rfl := hp; exact hw.ent entA) | refine J_call0E rfl rfl rfl ((Wrote_ref (arrS 5 arrs1) _ _ sbs (b5.take nn) x2 (hsbs.view _) (by rw [hl6]; rw [hl6] at hb7; exact hb7) (by omega))) entA ?_ (fun _ _ w hp hw => by obtain rfl := hp; exact hw.ent entA)); rintro rv _ rfl; refine J_shape 0 rfl ?_; rintro ra rc rfl; (refine go ?_); refine J_at1 (U := tab) x1 rfl rfl rfl rfl rfl rfl rfl rfl (by omega) ?_; refine J_storeSlc (U := tab) (q := x1) 6 (fun _ _ => trivial) rfl rfl rfl rfl rfl rfl rfl (by omega) rfl ?_; (refine go ?_); refine K_ent (Ent.pick [0, 1] rfl) ?_; refine K_ent (Ent.join _ _ _) ?_; refine K_open (arrS_slcO 5 _ _ _) ?_; rintro arrs2 ⟨hbw, hsub2⟩; have hset : S1.getD x1 [] = sbs := (by rw [List.getD_eq_getElem?_getD, hsbm]; rfl); have hk2 := rlasts_some hy hk S1; rw [hset] at hk2; refine K_again ih (i + 1, sureL1.set x1 (Value.slice ra (wroteL sbs x2 (b5.take nn)).length rc), arrs2, S1.set x1 (wroteL sbs x2 (b5.take nn))) rfl ⟨by simp only; omega, by simp only [List.length_set]; exact hsl1, All2.set (hsB.mono fun x y h => BIn.mono h hsub2) x1 hbw, (fun b hb => by rcases List.mem_or_eq_of_mem_set hb with h | rfl; exact hsm b h; omega), fun x hx => hsub2 x (hsub x hx), hk2.trans hlast⟩ (by simp only; omega) (by repeat (first | exact keep_nil | refine keep_cons rfl ?_)) entA)); (· intro hz; have hk : Ab.kept stay torn cut i b5 = none := (by rw [hk0, if_pos (by omega)]); (refine go ?_); (refine K_again ih (i + 1, sureL1, arrs1, S1) rfl ⟨by simp only; omega, hsl1, hsB, hsm, hsub, (rlasts_none hy hk S1).trans hlast⟩ (by simp only; omega) (by repeat (first | exact keep_nil | refine keep_cons rfl ?_)) entA)))
        · intro htorn
          have htorn : (i : Int) ≠ torn := htorn
          have hk : Ab.kept stay torn cut i b5 = none := by rw [kept_else htorn, htd]; rfl
          (refine go ?_)
          (refine K_again ih (i + 1, sureL1, arrs1, S1) rfl ⟨by simp only; omega, hsl1, hsB, hsm, hsub, (rlasts_none hy hk S1).trans hlast⟩ (by simp only; omega) (by repeat (first | exact keep_nil | refine keep_cons rfl ?_)) entA)
  · intro hge
    simp only at hge
    have hiw : i = wl.length := by omega
    subst hiw
    have hS1 : S1 = RM.lasts stay torn cut 0 m.wr m.sure := by rw [← hlast, List.drop_of_length_le (by omega)]; rfl
    have hS1l : S1.length = nowL.length := by have := hsB.1; omega
    refine K_shape 3 rfl ?_
    rintro na nc rfl
    (refine go ?_)
    refine K_loop (fun s : Nat × List Value × List (List UInt8) => s.1 ≤ nowL.length ∧ s.2.1.length = nowL.length ∧ All2 (fun v b => BIn arrs1 v b) s.2.1 s.2.2 ∧ s.2.2.take s.1 = S1.take s.1) (fun s => nowL.length - s.1)
      (fun s => [(0, ptr br), (14, .int .i64 s.1)])
      (fun s => pts br (cl [.int .i64 room, .slice na nowL.length nc, .slice ua nowL.length uc, .slice la l2.length lc, .slice (some ⟨b0, 0, none⟩) 1 1, .slice wa wl.length wc, nxt, .bool down] 61) :: arrS 5 arrs1 :: arrS 111 nrows ::
        slc 40 1 (.slice na nowL.length nc) nowL.length s.2.1 :: slc 40 1 (.slice ua nowL.length uc) nowL.length sureL1 :: slc 58 1 (.slice (some ⟨b0, 0, none⟩) 1 1) 1 [.slice la l2.length lc] :: slc 83 3 (.slice wa wl.length wc) wl.length (wl.flatMap wcell) :: X :: F)
      (0, nowL, m.now) ⟨Nat.zero_le _, rfl, hR.now.mono fun v b h => BIn.mono h hsub, by simp⟩ rfl (by repeat (first | exact keep_nil | refine keep_cons rfl ?_)) entA ?_
    rintro ⟨i, nowL1, N1⟩ ⟨hi2, hnl1, hnB, hN⟩ ih2
    simp only at hi2 hnl1 hnB hN
    (refine go ?_)
    refine K_condP rfl rfl ?_ ?_
    · intro hlt
      simp only at hlt
      have hi' : i < nowL.length := by omega
      refine K_slcVw 4 rfl ?_
      intro hvu
      obtain ⟨ub, uo, uc', hus⟩ := hvu.some (by rw [← List.length_pos_iff]; omega)
      simp only [Value.slice.injEq, true_and] at hus
      obtain ⟨rfl, rfl⟩ := hus
      refine K_slcVw 3 rfl ?_
      intro hvn
      simp only at hvn
      obtain ⟨nb, no, nc', hns⟩ := hvn.some (by rw [← List.length_pos_iff]; omega)
      simp only [Value.slice.injEq, true_and] at hns
      obtain ⟨rfl, rfl⟩ := hns
      obtain ⟨sv, hsv⟩ : ∃ v, sureL1[i]? = some v := ⟨sureL1[i]'(by omega), by simp⟩
      obtain ⟨sbs, hsbm, hsbs⟩ := hsB.left hsv
      obtain ⟨va, vc, rfl, _⟩ := hsbs.shape
      refine K_drawA (fun w => Sat G w ([pts br (cl [.int .i64 room, .slice (some ⟨nb, no, none⟩) nowL.length nc, .slice (some ⟨ub, uo, none⟩) nowL.length uc, .slice la l2.length lc, .slice (some ⟨b0, 0, none⟩) 1 1, .slice wa wl.length wc, nxt, .bool down] 61), slc 40 1 (.slice (some ⟨ub, uo, none⟩) nowL.length uc) nowL.length sureL1])) (.st 0 (.st 1 (.st 2 (.st 3 (.st 4 (.st 5 (.st 6 (.st 7 (.st 8 (.st 9 (.st 10 (.st 11 (.st 12 (.act 13 .nil)))))))))))))) rfl (by kernel_rfl) (by kernel_rfl) (by kernel_rfl) (fun w hw => hw.ent entA) ?_
      (refine go ?_)
      refine J_at1 (U := tab) i rfl rfl rfl rfl rfl rfl rfl rfl hi' ?_
      refine J_loadAtS (U := tab) 1 i rfl rfl rfl hvu rfl hsv rfl rfl ?_
      (refine go ?_)
      refine J_at1 (U := tab) i rfl rfl rfl rfl rfl rfl rfl rfl hi' ?_
      refine J_storeSlc (U := tab) (q := i) 3 (fun _ _ => trivial) rfl rfl rfl rfl rfl rfl rfl hi' rfl ?_
      (refine go ?_)
      have hN2 : (N1.set i sbs).take (i + 1) = S1.take (i + 1) := by
        have hl : N1.length = nowL.length := by have := hnB.1; omega
        rw [List.take_add_one, List.take_add_one, List.take_set_of_le (Nat.le_refl _), hN, List.getElem?_set_self (by omega), hsbm]
      refine K_again ih2 (i + 1, nowL1.set i (Value.slice va sbs.length vc), N1.set i sbs) rfl ⟨by simp only; omega, by simp only [List.length_set]; exact hnl1, All2.set hnB i hsbs, hN2⟩ (by simp only; omega) (by repeat (first | exact keep_nil | refine keep_cons rfl ?_)) entA
    · intro hge2
      simp only at hge2
      have hin : i = nowL.length := by omega
      subst hin
      have hNe : N1 = S1 := by
        have := hnB.1
        rw [List.take_of_length_le (by omega), List.take_of_length_le (by omega)] at hN
        exact hN
      subst hNe
      (refine go ?_)
      refine K_ent (slc_lift 83 3 none _) ?_
      refine K_ent (Ent.pick [1, 2, 3, 4, 5, 6, 0] rfl) ?_
      have hR2 : RR ⟨room, Value.slice na nowL.length nc, Value.slice ua nowL.length uc, Value.slice la l2.length lc, Value.slice (some ⟨b0, 0, none⟩) 1 1, Value.slice none 0 0, Value.slice none 0 0, false, nowL1, sureL1, [Value.slice la l2.length lc], [], arrs1, nrows⟩ (m.crash last stay torn cut) := by
        refine ⟨hR.room, rfl, BIn.nil _ _ _, ?_, ?_, ?_, ?_, All2.nil⟩
        · show All2 _ nowL1 (RM.lasts stay torn cut 0 m.wr m.sure); rw [← hS1]; exact hnB
        · show All2 _ sureL1 (RM.lasts stay torn cut 0 m.wr m.sure); rw [← hS1]; exact hsB
        · show RIn nrows 2 _ (RM.pick m.sts last).length ((RM.pick m.sts last).flatMap ncell); rw [hpick]; exact hl2
        · show All2 _ _ [RM.pick m.sts last]; rw [hpick]; exact All2.one hl2
      have hcl := rd_c br room (Value.slice na nowL.length nc) (Value.slice ua nowL.length uc) (Value.slice la l2.length lc) (Value.slice (some ⟨b0, 0, none⟩) 1 1) (Value.slice none 0 0) (Value.slice none 0 0) false nowL1 sureL1 [Value.slice la l2.length lc] [] arrs1 nrows
      rw [hnl1, hsl1] at hcl
      refine K_ent (hcl _) ?_
      (first | refine K_return hE Tryz.func12 rfl _ rfl ⟨_, hR2, rfl⟩ entA | refine K_fallEnd hE Tryz.func12 rfl _ rfl ⟨_, hR2, rfl⟩ entA)
end Go.Proofs.YtpdmbmnhgcnelaaGreat

/- the program's journal: Compact. -/
set_option linter.unusedVariables false
set_option linter.unusedSimpArgs false
namespace Go.Proofs.YtpdmbmnhgcnelaaGreat
open Go Go.SL
attribute [local irreducible] J K Ctr Ends pts slc mapR mapI sbRow stock arrS loopP CtrY diskA LI listH rdM

set_option maxRecDepth 20000 in
theorem Compact_any (jb bd : Nat) (name : ByteArray) (hname : name.size ≤ 1000000000) (A : Ab) (x : JN) (V : HP) (lv : Value) (ls : List (List UInt8)) (hv : LAt V lv ls) (hl : (ls.flatMap encL).length ≤ 100000000) (hn : ls.length ≤ 1000000000) (hst : A.states.length ≤ 900000000) (hwr : A.writes.length ≤ 900000000) :
    Ctr Tryz.prog 35 [ptr jb, lv] [diskA bd A, jrN jb bd name x, V]
      (fun r H => ∃ (e : Nat) (A' : Ab) (x' : JN), r = .int .i64 (e : Int) ∧ H = [diskA bd A', jrN jb bd name x', V] ∧ CompactR name A x ls e A' x') := by
  obtain ⟨n, s, c, bk⟩ := x
  have hv0 := hv
  obtain ⟨cs, hvw, hcl, ⟨a, cc, rfl, hcc⟩, hel⟩ := hv
  dsimp only [jrN, jr]
  refine Ctr.enter Tryz.func35 (by kernel_rfl) rfl Tryz.ntmps35 rfl rfl ?_
  intro G F R hE
  unfold CompactR at hE
  cases bk with
  | true =>
    simp only [if_true] at hE
    (refine go ?_)
    (first | refine K_return hE Tryz.func35 rfl _ rfl ⟨10, _, ⟨n, s, c, true⟩, rfl, rfl, rfl, rfl, rfl⟩ entA | refine K_fallEnd hE Tryz.func35 rfl _ rfl ⟨10, _, ⟨n, s, c, true⟩, rfl, rfl, rfl, rfl, rfl⟩ entA)
  | false =>
    simp only [Bool.false_eq_true, if_false] at hE
    (refine go ?_)
    refine K_loop (fun i : Nat => i ≤ ls.length ∧ ∀ (j : Nat) (y : List UInt8), j < i → ls[j]? = some y → y.length ≤ 4096) (fun i => ls.length - i)
      (fun i => [(0, ptr jb), (0 + 1, .slice a ls.length cc), (5, .int .i64 (((ls.take i).flatMap encL).length : Int)), (12, .slice a ls.length cc), (13, .int .i64 ls.length), (14, .int .i64 (i : Int))])
      (fun _ => diskA bd A :: pts jb (cl [ptr bd, .string name, .int .i64 n, .int .i64 s, .int .i64 c, .bool false] 72) :: V :: F) 0 ⟨Nat.zero_le _, fun j y hj => by omega⟩ rfl (by repeat (first | exact keep_nil | refine keep_cons rfl ?_)) entA ?_
    rintro i ⟨hi, hsm⟩ ih
    (refine go ?_)
    refine K_condP rfl rfl ?_ ?_
    case' refine_1 =>
      intro hlt
      have hi1 : i < ls.length := by omega
      obtain ⟨y, hy⟩ : ∃ y, ls[i]? = some y := ⟨ls[i], by simp⟩
      obtain ⟨cv, hcv, hby⟩ := hel i y hy
      obtain ⟨b1, o1, k1, hs1⟩ := hvw.some (by intro e; rw [e] at hcv; simp at hcv)
      simp only [Value.slice.injEq, true_and] at hs1
      obtain ⟨rfl, rfl⟩ := hs1
      obtain ⟨ay, ky, rfl, hky⟩ := hby.2
      have hft := flatT_take hy
      have hfl : ((ls.take (i + 1)).flatMap encL).length = ((ls.take i).flatMap encL).length + (encL y).length := by rw [hft, List.length_append]
      have hle := flatT_le ls (i + 1)
      (refine go ?_)
      refine J_at1 (U := tab) i rfl rfl rfl rfl rfl rfl rfl rfl hi1 ?_
      refine J_loadAt (U := tab) 2 i rfl rfl rfl hvw rfl hcv rfl rfl ?_
      (refine go ?_)
      refine K_condP rfl rfl ?_ ?_
      · intro hbig
        have hany : (ls.any fun b => decide (4096 < b.length)) = true := List.any_eq_true.2 ⟨y, List.mem_of_getElem? hy, decide_eq_true (by omega)⟩
        simp only [if_pos hany] at hE
        (refine go ?_)
        (first | refine K_return hE Tryz.func35 rfl _ rfl ⟨1, _, ⟨n, s, c, false⟩, rfl, rfl, rfl, rfl, rfl⟩ entA | refine K_fallEnd hE Tryz.func35 rfl _ rfl ⟨1, _, ⟨n, s, c, false⟩, rfl, rfl, rfl, rfl, rfl⟩ entA)
      intro hok
      have hexl := encL_len y (by omega)
      (refine go ?_)
      (first | refine J_callE rfl rfl rfl rfl (encoded_any V _ y hby (by omega)) entA ?_ (fun _ _ _ _ _ => trivial) | refine J_call0E rfl rfl rfl (encoded_any V _ y hby (by omega)) entA ?_ (fun _ _ _ _ _ => trivial) | (refine go ?_; first | refine J_callE rfl rfl rfl rfl (encoded_any V _ y hby (by omega)) entA ?_ (fun _ _ _ _ _ => trivial) | refine J_call0E rfl rfl rfl (encoded_any V _ y hby (by omega)) entA ?_ (fun _ _ _ _ _ => trivial)))
      rintro r _ rfl
      (first | refine J_shape 0 rfl ?_ | refine K_shape 0 rfl ?_)
      rintro ra rc rfl
      (refine go ?_)
      (first | refine J_slot 5 ((.int .i64 (((ls.take (i + 1)).flatMap encL).length : Int))) rfl ((congrArg (Value.int .i64) (by rw [hfl]; simp))) ?_ | refine K_slot 5 ((.int .i64 (((ls.take (i + 1)).flatMap encL).length : Int))) rfl ((congrArg (Value.int .i64) (by rw [hfl]; simp))) ?_)
      (refine go ?_)
      refine K_again ih (i + 1) rfl (⟨by omega, fun j z hj hz => by
        rcases Nat.lt_or_ge j i with h | h
        · exact hsm j z h hz
        · have : j = i := by omega
          subst this
          rw [hy] at hz; cases hz; omega⟩) (by omega) (by repeat (first | exact keep_nil | refine keep_cons rfl ?_)) entA
    intro hge
    have hie : i = ls.length := by omega
    subst hie
    rw [List.take_length]
    have hany : ¬ (ls.any fun b => decide (4096 < b.length)) = true := fun h => by
      obtain ⟨y, hy, hb⟩ := List.any_eq_true.1 h
      obtain ⟨j, hj, rfl⟩ := List.getElem_of_mem hy
      have := hsm j _ (by omega) (List.getElem?_eq_getElem hj)
      simp at hb; omega
    simp only [if_neg hany] at hE
    (refine go ?_)
    refine K_condP rfl rfl ?_ ?_
    · intro hbig
      have hb2 : 524288 < (ls.flatMap encL).length := by omega
      simp only [if_pos hb2] at hE
      (refine go ?_)
      (first | refine K_return hE Tryz.func35 rfl _ rfl ⟨3, _, ⟨n, s, c, false⟩, rfl, rfl, rfl, rfl, rfl⟩ entA | refine K_fallEnd hE Tryz.func35 rfl _ rfl ⟨3, _, ⟨n, s, c, false⟩, rfl, rfl, rfl, rfl, rfl⟩ entA)
    intro hok
    have hb2 : ¬ 524288 < (ls.flatMap encL).length := by omega
    simp only [if_neg hb2] at hE
    (refine go ?_)
    (first | refine J_callE rfl rfl rfl rfl (put_any jb bd name n s c false A V _ ls hv0 (by omega) hn hname hst hwr) entA ?_ (fun _ _ _ _ _ => trivial) | refine J_call0E rfl rfl rfl (put_any jb bd name n s c false A V _ ls hv0 (by omega) hn hname hst hwr) entA ?_ (fun _ _ _ _ _ => trivial) | (refine go ?_; first | refine J_callE rfl rfl rfl rfl (put_any jb bd name n s c false A V _ ls hv0 (by omega) hn hname hst hwr) entA ?_ (fun _ _ _ _ _ => trivial) | refine J_call0E rfl rfl rfl (put_any jb bd name n s c false A V _ ls hv0 (by omega) hn hname hst hwr) entA ?_ (fun _ _ _ _ _ => trivial)))
    rintro _ _ ⟨e, ⟨A', n', s', c'⟩, rfl, rfl, hput⟩
    (refine go ?_)
    (first | refine J_callE rfl rfl rfl rfl (breaks_any jb bd name n' s' c' false e) entA ?_ (fun _ _ _ _ _ => trivial) | refine J_call0E rfl rfl rfl (breaks_any jb bd name n' s' c' false e) entA ?_ (fun _ _ _ _ _ => trivial) | (refine go ?_; first | refine J_callE rfl rfl rfl rfl (breaks_any jb bd name n' s' c' false e) entA ?_ (fun _ _ _ _ _ => trivial) | refine J_call0E rfl rfl rfl (breaks_any jb bd name n' s' c' false e) entA ?_ (fun _ _ _ _ _ => trivial)))
    rintro _ _ ⟨rfl, rfl⟩
    (refine go ?_)
    (first | refine K_return hE Tryz.func35 rfl _ rfl ⟨e, A', ⟨n', s', c', decide (e ≠ 0)⟩, rfl, rfl, _, hput, rfl, rfl⟩ entA | refine K_fallEnd hE Tryz.func35 rfl _ rfl ⟨e, A', ⟨n', s', c', decide (e ≠ 0)⟩, rfl, rfl, _, hput, rfl, rfl⟩ entA)
end Go.Proofs.YtpdmbmnhgcnelaaGreat

/- journal scripts: a step of both; the walk. -/
set_option linter.unusedVariables false
set_option linter.unusedSimpArgs false
namespace Go.Proofs.YtpdmbmnhgcnelaaGreat
open Go Go.SL
attribute [local irreducible] J K Ctr Ends pts slc mapR mapI sbRow stock arrS loopP CtrY diskA LI listH rdM
/-- Both journals' numbers. -/
def JOk (x : JN) : Prop := 0 ≤ x.n ∧ 0 ≤ x.s ∧ x.s ≤ 1000000000
theorem Crash_rM (br k : Nat) (m : RM) (hM : MOk m k) (last torn cut : Int) (X : HP) (bv : Value) (stay : List UInt8) (hv : Vw X bv stay.length (bV stay)) (hsl : stay.length ≤ 9223372036854775807)
    (h1 : -9223372036854775808 ≤ last ∧ last ≤ 9223372036854775807) (h2 : -9223372036854775808 ≤ torn ∧ torn ≤ 9223372036854775807) (h3 : -9223372036854775808 ≤ cut ∧ cut ≤ 9223372036854775807) :
    Ctr Tryz.prog 12 [ptr br, .int .i64 last, bv, .int .i64 torn, .int .i64 cut] [rdM br m, X] (fun v H => H = [rdM br (m.crash last stay torn cut), X]) :=
  ctr_rd (by kernel_rfl) (fun D hR => mCrash_any br k D m hR hM last torn cut X bv stay hv hsl h1 h2 h3) (by rintro v H ⟨D', hR, rfl⟩; exact ⟨_, rfl, rdM_in hR _⟩)
theorem JOk.append {m : RM} {x : JN} (h : JOk x) (name : ByteArray) (b : List UInt8) : JOk (m.appendJ name x b).2.2 := by
  obtain ⟨h1, h2, h3⟩ := h
  unfold RM.appendJ
  split
  · exact ⟨h1, h2, h3⟩
  split
  · exact ⟨h1, h2, h3⟩
  split
  · exact ⟨h1, h2, h3⟩
  split
  · exact ⟨h1, by simp only; omega, by simp only; omega⟩
  · exact ⟨h1, h2, h3⟩
theorem JOk.commit {m : RM} {x : JN} (h : JOk x) (name : ByteArray) : JOk (m.commitJ name x).2.2 := by
  obtain ⟨h1, h2, h3⟩ := h
  unfold RM.commitJ
  split
  · exact ⟨h1, h2, h3⟩
  split
  · exact ⟨h1, h2, h3⟩
  split
  · exact ⟨h1, h2, h3⟩
  simp only
  split
  · exact ⟨by simp only; omega, h2, h3⟩
  · exact ⟨h1, h2, h3⟩
theorem JOk.compact {m : RM} {x : JN} (h : JOk x) (name : ByteArray) (ls : List (List UInt8)) : JOk (m.compactJ name x ls).2.2 := by
  obtain ⟨h1, h2, h3⟩ := h
  unfold RM.compactJ
  split
  · exact ⟨h1, h2, h3⟩
  split
  · exact ⟨h1, h2, h3⟩
  split
  · exact ⟨h1, h2, h3⟩
  simp only
  split
  · exact ⟨by simp only; omega, by simp only; omega, by simp only; omega⟩
  · exact ⟨h1, h2, h3⟩
theorem flat_small {ls : List (List UInt8)} (h1 : ls.length ≤ 40) (h2 : ∀ x ∈ ls, x.length ≤ 6000) : (ls.flatMap encL).length ≤ 100000000 := by
  have : ∀ (l : List (List UInt8)), (∀ x ∈ l, x.length ≤ 6000) → (l.flatMap encL).length ≤ 6010 * l.length := by
    intro l
    induction l with
    | nil => intro _; simp
    | cons x l ih =>
      intro h
      have h3 := ih fun y hy => h y (List.mem_cons_of_mem _ hy)
      have h4 := h x (List.mem_cons_self ..)
      have h5 := encL_len x (by omega)
      rw [List.flatMap_cons, List.length_append, List.length_cons]
      omega
  have := this ls h2
  omega

set_option maxRecDepth 20000 in
theorem do_any (bd br jb xb k : Nat) (A : Ab) (m : RM) (hS : Sim A m) (hO : OrdM m) (hM : MOk m k) (hk : k + 6 ≤ 100000) (x : JN) (hx : JOk x) (X : HP) (s : ST) (hs : STok X s) (hsm : Small s) :
    Ctr Tryz.prog 13 [ptr bd, ptr br, ptr jb, ptr xb, .agg (stC s).toArray] [diskA bd A, rdM br m, jrN jb bd nmJ x, rjH xb br nmJ x, X]
      (fun r H => r = .bool true ∧ ∃ (A' : Ab) (m' : RM) (x' : JN), Sim A' m' ∧ OrdM m' ∧ MOk m' (k + 6) ∧ JOk x' ∧ H = [diskA bd A', rdM br m', jrN jb bd nmJ x', rjH xb br nmJ x', X]) := by
  obtain ⟨sd, sba, sbc, sb, sla, slc', sl, sn, sk, scut⟩ := s
  obtain ⟨hd, hn, hkk, hct, hb, hl, hbl, hll, hle⟩ := hs
  obtain ⟨hs1, hs2, hs3⟩ := hsm
  simp only at hd hn hb hl hbl hll hle hs1 hs2 hs3
  obtain ⟨hx1, hx2, hx3⟩ := hx
  obtain ⟨hbs, hbw⟩ := hS.bnd hM
  have hkb := hM.kk
  have hM6 := hM.up (k' := k + 6) (by omega) hk
  refine Ctr.enter Tryz.func13 (by kernel_rfl) rfl Tryz.ntmps13 rfl rfl ?_
  intro G F R hE
  (refine go ?_)
  refine J_box rfl rfl (fun _ _ _ => trivial) ?_
  intro b9
  (refine go ?_)
  by_cases h0 : sd = 0
  · subst h0
    (refine go ?_)
    (first | refine J_callE rfl rfl rfl rfl (Append_any jb bd nmJ A x X _ sb hb hbl ⟨hx2, hx3⟩ (by omega)) entA ?_ (fun _ _ _ _ _ => trivial) | refine J_call0E rfl rfl rfl (Append_any jb bd nmJ A x X _ sb hb hbl ⟨hx2, hx3⟩ (by omega)) entA ?_ (fun _ _ _ _ _ => trivial) | (refine go ?_; first | refine J_callE rfl rfl rfl rfl (Append_any jb bd nmJ A x X _ sb hb hbl ⟨hx2, hx3⟩ (by omega)) entA ?_ (fun _ _ _ _ _ => trivial) | refine J_call0E rfl rfl rfl (Append_any jb bd nmJ A x X _ sb hb hbl ⟨hx2, hx3⟩ (by omega)) entA ?_ (fun _ _ _ _ _ => trivial)))
    rintro _ _ ⟨rfl, rfl⟩
    (refine go ?_)
    (first | refine J_callE rfl rfl rfl rfl (refAppend_any xb br k nmJ (by decide) m hM x X _ sb hb hbl ⟨hx2, hx3⟩) entA ?_ (fun _ _ _ _ _ => trivial) | refine J_call0E rfl rfl rfl (refAppend_any xb br k nmJ (by decide) m hM x X _ sb hb hbl ⟨hx2, hx3⟩) entA ?_ (fun _ _ _ _ _ => trivial) | (refine go ?_; first | refine J_callE rfl rfl rfl rfl (refAppend_any xb br k nmJ (by decide) m hM x X _ sb hb hbl ⟨hx2, hx3⟩) entA ?_ (fun _ _ _ _ _ => trivial) | refine J_call0E rfl rfl rfl (refAppend_any xb br k nmJ (by decide) m hM x X _ sb hb hbl ⟨hx2, hx3⟩) entA ?_ (fun _ _ _ _ _ => trivial)))
    rintro _ _ ⟨rfl, rfl⟩
    obtain ⟨e1, e2, e3⟩ := hS.appendJ nmJ x sb
    have hj := JOk.append (m := m) ⟨hx1, hx2, hx3⟩ nmJ sb
    rw [e1, e3]
    (refine go ?_)
    (first | refine J_slot 10 ((.bool true)) rfl ((congrArg Value.bool (by simp))) ?_ | refine K_slot 10 ((.bool true)) rfl ((congrArg Value.bool (by simp))) ?_)
    (refine go ?_)
    (first | refine K_return hE Tryz.func13 rfl _ rfl ⟨rfl, _, _, _, e2, hO.appendJ nmJ x sb, (hM.appendJ (by omega) nmJ x sb).up (by omega) hk, hj, rfl⟩ entA | refine K_fallEnd hE Tryz.func13 rfl _ rfl ⟨rfl, _, _, _, e2, hO.appendJ nmJ x sb, (hM.appendJ (by omega) nmJ x sb).up (by omega) hk, hj, rfl⟩ entA)
  by_cases h1 : sd = 1
  · subst h1
    (refine go ?_)
    (first | refine J_callE rfl rfl rfl rfl (Commit_any jb bd nmJ A x hx1 ⟨hx2, hx3⟩ (by omega) (by omega)) entA ?_ (fun _ _ _ _ _ => trivial) | refine J_call0E rfl rfl rfl (Commit_any jb bd nmJ A x hx1 ⟨hx2, hx3⟩ (by omega) (by omega)) entA ?_ (fun _ _ _ _ _ => trivial) | (refine go ?_; first | refine J_callE rfl rfl rfl rfl (Commit_any jb bd nmJ A x hx1 ⟨hx2, hx3⟩ (by omega) (by omega)) entA ?_ (fun _ _ _ _ _ => trivial) | refine J_call0E rfl rfl rfl (Commit_any jb bd nmJ A x hx1 ⟨hx2, hx3⟩ (by omega) (by omega)) entA ?_ (fun _ _ _ _ _ => trivial)))
    rintro _ _ ⟨e, A', x', rfl, rfl, hc⟩
    obtain ⟨rfl, e2, rfl⟩ := hS.commitJ hc
    (refine go ?_)
    (first | refine J_callE rfl rfl rfl rfl (refCommit_any xb br k nmJ (by decide) m hM (by omega) x ⟨hx2, hx3⟩ hx1) entA ?_ (fun _ _ _ _ _ => trivial) | refine J_call0E rfl rfl rfl (refCommit_any xb br k nmJ (by decide) m hM (by omega) x ⟨hx2, hx3⟩ hx1) entA ?_ (fun _ _ _ _ _ => trivial) | (refine go ?_; first | refine J_callE rfl rfl rfl rfl (refCommit_any xb br k nmJ (by decide) m hM (by omega) x ⟨hx2, hx3⟩ hx1) entA ?_ (fun _ _ _ _ _ => trivial) | refine J_call0E rfl rfl rfl (refCommit_any xb br k nmJ (by decide) m hM (by omega) x ⟨hx2, hx3⟩ hx1) entA ?_ (fun _ _ _ _ _ => trivial)))
    rintro _ _ ⟨rfl, rfl⟩
    have hj := JOk.commit (m := m) ⟨hx1, hx2, hx3⟩ nmJ
    (refine go ?_)
    (first | refine J_slot 10 ((.bool true)) rfl ((congrArg Value.bool (by simp))) ?_ | refine K_slot 10 ((.bool true)) rfl ((congrArg Value.bool (by simp))) ?_)
    (refine go ?_)
    (first | refine K_return hE Tryz.func13 rfl _ rfl ⟨rfl, _, _, _, e2, hO.commitJ nmJ x, (hM.commitJ (by omega) nmJ x).up (by omega) hk, hj, rfl⟩ entA | refine K_fallEnd hE Tryz.func13 rfl _ rfl ⟨rfl, _, _, _, e2, hO.commitJ nmJ x, (hM.commitJ (by omega) nmJ x).up (by omega) hk, hj, rfl⟩ entA)
  by_cases h2 : sd = 2
  · subst h2
    (refine go ?_)
    have hfl := flat_small hs2 hs3
    (first | refine J_callE rfl rfl rfl rfl (Compact_any jb bd nmJ (by decide) A x X _ sl hl hfl (by omega) (by omega) (by omega)) entA ?_ (fun _ _ _ _ _ => trivial) | refine J_call0E rfl rfl rfl (Compact_any jb bd nmJ (by decide) A x X _ sl hl hfl (by omega) (by omega) (by omega)) entA ?_ (fun _ _ _ _ _ => trivial) | (refine go ?_; first | refine J_callE rfl rfl rfl rfl (Compact_any jb bd nmJ (by decide) A x X _ sl hl hfl (by omega) (by omega) (by omega)) entA ?_ (fun _ _ _ _ _ => trivial) | refine J_call0E rfl rfl rfl (Compact_any jb bd nmJ (by decide) A x X _ sl hl hfl (by omega) (by omega) (by omega)) entA ?_ (fun _ _ _ _ _ => trivial)))
    rintro _ _ ⟨e, A', x', rfl, rfl, hc⟩
    obtain ⟨rfl, e2, rfl⟩ := hS.compactJ hc
    (refine go ?_)
    (first | refine J_callE rfl rfl rfl rfl (refCompact_any xb br k nmJ (by decide) m hM (by omega) x X _ sl hl hfl (by omega)) entA ?_ (fun _ _ _ _ _ => trivial) | refine J_call0E rfl rfl rfl (refCompact_any xb br k nmJ (by decide) m hM (by omega) x X _ sl hl hfl (by omega)) entA ?_ (fun _ _ _ _ _ => trivial) | (refine go ?_; first | refine J_callE rfl rfl rfl rfl (refCompact_any xb br k nmJ (by decide) m hM (by omega) x X _ sl hl hfl (by omega)) entA ?_ (fun _ _ _ _ _ => trivial) | refine J_call0E rfl rfl rfl (refCompact_any xb br k nmJ (by decide) m hM (by omega) x X _ sl hl hfl (by omega)) entA ?_ (fun _ _ _ _ _ => trivial)))
    rintro _ _ ⟨rfl, rfl⟩
    have hj := JOk.compact (m := m) ⟨hx1, hx2, hx3⟩ nmJ sl
    (refine go ?_)
    (first | refine J_slot 10 ((.bool true)) rfl ((congrArg Value.bool (by simp))) ?_ | refine K_slot 10 ((.bool true)) rfl ((congrArg Value.bool (by simp))) ?_)
    (refine go ?_)
    (first | refine K_return hE Tryz.func13 rfl _ rfl ⟨rfl, _, _, _, e2, hO.compactJ nmJ x sl, (hM.compactJ (by omega) nmJ x sl).up (by omega) hk, hj, rfl⟩ entA | refine K_fallEnd hE Tryz.func13 rfl _ rfl ⟨rfl, _, _, _, e2, hO.compactJ nmJ x sl, (hM.compactJ (by omega) nmJ x sl).up (by omega) hk, hj, rfl⟩ entA)
  by_cases h3 : sd = 3
  · subst h3
    (refine go ?_)
    (first | refine J_callE rfl rfl rfl rfl (Plan_dA bd A X _ sb hb.1 (by omega)) entA ?_ (fun _ _ _ _ _ => trivial) | refine J_call0E rfl rfl rfl (Plan_dA bd A X _ sb hb.1 (by omega)) entA ?_ (fun _ _ _ _ _ => trivial) | (refine go ?_; first | refine J_callE rfl rfl rfl rfl (Plan_dA bd A X _ sb hb.1 (by omega)) entA ?_ (fun _ _ _ _ _ => trivial) | refine J_call0E rfl rfl rfl (Plan_dA bd A X _ sb hb.1 (by omega)) entA ?_ (fun _ _ _ _ _ => trivial)))
    rintro _ _ ⟨rfl, rfl⟩
    (refine go ?_)
    (first | refine J_callE rfl rfl rfl rfl (Plan_rM br m X _ sb hb.1 (by omega)) entA ?_ (fun _ _ _ _ _ => trivial) | refine J_call0E rfl rfl rfl (Plan_rM br m X _ sb hb.1 (by omega)) entA ?_ (fun _ _ _ _ _ => trivial) | (refine go ?_; first | refine J_callE rfl rfl rfl rfl (Plan_rM br m X _ sb hb.1 (by omega)) entA ?_ (fun _ _ _ _ _ => trivial) | refine J_call0E rfl rfl rfl (Plan_rM br m X _ sb hb.1 (by omega)) entA ?_ (fun _ _ _ _ _ => trivial)))
    rintro _ _ ⟨rfl, rfl⟩
    (refine go ?_)
    (first | refine K_return hE Tryz.func13 rfl _ rfl ⟨rfl, _, _, _, hS.plan sb, hO.of rfl rfl, hM6.plan sb, ⟨hx1, hx2, hx3⟩, rfl⟩ entA | refine K_fallEnd hE Tryz.func13 rfl _ rfl ⟨rfl, _, _, _, hS.plan sb, hO.of rfl rfl, hM6.plan sb, ⟨hx1, hx2, hx3⟩, rfl⟩ entA)
  by_cases h5 : sd = 5
  · subst h5
    (refine go ?_)
    have hw := hS.write (mayW nmJ sn sb) nmJ sn.toNat sb
    have hM1 := hM.write (by omega) (mayW nmJ sn sb) nmJ sn.toNat sb (fun h => by rw [mayW_wOk] at h; exact wOk_bound h)
    have hwd := Write_dA bd A nmJ sn X _ sb hb.1 (by omega) (by omega) hn
    have hwr := Write_rM br k m hM nmJ (by decide) sn hn X _ sb hb.1 (by omega)
    rw [← mayW_wOk] at hwr
    have hO1 := hO.write (mayW nmJ sn sb) nmJ sn.toNat sb
    obtain ⟨w1, hw1⟩ : ∃ w, w = A.write (mayW nmJ sn sb) nmJ sn.toNat sb := ⟨_, rfl⟩
    obtain ⟨w2, hw2⟩ : ∃ w, w = m.write (mayW nmJ sn sb) nmJ sn.toNat sb := ⟨_, rfl⟩
    rw [← hw1] at hwd hw
    rw [← hw2] at hwr hM1 hO1 hw
    obtain ⟨he, hS1⟩ := hw
    (first | refine J_callE rfl rfl rfl rfl (hwd) entA ?_ (fun _ _ _ _ _ => trivial) | refine J_call0E rfl rfl rfl (hwd) entA ?_ (fun _ _ _ _ _ => trivial) | (refine go ?_; first | refine J_callE rfl rfl rfl rfl (hwd) entA ?_ (fun _ _ _ _ _ => trivial) | refine J_call0E rfl rfl rfl (hwd) entA ?_ (fun _ _ _ _ _ => trivial)))
    rintro _ _ ⟨rfl, rfl⟩
    (refine go ?_)
    (first | refine J_callE rfl rfl rfl rfl (hwr) entA ?_ (fun _ _ _ _ _ => trivial) | refine J_call0E rfl rfl rfl (hwr) entA ?_ (fun _ _ _ _ _ => trivial) | (refine go ?_; first | refine J_callE rfl rfl rfl rfl (hwr) entA ?_ (fun _ _ _ _ _ => trivial) | refine J_call0E rfl rfl rfl (hwr) entA ?_ (fun _ _ _ _ _ => trivial)))
    rintro _ _ ⟨rfl, rfl⟩
    obtain ⟨hb1, hb2⟩ := hS1.bnd hM1
    have hsy := hS1.sync (isName nmJ) nmJ
    (refine go ?_)
    (first | refine J_callE rfl rfl rfl rfl (Sync_dA bd w1.2 nmJ (by omega)) entA ?_ (fun _ _ _ _ _ => trivial) | refine J_call0E rfl rfl rfl (Sync_dA bd w1.2 nmJ (by omega)) entA ?_ (fun _ _ _ _ _ => trivial) | (refine go ?_; first | refine J_callE rfl rfl rfl rfl (Sync_dA bd w1.2 nmJ (by omega)) entA ?_ (fun _ _ _ _ _ => trivial) | refine J_call0E rfl rfl rfl (Sync_dA bd w1.2 nmJ (by omega)) entA ?_ (fun _ _ _ _ _ => trivial)))
    rintro _ _ ⟨rfl, rfl⟩
    (refine go ?_)
    (first | refine J_callE rfl rfl rfl rfl (Sync_rM br (k + 1) w2.2 hM1 nmJ (by decide)) entA ?_ (fun _ _ _ _ _ => trivial) | refine J_call0E rfl rfl rfl (Sync_rM br (k + 1) w2.2 hM1 nmJ (by decide)) entA ?_ (fun _ _ _ _ _ => trivial) | (refine go ?_; first | refine J_callE rfl rfl rfl rfl (Sync_rM br (k + 1) w2.2 hM1 nmJ (by decide)) entA ?_ (fun _ _ _ _ _ => trivial) | refine J_call0E rfl rfl rfl (Sync_rM br (k + 1) w2.2 hM1 nmJ (by decide)) entA ?_ (fun _ _ _ _ _ => trivial)))
    rintro _ _ ⟨rfl, rfl⟩
    rw [he]
    (refine go ?_)
    (first | refine J_slot 10 ((.bool true)) rfl ((congrArg Value.bool (by simp))) ?_ | refine K_slot 10 ((.bool true)) rfl ((congrArg Value.bool (by simp))) ?_)
    (refine go ?_)
    (first | refine K_return hE Tryz.func13 rfl _ rfl ⟨rfl, _, _, _, hsy.2, hO1.sync _ _, (hM1.sync _ _).up (by omega) hk, ⟨hx1, hx2, hx3⟩, rfl⟩ entA | refine K_fallEnd hE Tryz.func13 rfl _ rfl ⟨rfl, _, _, _, hsy.2, hO1.sync _ _, (hM1.sync _ _).up (by omega) hk, ⟨hx1, hx2, hx3⟩, rfl⟩ entA)
  repeat' (first | (with_reducible intro _hh) | refine go1 ?_ | refine J_fork ?_ ?_ | refine J_gsP rfl rfl rfl rfl ?_ ?_ | refine K_condP rfl rfl ?_ ?_)
  any_goals (exfalso; simp only at _hh; omega)
  (first | refine K_return hE Tryz.func13 rfl _ rfl ⟨rfl, _, _, _, hS, hO, hM6, ⟨hx1, hx2, hx3⟩, rfl⟩ entA | refine K_fallEnd hE Tryz.func13 rfl _ rfl ⟨rfl, _, _, _, hS, hO, hM6, ⟨hx1, hx2, hx3⟩, rfl⟩ entA)
end Go.Proofs.YtpdmbmnhgcnelaaGreat

/- journal scripts: the walk. -/
set_option linter.unusedVariables false
set_option linter.unusedSimpArgs false
namespace Go.Proofs.YtpdmbmnhgcnelaaGreat
open Go Go.SL
attribute [local irreducible] J K Ctr Ends pts slc mapR mapI sbRow stock arrS loopP CtrY diskA LI listH rdM
/-- A journal behind Open, if it is one. -/
def oo (m : RM) : Option JN := if (m.openJ nmJ).1 = 0 then some ⟨1, (((m.told nmJ).flatMap encL).length : Int), (((m.told nmJ).flatMap encL).length : Int), false⟩ else none
def ll (m : RM) : List (List UInt8) := if (m.openJ nmJ).1 = 0 then m.told nmJ else []
def L1 (bd jb : Nat) : Option JN → List HP
  | none => []
  | some x => [jrN jb bd nmJ x]
def L2 (br xb : Nat) : Option JN → List HP
  | none => []
  | some x => [rjH xb br nmJ x]
def jP (jb : Nat) : Option JN → Value
  | none => .pointer none
  | some _ => ptr jb
theorem Open_u (bd : Nat) (A : Ab) (m : RM) (hS : Sim A m) (hst : A.states.length ≤ 900000000) (hwr : A.writes.length ≤ 900000000) :
    Ctr Tryz.prog 8 [ptr bd, .string nmJ] [diskA bd A] (fun r H => ∃ (A' : Ab) (jb : Nat) (v : Value), Sim A' (m.openJ nmJ).2 ∧ r = .tuple #[jP jb (oo m), v, .int .i64 ((m.openJ nmJ).1 : Int)] ∧ H = [diskA bd A', Sep (L1 bd jb (oo m)), listH v (ll m)]) := by
  refine (Open_any bd nmJ A (by decide) hst hwr).conv (Ent.refl _) ?_
  rintro r H ⟨e, A', x, ho, hp⟩
  obtain ⟨he, hS', hft, hx⟩ := hS.openJ ho
  rw [hft] at hp
  rcases hp with ⟨hne, rfl, rfl⟩ | ⟨h0, jb, lv, rfl, rfl⟩
  · have h1 : oo m = none := if_neg (by rw [← he]; exact hne)
    have h2 : ll m = [] := if_neg (by rw [← he]; exact hne)
    rw [h1, h2, he]
    refine ⟨_, ⟨A', 0, _, hS', rfl, rfl⟩, ?_⟩
    refine (Ent.resep [] _).trans ?_
    refine (slc_lift 40 1 none _).trans ?_
    refine (Ent.trans (arrS_nil 5 _) (Ent.pick [1, 0] rfl)).trans ?_
    refine (listH_in (ls := []) ⟨rfl, fun j y hj => by simp at hj⟩ _).trans ?_
    exact Ent.to [2, 1, 0] 0 rfl rfl rfl
  · have h1 : oo m = some ⟨1, (((m.told nmJ).flatMap encL).length : Int), (((m.told nmJ).flatMap encL).length : Int), false⟩ := if_pos (by rw [← he]; exact h0)
    have h2 : ll m = m.told nmJ := if_pos (by rw [← he]; exact h0)
    rw [h1, h2, ← he, h0]
    have hx := hx h0
    subst hx
    refine ⟨_, ⟨A', jb, lv, hS', rfl, rfl⟩, ?_⟩
    simp only [L1]
    exact (Ent.pick [1] rfl).trans ((Ent.resep [_] _).trans (Ent.to [1, 0, 2] 0 rfl rfl rfl))
theorem refOpen_u (br k : Nat) (m : RM) (hM : MOk m k) (hk : k + 4 ≤ 100000) :
    Ctr Tryz.prog 9 [ptr br, .string nmJ] [rdM br m] (fun r H => ∃ (xb : Nat) (v : Value) (Y : HP), LAt Y v (ll m) ∧ r = .tuple #[jP xb (oo m), v, .int .i64 ((m.openJ nmJ).1 : Int)] ∧ H = [rdM br (m.openJ nmJ).2, Sep (L2 br xb (oo m)), Y]) := by
  refine (refOpen_any br k m hM hk nmJ (by decide)).conv (Ent.refl _) ?_
  rintro r H (⟨hne, rfl, rfl⟩ | ⟨h0, jb, lv, Y, hY, rfl, rfl⟩)
  · have h1 : oo m = none := if_neg hne
    have h2 : ll m = [] := if_neg hne
    rw [h1, h2]
    refine ⟨_, ⟨0, _, Sep [], LAt.nil0 _, rfl, rfl⟩, ?_⟩
    simp only [L2]
    exact (Ent.resep [] _).trans ((Ent.resep [] _).trans (Ent.to [2, 0, 1] 0 rfl rfl rfl))
  · have h1 : oo m = some ⟨1, (((m.told nmJ).flatMap encL).length : Int), (((m.told nmJ).flatMap encL).length : Int), false⟩ := if_pos h0
    have h2 : ll m = m.told nmJ := if_pos h0
    rw [h1, h2, h0]
    refine ⟨_, ⟨jb, lv, Y, hY, rfl, rfl⟩, ?_⟩
    simp only [L2, rjH]
    exact (Ent.pick [1] rfl).trans ((Ent.resep [_] _).trans (Ent.to [1, 0, 2] 0 rfl rfl rfl))
/-- Where both stand. -/
structure WS where
  i : Nat
  A : Ab
  m : RM
  o : Option JN
  jb : Nat
  xb : Nat
  e : Nat
  ls : List (List UInt8)
  v1 : Value
  v2 : Value
  Y1 : HP
  Y2 : HP
structure WOk (l : List ST) (y : WS) : Prop where
  i : y.i ≤ l.length
  i60 : y.i ≤ 60
  sim : Sim y.A y.m
  ord : OrdM y.m
  ok : MOk y.m (10 + 10 * y.i)
  l1 : LAt y.Y1 y.v1 y.ls
  l2 : LAt y.Y2 y.v2 y.ls
  len : y.ls.length ≤ 1000000000
  j : ∀ x, y.o = some x → JOk x
theorem ll_len {m : RM} {k : Nat} (hM : MOk m k) : (ll m).length ≤ 1000000000 := by
  unfold ll
  split
  · have h1 := (recordsA_bound (foundL (m.read nmJ 0 ((m.size nmJ).1 : Int)).1)).2.1
    have h2 := foundL_len (m.read nmJ 0 ((m.size nmJ).1 : Int)).1
    have h3 := RM.read_len hM nmJ 0 ((m.size nmJ).1 : Int)
    unfold RM.told
    omega
  · simp
theorem oo_ok {m : RM} {k : Nat} (hM : MOk m k) : ∀ x, oo m = some x → JOk x := by
  intro x hx
  unfold oo at hx
  split at hx
  · cases hx
    have h1 := (recordsA_bound (foundL (m.read nmJ 0 ((m.size nmJ).1 : Int)).1))
    have h2 := foundL_len (m.read nmJ 0 ((m.size nmJ).1 : Int)).1
    have h3 := RM.read_len hM nmJ 0 ((m.size nmJ).1 : Int)
    refine ⟨by simp only; omega, by simp only; omega, ?_⟩
    show (((m.told nmJ).flatMap encL).length : Int) ≤ _
    unfold RM.told
    omega
  · cases hx

set_option maxHeartbeats 4000000 in
set_option maxRecDepth 20000 in
theorem JournalScripts_any (X : HP) (room : Int) (hr : -9223372036854775808 ≤ room ∧ room ≤ 9223372036854775807) (v : Value) (l : List ST) (hv : StepsIn X v l) :
    Ctr Tryz.prog 3 [.int .i64 room, v] [X] (fun r H => r = .bool true ∧ H = [X]) := by
  obtain ⟨hvw, hll, hst⟩ := hv
  obtain ⟨a, c, rfl⟩ := hvw.shape
  refine Ctr.enter Tryz.func3 (by kernel_rfl) rfl Tryz.ntmps3 rfl rfl ?_
  intro G F R hE
  (refine go ?_)
  (first | refine J_callE rfl rfl rfl rfl (awake_any) entA ?_ (fun _ _ _ _ _ => trivial) | refine J_call0E rfl rfl rfl (awake_any) entA ?_ (fun _ _ _ _ _ => trivial) | (refine go ?_; first | refine J_callE rfl rfl rfl rfl (awake_any) entA ?_ (fun _ _ _ _ _ => trivial) | refine J_call0E rfl rfl rfl (awake_any) entA ?_ (fun _ _ _ _ _ => trivial)))
  rintro _ _ ⟨rfl, rfl⟩
  (refine go ?_)
  (first | refine J_callE rfl rfl rfl rfl (much_any X _ l hvw hll hst) entA ?_ (fun _ _ _ _ _ => trivial) | refine J_call0E rfl rfl rfl (much_any X _ l hvw hll hst) entA ?_ (fun _ _ _ _ _ => trivial) | (refine go ?_; first | refine J_callE rfl rfl rfl rfl (much_any X _ l hvw hll hst) entA ?_ (fun _ _ _ _ _ => trivial) | refine J_call0E rfl rfl rfl (much_any X _ l hvw hll hst) entA ?_ (fun _ _ _ _ _ => trivial)))
  rintro _ _ ⟨b, rfl, rfl, hmu⟩
  cases b with
  | true =>
    (refine go ?_)
    (first | refine K_return hE Tryz.func3 rfl _ rfl ⟨rfl, rfl⟩ entA | refine K_fallEnd hE Tryz.func3 rfl _ rfl ⟨rfl, rfl⟩ entA)
  | false =>
  have hsm := hmu rfl
  clear hmu
  by_cases h1 : room < 1
  · (refine go ?_)
    (first | refine J_slot 33 ((.bool true)) rfl ((congrArg Value.bool (by simp [h1]))) ?_ | refine K_slot 33 ((.bool true)) rfl ((congrArg Value.bool (by simp [h1]))) ?_)
    (refine go ?_)
    (first | refine K_return hE Tryz.func3 rfl _ rfl ⟨rfl, rfl⟩ entA | refine K_fallEnd hE Tryz.func3 rfl _ rfl ⟨rfl, rfl⟩ entA)
  by_cases h2 : 1073741824 < room
  · (refine go ?_)
    (first | refine J_slot 33 ((.bool false)) rfl ((congrArg Value.bool (by simp [h1]))) ?_ | refine K_slot 33 ((.bool false)) rfl ((congrArg Value.bool (by simp [h1]))) ?_)
    (refine go ?_)
    (first | refine J_slot 36 ((.bool true)) rfl ((congrArg Value.bool (by simp [h2]))) ?_ | refine K_slot 36 ((.bool true)) rfl ((congrArg Value.bool (by simp [h2]))) ?_)
    (refine go ?_)
    (first | refine K_return hE Tryz.func3 rfl _ rfl ⟨rfl, rfl⟩ entA | refine K_fallEnd hE Tryz.func3 rfl _ rfl ⟨rfl, rfl⟩ entA)
  (refine go ?_)
  (first | refine J_slot 33 ((.bool false)) rfl ((congrArg Value.bool (by simp [h1]))) ?_ | refine K_slot 33 ((.bool false)) rfl ((congrArg Value.bool (by simp [h1]))) ?_)
  (refine go ?_)
  (first | refine J_slot 36 ((.bool false)) rfl ((congrArg Value.bool (by simp [h2]))) ?_ | refine K_slot 36 ((.bool false)) rfl ((congrArg Value.bool (by simp [h2]))) ?_)
  (refine go ?_)
  obtain ⟨rm, rfl⟩ : ∃ n : Nat, room = n := ⟨room.toNat, by omega⟩
  (first | refine J_callE rfl rfl rfl rfl (New_dA rm (by omega) (by omega)) entA ?_ (fun _ _ _ _ _ => trivial) | refine J_call0E rfl rfl rfl (New_dA rm (by omega) (by omega)) entA ?_ (fun _ _ _ _ _ => trivial) | (refine go ?_; first | refine J_callE rfl rfl rfl rfl (New_dA rm (by omega) (by omega)) entA ?_ (fun _ _ _ _ _ => trivial) | refine J_call0E rfl rfl rfl (New_dA rm (by omega) (by omega)) entA ?_ (fun _ _ _ _ _ => trivial)))
  rintro _ _ ⟨bd, rfl, rfl⟩
  (refine go ?_)
  (first | refine J_callE rfl rfl rfl rfl (New_rM rm (by omega) (by omega)) entA ?_ (fun _ _ _ _ _ => trivial) | refine J_call0E rfl rfl rfl (New_rM rm (by omega) (by omega)) entA ?_ (fun _ _ _ _ _ => trivial) | (refine go ?_; first | refine J_callE rfl rfl rfl rfl (New_rM rm (by omega) (by omega)) entA ?_ (fun _ _ _ _ _ => trivial) | refine J_call0E rfl rfl rfl (New_rM rm (by omega) (by omega)) entA ?_ (fun _ _ _ _ _ => trivial)))
  rintro _ _ ⟨br, rfl, rfl⟩
  have hS0 : Sim (Ab.new rm) (RM.new rm) := Sim.new rm
  have hM0 := RM.new_ok rm (by omega)
  have hO0 := OrdM.new (rm : Int)
  (refine go ?_)
  have hb0 := hS0.bnd hM0
  have hop := Open_u bd (Ab.new rm) (RM.new rm) hS0 (by omega) (by omega)
  have hrop := refOpen_u br 0 (RM.new rm) hM0 (by omega)
  have hM1 := hM0.openJ (by omega) nmJ
  have hO1 := hO0.openJ nmJ
  have hln := ll_len hM0
  have hjo := oo_ok hM0
  generalize oo (RM.new rm) = o1 at *
  generalize ll (RM.new rm) = l1 at *
  generalize ((RM.new rm).openJ nmJ).1 = e1 at *
  generalize ((RM.new rm).openJ nmJ).2 = m1 at *
  (first | refine J_callE rfl rfl rfl rfl (hop) entA ?_ (fun _ _ _ _ _ => trivial) | refine J_call0E rfl rfl rfl (hop) entA ?_ (fun _ _ _ _ _ => trivial) | (refine go ?_; first | refine J_callE rfl rfl rfl rfl (hop) entA ?_ (fun _ _ _ _ _ => trivial) | refine J_call0E rfl rfl rfl (hop) entA ?_ (fun _ _ _ _ _ => trivial)))
  rintro _ _ ⟨A1, jb, v1, hS1, rfl, rfl⟩
  (first | refine K_ent (Ent.pick [2] rfl) ?_ | refine J_ent (Ent.pick [2] rfl) ?_)
  refine J_list ?_
  intro Y1 hY1
  (refine go ?_)
  (first | refine J_callE rfl rfl rfl rfl (hrop) entA ?_ (fun _ _ _ _ _ => trivial) | refine J_call0E rfl rfl rfl (hrop) entA ?_ (fun _ _ _ _ _ => trivial) | (refine go ?_; first | refine J_callE rfl rfl rfl rfl (hrop) entA ?_ (fun _ _ _ _ _ => trivial) | refine J_call0E rfl rfl rfl (hrop) entA ?_ (fun _ _ _ _ _ => trivial)))
  rintro _ _ ⟨xb, v2, Y2, hY2, rfl, rfl⟩
  (refine go ?_)
  refine K_loop (WOk l) (fun y => l.length - y.i)
    (fun y => [(0 + 1, .slice a l.length c), (7, ptr bd), (8, .int .i64 (y.e : Int)), (9, ptr br), (11, jP y.jb y.o), (12, y.v1), (13, jP y.xb y.o), (14, y.v2), (15, .int .i64 (y.e : Int)), (16, .int .i64 (y.i : Int))])
    (fun y => diskA bd y.A :: rdM br y.m :: Sep (L1 bd y.jb y.o) :: Sep (L2 br y.xb y.o) :: y.Y1 :: y.Y2 :: X :: F)
    ⟨0, A1, m1, o1, jb, xb, e1, l1, v1, v2, Y1, Y2⟩ ⟨Nat.zero_le _, Nat.zero_le _, hS1, hO1, hM1.up (by simp only; omega) (by simp only; omega), hY1, hY2, hln, hjo⟩ rfl (by repeat (first | exact keep_nil | refine keep_cons rfl ?_)) entA ?_
  rintro ⟨i, A, m, o, jb, xb, e, ls, v1, v2, Y1, Y2⟩ ⟨hi, hi60, hS, hO, hM, hY1, hY2, hln, hjo⟩ ih
  simp only at hi hi60 hS hO hM hY1 hY2 hln hjo
  dsimp only
  have hk100 := hM.kk
  obtain ⟨hbs, hbw⟩ := hS.bnd hM
  clear hop hrop hM1 hO1 hS1 hM0 hO0 hS0 hb0
  have hsame := Same_any Y1 Y2 v1 v2 ls ls hY1 hY2 hln
  by_cases hend : i < l.length ∧ i < 60
  case neg =>
    (refine go ?_)
    (first | refine J_slot 70 ((.bool (decide (i < l.length)))) rfl ((congrArg Value.bool (by simp))) ?_ | refine K_slot 70 ((.bool (decide (i < l.length)))) rfl ((congrArg Value.bool (by simp))) ?_)
    have hx : decide (i < l.length) = false ∨ decide (i < l.length) = true ∧ ¬ i < 60 := by
      rcases Nat.lt_or_ge i l.length with h | h
      · exact .inr ⟨decide_eq_true h, fun h' => hend ⟨h, h'⟩⟩
      · exact .inl (decide_eq_false (by omega))
    rcases hx with hx | ⟨hx, h60⟩
    all_goals (
      rw [hx]
      (refine go ?_)
      try ((first | refine J_slot 73 ((.bool false)) rfl ((congrArg Value.bool (decide_eq_false (by omega)))) ?_ | refine K_slot 73 ((.bool false)) rfl ((congrArg Value.bool (decide_eq_false (by omega)))) ?_)
           (refine go ?_))
      (first | refine J_callE rfl rfl rfl rfl (hsame) entA ?_ (fun _ _ _ _ _ => trivial) | refine J_call0E rfl rfl rfl (hsame) entA ?_ (fun _ _ _ _ _ => trivial) | (refine go ?_; first | refine J_callE rfl rfl rfl rfl (hsame) entA ?_ (fun _ _ _ _ _ => trivial) | refine J_call0E rfl rfl rfl (hsame) entA ?_ (fun _ _ _ _ _ => trivial)))
      rintro _ _ ⟨rfl, rfl⟩
      rw [decide_eq_true rfl]
      cases o with
      | none =>
        simp only [jP]
        (refine go ?_)
        (first | refine J_slot 199 ((.bool true)) rfl ((congrArg Value.bool (by simp))) ?_ | refine K_slot 199 ((.bool true)) rfl ((congrArg Value.bool (by simp))) ?_)
        (refine go ?_)
        (first | refine K_return hE Tryz.func3 rfl _ rfl ⟨rfl, rfl⟩ entA | refine K_fallEnd hE Tryz.func3 rfl _ rfl ⟨rfl, rfl⟩ entA)
      | some x =>
        simp only [jP]
        (refine go ?_)
        (first | refine J_slot 199 ((.bool true)) rfl ((congrArg Value.bool (by simp))) ?_ | refine K_slot 199 ((.bool true)) rfl ((congrArg Value.bool (by simp))) ?_)
        (refine go ?_)
        (first | refine K_return hE Tryz.func3 rfl _ rfl ⟨rfl, rfl⟩ entA | refine K_fallEnd hE Tryz.func3 rfl _ rfl ⟨rfl, rfl⟩ entA))
  obtain ⟨hi1, hi60'⟩ := hend
  obtain ⟨⟨sd, sba, sbc, sb, sla, slc', sl, sn, sk, scut⟩, hx⟩ : ∃ s, l[i]? = some s := ⟨l[i], by simp⟩
  have hok := hst _ (List.mem_of_getElem? hx)
  have hsmall := hsm i _ (by omega) hx
  have s0 : (l.flatMap stC)[i * 6 + 0]? = some (.int .i64 sd) := st_get hx 0 (by omega)
  have s1 : (l.flatMap stC)[i * 6 + 1]? = some (.slice sba sb.length sbc) := st_get hx 1 (by omega)
  have s2 : (l.flatMap stC)[i * 6 + 2]? = some (.slice sla sl.length slc') := st_get hx 2 (by omega)
  have s3 : (l.flatMap stC)[i * 6 + 3]? = some (.int .i64 sn) := st_get hx 3 (by omega)
  have s4 : (l.flatMap stC)[i * 6 + 4]? = some (.int .i64 sk) := st_get hx 4 (by omega)
  have s5 : (l.flatMap stC)[i * 6 + 5]? = some (.int .i64 scut) := st_get hx 5 (by omega)
  obtain ⟨bb, oo', cc, hsl⟩ := hvw.some (by rw [← List.length_pos_iff, chunk_len stC_len]; omega)
  simp only [Value.slice.injEq, true_and] at hsl
  obtain ⟨rfl, rfl⟩ := hsl
  have hv := hvw
  (refine go ?_)
  (first | refine J_slot 70 ((.bool true)) rfl ((congrArg Value.bool (decide_eq_true (by omega)))) ?_ | refine K_slot 70 ((.bool true)) rfl ((congrArg Value.bool (decide_eq_true (by omega)))) ?_)
  (refine go ?_)
  (first | refine J_slot 73 ((.bool true)) rfl ((congrArg Value.bool (decide_eq_true (by omega)))) ?_ | refine K_slot 73 ((.bool true)) rfl ((congrArg Value.bool (decide_eq_true (by omega)))) ?_)
  (refine go ?_)
  (first | refine J_callE rfl rfl rfl rfl (hsame) entA ?_ (fun _ _ _ _ _ => trivial) | refine J_call0E rfl rfl rfl (hsame) entA ?_ (fun _ _ _ _ _ => trivial) | (refine go ?_; first | refine J_callE rfl rfl rfl rfl (hsame) entA ?_ (fun _ _ _ _ _ => trivial) | refine J_call0E rfl rfl rfl (hsame) entA ?_ (fun _ _ _ _ _ => trivial)))
  rintro _ _ ⟨rfl, rfl⟩
  rw [decide_eq_true rfl]
  (refine go ?_)
  (first | refine J_slot 82 ((.bool false)) rfl ((congrArg Value.bool (by simp))) ?_ | refine K_slot 82 ((.bool false)) rfl ((congrArg Value.bool (by simp))) ?_)
  by_cases h4 : sd = 4
  · subst h4
    have hSc := hS.crash sn sb sk scut
    have hMc : MOk (m.crash sn sb sk scut) (10 + 10 * i) := hM.crash sn sb sk scut
    have hOc := hO.crash sn sb sk scut
    have hcd := Crash_dA bd A sn sk scut X _ sb hok.b.1 hok.bl (by omega) (by omega) hok.n hok.k hok.cut
    have hcr := Crash_rM br _ m hM sn sk scut X _ sb hok.b.1 hok.bl hok.n hok.k hok.cut
    simp only at hcd hcr
    generalize m.crash sn sb sk scut = mc at hSc hMc hOc hcr
    generalize A.crash sn sb sk scut = Ac at hSc hcd
    obtain ⟨hcs, hcw⟩ := hSc.bnd hMc
    have hop := Open_u bd Ac mc hSc (by omega) (by omega)
    have hrop := refOpen_u br _ mc hMc (by omega)
    have hM1 := hMc.openJ (by omega) nmJ
    have hO1 := hOc.openJ nmJ
    have hln1 := ll_len hMc
    have hjo1 := oo_ok hMc
    generalize oo mc = o1 at hop hrop hjo1
    generalize ll mc = l1 at hop hrop hln1
    generalize (mc.openJ nmJ).1 = e1 at hop hrop
    generalize (mc.openJ nmJ).2 = m1 at hop hrop hM1 hO1
    cases o
    all_goals (
      simp only [jP]
      (repeat (first | refine go1 ?_ | refine J_fork ?_ ?_ | refine J_at (U := tab) i 6 rfl rfl rfl rfl rfl rfl rfl rfl hi1 ?_ | (refine J_isLoad ?_; first | refine J_loadAt (U := tab) 6 (i * 6 + 1) rfl rfl rfl hv (Nat.add_assoc _ _ _) s1 rfl rfl ?_ | refine J_loadAt (U := tab) 6 (i * 6 + 2) rfl rfl rfl hv (Nat.add_assoc _ _ _) s2 rfl rfl ?_ | refine J_loadAt (U := tab) 6 (i * 6 + 3) rfl rfl rfl hv (Nat.add_assoc _ _ _) s3 rfl rfl ?_ | refine J_loadAt (U := tab) 6 (i * 6 + 4) rfl rfl rfl hv (Nat.add_assoc _ _ _) s4 rfl rfl ?_ | refine J_loadAt (U := tab) 6 (i * 6 + 5) rfl rfl rfl hv (Nat.add_assoc _ _ _) s5 rfl rfl ?_ | refine J_loadAt (U := tab) 6 (i * 6 + 0) rfl rfl rfl hv (Nat.add_assoc _ _ _) s0 rfl rfl ?_)))
      refine K_drawA (fun w => Sat G w ([X])) (.st 0 (.st 1 (.st 2 (.st 3 (.st 4 (.st 5 (.st 6 (.st 7 (.st 8 (.st 9 (.st 10 (.st 11 (.st 12 (.st 13 (.st 14 (.st 15 (.st 16 (.st 17 (.st 18 (.st 19 (.st 20 (.act 21 .nil)))))))))))))))))))))) rfl (by kernel_rfl) (by kernel_rfl) (by kernel_rfl) (fun w hw => hw.ent entA) ?_
      (refine go ?_)
      (repeat (first | refine go1 ?_ | refine J_fork ?_ ?_ | refine J_at (U := tab) i 6 rfl rfl rfl rfl rfl rfl rfl rfl hi1 ?_ | (refine J_isLoad ?_; first | refine J_loadAtS (U := tab) 0 (i * 6 + 1) rfl rfl rfl hv (Nat.add_assoc _ _ _) s1 rfl rfl ?_ | refine J_loadAtS (U := tab) 0 (i * 6 + 2) rfl rfl rfl hv (Nat.add_assoc _ _ _) s2 rfl rfl ?_ | refine J_loadAtS (U := tab) 0 (i * 6 + 3) rfl rfl rfl hv (Nat.add_assoc _ _ _) s3 rfl rfl ?_ | refine J_loadAtS (U := tab) 0 (i * 6 + 4) rfl rfl rfl hv (Nat.add_assoc _ _ _) s4 rfl rfl ?_ | refine J_loadAtS (U := tab) 0 (i * 6 + 5) rfl rfl rfl hv (Nat.add_assoc _ _ _) s5 rfl rfl ?_ | refine J_loadAtS (U := tab) 0 (i * 6 + 0) rfl rfl rfl hv (Nat.add_assoc _ _ _) s0 rfl rfl ?_)))
      (first | refine J_callE rfl rfl rfl rfl (hcd) entA ?_ (fun _ _ _ _ _ => trivial) | refine J_call0E rfl rfl rfl (hcd) entA ?_ (fun _ _ _ _ _ => trivial) | (refine go ?_; first | refine J_callE rfl rfl rfl rfl (hcd) entA ?_ (fun _ _ _ _ _ => trivial) | refine J_call0E rfl rfl rfl (hcd) entA ?_ (fun _ _ _ _ _ => trivial)))
      rintro _ _ rfl
      (refine goR ?_)
      refine K_drawA (fun w => Sat G w ([X])) (.st 0 (.st 1 (.st 2 (.st 3 (.st 4 (.st 5 (.st 6 (.st 7 (.st 8 (.st 9 (.st 10 (.st 11 (.st 12 (.st 13 (.st 14 (.st 15 (.st 16 (.st 17 (.st 18 (.st 19 (.st 20 (.act 21 .nil)))))))))))))))))))))) rfl (by kernel_rfl) (by kernel_rfl) (by kernel_rfl) (fun w hw => hw.ent entA) ?_
      (refine go ?_)
      (repeat (first | refine go1 ?_ | refine J_fork ?_ ?_ | refine J_at (U := tab) i 6 rfl rfl rfl rfl rfl rfl rfl rfl hi1 ?_ | (refine J_isLoad ?_; first | refine J_loadAtS (U := tab) 0 (i * 6 + 1) rfl rfl rfl hv (Nat.add_assoc _ _ _) s1 rfl rfl ?_ | refine J_loadAtS (U := tab) 0 (i * 6 + 2) rfl rfl rfl hv (Nat.add_assoc _ _ _) s2 rfl rfl ?_ | refine J_loadAtS (U := tab) 0 (i * 6 + 3) rfl rfl rfl hv (Nat.add_assoc _ _ _) s3 rfl rfl ?_ | refine J_loadAtS (U := tab) 0 (i * 6 + 4) rfl rfl rfl hv (Nat.add_assoc _ _ _) s4 rfl rfl ?_ | refine J_loadAtS (U := tab) 0 (i * 6 + 5) rfl rfl rfl hv (Nat.add_assoc _ _ _) s5 rfl rfl ?_ | refine J_loadAtS (U := tab) 0 (i * 6 + 0) rfl rfl rfl hv (Nat.add_assoc _ _ _) s0 rfl rfl ?_)))
      (first | refine J_callE rfl rfl rfl rfl (hcr) entA ?_ (fun _ _ _ _ _ => trivial) | refine J_call0E rfl rfl rfl (hcr) entA ?_ (fun _ _ _ _ _ => trivial) | (refine go ?_; first | refine J_callE rfl rfl rfl rfl (hcr) entA ?_ (fun _ _ _ _ _ => trivial) | refine J_call0E rfl rfl rfl (hcr) entA ?_ (fun _ _ _ _ _ => trivial)))
      rintro _ _ rfl
      (refine go ?_)
      (first | refine J_callE rfl rfl rfl rfl (hop) entA ?_ (fun _ _ _ _ _ => trivial) | refine J_call0E rfl rfl rfl (hop) entA ?_ (fun _ _ _ _ _ => trivial) | (refine go ?_; first | refine J_callE rfl rfl rfl rfl (hop) entA ?_ (fun _ _ _ _ _ => trivial) | refine J_call0E rfl rfl rfl (hop) entA ?_ (fun _ _ _ _ _ => trivial)))
      rintro _ _ ⟨A1, jb1, w1, hS1, rfl, rfl⟩
      (first | refine K_ent (Ent.pick [2] rfl) ?_ | refine J_ent (Ent.pick [2] rfl) ?_)
      refine J_list ?_
      intro Z1 hZ1
      (refine go ?_)
      (first | refine J_callE rfl rfl rfl rfl (hrop) entA ?_ (fun _ _ _ _ _ => trivial) | refine J_call0E rfl rfl rfl (hrop) entA ?_ (fun _ _ _ _ _ => trivial) | (refine go ?_; first | refine J_callE rfl rfl rfl rfl (hrop) entA ?_ (fun _ _ _ _ _ => trivial) | refine J_call0E rfl rfl rfl (hrop) entA ?_ (fun _ _ _ _ _ => trivial)))
      rintro _ _ ⟨xb1, w2, Z2, hZ2, rfl, rfl⟩
      (refine go ?_)
      refine K_again ih ⟨i + 1, A1, m1, o1, jb1, xb1, e1, l1, w1, w2, Z1, Z2⟩ rfl ⟨by simp only; omega, by simp only; omega, hS1, hO1, hM1.up (by simp only; omega) (by simp only; omega), hZ1, hZ2, hln1, hjo1⟩ (by simp only; omega) (by repeat (first | exact keep_nil | refine keep_cons rfl ?_)) entA)
  cases o with
  | none =>
    simp only [jP]
    (repeat (first | refine go1 ?_ | refine J_fork ?_ ?_ | refine J_at (U := tab) i 6 rfl rfl rfl rfl rfl rfl rfl rfl hi1 ?_ | (refine J_isLoad ?_; first | refine J_loadAt (U := tab) 6 (i * 6 + 1) rfl rfl rfl hv (Nat.add_assoc _ _ _) s1 rfl rfl ?_ | refine J_loadAt (U := tab) 6 (i * 6 + 2) rfl rfl rfl hv (Nat.add_assoc _ _ _) s2 rfl rfl ?_ | refine J_loadAt (U := tab) 6 (i * 6 + 3) rfl rfl rfl hv (Nat.add_assoc _ _ _) s3 rfl rfl ?_ | refine J_loadAt (U := tab) 6 (i * 6 + 4) rfl rfl rfl hv (Nat.add_assoc _ _ _) s4 rfl rfl ?_ | refine J_loadAt (U := tab) 6 (i * 6 + 5) rfl rfl rfl hv (Nat.add_assoc _ _ _) s5 rfl rfl ?_ | refine J_loadAt (U := tab) 6 (i * 6 + 0) rfl rfl rfl hv (Nat.add_assoc _ _ _) s0 rfl rfl ?_)))
    (first | refine J_slot 98 ((.bool false)) rfl ((congrArg Value.bool (decide_eq_false h4))) ?_ | refine K_slot 98 ((.bool false)) rfl ((congrArg Value.bool (decide_eq_false h4))) ?_)
    (refine go ?_)
    refine K_again ih ⟨i + 1, A, m, none, jb, xb, e, ls, v1, v2, Y1, Y2⟩ rfl ⟨by simp only; omega, by simp only; omega, hS, hO, hM.up (by simp only; omega) (by simp only; omega), hY1, hY2, hln, hjo⟩ (by simp only; omega) (by repeat (first | exact keep_nil | refine keep_cons rfl ?_)) entA
  | some x =>
    simp only [jP]
    have hxo := hjo x rfl
    (repeat (first | refine go1 ?_ | refine J_fork ?_ ?_ | refine J_at (U := tab) i 6 rfl rfl rfl rfl rfl rfl rfl rfl hi1 ?_ | (refine J_isLoad ?_; first | refine J_loadAt (U := tab) 6 (i * 6 + 1) rfl rfl rfl hv (Nat.add_assoc _ _ _) s1 rfl rfl ?_ | refine J_loadAt (U := tab) 6 (i * 6 + 2) rfl rfl rfl hv (Nat.add_assoc _ _ _) s2 rfl rfl ?_ | refine J_loadAt (U := tab) 6 (i * 6 + 3) rfl rfl rfl hv (Nat.add_assoc _ _ _) s3 rfl rfl ?_ | refine J_loadAt (U := tab) 6 (i * 6 + 4) rfl rfl rfl hv (Nat.add_assoc _ _ _) s4 rfl rfl ?_ | refine J_loadAt (U := tab) 6 (i * 6 + 5) rfl rfl rfl hv (Nat.add_assoc _ _ _) s5 rfl rfl ?_ | refine J_loadAt (U := tab) 6 (i * 6 + 0) rfl rfl rfl hv (Nat.add_assoc _ _ _) s0 rfl rfl ?_)))
    (first | refine J_slot 98 ((.bool false)) rfl ((congrArg Value.bool (decide_eq_false h4))) ?_ | refine K_slot 98 ((.bool false)) rfl ((congrArg Value.bool (decide_eq_false h4))) ?_)
    (repeat (first | refine go1 ?_ | refine J_fork ?_ ?_ | refine J_at (U := tab) i 6 rfl rfl rfl rfl rfl rfl rfl rfl hi1 ?_ | (refine J_isLoad ?_; first | refine J_loadAt (U := tab) 6 (i * 6 + 1) rfl rfl rfl hv (Nat.add_assoc _ _ _) s1 rfl rfl ?_ | refine J_loadAt (U := tab) 6 (i * 6 + 2) rfl rfl rfl hv (Nat.add_assoc _ _ _) s2 rfl rfl ?_ | refine J_loadAt (U := tab) 6 (i * 6 + 3) rfl rfl rfl hv (Nat.add_assoc _ _ _) s3 rfl rfl ?_ | refine J_loadAt (U := tab) 6 (i * 6 + 4) rfl rfl rfl hv (Nat.add_assoc _ _ _) s4 rfl rfl ?_ | refine J_loadAt (U := tab) 6 (i * 6 + 5) rfl rfl rfl hv (Nat.add_assoc _ _ _) s5 rfl rfl ?_ | refine J_loadAt (U := tab) 6 (i * 6 + 0) rfl rfl rfl hv (Nat.add_assoc _ _ _) s0 rfl rfl ?_)))
    have hok' := hok
    refine J_loadElem (U := tab) (es := stC ⟨sd, sba, sbc, sb, sla, slc', sl, sn, sk, scut⟩) 6 (i * 6) rfl rfl rfl hv rfl (fun q v hq => (st_get hx q (by rcases Nat.lt_or_ge q 6 with h | h; exact h; rw [List.getElem?_eq_none (by rw [stC_len]; exact h)] at hq; cases hq)).trans hq) rfl rfl rfl ?_
    simp only [L1, L2]
    (first | refine K_ent (Ent.pick [4] rfl) ?_ | refine J_ent (Ent.pick [4] rfl) ?_)
    (first | refine K_ent (Ent.unsep _ _) ?_ | refine J_ent (Ent.unsep _ _) ?_)
    (first | refine K_ent (Ent.pick [5] rfl) ?_ | refine J_ent (Ent.pick [5] rfl) ?_)
    (first | refine K_ent (Ent.unsep _ _) ?_ | refine J_ent (Ent.unsep _ _) ?_)
    (first | refine J_callE rfl rfl rfl rfl (do_any bd br jb xb _ A m hS hO hM (by omega) x hxo X _ hok' hsmall) entA ?_ (fun _ _ _ _ _ => trivial) | refine J_call0E rfl rfl rfl (do_any bd br jb xb _ A m hS hO hM (by omega) x hxo X _ hok' hsmall) entA ?_ (fun _ _ _ _ _ => trivial) | (refine go ?_; first | refine J_callE rfl rfl rfl rfl (do_any bd br jb xb _ A m hS hO hM (by omega) x hxo X _ hok' hsmall) entA ?_ (fun _ _ _ _ _ => trivial) | refine J_call0E rfl rfl rfl (do_any bd br jb xb _ A m hS hO hM (by omega) x hxo X _ hok' hsmall) entA ?_ (fun _ _ _ _ _ => trivial)))
    rintro _ _ ⟨rfl, A', m', x', hS', hO', hM', hx', rfl⟩
    (refine go ?_)
    (first | refine J_callE rfl rfl rfl rfl (alike_any bd br _ A' m' hS' hO' hM') entA ?_ (fun _ _ _ _ _ => trivial) | refine J_call0E rfl rfl rfl (alike_any bd br _ A' m' hS' hO' hM') entA ?_ (fun _ _ _ _ _ => trivial) | (refine go ?_; first | refine J_callE rfl rfl rfl rfl (alike_any bd br _ A' m' hS' hO' hM') entA ?_ (fun _ _ _ _ _ => trivial) | refine J_call0E rfl rfl rfl (alike_any bd br _ A' m' hS' hO' hM') entA ?_ (fun _ _ _ _ _ => trivial)))
    rintro _ _ ⟨rfl, rfl⟩
    obtain ⟨n', s', c', b'⟩ := x'
    (refine go ?_)
    refine K_drawA (fun w => Sat G w ([rjH xb br nmJ ⟨n', s', c', b'⟩])) (.st 0 (.st 1 (.st 2 (.st 3 (.st 4 (.st 5 (.st 6 (.st 7 (.st 9 (.st 10 (.st 11 (.st 12 (.act 8 (.st 13 (.st 14 (.st 15 (.st 16 (.st 18 (.st 19 (.st 20 (.st 21 (.act 17 (.st 22 (.st 23 .nil)))))))))))))))))))))))) rfl (by kernel_rfl) (by kernel_rfl) (by kernel_rfl) (fun w hw => hw.ent entA) ?_
    simp only [rjH]
    (refine go ?_)
    simp only [jrN]
    (first | refine J_callE rfl rfl rfl rfl (JSize_any jb bd nmJ n' s' c' b') entA ?_ (fun _ _ w hp hw => by obtain ⟨rfl, rfl⟩ := hp; exact hw.ent entA) | refine J_call0E rfl rfl rfl (JSize_any jb bd nmJ n' s' c' b') entA ?_ (fun _ _ w hp hw => by obtain ⟨rfl, rfl⟩ := hp; exact hw.ent entA))
    rintro _ _ ⟨rfl, rfl⟩
    (refine go ?_)
    (first | refine J_slot 184 ((.bool false)) rfl ((congrArg Value.bool (by simp))) ?_ | refine K_slot 184 ((.bool false)) rfl ((congrArg Value.bool (by simp))) ?_)
    (refine go ?_)
    (first | refine J_callE rfl rfl rfl rfl (Broken_any jb bd nmJ ⟨n', s', c', b'⟩) entA ?_ (fun _ _ w hp hw => by obtain ⟨rfl, rfl⟩ := hp; exact hw.ent entA) | refine J_call0E rfl rfl rfl (Broken_any jb bd nmJ ⟨n', s', c', b'⟩) entA ?_ (fun _ _ w hp hw => by obtain ⟨rfl, rfl⟩ := hp; exact hw.ent entA))
    rintro _ _ ⟨rfl, rfl⟩
    (refine go ?_)
    (first | refine J_slot 192 ((.bool false)) rfl ((congrArg Value.bool (by simp))) ?_ | refine K_slot 192 ((.bool false)) rfl ((congrArg Value.bool (by simp))) ?_)
    (refine go ?_)
    refine K_ent (H' := jrN jb bd nmJ ⟨n', s', c', b'⟩ :: pts xb (cl [ptr br, Value.string nmJ, Value.int IntKind.i64 n', Value.int IntKind.i64 s', Value.int IntKind.i64 c', Value.bool b'] 48) :: diskA bd A' :: rdM br m' :: X :: Y1 :: Y2 :: F) entA ?_
    refine K_ent (Ent.resep [_] _) ?_
    (first | refine K_ent (Ent.pick [1] rfl) ?_ | refine J_ent (Ent.pick [1] rfl) ?_)
    refine K_ent (Ent.resep [_] _) ?_
    refine K_ent (H' := diskA bd A' :: rdM br m' :: Sep (L1 bd jb (some ⟨n', s', c', b'⟩)) :: Sep (L2 br xb (some ⟨n', s', c', b'⟩)) :: Y1 :: Y2 :: X :: F) entA ?_
    refine K_again ih ⟨i + 1, A', m', some ⟨n', s', c', b'⟩, jb, xb, e, ls, v1, v2, Y1, Y2⟩ rfl ⟨by simp only; omega, by simp only; omega, hS', hO', hM'.up (by simp only; omega) (by simp only; omega), hY1, hY2, hln, fun y hy => by cases hy; exact hx'⟩ (by simp only; omega) (by repeat (first | exact keep_nil | refine keep_cons rfl ?_)) entA
end Go.Proofs.YtpdmbmnhgcnelaaGreat

