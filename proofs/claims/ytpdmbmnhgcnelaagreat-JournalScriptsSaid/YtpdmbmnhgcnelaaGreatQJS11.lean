/- Texts of one claim, joined: Sa, Sb, Sc, Jm, EngZ, EngS, EngW, Jy, Sd, EngVi, EngV2. -/
import Derived.Test.YtpdmbmnhgcnelaaGreatQJS3
import Derived.Test.YtpdmbmnhgcnelaaGreatQJS5
import Derived.Test.YtpdmbmnhgcnelaaGreatQJS9
import Derived.Test.YtpdmbmnhgcnelaaGreatQJS10
import Derived.ProofKit
import Derived.Below
import Derived.OpenShut
import Derived.Deep.Slices
import Derived.DataElems
import Derived.Shelf.SortG.Plain
import Derived.Shelf.SortG.SortNone
/- the reference's journal, part c: Told, all. -/
set_option linter.unusedVariables false
set_option linter.unusedSimpArgs false
namespace Go.Proofs.YtpdmbmnhgcnelaaGreat
open Go Go.SL
theorem head_half {h : List UInt8} (hl : h.length = 16) : (h = headL (leN h) (leN (h.drop 4))) ↔ h.take 8 = h.drop 8 := by
  have hlow : ∀ b : List UInt8, 4 ≤ b.length → le4 (leN b) = b.take 4 := fun b hb => by
    have h1 : leN (b.take 4) = leN b := by
      match b, hb with
      | a :: b :: c :: d :: r, _ => rfl
    rw [← h1]; exact le4_leN _ (by rw [List.length_take]; omega)
  have hd : headL (leN h) (leN (h.drop 4)) = h.take 8 ++ h.take 8 := by
    unfold headL
    rw [hlow h (by omega), hlow (h.drop 4) (by rw [List.length_drop]; omega)]
    have : h.take 4 ++ (h.drop 4).take 4 = h.take 8 := by rw [← List.take_add]
    rw [this]
  rw [hd]
  have hs : h = h.take 8 ++ h.drop 8 := (List.take_append_drop 8 h).symm
  constructor
  · intro he
    have h1 : h.take 8 ++ h.drop 8 = h.take 8 ++ h.take 8 := by rw [← hs]; exact he
    exact (List.append_cancel_left h1).symm
  · intro he
    conv => lhs; rw [hs]
    rw [← he]
attribute [local irreducible] J K Ctr Ends pts slc mapR mapI sbRow stock arrS loopP CtrY diskA LI listH

set_option maxRecDepth 20000 in
theorem refTold_any (A : HP) (v : Value) (b : List UInt8) (hv : BAt A v b) (hl : b.length ≤ 1048576) :
    Ctr Tryz.prog 28 [v] [A] (fun r H => H = [listH r (recordsA (foundL b)), A]) := by
  obtain ⟨a, c, rfl, hc⟩ := hv.2
  refine Ctr.enter Tryz.func28 (by kernel_rfl) rfl Tryz.ntmps28 rfl rfl ?_
  intro G F R hE
  repeat' (first | (with_reducible intro _hh) | refine go1 ?_ | refine J_fork ?_ ?_ | refine J_gsP rfl rfl rfl rfl ?_ ?_ | refine K_condP rfl rfl ?_ ?_)
  case' refine_1 =>
    have hn : foundL b = [] := by unfold foundL; rw [if_pos (by omega)]
    rw [hn, records_nil] at hE
    refine K_ent (slc_lift 40 1 none _) ?_
    refine K_ent (Ent.trans (arrS_nil 5 _) (Ent.pick [1, 0] rfl)) ?_
    refine K_ent (listH_in (ls := []) ⟨rfl, fun j y hj => by simp at hj⟩ _) ?_
    (first | refine K_return hE Tryz.func28 rfl _ rfl rfl entA | refine K_fallEnd hE Tryz.func28 rfl _ rfl rfl entA)
  have hb32 : 32 ≤ b.length := by omega
  refine K_loop (fun s : Nat × Nat × Nat => s.1 ≤ 2 ∧ (s.1 = 0 → s.2 = (0, 0)) ∧ (s.1 = 1 → s.2 = lastOf2 b 0 (0, 0)) ∧ (s.1 = 2 → s.2 = lastOf2 b 1 (lastOf2 b 0 (0, 0))) ∧ s.2.2 + 32 ≤ b.length ∧ s.2.1 ≤ 1073741824) (fun s => 2 - s.1)
    (fun s => [(0, .slice a b.length c), (3, .int .i64 (s.2.1 : Int)), (4, .int .i64 (s.2.2 : Int)), (5, .int .i64 (s.1 : Int))])
    (fun _ => A :: F) (0, 0, 0) ⟨by omega, fun _ => rfl, by omega, by omega, by simp only; omega, by simp only; omega⟩ rfl (by repeat (first | exact keep_nil | refine keep_cons rfl ?_)) entA ?_
  rintro ⟨k, last, len⟩ ⟨hk, hk0, hk1, hk2, hlen, hlast⟩ ih
  simp only at hk hk0 hk1 hk2 hlen hlast
  (refine go ?_)
  refine K_condP rfl rfl ?_ ?_
  case' refine_2 =>
    intro hge
    simp only at hge
    have h2 := hk2 (by omega)
    have hf : foundL b = (b.drop 32).take len := by unfold foundL; rw [if_neg (by omega), ← h2]
    (refine go ?_)
    refine J_sliceAny (U := tab) (p := 32) (q := 32 + (len : Int)) rfl rfl rfl rfl rfl rfl rfl (by omega) (by omega) (.inr (by omega)) ?_
    have hp := hv.piece 32 (32 + len) (by omega) (by omega)
    rw [show 32 + len - 32 = len from by omega, ← hf] at hp
    have hfl : (foundL b).length = len := by rw [hf, List.length_take, List.length_drop]; omega
    refine J_slot 62 (.slice (sliceAt a c 32 1) len (c - 32)) rfl (by rw [show (32 : Int).toNat = 32 from rfl, show (32 + (len : Int)).toNat = 32 + len from by omega, show 32 + len - 32 = len from by omega]; rfl) ?_
    (first | refine J_callE rfl rfl rfl rfl (refRecords_any A _ (foundL b) hp (by omega)) entA ?_ (fun _ _ _ _ _ => trivial) | refine J_call0E rfl rfl rfl (refRecords_any A _ (foundL b) hp (by omega)) entA ?_ (fun _ _ _ _ _ => trivial) | (refine go ?_; first | refine J_callE rfl rfl rfl rfl (refRecords_any A _ (foundL b) hp (by omega)) entA ?_ (fun _ _ _ _ _ => trivial) | refine J_call0E rfl rfl rfl (refRecords_any A _ (foundL b) hp (by omega)) entA ?_ (fun _ _ _ _ _ => trivial)))
    rintro r _ rfl
    (refine go ?_)
    (first | refine K_return hE Tryz.func28 rfl _ rfl rfl entA | refine K_fallEnd hE Tryz.func28 rfl _ rfl rfl entA)
  intro hlt
  simp only at hlt
  have hk16 : 16 * k + 16 ≤ b.length := by omega
  (refine go ?_)
  refine J_mul rfl rfl rfl (by simp only [inK]; omega) ?_
  (refine go ?_)
  refine J_mul rfl rfl rfl (by simp only [inK]; omega) ?_
  (refine go ?_)
  refine J_sliceAny (U := tab) (p := 16 * (k : Int)) (q := 16 * (k : Int) + 16) rfl rfl rfl rfl rfl rfl rfl (by omega) (by omega) (.inr (by omega)) ?_
  have hp1 := hv.piece (16 * k) (16 * k + 16) (by omega) (by omega)
  rw [show 16 * k + 16 - 16 * k = 16 from by omega] at hp1
  obtain ⟨hd, hhd⟩ : ∃ hd, hd = (b.drop (16 * k)).take 16 := ⟨_, rfl⟩
  have hdl : hd.length = 16 := by rw [hhd]; exact hd16 hk16
  rw [← hhd] at hp1
  obtain ⟨a1, ha1⟩ : ∃ a1, a1 = sliceAt a c (16 * k) 1 := ⟨_, rfl⟩
  rw [← ha1] at hp1
  refine J_slot 22 (.slice a1 16 (c - 16 * k)) rfl (by rw [ha1, show (16 * (k : Int)).toNat = 16 * k from by omega, show (16 * (k : Int) + 16).toNat = 16 * k + 16 from by omega, show 16 * k + 16 - 16 * k = 16 from by omega]; rfl) ?_
  (refine go ?_)
  (first | refine J_callE rfl rfl rfl rfl (refOf_any A _ hd (by rw [hdl]; have := hp1.1; rw [hdl] at this; exact this) (by omega)) entA ?_ (fun _ _ _ _ _ => trivial) | refine J_call0E rfl rfl rfl (refOf_any A _ hd (by rw [hdl]; have := hp1.1; rw [hdl] at this; exact this) (by omega)) entA ?_ (fun _ _ _ _ _ => trivial) | (refine go ?_; first | refine J_callE rfl rfl rfl rfl (refOf_any A _ hd (by rw [hdl]; have := hp1.1; rw [hdl] at this; exact this) (by omega)) entA ?_ (fun _ _ _ _ _ => trivial) | refine J_call0E rfl rfl rfl (refOf_any A _ hd (by rw [hdl]; have := hp1.1; rw [hdl] at this; exact this) (by omega)) entA ?_ (fun _ _ _ _ _ => trivial)))
  rintro _ _ ⟨rfl, rfl⟩
  (refine go ?_)
  refine J_sliceAny (U := tab) (p := 4) (q := 16) rfl rfl rfl rfl rfl rfl rfl (by omega) (by omega) (.inl rfl) ?_
  have hh2 : BAt A (.slice a1 hd.length (c - 16 * k)) hd := by rw [hdl]; exact hp1
  have hh3 := hh2.cut 4 (by omega)
  rw [hdl] at hh3
  refine J_slot 26 (.slice (sliceAt a1 (c - 16 * k) 4 1) (16 - 4) (c - 16 * k - 4)) rfl (by rw [show (4 : Int).toNat = 4 from rfl, show (16 : Int).toNat = 16 from rfl]; rfl) ?_
  (first | refine J_callE rfl rfl rfl rfl (refOf_any A _ (hd.drop 4) hh3.1 (by rw [List.length_drop]; omega)) entA ?_ (fun _ _ _ _ _ => trivial) | refine J_call0E rfl rfl rfl (refOf_any A _ (hd.drop 4) hh3.1 (by rw [List.length_drop]; omega)) entA ?_ (fun _ _ _ _ _ => trivial) | (refine go ?_; first | refine J_callE rfl rfl rfl rfl (refOf_any A _ (hd.drop 4) hh3.1 (by rw [List.length_drop]; omega)) entA ?_ (fun _ _ _ _ _ => trivial) | refine J_call0E rfl rfl rfl (refOf_any A _ (hd.drop 4) hh3.1 (by rw [List.length_drop]; omega)) entA ?_ (fun _ _ _ _ _ => trivial)))
  rintro _ _ ⟨rfl, rfl⟩
  have hn := leN_lt hd
  have hm := leN_lt (hd.drop 4)
  have hok : headOk b k last = decide (last < leN hd ∧ leN hd ≤ 1073741824 ∧ leN hd % 2 = k ∧ leN (hd.drop 4) + 32 ≤ b.length ∧ hd.take 8 = hd.drop 8) := by
    unfold headOk; rw [← hhd]; exact decide_eq_decide.2 (by rw [head_half hdl])
  have hnx : ∀ s' : Nat × Nat, s' = lastOf2 b k (last, len) → s'.2 + 32 ≤ b.length ∧ s'.1 ≤ 1073741824 → (k + 1 ≤ 2 ∧ (k + 1 = 0 → s' = (0, 0)) ∧ (k + 1 = 1 → s' = lastOf2 b 0 (0, 0)) ∧ (k + 1 = 2 → s' = lastOf2 b 1 (lastOf2 b 0 (0, 0))) ∧ s'.2 + 32 ≤ b.length ∧ s'.1 ≤ 1073741824) := by
    intro s' h1 h2
    refine ⟨by omega, by omega, fun h => ?_, fun h => ?_, h2⟩
    · have : k = 0 := by omega
      subst this; rw [h1, hk0 rfl]
    · have : k = 1 := by omega
      subst this; rw [h1, hk1 rfl]
  have hbad : headOk b k last = false → (last, len) = lastOf2 b k (last, len) := fun h => by unfold lastOf2; rw [if_neg (by rw [h]; simp)]
  have hgood : headOk b k last = true → (leN hd, leN (hd.drop 4)) = lastOf2 b k (last, len) := fun h => by unfold lastOf2; rw [if_pos h, ← hhd]
  (refine go ?_)
  refine K_drawA (fun w => Sat G w ([A])) (sts 0 29 .nil) rfl (by kernel_rfl) (by kernel_rfl) (by kernel_rfl) (fun w hw => hw.ent entA) ?_
  repeat' (first | (with_reducible intro _hh) | refine go1 ?_ | refine J_fork ?_ ?_ | refine J_gsP rfl rfl rfl rfl ?_ ?_ | refine K_condP rfl rfl ?_ ?_ | refine J_rem rfl rfl rfl (by omega) (by omega) ?_)
  any_goals (
    have hf : headOk b k last = false := by rw [hok]; exact decide_eq_false (fun h => by simp only at *; omega)
    refine K_again ih (k + 1, last, len) rfl (hnx _ (hbad hf) ⟨hlen, hlast⟩) (by simp only; omega) (by repeat (first | exact keep_nil | refine keep_cons rfl ?_)) entA)
  simp only at *
  have hf8 := hh2.front 8 (by omega)
  have hc8 := hh2.cut 8 (by omega)
  rw [hdl] at hc8
  refine J_sliceAny (U := tab) (p := 0) (q := 8) rfl rfl rfl rfl rfl rfl rfl (by omega) (by omega) (.inr (by omega)) ?_
  refine J_slot 50 (.slice (sliceAt a1 (c - 16 * k) 0 1) 8 (c - 16 * k)) rfl (by rw [show (0 : Int).toNat = 0 from rfl, show (8 : Int).toNat = 8 from rfl]; rfl) ?_
  (refine go ?_)
  refine J_toStrS (U := tab) 0 rfl rfl rfl rfl rfl rfl rfl rfl rfl (by have := hf8.1; rw [show (hd.take 8).length = 8 from by rw [List.length_take]; omega] at this ⊢; exact this) ?_
  (refine go ?_)
  refine J_sliceAny (U := tab) (p := 8) (q := 16) rfl rfl rfl rfl rfl rfl rfl (by omega) (by omega) (.inl rfl) ?_
  refine J_slot 53 (.slice (sliceAt a1 (c - 16 * k) 8 1) (16 - 8) (c - 16 * k - 8)) rfl (by rw [show (8 : Int).toNat = 8 from rfl, show (16 : Int).toNat = 16 from rfl]; rfl) ?_
  (refine go ?_)
  refine J_toStrS (U := tab) 0 rfl rfl rfl rfl rfl rfl rfl rfl rfl hc8.1 ?_
  (refine go ?_)
  rw [eqS_strOf]
  refine K_condP rfl rfl ?_ ?_
  · intro hh
    have hf : headOk b k last = true := by rw [hok]; exact decide_eq_true ⟨by omega, by omega, by omega, by omega, hh⟩
    (refine go ?_)
    refine K_again ih (k + 1, leN hd, leN (hd.drop 4)) rfl (hnx _ (hgood hf) ⟨by simp only; omega, by simp only; omega⟩) (by simp only; omega) (by repeat (first | exact keep_nil | refine keep_cons rfl ?_)) entA
  · intro hh
    have hf : headOk b k last = false := by rw [hok]; exact decide_eq_false (fun h => hh h.2.2.2.2)
    (refine go ?_)
    refine K_again ih (k + 1, last, len) rfl (hnx _ (hbad hf) ⟨hlen, hlast⟩) (by simp only; omega) (by repeat (first | exact keep_nil | refine keep_cons rfl ?_)) entA

theorem flatT_take {ls : List (List UInt8)} {i : Nat} {x : List UInt8} (hx : ls[i]? = some x) : (ls.take (i + 1)).flatMap encL = (ls.take i).flatMap encL ++ encL x := by
  rw [List.take_add_one, hx, Option.toList_some, List.flatMap_append]; simp
theorem flatT_le (ls : List (List UInt8)) (i : Nat) : ((ls.take i).flatMap encL).length ≤ (ls.flatMap encL).length := by
  conv => rhs; rw [← List.take_append_drop i ls]
  rw [List.flatMap_append, List.length_append]; omega
set_option maxRecDepth 20000 in
theorem refAll_any (A : HP) (v : Value) (ls : List (List UInt8)) (hv : LAt A v ls) (hl : (ls.flatMap encL).length ≤ 1000000000) (hn : ls.length ≤ 1000000000) :
    Ctr Tryz.prog 71 [v] [A] (fun r H => H = [slc 5 1 r (ls.flatMap encL).length (bV (ls.flatMap encL)), A]) := by
  obtain ⟨cs, hvv, hcl, ⟨a, c, rfl, hc⟩, hcs⟩ := hv
  refine Ctr.enter Tryz.func71 (by kernel_rfl) rfl Tryz.ntmps71 rfl rfl ?_
  intro G F R hE
  (refine go ?_)
  refine K_ent (slc_lift 5 1 none _) ?_
  refine K_loop (fun y : Nat × List UInt8 × Option Addr × Nat => y.1 ≤ ls.length ∧ y.2.1 = (ls.take y.1).flatMap encL) (fun y => ls.length - y.1)
    (fun y => [(0, .slice a ls.length c), (3, .slice y.2.2.1 y.2.1.length y.2.2.2), (4, .int .i64 (y.1 : Int))])
    (fun y => slc 5 1 (.slice y.2.2.1 y.2.1.length y.2.2.2) y.2.1.length (bV y.2.1) :: A :: F) (0, [], none, 0) ⟨Nat.zero_le _, rfl⟩ rfl (by repeat (first | exact keep_nil | refine keep_cons rfl ?_)) entA ?_
  rintro ⟨i, acc, a1, c1⟩ ⟨hi, hacc⟩ ih
  simp only at hi hacc
  have hal := flatT_le ls i
  rw [← hacc] at hal
  (refine go ?_)
  refine K_condP rfl rfl ?_ ?_
  case' refine_2 =>
    intro hge
    simp only at hge
    have hend : acc = ls.flatMap encL := by rw [hacc, List.take_of_length_le (by omega)]
    subst hend
    (refine go ?_)
    (first | refine K_return hE Tryz.func71 rfl _ rfl rfl entA | refine K_fallEnd hE Tryz.func71 rfl _ rfl rfl entA)
  intro hlt
  simp only at hlt
  have hi' : i < ls.length := by omega
  obtain ⟨x, hx⟩ : ∃ x, ls[i]? = some x := ⟨ls[i], by simp⟩
  obtain ⟨cv, hcv, hbx⟩ := hcs i x hx
  obtain ⟨xa, xc, rfl, hxc⟩ := hbx.2
  have hft := flatT_take hx
  have hal1 := flatT_le ls (i + 1)
  rw [hft, List.length_append, ← hacc] at hal1
  have hex : (encL x).length = (uv x.length).length + x.length := by simp [encL]
  obtain ⟨bb, oo, cc, hsl⟩ := hvv.some (by intro e; rw [e] at hcv; simp at hcv)
  simp only [Value.slice.injEq, true_and] at hsl
  obtain ⟨rfl, rfl⟩ := hsl
  (refine go ?_)
  refine J_at1 (U := tab) i rfl rfl rfl rfl rfl rfl rfl rfl hi' ?_
  refine J_loadAt (U := tab) 1 i rfl rfl rfl hvv rfl hcv rfl rfl ?_
  (first | refine J_callE rfl rfl rfl rfl (refRecord_any A _ x hbx (by omega)) entA ?_ (fun _ _ _ _ _ => trivial) | refine J_call0E rfl rfl rfl (refRecord_any A _ x hbx (by omega)) entA ?_ (fun _ _ _ _ _ => trivial) | (refine go ?_; first | refine J_callE rfl rfl rfl rfl (refRecord_any A _ x hbx (by omega)) entA ?_ (fun _ _ _ _ _ => trivial) | refine J_call0E rfl rfl rfl (refRecord_any A _ x hbx (by omega)) entA ?_ (fun _ _ _ _ _ => trivial)))
  rintro r _ rfl
  (first | refine J_shape 0 rfl ?_ | refine K_shape 0 rfl ?_)
  rintro ra rc rfl
  refine J_slcB (bs := encL x) 0 rfl ?_
  intro hbr
  (refine go ?_)
  refine J_append (U := tab) (mm := (encL x).length) (news := bV (encL x)) 2 0 rfl rfl rfl rfl rfl rfl rfl rfl rfl rfl rfl rfl hbr.1 (by show _ = _ * 1; rw [bV_length]; omega) (bV_one _) (by simp only; omega) (by show (_ + _) * 1 ≤ _; simp only; omega) (fun _ => rfl) (fun _ _ _ => trivial) ?_
  intro v1
  simp only
  rw [show bV acc ++ bV (encL x) = bV (acc ++ encL x) from by simp [bV], show acc.length + (encL x).length = (acc ++ encL x).length from by simp]
  (first | refine J_shape 2 rfl ?_ | refine K_shape 2 rfl ?_)
  rintro a2 c2 rfl
  (refine go ?_)
  refine K_again ih (i + 1, acc ++ encL x, a2, c2) rfl ⟨by simp only; omega, by simp only; rw [hft, hacc]⟩ (by simp only; omega) (by repeat (first | exact keep_nil | refine keep_cons rfl ?_)) entA
end Go.Proofs.YtpdmbmnhgcnelaaGreat

/- the reference's disk, known by its model alone. -/
set_option linter.unusedVariables false
set_option linter.unusedSimpArgs false
namespace Go.Proofs.YtpdmbmnhgcnelaaGreat
open Go Go.SL
attribute [local irreducible] J K Ctr Ends pts slc mapR mapI sbRow stock arrS
def rdM (br : Nat) (m : RM) : HP := fun h => ∃ D, RR D m ∧ rd br D h
theorem rdM_in {br : Nat} {D : RDk} {m : RM} (h : RR D m) (H : List HP) : Ent (rd br D :: H) (rdM br m :: H) := Ent.fold (B := [_]) fun h' hs => ⟨h', sub.refl h', D, h, Sep_one hs⟩
theorem sat_rdM {G : Glob} {w : World} {br : Nat} {m : RM} {H : List HP} (hs : Sat G w (rdM br m :: H)) : ∃ D, RR D m ∧ Sat G w (rd br D :: H) := by
  obtain ⟨t, o, u, hp, hpw, h1, h2, ⟨D, hR, hA⟩, hH, hd, he⟩ := hs
  exact ⟨D, hR, t, o, u, hp, hpw, h1, h2, hA, hH, hd, he⟩
end Go.Proofs.YtpdmbmnhgcnelaaGreat
namespace Go.Proofs.YtpdmbmnhgcnelaaGreat
open Go Go.SL
theorem ctr_rd {P : Program} {f : FuncId} {args : List Value} {br : Nat} {m : RM} {Pre : List HP} {Post Post' : Value → List HP → Prop} (hc : P.funcs[f]?.map callable = some true)
    (h : ∀ D, RR D m → Ctr P f args (rd br D :: Pre) Post) (hp : ∀ v H, Post v H → ∃ H', Post' v H' ∧ Ent H H') : Ctr P f args (rdM br m :: Pre) Post' :=
  ⟨hc, fun G w F hw => by
    obtain ⟨D, hR, hw1⟩ := sat_rdM hw
    exact ((h D hR).2 G w F hw1).mono fun e w' h' => let ⟨v, H, he, hpo, hs⟩ := h'; let ⟨H', hq, hE⟩ := hp v H hpo; ⟨v, H', he, hq, hs.ent (Ent.append F hE)⟩⟩
attribute [local irreducible] J K Ctr Ends pts slc mapR mapI sbRow stock arrS
theorem New_rM (room : Int) (h1 : 1 ≤ room) (h2 : room ≤ 1073741824) : Ctr Tryz.prog 7 [.int .i64 room] [] (fun v H => ∃ br, v = .tuple #[ptr br, .int .i64 0] ∧ H = [rdM br (RM.new room)]) :=
  Ctr.conv (mNew_any room h1 h2) (Ent.refl _) (by rintro v H ⟨br, D, hR, rfl, rfl⟩; exact ⟨_, ⟨br, rfl, rfl⟩, rdM_in hR _⟩)
theorem Create_rM (br k : Nat) (m : RM) (hM : MOk m k) (name : ByteArray) (hs : name.size ≤ 9223372036854775807) :
    Ctr Tryz.prog 70 [ptr br, .string name] [rdM br m] (fun v H => v = .int .i64 ((m.create (isName name) name).1 : Int) ∧ H = [rdM br (m.create (isName name) name).2]) :=
  ctr_rd (by kernel_rfl) (fun D hR => mCreate_any br k D m hR hM name hs) (by rintro v H ⟨D', hR, rfl, rfl⟩; exact ⟨_, ⟨rfl, rfl⟩, rdM_in hR _⟩)
theorem Sync_rM (br k : Nat) (m : RM) (hM : MOk m k) (name : ByteArray) (hs : name.size ≤ 9223372036854775807) :
    Ctr Tryz.prog 42 [ptr br, .string name] [rdM br m] (fun v H => v = .int .i64 ((m.sync (isName name) name).1 : Int) ∧ H = [rdM br (m.sync (isName name) name).2]) :=
  ctr_rd (by kernel_rfl) (fun D hR => mSync_any br k D m hR hM name hs) (by rintro v H ⟨D', hR, rfl, rfl⟩; exact ⟨_, ⟨rfl, rfl⟩, rdM_in hR _⟩)
theorem Remove_rM (br k : Nat) (m : RM) (hM : MOk m k) (name : ByteArray) (hs : name.size ≤ 9223372036854775807) :
    Ctr Tryz.prog 69 [ptr br, .string name] [rdM br m] (fun v H => v = .int .i64 ((m.remove (isName name) name).1 : Int) ∧ H = [rdM br (m.remove (isName name) name).2]) :=
  ctr_rd (by kernel_rfl) (fun D hR => mRemove_any br k D m hR hM name hs) (by rintro v H ⟨D', hR, rfl, rfl⟩; exact ⟨_, ⟨rfl, rfl⟩, rdM_in hR _⟩)
theorem Rename_rM (br k : Nat) (m : RM) (hM : MOk m k) (old name : ByteArray) (hs : old.size ≤ 9223372036854775807) (hs2 : name.size ≤ 9223372036854775807) :
    Ctr Tryz.prog 73 [ptr br, .string old, .string name] [rdM br m] (fun v H => v = .int .i64 ((m.rename (isName old && isName name) old name).1 : Int) ∧ H = [rdM br (m.rename (isName old && isName name) old name).2]) :=
  ctr_rd (by kernel_rfl) (fun D hR => mRename_any br k D m hR hM old name hs hs2) (by rintro v H ⟨D', hR, rfl, rfl⟩; exact ⟨_, ⟨rfl, rfl⟩, rdM_in hR _⟩)
theorem SyncNames_rM (br : Nat) (m : RM) : Ctr Tryz.prog 74 [ptr br] [rdM br m] (fun v H => v = .int .i64 (m.syncNames.1 : Int) ∧ H = [rdM br m.syncNames.2]) :=
  ctr_rd (by kernel_rfl) (fun D hR => mSyncNames_any br D m hR) (by rintro v H ⟨D', hR, rfl, rfl⟩; exact ⟨_, ⟨rfl, rfl⟩, rdM_in hR _⟩)
theorem Write_rM (br k : Nat) (m : RM) (hM : MOk m k) (name : ByteArray) (hs : name.size ≤ 9223372036854775807) (at_ : Int) (ha : -9223372036854775808 ≤ at_ ∧ at_ ≤ 9223372036854775807)
    (X : HP) (bv : Value) (b : List UInt8) (hv : Vw X bv b.length (bV b)) (hb : b.length ≤ 9223372036854775807) :
    Ctr Tryz.prog 40 [ptr br, .string name, .int .i64 at_, bv] [rdM br m, X] (fun v H => v = .int .i64 ((m.write (wOk name at_ b.length) name at_.toNat b).1 : Int) ∧ H = [rdM br (m.write (wOk name at_ b.length) name at_.toNat b).2, X]) :=
  ctr_rd (by kernel_rfl) (fun D hR => mWrite_any br k D m hR hM name hs at_ ha X bv b hv hb) (by rintro v H ⟨D', hR, rfl, rfl⟩; exact ⟨_, ⟨rfl, rfl⟩, rdM_in hR _⟩)
theorem Size_rM (br k : Nat) (m : RM) (hM : MOk m k) (name : ByteArray) :
    Ctr Tryz.prog 26 [ptr br, .string name] [rdM br m] (fun v H => v = .tuple #[.int .i64 ((m.size name).1 : Int), .int .i64 ((m.size name).2 : Int)] ∧ H = [rdM br m]) :=
  ctr_rd (Post := fun v H => ∃ D, RR D m ∧ v = .tuple #[.int .i64 ((m.size name).1 : Int), .int .i64 ((m.size name).2 : Int)] ∧ H = [rd br D]) (by kernel_rfl) (fun D hR => (mSize_any br k D m hR hM name).post (fun v H h => ⟨D, hR, h⟩)) (by rintro v H ⟨D', hR, rfl, rfl⟩; exact ⟨_, ⟨rfl, rfl⟩, rdM_in hR _⟩)
theorem Read_rM (br k : Nat) (m : RM) (hM : MOk m k) (name : ByteArray) (at_ n : Int) (ha : -9223372036854775808 ≤ at_ ∧ at_ ≤ 9223372036854775807) (hn : -9223372036854775808 ≤ n ∧ n ≤ 9223372036854775807) :
    Ctr Tryz.prog 27 [ptr br, .string name, .int .i64 at_, .int .i64 n] [rdM br m] (fun v H => ∃ (a : Option Addr) (c : Nat), v = .tuple #[.slice a (m.read name at_ n).1.length c, .int .i64 ((m.read name at_ n).2 : Int)] ∧ H = [slc 5 1 (.slice a (m.read name at_ n).1.length c) (m.read name at_ n).1.length (bV (m.read name at_ n).1), rdM br m]) :=
  ctr_rd (Post := fun v H => ∃ D, RR D m ∧ ∃ (a : Option Addr) (c : Nat), v = .tuple #[.slice a (m.read name at_ n).1.length c, .int .i64 ((m.read name at_ n).2 : Int)] ∧ H = [slc 5 1 (.slice a (m.read name at_ n).1.length c) (m.read name at_ n).1.length (bV (m.read name at_ n).1), rd br D]) (by kernel_rfl) (fun D hR => (mRead_any br k D m hR hM name at_ n ha hn).post (fun v H h => ⟨D, hR, h⟩)) (by rintro v H ⟨D', hR, a, c, rfl, rfl⟩; exact ⟨_, ⟨a, c, rfl, rfl⟩, Ent.cons _ (rdM_in hR [])⟩)
/-! ## put, plain -/
def andThen (x : Nat × RM) (f : RM → Nat × RM) : Nat × RM := if x.1 = 0 then f x.2 else x
theorem andThen_ok {x : Nat × RM} (h : x.1 = 0) (f : RM → Nat × RM) : andThen x f = f x.2 := if_pos h
theorem andThen_no {x : Nat × RM} (h : ¬ x.1 = 0) (f : RM → Nat × RM) : andThen x f = x := if_neg h
namespace RM
def put0 (m : RM) (name : ByteArray) : Nat × RM := if (m.size (freshOf name)).2 = 0 then m.remove (isName (freshOf name)) (freshOf name) else (0, m)
def put1 (m : RM) (name : ByteArray) : Nat × RM := andThen (m.put0 name) fun m => m.create (isName (freshOf name)) (freshOf name)
def put2 (m : RM) (name : ByteArray) (ls : List (List UInt8)) : Nat × RM := andThen (m.put1 name) fun m => m.write (wOk (freshOf name) 0 (wholeOf ls).length) (freshOf name) 0 (wholeOf ls)
def put3 (m : RM) (name : ByteArray) (ls : List (List UInt8)) : Nat × RM := andThen (m.put2 name ls) fun m => m.sync (isName (freshOf name)) (freshOf name)
def put4 (m : RM) (name : ByteArray) (ls : List (List UInt8)) : Nat × RM := andThen (m.put3 name ls) fun m => m.rename (isName (freshOf name) && isName name) (freshOf name) name
def put (m : RM) (name : ByteArray) (ls : List (List UInt8)) : Nat × RM := andThen (m.put4 name ls) fun m => m.syncNames
end RM
theorem wOk_bound {name : ByteArray} {at_ : Int} {n : Nat} (h : wOk name at_ n = true) : at_.toNat + n ≤ 1048576 := by
  unfold wOk at h
  rw [Bool.and_eq_true, decide_eq_true_eq] at h
  omega
theorem mayW_wOk (name : ByteArray) (at_ : Int) (b : List UInt8) : mayW name at_ b = wOk name at_ b.length := by
  unfold mayW wOk
  rw [Bool.and_assoc, Bool.and_assoc]
  congr 1
  rw [← Bool.decide_and, ← Bool.decide_and]
theorem MOk.put0 {m : RM} {k : Nat} (h : MOk m k) (hk : k + 1 ≤ 100000) (name : ByteArray) : MOk (m.put0 name).2 (k + 1) := by
  unfold RM.put0
  split
  · exact h.remove hk _ _
  · exact h.up (Nat.le_succ _) hk
theorem MOk.put1 {m : RM} {k : Nat} (h : MOk m k) (hk : k + 2 ≤ 100000) (name : ByteArray) : MOk (m.put1 name).2 (k + 2) := by
  have h0 := h.put0 (by omega) name
  unfold RM.put1 andThen
  split
  · exact h0.create hk _ _
  · exact h0.up (Nat.le_succ _) hk
theorem MOk.put2 {m : RM} {k : Nat} (h : MOk m k) (hk : k + 3 ≤ 100000) (name : ByteArray) (ls : List (List UInt8)) : MOk (m.put2 name ls).2 (k + 3) := by
  have h0 := h.put1 (by omega) name
  unfold RM.put2 andThen
  split
  · exact h0.write hk _ _ _ _ (fun hh => wOk_bound hh)
  · exact h0.up (Nat.le_succ _) hk
theorem MOk.put3 {m : RM} {k : Nat} (h : MOk m k) (hk : k + 3 ≤ 100000) (name : ByteArray) (ls : List (List UInt8)) : MOk (m.put3 name ls).2 (k + 3) := by
  have h0 := h.put2 (by omega) name ls
  unfold RM.put3 andThen
  split
  · exact h0.sync _ _
  · exact h0
theorem MOk.put4 {m : RM} {k : Nat} (h : MOk m k) (hk : k + 4 ≤ 100000) (name : ByteArray) (ls : List (List UInt8)) : MOk (m.put4 name ls).2 (k + 4) := by
  have h0 := h.put3 (by omega) name ls
  unfold RM.put4 andThen
  split
  · exact h0.rename hk _ _ _
  · exact h0.up (Nat.le_succ _) hk
theorem MOk.put {m : RM} {k : Nat} (h : MOk m k) (hk : k + 4 ≤ 100000) (name : ByteArray) (ls : List (List UInt8)) : MOk (m.put name ls).2 (k + 4) := by
  have h0 := h.put4 (by omega) name ls
  unfold RM.put andThen
  split
  · exact h0.syncNames
  · exact h0
def PSim (x : PS) (m : RM) : Prop := Sim x.1 m
/-- The same steps at both. -/
theorem Runs_step {ss : List (PS → Nat → PS → Prop)} {s : PS → Nat → PS → Prop} {x : PS} {e : Nat} {y : PS} (hr : Runs (s :: ss) x e y) {m : RM} {f : RM → Nat × RM}
    (hs : ∀ e1 x1, s x e1 x1 → e1 = (f m).1 ∧ Sim x1.1 (f m).2 ∧ x1.2 = x.2) {Q : Nat → PS → Prop}
    (hno : ∀ e1 x1, e1 ≠ 0 → e1 = (f m).1 → Sim x1.1 (f m).2 → x1.2 = x.2 → Q e1 x1) (hok : ∀ x1, (f m).1 = 0 → Sim x1.1 (f m).2 → x1.2 = x.2 → Runs ss x1 e y → Q e y) : Q e y := by
  obtain ⟨e1, x1, h1, h2 | h2⟩ := hr
  · obtain ⟨h3, h4, h5⟩ := hs e1 x1 h1
    obtain ⟨h6, rfl, rfl⟩ := h2
    exact hno _ _ h6 h3 h4 h5
  · obtain ⟨h3, h4, h5⟩ := hs e1 x1 h1
    exact hok x1 (h3.symm.trans h2.1) h4 h5 h2.2
theorem Sim.put {name : ByteArray} {ls : List (List UInt8)} {x y : PS} {e : Nat} {m : RM} (h : Sim x.1 m) (hr : PutR name ls x e y) :
    e = (m.put name ls).1 ∧ Sim y.1 (m.put name ls).2 ∧ y.2 = (if e = 0 then ((1 : Int), ((ls.flatMap encL).length : Int), ((ls.flatMap encL).length : Int)) else x.2) := by
  have hQ : ∀ (e1 : Nat) (x1 : PS), e1 ≠ 0 → x1.2 = x.2 → ∀ z : Nat × RM, e1 = z.1 → Sim x1.1 z.2 → m.put name ls = z → e1 = (m.put name ls).1 ∧ Sim x1.1 (m.put name ls).2 ∧ x1.2 = (if e1 = 0 then ((1 : Int), ((ls.flatMap encL).length : Int), ((ls.flatMap encL).length : Int)) else x.2) := by
    intro e1 x1 h1 h2 z h3 h4 h5
    rw [h5, if_neg h1]; exact ⟨h3, h4, h2⟩
  have tail : ∀ x0 : PS, Sim x0.1 (m.put0 name).2 → x0.2 = x.2 → (m.put0 name).1 = 0 → Runs [sCreate (freshOf name), sWrite (freshOf name) (wholeOf ls), sSync (freshOf name), sRename (freshOf name) name, sNames, sSet (ls.flatMap encL).length] x0 e y →
      e = (m.put name ls).1 ∧ Sim y.1 (m.put name ls).2 ∧ y.2 = (if e = 0 then ((1 : Int), ((ls.flatMap encL).length : Int), ((ls.flatMap encL).length : Int)) else x.2) := by
    intro x0 hS0 hx0 h0 hr
    have e1 : m.put1 name = (m.put0 name).2.create (isName (freshOf name)) (freshOf name) := andThen_ok h0 _
    refine Runs_step hr (f := fun m => m.create (isName (freshOf name)) (freshOf name)) (m := (m.put0 name).2) ?_ (Q := fun e y => e = (m.put name ls).1 ∧ Sim y.1 (m.put name ls).2 ∧ y.2 = (if e = 0 then ((1 : Int), ((ls.flatMap encL).length : Int), ((ls.flatMap encL).length : Int)) else x.2)) ?_ ?_
    · rintro ea xa ⟨⟨f, hf, h1, h2⟩, h3⟩
      have := hS0.create (isName (freshOf name)) (freshOf name) hf
      exact ⟨h1.trans this.1, h2 ▸ this.2, h3⟩
    · intro ea xa h1 h2 h3 h4
      try simp only at h2 h3
      rw [← e1] at h2 h3
      refine hQ ea xa h1 (h4.trans hx0) _ h2 h3 ?_
      have hn : ¬ (m.put1 name).1 = 0 := fun hh => h1 (h2.trans hh)
      have e2 : m.put2 name ls = m.put1 name := andThen_no hn _
      have e3 : m.put3 name ls = m.put2 name ls := andThen_no (by rw [e2]; exact hn) _
      have e4 : m.put4 name ls = m.put3 name ls := andThen_no (by rw [e3, e2]; exact hn) _
      have e5 : m.put name ls = m.put4 name ls := andThen_no (by rw [e4, e3, e2]; exact hn) _
      rw [e5, e4, e3, e2]
    intro xa h1 hSa hxa hr
    try simp only at h1 hSa
    rw [← e1] at h1 hSa
    have e2 : m.put2 name ls = (m.put1 name).2.write (wOk (freshOf name) 0 (wholeOf ls).length) (freshOf name) 0 (wholeOf ls) := andThen_ok h1 _
    refine Runs_step hr (f := fun m => m.write (wOk (freshOf name) 0 (wholeOf ls).length) (freshOf name) 0 (wholeOf ls)) (m := (m.put1 name).2) ?_ (Q := fun e y => e = (m.put name ls).1 ∧ Sim y.1 (m.put name ls).2 ∧ y.2 = (if e = 0 then ((1 : Int), ((ls.flatMap encL).length : Int), ((ls.flatMap encL).length : Int)) else x.2)) ?_ ?_
    · rintro eb xb ⟨⟨h1, h2⟩, h3⟩
      have := hSa.write (mayW (freshOf name) 0 (wholeOf ls)) (freshOf name) 0 (wholeOf ls)
      rw [mayW_wOk] at h1 h2 this
      exact ⟨h1.trans this.1, h2 ▸ this.2, h3⟩
    · intro eb xb h1 h2 h3 h4
      try simp only at h2 h3
      rw [← e2] at h2 h3
      refine hQ eb xb h1 (h4.trans (hxa.trans hx0)) _ h2 h3 ?_
      have hn : ¬ (m.put2 name ls).1 = 0 := fun hh => h1 (h2.trans hh)
      have e3 : m.put3 name ls = m.put2 name ls := andThen_no hn _
      have e4 : m.put4 name ls = m.put3 name ls := andThen_no (by rw [e3]; exact hn) _
      have e5 : m.put name ls = m.put4 name ls := andThen_no (by rw [e4, e3]; exact hn) _
      rw [e5, e4, e3]
    intro xb h1 hSb hxb hr
    try simp only at h1 hSb
    rw [← e2] at h1 hSb
    have e3 : m.put3 name ls = (m.put2 name ls).2.sync (isName (freshOf name)) (freshOf name) := andThen_ok h1 _
    refine Runs_step hr (f := fun m => m.sync (isName (freshOf name)) (freshOf name)) (m := (m.put2 name ls).2) ?_ (Q := fun e y => e = (m.put name ls).1 ∧ Sim y.1 (m.put name ls).2 ∧ y.2 = (if e = 0 then ((1 : Int), ((ls.flatMap encL).length : Int), ((ls.flatMap encL).length : Int)) else x.2)) ?_ ?_
    · rintro ec xc ⟨⟨h1, h2⟩, h3⟩
      have := hSb.sync (isName (freshOf name)) (freshOf name)
      exact ⟨h1.trans this.1, h2 ▸ this.2, h3⟩
    · intro ec xc h1 h2 h3 h4
      try simp only at h2 h3
      rw [← e3] at h2 h3
      refine hQ ec xc h1 (h4.trans (hxb.trans (hxa.trans hx0))) _ h2 h3 ?_
      have hn : ¬ (m.put3 name ls).1 = 0 := fun hh => h1 (h2.trans hh)
      have e4 : m.put4 name ls = m.put3 name ls := andThen_no hn _
      have e5 : m.put name ls = m.put4 name ls := andThen_no (by rw [e4]; exact hn) _
      rw [e5, e4]
    intro xc h1 hSc hxc hr
    try simp only at h1 hSc
    rw [← e3] at h1 hSc
    have e4 : m.put4 name ls = (m.put3 name ls).2.rename (isName (freshOf name) && isName name) (freshOf name) name := andThen_ok h1 _
    refine Runs_step hr (f := fun m => m.rename (isName (freshOf name) && isName name) (freshOf name) name) (m := (m.put3 name ls).2) ?_ (Q := fun e y => e = (m.put name ls).1 ∧ Sim y.1 (m.put name ls).2 ∧ y.2 = (if e = 0 then ((1 : Int), ((ls.flatMap encL).length : Int), ((ls.flatMap encL).length : Int)) else x.2)) ?_ ?_
    · rintro ed xd ⟨⟨h1, h2⟩, h3⟩
      have := hSc.rename ([freshOf name, name].all isName) (freshOf name) name
      have hb : [freshOf name, name].all isName = (isName (freshOf name) && isName name) := by simp
      rw [hb] at h1 h2 this
      exact ⟨h1.trans this.1, h2 ▸ this.2, h3⟩
    · intro ed xd h1 h2 h3 h4
      try simp only at h2 h3
      rw [← e4] at h2 h3
      refine hQ ed xd h1 (h4.trans (hxc.trans (hxb.trans (hxa.trans hx0)))) _ h2 h3 ?_
      have hn : ¬ (m.put4 name ls).1 = 0 := fun hh => h1 (h2.trans hh)
      have e5 : m.put name ls = m.put4 name ls := andThen_no hn _
      rw [e5]
    intro xd h1 hSd hxd hr
    try simp only at h1 hSd
    rw [← e4] at h1 hSd
    have e5 : m.put name ls = (m.put4 name ls).2.syncNames := andThen_ok h1 _
    refine Runs_step hr (f := fun m => m.syncNames) (m := (m.put4 name ls).2) ?_ (Q := fun e y => e = (m.put name ls).1 ∧ Sim y.1 (m.put name ls).2 ∧ y.2 = (if e = 0 then ((1 : Int), ((ls.flatMap encL).length : Int), ((ls.flatMap encL).length : Int)) else x.2)) ?_ ?_
    · rintro ee xe ⟨⟨h1, h2⟩, h3⟩
      have := hSd.syncNames
      exact ⟨h1.trans this.1, h2 ▸ this.2, h3⟩
    · intro ee xe h1 h2 h3 h4
      try simp only at h2 h3
      rw [← e5] at h2 h3
      exact hQ ee xe h1 (h4.trans (hxd.trans (hxc.trans (hxb.trans (hxa.trans hx0))))) _ h2 h3 rfl
    intro xe h1 hSe hxe hr
    try simp only at h1 hSe
    rw [← e5] at h1 hSe
    obtain ⟨ef, xf, ⟨rfl, rfl⟩, h2 | h2⟩ := hr
    · exact absurd rfl h2.1
    · obtain ⟨_, rfl, rfl⟩ := h2
      rw [if_pos rfl]
      exact ⟨h1.symm, hSe, rfl⟩
  unfold PutR putSteps at hr
  rw [h.size] at hr
  by_cases hz : (m.size (freshOf name)).2 = 0
  · rw [if_pos hz] at hr
    have e0 : m.put0 name = m.remove (isName (freshOf name)) (freshOf name) := if_pos hz
    rw [List.singleton_append] at hr
    refine Runs_step hr (f := fun m => m.remove (isName (freshOf name)) (freshOf name)) (m := m) ?_ (Q := fun e y => e = (m.put name ls).1 ∧ Sim y.1 (m.put name ls).2 ∧ y.2 = (if e = 0 then ((1 : Int), ((ls.flatMap encL).length : Int), ((ls.flatMap encL).length : Int)) else x.2)) ?_ ?_
    · rintro ea xa ⟨⟨h1, h2⟩, h3⟩
      have := h.remove (isName (freshOf name)) (freshOf name)
      exact ⟨h1.trans this.1, h2 ▸ this.2, h3⟩
    · intro ea xa h1 h2 h3 h4
      try simp only at h2 h3
      rw [← e0] at h2 h3
      refine hQ ea xa h1 h4 _ h2 h3 ?_
      have hn : ¬ (m.put0 name).1 = 0 := fun hh => h1 (h2.trans hh)
      have e1 : m.put1 name = m.put0 name := andThen_no hn _
      have e2 : m.put2 name ls = m.put1 name := andThen_no (by rw [e1]; exact hn) _
      have e3 : m.put3 name ls = m.put2 name ls := andThen_no (by rw [e2, e1]; exact hn) _
      have e4 : m.put4 name ls = m.put3 name ls := andThen_no (by rw [e3, e2, e1]; exact hn) _
      have e5 : m.put name ls = m.put4 name ls := andThen_no (by rw [e4, e3, e2, e1]; exact hn) _
      rw [e5, e4, e3, e2, e1]
    · intro xa h1 hSa hxa hr
      try simp only at h1 hSa
      rw [← e0] at h1 hSa
      exact tail xa hSa hxa h1 hr
  · rw [if_neg hz, List.nil_append] at hr
    have e0 : m.put0 name = (0, m) := if_neg hz
    exact tail x (by rw [e0]; exact h) rfl (by rw [e0]) hr
end Go.Proofs.YtpdmbmnhgcnelaaGreat

/- the reference's journal, part d: put. -/
set_option linter.unusedVariables false
set_option linter.unusedSimpArgs false
namespace Go.Proofs.YtpdmbmnhgcnelaaGreat
open Go Go.SL
attribute [local irreducible] J K Ctr Ends pts slc mapR mapI sbRow stock arrS loopP CtrY diskA LI listH rdM

set_option maxHeartbeats 4000000 in
set_option maxRecDepth 20000 in
theorem refPut_any (br jb k : Nat) (m : RM) (hM : MOk m k) (hk : k + 4 ≤ 100000) (name : ByteArray) (hname : name.size ≤ 1000000000) (n s o : Int) (bk : Bool) (A : HP) (lv : Value) (ls : List (List UInt8)) (hv : LAt A lv ls) (hl : (ls.flatMap encL).length ≤ 100000000) (hn : ls.length ≤ 1000000000) :
    Ctr Tryz.prog 29 [ptr jb, lv] [rdM br m, pts jb (cl [ptr br, .string name, .int .i64 n, .int .i64 s, .int .i64 o, .bool bk] 48), A]
      (fun r H => r = .int .i64 ((m.put name ls).1 : Int) ∧ H = [rdM br (m.put name ls).2, pts jb (cl (if (m.put name ls).1 = 0 then [ptr br, .string name, .int .i64 1, .int .i64 ((ls.flatMap encL).length : Int), .int .i64 ((ls.flatMap encL).length : Int), .bool bk] else [ptr br, .string name, .int .i64 n, .int .i64 s, .int .i64 o, .bool bk]) 48), A]) := by
  have hfr : (freshOf name).size ≤ 9223372036854775807 := by
    have : (freshOf name).size = name.size + 4 := by unfold freshOf; rw [ByteArray.size_append]; rfl
    omega
  have hM0 := hM.put0 (by omega) name
  have hM1 := hM.put1 (by omega) name
  have hM2 := hM.put2 (by omega) name ls
  have hM3 := hM.put3 (by omega) name ls
  have hM4 := hM.put4 hk name ls
  refine Ctr.enter Tryz.func29 (by kernel_rfl) rfl Tryz.ntmps29 rfl rfl ?_
  intro G F R hE
  (refine go ?_)
  refine J_strAdd rfl rfl rfl (by show name.size + 4 ≤ _; omega) ?_
  refine J_slot 14 (.string (freshOf name)) rfl rfl ?_
  (refine go ?_)
  (first | refine J_callE rfl rfl rfl rfl (Size_rM br k m hM (freshOf name)) entA ?_ (fun _ _ _ _ _ => trivial) | refine J_call0E rfl rfl rfl (Size_rM br k m hM (freshOf name)) entA ?_ (fun _ _ _ _ _ => trivial) | (refine go ?_; first | refine J_callE rfl rfl rfl rfl (Size_rM br k m hM (freshOf name)) entA ?_ (fun _ _ _ _ _ => trivial) | refine J_call0E rfl rfl rfl (Size_rM br k m hM (freshOf name)) entA ?_ (fun _ _ _ _ _ => trivial)))
  rintro _ _ ⟨rfl, rfl⟩
  (refine go ?_)
  refine K_mid 1 (fun _ : Unit => (m.put0 name).1 = 0) (fun _ => [(0, ptr jb), (1, lv), (5, .string (freshOf name))]) (fun _ => rdM br (m.put0 name).2 :: pts jb (cl [ptr br, .string name, .int .i64 n, .int .i64 s, .int .i64 o, .bool bk] 48) :: A :: F) rfl ?_ ?_
  rotate_left
  · intro tail
    by_cases hz : (m.size (freshOf name)).2 = 0
    · have e0 : m.put0 name = m.remove (isName (freshOf name)) (freshOf name) := if_pos hz
      refine K_condP rfl rfl ?_ ?_
      case' refine_2 => (intro h; exact absurd (by omega) h)
      intro _
      (refine go ?_)
      (first | refine J_callE rfl rfl rfl rfl (Remove_rM br k m hM (freshOf name) hfr) entA ?_ (fun _ _ _ _ _ => trivial) | refine J_call0E rfl rfl rfl (Remove_rM br k m hM (freshOf name) hfr) entA ?_ (fun _ _ _ _ _ => trivial) | (refine go ?_; first | refine J_callE rfl rfl rfl rfl (Remove_rM br k m hM (freshOf name) hfr) entA ?_ (fun _ _ _ _ _ => trivial) | refine J_call0E rfl rfl rfl (Remove_rM br k m hM (freshOf name) hfr) entA ?_ (fun _ _ _ _ _ => trivial)))
      rintro _ _ ⟨rfl, rfl⟩
      rw [← e0]
      by_cases hno : (m.put0 name).1 = 0
      · (refine go ?_)
        refine K_condP rfl rfl ?_ ?_
        · intro h; exact absurd (by omega) h
        intro _
        refine K_to tail () rfl hno (by repeat (first | exact keep_nil | refine keep_cons rfl ?_)) entA
      · (refine go ?_)
        refine K_condP rfl rfl ?_ ?_
        case' refine_2 => (intro h; exact absurd (by omega) h)
        intro _
        have f0 : (m.put1 name) = (m.put0 name) := andThen_no hno _
        have f1 : (m.put2 name ls) = (m.put1 name) := andThen_no (by rw [f0]; exact hno) _
        have f2 : (m.put3 name ls) = (m.put2 name ls) := andThen_no (by rw [f1, f0]; exact hno) _
        have f3 : (m.put4 name ls) = (m.put3 name ls) := andThen_no (by rw [f2, f1, f0]; exact hno) _
        have f4 : (m.put name ls) = (m.put4 name ls) := andThen_no (by rw [f3, f2, f1, f0]; exact hno) _
        rw [f4, f3, f2, f1, f0, if_neg hno] at hE
        (refine go ?_)
        (first | refine K_return hE Tryz.func29 rfl _ rfl ⟨rfl, rfl⟩ entA | refine K_fallEnd hE Tryz.func29 rfl _ rfl ⟨rfl, rfl⟩ entA)
    · have e0 : m.put0 name = (0, m) := if_neg hz
      refine K_condP rfl rfl ?_ ?_
      · intro h; exact absurd (by omega) hz
      intro _
      rw [show rdM br m = rdM br (m.put0 name).2 from by rw [e0]]
      refine K_to tail () rfl (by rw [e0]) (by repeat (first | exact keep_nil | refine keep_cons rfl ?_)) entA
  rintro - h0
  (refine go ?_)
  have e1 : m.put1 name = (m.put0 name).2.create (isName (freshOf name)) (freshOf name) := andThen_ok h0 _
  (first | refine J_callE rfl rfl rfl rfl (Create_rM br (k + 1) _ hM0 (freshOf name) hfr) entA ?_ (fun _ _ _ _ _ => trivial) | refine J_call0E rfl rfl rfl (Create_rM br (k + 1) _ hM0 (freshOf name) hfr) entA ?_ (fun _ _ _ _ _ => trivial) | (refine go ?_; first | refine J_callE rfl rfl rfl rfl (Create_rM br (k + 1) _ hM0 (freshOf name) hfr) entA ?_ (fun _ _ _ _ _ => trivial) | refine J_call0E rfl rfl rfl (Create_rM br (k + 1) _ hM0 (freshOf name) hfr) entA ?_ (fun _ _ _ _ _ => trivial)))
  rintro _ _ ⟨rfl, rfl⟩
  rw [← e1]
  (refine go ?_)
  (first | refine J_callE rfl rfl rfl rfl (refAll_any A lv ls hv (by omega) hn) entA ?_ (fun _ _ _ _ _ => trivial) | refine J_call0E rfl rfl rfl (refAll_any A lv ls hv (by omega) hn) entA ?_ (fun _ _ _ _ _ => trivial) | (refine go ?_; first | refine J_callE rfl rfl rfl rfl (refAll_any A lv ls hv (by omega) hn) entA ?_ (fun _ _ _ _ _ => trivial) | refine J_call0E rfl rfl rfl (refAll_any A lv ls hv (by omega) hn) entA ?_ (fun _ _ _ _ _ => trivial)))
  rintro bv _ rfl
  (first | refine J_shape 0 rfl ?_ | refine K_shape 0 rfl ?_)
  rintro ba bc rfl
  obtain ⟨B, hB⟩ : ∃ B, B = ls.flatMap encL := ⟨_, rfl⟩
  rw [← hB] at hl hE ⊢
  refine J_slcB (bs := B) 0 rfl ?_
  intro hbb
  by_cases h1 : (m.put1 name).1 = 0
  case neg =>
    have hno := h1
    have f0 : (m.put2 name ls) = (m.put1 name) := andThen_no hno _
    have f1 : (m.put3 name ls) = (m.put2 name ls) := andThen_no (by rw [f0]; exact hno) _
    have f2 : (m.put4 name ls) = (m.put3 name ls) := andThen_no (by rw [f1, f0]; exact hno) _
    have f3 : (m.put name ls) = (m.put4 name ls) := andThen_no (by rw [f2, f1, f0]; exact hno) _
    rw [f3, f2, f1, f0, if_neg hno] at hE
    (refine go ?_)
    (first | refine J_slot 44 ((.bool false)) rfl ((congrArg Value.bool (decide_eq_false (fun h => hno (by omega))))) ?_ | refine K_slot 44 ((.bool false)) rfl ((congrArg Value.bool (decide_eq_false (fun h => hno (by omega))))) ?_)
    (refine go ?_)
    (first | refine J_slot 60 ((.bool false)) rfl ((congrArg Value.bool (decide_eq_false (fun h => hno (by omega))))) ?_ | refine K_slot 60 ((.bool false)) rfl ((congrArg Value.bool (decide_eq_false (fun h => hno (by omega))))) ?_)
    (refine go ?_)
    (first | refine J_slot 68 ((.bool false)) rfl ((congrArg Value.bool (decide_eq_false (fun h => hno (by omega))))) ?_ | refine K_slot 68 ((.bool false)) rfl ((congrArg Value.bool (decide_eq_false (fun h => hno (by omega))))) ?_)
    (refine go ?_)
    (first | refine J_slot 80 ((.bool false)) rfl ((congrArg Value.bool (decide_eq_false (fun h => hno (by omega))))) ?_ | refine K_slot 80 ((.bool false)) rfl ((congrArg Value.bool (decide_eq_false (fun h => hno (by omega))))) ?_)
    (refine go ?_)
    (first | refine J_slot 87 ((.bool false)) rfl ((congrArg Value.bool (decide_eq_false (fun h => hno (by omega))))) ?_ | refine K_slot 87 ((.bool false)) rfl ((congrArg Value.bool (decide_eq_false (fun h => hno (by omega))))) ?_)
    (refine go ?_)
    (first | refine K_return hE Tryz.func29 rfl _ rfl ⟨rfl, rfl⟩ entA | refine K_fallEnd hE Tryz.func29 rfl _ rfl ⟨rfl, rfl⟩ entA)
  (refine go ?_)
  refine K_condP rfl rfl ?_ ?_
  case' refine_2 => (intro h; exact absurd (by omega) h)
  intro _
  refine K_adv1 rfl ?_
  obtain ⟨W1, hW1⟩ : ∃ W1, W1 = List.replicate 16 0 ++ headL 1 B.length := ⟨_, rfl⟩
  have hW1l : W1.length = 32 := by rw [hW1, List.length_append, headL_len]; simp
  refine K_mid 1 (fun y : Option Addr × Nat => True) (fun y => [(0, ptr jb), (5, .string (freshOf name)), (8, .slice ba B.length bc), (9, .slice y.1 W1.length y.2)]) (fun y => slc 5 1 (.slice y.1 W1.length y.2) W1.length (bV W1) :: slc 5 1 (.slice ba B.length bc) B.length (bV B) :: rdM br (m.put1 name).2 :: pts jb (cl [ptr br, .string name, .int .i64 n, .int .i64 s, .int .i64 o, .bool bk] 48) :: A :: F) rfl ?_ ?_
  rotate_left
  · intro tail
    refine K_drawA (fun w => Sat G w ([])) (.st 1 (.st 2 (.fork (.act 0 (.act 3 (.act 4 (.st 5 .nil)))) (.act 3 (.act 0 (.act 4 (.st 5 .nil))))))) rfl (by kernel_rfl) (by kernel_rfl) (by kernel_rfl) (fun w hw => hw.ent entA) ?_
    repeat' (first
      | refine J_fork ?_ ?_
      | (refine J_makeSlice (U := tab) (p := 16) (q := 16) rfl rfl rfl rfl rfl rfl rfl rfl rfl (by omega) (by omega) (by show 1 * 16 ≤ _; omega) (fun _ w hw => by exact hw.ent entA) ?_; intro m0)
      | ((first | refine J_callE rfl rfl rfl rfl (refHead_any 1 B.length (by omega) (by omega)) entA ?_ (fun _ _ w hp hw => by obtain rfl := hp; exact hw.ent entA) | refine J_call0E rfl rfl rfl (refHead_any 1 B.length (by omega) (by omega)) entA ?_ (fun _ _ w hp hw => by obtain rfl := hp; exact hw.ent entA)); rintro _ _ rfl; (first | refine J_shape 0 rfl ?_ | refine K_shape 0 rfl ?_); rintro ra rc rfl; refine J_slcB (bs := headL 1 B.length) 0 rfl ?_; intro hb1)
      | (refine go1 ?_)
      | fail)
    case' pos.refine_1.refine_2.refine_1 => refine J_ent (Ent.pick [1] rfl) ?_
    all_goals (
      refine J_ent (slc_row 5 1 m0 16 16 (bV (List.replicate 16 0)) [] _ rfl (Nat.le_refl _) (by simp [bV])) ?_
      (refine go ?_)
      refine J_append (U := tab) (mm := (headL 1 B.length).length) (news := bV (headL 1 B.length)) 0 1 rfl rfl rfl rfl rfl rfl rfl rfl rfl rfl rfl rfl hb1.1 (by show _ = _ * 1; rw [bV_length]; omega) (bV_one _) (by rw [headL_len]; omega) (by show (_ + _) * 1 ≤ _; rw [headL_len]; omega) (fun _ => rfl) (fun _ w hw => by exact hw.ent entA) ?_
      intro v1
      rw [show bV (List.replicate 16 0) ++ bV (headL 1 B.length) = bV W1 from by rw [hW1]; simp [bV], show 16 + (headL 1 B.length).length = W1.length from by rw [hW1l, headL_len]]
      (first | refine J_shape 0 rfl ?_ | refine K_shape 0 rfl ?_)
      rintro wa wc rfl
      (refine goR ?_)
      refine K_to tail (wa, wc) rfl trivial (by repeat (first | exact keep_nil | refine keep_cons rfl ?_)) entA)
  rintro ⟨wa, wc⟩ -
  simp only
  refine K_slcB (bs := W1) 0 rfl ?_
  intro hbw
  obtain ⟨W, hW⟩ : ∃ W, W = wholeOf ls := ⟨_, rfl⟩
  have hWW : W1 ++ B = W := by rw [hW, hW1, hB]; rfl
  have hWl : W.length = 32 + B.length := by rw [← hWW, List.length_append]; omega
  have e2 : m.put2 name ls = (m.put1 name).2.write (wOk (freshOf name) 0 (wholeOf ls).length) (freshOf name) 0 (wholeOf ls) := andThen_ok h1 _
  rw [← hW] at e2
  (refine go ?_)
  refine K_drawA (fun w => Sat G w ([pts jb (cl [ptr br, .string name, .int .i64 n, .int .i64 s, .int .i64 o, .bool bk] 48)])) (.st 0 (.st 1 (.st 2 (.st 3 (.st 4 (.st 5 (.st 6 (.act 7 (.act 8 (.st 9 .nil)))))))))) rfl (by kernel_rfl) (by kernel_rfl) (by kernel_rfl) (fun w hw => hw.ent entA) ?_
  (refine go ?_)
  refine J_append (U := tab) (mm := B.length) (news := bV B) 0 1 rfl rfl rfl rfl rfl rfl rfl rfl rfl rfl rfl rfl hbb.1 (by show _ = _ * 1; rw [bV_length]; omega) (bV_one _) (by omega) (by show (_ + _) * 1 ≤ _; omega) (fun _ => rfl) (fun _ w hw => by exact hw.ent entA) ?_
  intro v1
  rw [show bV W1 ++ bV B = bV W from by rw [← hWW]; simp [bV], show W1.length + B.length = W.length from by omega]
  (first | refine J_shape 0 rfl ?_ | refine K_shape 0 rfl ?_)
  rintro va vc rfl
  refine J_slcB (bs := W) 0 rfl ?_
  intro hbW
  (refine go ?_)
  (first | refine J_callE rfl rfl rfl rfl (Write_rM br (k + 2) _ hM1 (freshOf name) hfr 0 (by omega) _ _ W hbW.1 (by omega)) entA ?_ (fun _ _ w hp hw => by obtain ⟨rfl, rfl⟩ := hp; exact hw.ent entA) | refine J_call0E rfl rfl rfl (Write_rM br (k + 2) _ hM1 (freshOf name) hfr 0 (by omega) _ _ W hbW.1 (by omega)) entA ?_ (fun _ _ w hp hw => by obtain ⟨rfl, rfl⟩ := hp; exact hw.ent entA))
  rintro _ _ ⟨rfl, rfl⟩
  rw [show (0 : Int).toNat = 0 from rfl, ← e2]
  (refine go ?_)
  by_cases h2 : (m.put2 name ls).1 = 0
  case neg =>
    have hno := h2
    have f0 : (m.put3 name ls) = (m.put2 name ls) := andThen_no hno _
    have f1 : (m.put4 name ls) = (m.put3 name ls) := andThen_no (by rw [f0]; exact hno) _
    have f2 : (m.put name ls) = (m.put4 name ls) := andThen_no (by rw [f1, f0]; exact hno) _
    rw [f2, f1, f0, if_neg hno] at hE
    (refine go ?_)
    (first | refine J_slot 60 ((.bool false)) rfl ((congrArg Value.bool (decide_eq_false (fun h => hno (by omega))))) ?_ | refine K_slot 60 ((.bool false)) rfl ((congrArg Value.bool (decide_eq_false (fun h => hno (by omega))))) ?_)
    (refine go ?_)
    (first | refine J_slot 68 ((.bool false)) rfl ((congrArg Value.bool (decide_eq_false (fun h => hno (by omega))))) ?_ | refine K_slot 68 ((.bool false)) rfl ((congrArg Value.bool (decide_eq_false (fun h => hno (by omega))))) ?_)
    (refine go ?_)
    (first | refine J_slot 80 ((.bool false)) rfl ((congrArg Value.bool (decide_eq_false (fun h => hno (by omega))))) ?_ | refine K_slot 80 ((.bool false)) rfl ((congrArg Value.bool (decide_eq_false (fun h => hno (by omega))))) ?_)
    (refine go ?_)
    (first | refine J_slot 87 ((.bool false)) rfl ((congrArg Value.bool (decide_eq_false (fun h => hno (by omega))))) ?_ | refine K_slot 87 ((.bool false)) rfl ((congrArg Value.bool (decide_eq_false (fun h => hno (by omega))))) ?_)
    (refine go ?_)
    (first | refine K_return hE Tryz.func29 rfl _ rfl ⟨rfl, rfl⟩ entA | refine K_fallEnd hE Tryz.func29 rfl _ rfl ⟨rfl, rfl⟩ entA)
  (refine go ?_)
  refine K_condP rfl rfl ?_ ?_
  case' refine_2 => (intro h; exact absurd (by omega) h)
  intro _
  have e3 : m.put3 name ls = (m.put2 name ls).2.sync (isName (freshOf name)) (freshOf name) := andThen_ok h2 _
  (refine go ?_)
  (first | refine J_callE rfl rfl rfl rfl (Sync_rM br (k + 3) _ hM2 (freshOf name) hfr) entA ?_ (fun _ _ _ _ _ => trivial) | refine J_call0E rfl rfl rfl (Sync_rM br (k + 3) _ hM2 (freshOf name) hfr) entA ?_ (fun _ _ _ _ _ => trivial) | (refine go ?_; first | refine J_callE rfl rfl rfl rfl (Sync_rM br (k + 3) _ hM2 (freshOf name) hfr) entA ?_ (fun _ _ _ _ _ => trivial) | refine J_call0E rfl rfl rfl (Sync_rM br (k + 3) _ hM2 (freshOf name) hfr) entA ?_ (fun _ _ _ _ _ => trivial)))
  rintro _ _ ⟨rfl, rfl⟩
  rw [← e3]
  (refine go ?_)
  by_cases h3 : (m.put3 name ls).1 = 0
  case neg =>
    have hno := h3
    have f0 : (m.put4 name ls) = (m.put3 name ls) := andThen_no hno _
    have f1 : (m.put name ls) = (m.put4 name ls) := andThen_no (by rw [f0]; exact hno) _
    rw [f1, f0, if_neg hno] at hE
    (refine go ?_)
    (first | refine J_slot 68 ((.bool false)) rfl ((congrArg Value.bool (decide_eq_false (fun h => hno (by omega))))) ?_ | refine K_slot 68 ((.bool false)) rfl ((congrArg Value.bool (decide_eq_false (fun h => hno (by omega))))) ?_)
    (refine go ?_)
    (first | refine J_slot 80 ((.bool false)) rfl ((congrArg Value.bool (decide_eq_false (fun h => hno (by omega))))) ?_ | refine K_slot 80 ((.bool false)) rfl ((congrArg Value.bool (decide_eq_false (fun h => hno (by omega))))) ?_)
    (refine go ?_)
    (first | refine J_slot 87 ((.bool false)) rfl ((congrArg Value.bool (decide_eq_false (fun h => hno (by omega))))) ?_ | refine K_slot 87 ((.bool false)) rfl ((congrArg Value.bool (decide_eq_false (fun h => hno (by omega))))) ?_)
    (refine go ?_)
    (first | refine K_return hE Tryz.func29 rfl _ rfl ⟨rfl, rfl⟩ entA | refine K_fallEnd hE Tryz.func29 rfl _ rfl ⟨rfl, rfl⟩ entA)
  (refine go ?_)
  refine K_condP rfl rfl ?_ ?_
  case' refine_2 => (intro h; exact absurd (by omega) h)
  intro _
  have e4 : m.put4 name ls = (m.put3 name ls).2.rename (isName (freshOf name) && isName name) (freshOf name) name := andThen_ok h3 _
  (refine go ?_)
  refine K_drawA (fun w => Sat G w ([pts jb (cl [ptr br, .string name, .int .i64 n, .int .i64 s, .int .i64 o, .bool bk] 48)])) (.st 0 (.st 1 (.st 2 (.st 3 (.st 4 (.st 5 (.st 6 (.st 7 (.st 8 (.act 9 (.st 10 .nil))))))))))) rfl (by kernel_rfl) (by kernel_rfl) (by kernel_rfl) (fun w hw => hw.ent entA) ?_
  (refine go ?_)
  (first | refine J_callE rfl rfl rfl rfl (Rename_rM br (k + 3) _ hM3 (freshOf name) name hfr (by omega)) entA ?_ (fun _ _ w hp hw => by obtain ⟨rfl, rfl⟩ := hp; exact hw.ent entA) | refine J_call0E rfl rfl rfl (Rename_rM br (k + 3) _ hM3 (freshOf name) name hfr (by omega)) entA ?_ (fun _ _ w hp hw => by obtain ⟨rfl, rfl⟩ := hp; exact hw.ent entA))
  rintro _ _ ⟨rfl, rfl⟩
  rw [← e4]
  (refine go ?_)
  by_cases h4 : (m.put4 name ls).1 = 0
  case neg =>
    have hno := h4
    have f0 : (m.put name ls) = (m.put4 name ls) := andThen_no hno _
    rw [f0, if_neg hno] at hE
    (refine go ?_)
    (first | refine J_slot 80 ((.bool false)) rfl ((congrArg Value.bool (decide_eq_false (fun h => hno (by omega))))) ?_ | refine K_slot 80 ((.bool false)) rfl ((congrArg Value.bool (decide_eq_false (fun h => hno (by omega))))) ?_)
    (refine go ?_)
    (first | refine J_slot 87 ((.bool false)) rfl ((congrArg Value.bool (decide_eq_false (fun h => hno (by omega))))) ?_ | refine K_slot 87 ((.bool false)) rfl ((congrArg Value.bool (decide_eq_false (fun h => hno (by omega))))) ?_)
    (refine go ?_)
    (first | refine K_return hE Tryz.func29 rfl _ rfl ⟨rfl, rfl⟩ entA | refine K_fallEnd hE Tryz.func29 rfl _ rfl ⟨rfl, rfl⟩ entA)
  (refine go ?_)
  refine K_condP rfl rfl ?_ ?_
  case' refine_2 => (intro h; exact absurd (by omega) h)
  intro _
  have e5 : m.put name ls = (m.put4 name ls).2.syncNames := andThen_ok h4 _
  (refine go ?_)
  (first | refine J_callE rfl rfl rfl rfl (SyncNames_rM br (m.put4 name ls).2) entA ?_ (fun _ _ _ _ _ => trivial) | refine J_call0E rfl rfl rfl (SyncNames_rM br (m.put4 name ls).2) entA ?_ (fun _ _ _ _ _ => trivial) | (refine go ?_; first | refine J_callE rfl rfl rfl rfl (SyncNames_rM br (m.put4 name ls).2) entA ?_ (fun _ _ _ _ _ => trivial) | refine J_call0E rfl rfl rfl (SyncNames_rM br (m.put4 name ls).2) entA ?_ (fun _ _ _ _ _ => trivial)))
  rintro _ _ ⟨rfl, rfl⟩
  rw [← e5]
  (refine go ?_)
  by_cases h5 : (m.put name ls).1 = 0
  case neg =>
    have hno := h5
    rw [if_neg hno] at hE
    (refine go ?_)
    (first | refine J_slot 87 ((.bool false)) rfl ((congrArg Value.bool (decide_eq_false (fun h => hno (by omega))))) ?_ | refine K_slot 87 ((.bool false)) rfl ((congrArg Value.bool (decide_eq_false (fun h => hno (by omega))))) ?_)
    (refine go ?_)
    (first | refine K_return hE Tryz.func29 rfl _ rfl ⟨rfl, rfl⟩ entA | refine K_fallEnd hE Tryz.func29 rfl _ rfl ⟨rfl, rfl⟩ entA)
  (refine go ?_)
  refine K_condP rfl rfl ?_ ?_
  case' refine_2 => (intro h; exact absurd (by omega) h)
  intro _
  rw [if_pos h5] at hE
  (refine go ?_)
  (first | refine K_return hE Tryz.func29 rfl _ rfl ⟨rfl, rfl⟩ entA | refine K_fallEnd hE Tryz.func29 rfl _ rfl ⟨rfl, rfl⟩ entA)
end Go.Proofs.YtpdmbmnhgcnelaaGreat

/- journal, part m: Same, awake. -/
set_option linter.unusedVariables false
set_option linter.unusedSimpArgs false
namespace Go.Proofs.YtpdmbmnhgcnelaaGreat
open Go Go.SL
theorem slc_cap {e : TypeId} {n : Nat} {v : Value} {cs : List Value} (h0 : ∃ h, slc e 1 v n cs h) : ∃ a c, v = .slice a n c ∧ n ≤ c := by
  obtain ⟨h, hl, ⟨a, rfl, hn, _⟩ | ⟨b, o, cap, pre, junk, rfl, hp, hn, hc, _⟩⟩ := h0
  · exact ⟨a, 0, by rw [hn], by omega⟩
  · exact ⟨_, cap, rfl, hn⟩
attribute [local irreducible] J K Ctr Ends pts slc mapR mapI sbRow stock arrS loopP CtrY diskA LI listH

theorem Same_any (A B : HP) (v1 v2 : Value) (l1 l2 : List (List UInt8)) (h1 : LAt A v1 l1) (h2 : LAt B v2 l2) (hl : l1.length ≤ 1000000000) :
    Ctr Tryz.prog 10 [v1, v2] [A, B] (fun r H => r = .bool (decide (l1 = l2)) ∧ H = [A, B]) := by
  obtain ⟨cs1, hv1, hc1, ⟨a1, c1, rfl, hca1⟩, he1⟩ := h1
  obtain ⟨cs2, hv2, hc2, ⟨a2, c2, rfl, hca2⟩, he2⟩ := h2
  refine Ctr.enter Tryz.func10 (by kernel_rfl) rfl Tryz.ntmps10 rfl rfl ?_
  intro G F R hE
  (refine go ?_)
  refine K_condP rfl rfl ?_ ?_
  · intro hne
    rw [decide_eq_false (show ¬ l1 = l2 from fun e => by subst e; exact hne rfl)] at hE
    (refine go ?_)
    (first | refine K_return hE Tryz.func10 rfl _ rfl ⟨rfl, rfl⟩ entA | refine K_fallEnd hE Tryz.func10 rfl _ rfl ⟨rfl, rfl⟩ entA)
  intro heqn
  have hlen : l1.length = l2.length := by omega
  (refine go ?_)
  refine K_loop (fun i : Nat => i ≤ l1.length ∧ ∀ j, j < i → l1[j]? = l2[j]?) (fun i => l1.length - i)
    (fun i => [(0, .slice a1 l1.length c1), (1, .slice a2 l2.length c2), (5, .int .i64 (i : Int))])
    (fun _ => A :: B :: F) 0 ⟨Nat.zero_le _, fun j hj => by omega⟩ rfl (by repeat (first | exact keep_nil | refine keep_cons rfl ?_)) entA ?_
  rintro i ⟨hi, heq⟩ ih
  (refine go ?_)
  refine K_condP rfl rfl ?_ ?_
  case' refine_2.refine_2 =>
    intro hge
    have hie : i = l1.length := by omega
    rw [decide_eq_true (show l1 = l2 from List.ext_getElem? fun j => by
      rcases Nat.lt_or_ge j l1.length with h | h
      · exact heq j (by omega)
      · rw [List.getElem?_eq_none (by omega), List.getElem?_eq_none (by omega)])] at hE
    (refine go ?_)
    (first | refine K_return hE Tryz.func10 rfl _ rfl ⟨rfl, rfl⟩ entA | refine K_fallEnd hE Tryz.func10 rfl _ rfl ⟨rfl, rfl⟩ entA)
  intro hlt
  have hi1 : i < l1.length := by omega
  have hi2 : i < l2.length := by omega
  obtain ⟨x, hx⟩ : ∃ x, l1[i]? = some x := ⟨l1[i], by simp⟩
  obtain ⟨y, hy⟩ : ∃ y, l2[i]? = some y := ⟨l2[i], by simp⟩
  obtain ⟨cx, hcx, hbx⟩ := he1 i x hx
  obtain ⟨cy, hcy, hby⟩ := he2 i y hy
  obtain ⟨b1, o1, k1, hs1⟩ := hv1.some (by intro e; rw [e] at hcx; simp at hcx)
  obtain ⟨b2, o2, k2, hs2⟩ := hv2.some (by intro e; rw [e] at hcy; simp at hcy)
  simp only [Value.slice.injEq, true_and] at hs1 hs2
  obtain ⟨rfl, rfl⟩ := hs1
  obtain ⟨rfl, rfl⟩ := hs2
  obtain ⟨ax, kx, rfl, hkx⟩ := hbx.2
  obtain ⟨ay, ky, rfl, hky⟩ := hby.2
  (refine go ?_)
  refine K_drawA (fun w => Sat G w ([A, B])) (.st 0 (.st 1 (.st 2 (.st 3 (.st 4 (.st 5 (.st 6 (.st 7 (.st 8 (.st 9 (.st 10 .nil))))))))))) rfl (by kernel_rfl) (by kernel_rfl) (by kernel_rfl) (fun w hw => hw.ent entA) ?_
  (refine go ?_)
  refine J_at1 (U := tab) i rfl rfl rfl rfl rfl rfl rfl rfl hi1 ?_
  refine J_isLoad ?_
  refine J_loadAtS (U := tab) 0 i rfl rfl rfl hv1 rfl hcx rfl rfl ?_
  refine J_toStrS (U := tab) 0 rfl rfl rfl rfl rfl rfl rfl rfl rfl hbx.1 ?_
  (refine go ?_)
  refine J_at1 (U := tab) i rfl rfl rfl rfl rfl rfl rfl rfl hi2 ?_
  refine J_isLoad ?_
  refine J_loadAtS (U := tab) 1 i rfl rfl rfl hv2 rfl hcy rfl rfl ?_
  refine J_toStrS (U := tab) 1 rfl rfl rfl rfl rfl rfl rfl rfl rfl hby.1 ?_
  (refine go ?_)
  (first | refine J_slot 27 ((.bool (decide (¬ x = y)))) rfl ((by rw [eqS_strOf, decide_not])) ?_ | refine K_slot 27 ((.bool (decide (¬ x = y)))) rfl ((by rw [eqS_strOf, decide_not])) ?_)
  refine K_condP rfl rfl ?_ ?_
  · intro hxy
    rw [decide_eq_false (show ¬ l1 = l2 from fun e => by subst e; rw [hx] at hy; cases hy; exact hxy rfl)] at hE
    (refine go ?_)
    (first | refine K_return hE Tryz.func10 rfl _ rfl ⟨rfl, rfl⟩ entA | refine K_fallEnd hE Tryz.func10 rfl _ rfl ⟨rfl, rfl⟩ entA)
  intro hxy
  have hxy' : x = y := Decidable.not_not.1 hxy
  (refine go ?_)
  refine K_again ih (i + 1) rfl (⟨by omega, fun j hj => by
    rcases Nat.lt_or_ge j i with h | h
    · exact heq j h
    · rw [show j = i from by omega, hx, hy, hxy']⟩) (by omega) (by repeat (first | exact keep_nil | refine keep_cons rfl ?_)) entA
theorem LAt.rows {X : HP} {v : Value} {ls : List (List UInt8)} {cs : List Value} (hl : cs.length = ls.length) (hcs : ∀ (j : Nat) (z : List UInt8), ls[j]? = some z → ∃ cv, cs[j]? = some cv ∧ BAt X cv z) (h0 : ∃ h, slc 40 1 v ls.length cs h) : LAt (Sep [slc 40 1 v ls.length cs, X]) v ls := by
  have hv := Vw.of_slc 40 1 v ls.length cs h0
  refine ⟨cs, hv.mono (Sep_get (i := 0) rfl), hl, slc_cap h0, fun i x hx => ?_⟩
  obtain ⟨cv, h1, h2⟩ := hcs i x hx
  exact ⟨cv, h1, h2.mono (Sep_get (i := 1) rfl)⟩
end Go.Proofs.YtpdmbmnhgcnelaaGreat
namespace Go.Proofs.YtpdmbmnhgcnelaaGreat
open Go Go.SL
theorem Same_L (v1 v2 : Value) (l1 l2 : List (List UInt8)) (cs2 : List Value) (X : HP) (hl2 : cs2.length = l2.length) (hcs : ∀ (j : Nat) (z : List UInt8), l2[j]? = some z → ∃ cv, cs2[j]? = some cv ∧ BAt X cv z) (hl : l1.length ≤ 1000000000) :
    Ctr Tryz.prog 10 [v1, v2] [listH v1 l1, slc 40 1 v2 l2.length cs2, X] (fun r H => r = .bool (decide (l1 = l2)) ∧ H = [listH v1 l1, slc 40 1 v2 l2.length cs2, X]) :=
  ⟨by kernel_rfl, fun G w F hw => by
    obtain ⟨t, o, u, hp, hpw, h1, h2, ⟨x, hR, hA⟩, hH, hd, he⟩ := hw
    obtain ⟨cs, M⟩ := x
    simp only at hR hA
    have hw1 : Sat G w (Sep [slc 40 1 v1 l1.length cs, arrS 5 M] :: slc 40 1 v2 l2.length cs2 :: X :: F) := ⟨t, o, u, hp, hpw, h1, h2, hA, hH, hd, he⟩
    obtain ⟨h', _, hs'⟩ := Sep_get (i := 0) rfl h1 hA
    have lat1 := hR.lat ⟨h', hs'⟩
    obtain ⟨h3, _, hA3⟩ := hw1.getA (i := 1) rfl
    have lat2 := LAt.rows hl2 hcs ⟨h3, hA3⟩
    refine ((Same_any _ _ v1 v2 l1 l2 lat1 lat2 hl).2 G w F (hw1.ent (Ent.cons _ (Ent.resep [slc 40 1 v2 l2.length cs2, X] F)))).mono ?_
    rintro e w' ⟨v, H, rfl, ⟨hv, rfl⟩, hs⟩
    refine ⟨v, _, rfl, ⟨hv, rfl⟩, hs.ent ?_⟩
    refine (Ent.fold (A := listH v1 l1) (B := [Sep [slc 40 1 v1 l1.length cs, arrS 5 M]]) (fun h hs => ⟨h, sub.refl h, (cs, M), hR, Sep_one hs⟩)).trans ?_
    exact Ent.cons _ (Ent.unsep [slc 40 1 v2 l2.length cs2, X] F)⟩
attribute [local irreducible] J K Ctr Ends pts slc mapR mapI sbRow stock arrS loopP CtrY diskA LI listH
/-- The name of the journal in the statements. -/
def nmJ : ByteArray := ⟨#[106]⟩
theorem nmJ_name : isName nmJ = true := by decide
theorem nmJ_fresh : isName (freshOf nmJ) = true := by decide
theorem nmJ_ne : freshOf nmJ ≠ nmJ := by decide
theorem awake_any : Ctr Tryz.prog 4 [] [] (fun r H => r = .bool true ∧ H = []) := by
  refine Ctr.enter Tryz.func4 (by kernel_rfl) rfl Tryz.ntmps4 rfl rfl ?_
  intro G F R hE
  (refine go ?_)
  (first | refine J_callE rfl rfl rfl rfl (New_dA 10000 (by omega) (by omega)) entA ?_ (fun _ _ _ _ _ => trivial) | refine J_call0E rfl rfl rfl (New_dA 10000 (by omega) (by omega)) entA ?_ (fun _ _ _ _ _ => trivial) | (refine go ?_; first | refine J_callE rfl rfl rfl rfl (New_dA 10000 (by omega) (by omega)) entA ?_ (fun _ _ _ _ _ => trivial) | refine J_call0E rfl rfl rfl (New_dA 10000 (by omega) (by omega)) entA ?_ (fun _ _ _ _ _ => trivial)))
  rintro _ _ ⟨bd, rfl, rfl⟩
  (refine go ?_)
  (first | refine J_callE rfl rfl rfl rfl (Open_any bd nmJ (Ab.new 10000) (by decide) (by simp [Ab.new]) (by simp [Ab.new])) entA ?_ (fun _ _ _ _ _ => trivial) | refine J_call0E rfl rfl rfl (Open_any bd nmJ (Ab.new 10000) (by decide) (by simp [Ab.new]) (by simp [Ab.new])) entA ?_ (fun _ _ _ _ _ => trivial) | (refine go ?_; first | refine J_callE rfl rfl rfl rfl (Open_any bd nmJ (Ab.new 10000) (by decide) (by simp [Ab.new]) (by simp [Ab.new])) entA ?_ (fun _ _ _ _ _ => trivial) | refine J_call0E rfl rfl rfl (Open_any bd nmJ (Ab.new 10000) (by decide) (by simp [Ab.new]) (by simp [Ab.new])) entA ?_ (fun _ _ _ _ _ => trivial)))
  rintro _ _ ⟨e, A1, x, ho, hpost⟩
  obtain ⟨rfl, hx, ⟨g, hI⟩, hw⟩ := open_law (new_putOk 10000 nmJ) nmJ_name nmJ_fresh nmJ_ne (new_file _ _) (by decide) (by rw [new_used]; decide) ho
  rcases hpost with ⟨h, -⟩ | ⟨-, jb, lv, rfl, rfl⟩
  · exact absurd rfl h
  subst hx
  (refine go ?_)
  refine J_buildSlice1 (U := tab) (cs := bV [7]) rfl rfl rfl rfl rfl rfl rfl rfl rfl (fun _ _ _ => trivial) ?_
  intro row
  have hb7 : BAt (pts row (cl (bV [7]) 5)) (.slice (some ⟨row, 0, none⟩) 1 1) [7] := ⟨Vw.pts rfl, _, _, rfl, Nat.le_refl 1⟩
  have h7 : (encL [7]).length = 2 := by unfold encL; rw [show ([7] : List UInt8).length = 1 from rfl, uv_small (by decide)]; rfl
  have hap := append_law (b := [7]) hI nmJ_name (by decide) (by rw [h7]; decide) (by rw [h7]; decide)
  have hac := Append_any jb bd nmJ A1 ⟨1, ((([] : List (List UInt8)).flatMap encL).length : Int), ((([] : List (List UInt8)).flatMap encL).length : Int), false⟩ _ _ [7] hb7 (by decide) (by decide) (by have := hw; simp [Ab.new] at this; omega)
  obtain ⟨q, hq⟩ : ∃ q, q = appendA nmJ A1 ⟨1, ((([] : List (List UInt8)).flatMap encL).length : Int), ((([] : List (List UInt8)).flatMap encL).length : Int), false⟩ [7] := ⟨_, rfl⟩
  rw [← hq] at hap hac
  obtain ⟨e1, A2, x2⟩ := q
  obtain ⟨rfl, rfl, hI2, hw2⟩ := hap
  (first | refine J_callE rfl rfl rfl rfl (hac) entA ?_ (fun _ _ _ _ _ => trivial) | refine J_call0E rfl rfl rfl (hac) entA ?_ (fun _ _ _ _ _ => trivial) | (refine go ?_; first | refine J_callE rfl rfl rfl rfl (hac) entA ?_ (fun _ _ _ _ _ => trivial) | refine J_call0E rfl rfl rfl (hac) entA ?_ (fun _ _ _ _ _ => trivial)))
  rintro _ _ ⟨rfl, rfl⟩
  have hs2 : (((([] : List (List UInt8)).flatMap encL ++ encL [7]).length : Nat) : Int) = 2 := by rw [List.flatMap_nil, List.nil_append, h7]; rfl
  simp only [hs2]
  (refine go ?_)
  (first | refine J_callE rfl rfl rfl rfl (JSize_any jb bd nmJ 1 2 ((([] : List (List UInt8)).flatMap encL).length : Int) false) entA ?_ (fun _ _ _ _ _ => trivial) | refine J_call0E rfl rfl rfl (JSize_any jb bd nmJ 1 2 ((([] : List (List UInt8)).flatMap encL).length : Int) false) entA ?_ (fun _ _ _ _ _ => trivial) | (refine go ?_; first | refine J_callE rfl rfl rfl rfl (JSize_any jb bd nmJ 1 2 ((([] : List (List UInt8)).flatMap encL).length : Int) false) entA ?_ (fun _ _ _ _ _ => trivial) | refine J_call0E rfl rfl rfl (JSize_any jb bd nmJ 1 2 ((([] : List (List UInt8)).flatMap encL).length : Int) false) entA ?_ (fun _ _ _ _ _ => trivial)))
  rintro _ _ ⟨rfl, rfl⟩
  (refine go ?_)
  (first | refine K_return hE Tryz.func4 rfl _ rfl ⟨rfl, rfl⟩ entA | refine K_fallEnd hE Tryz.func4 rfl _ rfl ⟨rfl, rfl⟩ entA)
end Go.Proofs.YtpdmbmnhgcnelaaGreat

/- Engine, part Z: from a contract that leaves all old memory to the given row's walk; arguments as views. Nothing here names a program. -/
set_option linter.unusedSimpArgs false
set_option linter.unusedVariables false
namespace Go.SL
open Go.RowKit

/-- All memory as it is. -/
def old (W : World) : HP := fun h => ∀ b, h b = W.heap[b]?
def glob (W : World) : Glob := { tape := W.tape, os := W.os, output := W.output }
theorem Sat_old (W : World) : Sat (glob W) W [old W] := ⟨⟨rfl, Nat.zero_le _⟩, rfl, rfl, fun b => W.heap[b]?, fun _ _ h => h, Sep_one' fun _ => rfl⟩
theorem below_of_sat {W W' : World} (h : Sat (glob W) W' [old W]) : Below W.heap.size W W' := by
  obtain ⟨h1, h2, h3, h0, hw, hs⟩ := h
  have ho := Sep_one hs
  have hb : ∀ k, k < W.heap.size → W'.heap[k]? = W.heap[k]? := fun k hk => by
    have e : W.heap[k]? = some W.heap[k] := by simp [hk]
    rw [e]
    exact hw k _ (by rw [ho k, e])
  refine ⟨h2, h1.1, h3, ?_, hb⟩
  rcases Nat.eq_zero_or_pos W.heap.size with h0 | h0
  · omega
  · have := hb (W.heap.size - 1) (by omega)
    have e : W.heap[W.heap.size - 1]? = some W.heap[W.heap.size - 1] := by simp [h0]
    rw [e] at this
    have := (Array.getElem?_eq_some_iff.1 this).1
    omega
theorem row_walk {P : Program} {f : FuncId} {args : List Value} {W : World} (c : Ctr P f args [old W] (fun v H => v = .bool true ∧ H = [old W])) :
    Calls P f args.toArray W fun e W' => e = .returned (.bool true) ∧ Below W.heap.size W W' :=
  (c.2 (glob W) W [] (Sat_old W)).mono fun e W' h => by
    obtain ⟨v, H, rfl, ⟨rfl, rfl⟩, hs⟩ := h
    exact ⟨rfl, below_of_sat hs⟩

theorem hcell_of_cell {W : World} {h : Hp} {b off : Nat} {v : Value} (ho : old W h) (hc : W.cell? ⟨b, off, none⟩ = some v) : hcell h b off = some v := by
  unfold hcell
  rw [ho b]
  unfold World.cell? at hc
  simp only at hc
  split at hc
  · rename_i c _ _ he
    rw [he]
    simpa using hc
  · cases hc
/-- A row of bytes that came in. -/
theorem bytes_view {W : World} {a : Addr} {len cap : Nat} {zs : List Int} (hl : len ≤ zs.length) (hcell : ∀ i, i < zs.length → W.cell? (a.add i) = some (.int .u8 (zs.getD i 0))) (hwf : ∀ n ∈ zs, (Lit.int .u8 n).wf = true) :
    ∃ bs : List UInt8, bs.length = len ∧ Vw (old W) (.slice (some a) len cap) len (bV bs) := by
  refine ⟨(zs.take len).map fun z => UInt8.ofNat z.toNat, by simp; omega, some a, cap, rfl, ?_⟩
  rcases Nat.eq_zero_or_pos len with h0 | h0
  · left; subst h0; simp [bV]
  · right
    obtain ⟨b, o, spot⟩ := a
    have hsp : spot = none := by simpa [Addr.add] using World.cell?_spot (hcell 0 (by omega))
    subst hsp
    refine ⟨b, o, rfl, fun h ho j c hj => ?_⟩
    have hjl : j < len := by
      rcases Nat.lt_or_ge j len with h | h
      · exact h
      · rw [List.getElem?_eq_none (by simp [bV]; omega)] at hj; cases hj
    have h1 := hcell j (by omega)
    rw [Addr.add_eq] at h1
    have h2 := hcell_of_cell ho h1
    rw [h2]
    have hm : zs[j]'(by omega) ∈ zs := List.getElem_mem _
    have hw := hwf _ hm
    have hb : 0 ≤ zs[j]'(by omega) ∧ zs[j]'(by omega) < 256 := by
      simp only [Lit.wf, Bool.and_eq_true, decide_eq_true_eq] at hw
      have e1 : IntKind.u8.min = 0 := by decide
      have e2 : IntKind.u8.max = 255 := by decide
      omega
    simp only [bV, List.map_map, List.getElem?_map, List.getElem?_take, hjl, if_true] at hj
    rw [List.getElem?_eq_getElem (by omega)] at hj
    simp only [Option.map_some, Option.some.injEq, Function.comp] at hj
    rw [← hj, List.getD_eq_getElem?_getD, List.getElem?_eq_getElem (by omega)]
    simp only [Option.getD_some, u8, UInt8.toNat_ofNat', Option.some.injEq]
    congr 1
    omega
theorem nil_view (W : World) : Vw (old W) (.slice none 0 0) 0 (bV []) := ⟨none, 0, rfl, .inl rfl⟩
theorem i64_range {z : Int} (h : (Lit.int .i64 z).wf = true) : -9223372036854775808 ≤ z ∧ z ≤ 9223372036854775807 := by
  simp only [Lit.wf, Bool.and_eq_true, decide_eq_true_eq] at h
  have e1 : IntKind.i64.min = -9223372036854775808 := by decide
  have e2 : IntKind.i64.max = 9223372036854775807 := by decide
  omega
end Go.SL

/- Engine, part S: rows and arrays of numbers that came in. Nothing here names a program. -/
set_option linter.unusedVariables false
set_option linter.unusedSimpArgs false
namespace Go.SL
open Go Go.RowKit Go.ChangeShapes Go.WideShapes
def iV (l : List Int) : List Value := l.map (Value.int .i64)
theorem iV_get {l : List Int} {i : Nat} {x : Int} (h : l[i]? = some x) : (iV l)[i]? = some (.int .i64 x) := by simp [iV, h]
theorem iV_len (l : List Int) : (iV l).length = l.length := by simp [iV]
theorem ine {l : List Int} {i : Nat} (h : i < l.length) : iV l ≠ [] := fun e => by have := congrArg List.length e; simp [iV] at this; rw [this] at h; simp at h
abbrev i64 (x : Int) : Prop := -9223372036854775808 ≤ x ∧ x ≤ 9223372036854775807
/-- A row of numbers that came in. -/
theorem ints_view {W : World} {a : Addr} {len cap : Nat} {zs : List Int} (hl : len ≤ zs.length) (hcell : ∀ i, i < zs.length → W.cell? (a.add i) = some (.int .i64 (zs.getD i 0))) (hwf : ∀ n ∈ zs, (Lit.int .i64 n).wf = true) :
    ∃ l : List Int, l.length = len ∧ Vw (old W) (.slice (some a) len cap) len (iV l) ∧ ∀ x ∈ l, i64 x := by
  refine ⟨zs.take len, by simp; omega, ⟨some a, cap, rfl, ?_⟩, fun x hx => i64_range (hwf x (List.mem_of_mem_take hx))⟩
  rcases Nat.eq_zero_or_pos len with h0 | h0
  · left; subst h0; simp [iV]
  · right
    obtain ⟨b, o, spot⟩ := a
    have hsp : spot = none := by simpa [Addr.add] using World.cell?_spot (hcell 0 (by omega))
    subst hsp
    refine ⟨b, o, rfl, fun h ho j c hj => ?_⟩
    have hjl : j < len := by
      rcases Nat.lt_or_ge j len with h | h
      · exact h
      · rw [List.getElem?_eq_none (by simp [iV]; omega)] at hj; cases hj
    have h1 := hcell j (by omega)
    rw [Addr.add_eq] at h1
    have h2 := hcell_of_cell ho h1
    rw [h2]
    simp only [iV, List.getElem?_map, List.getElem?_take, hjl, if_true] at hj
    rw [List.getElem?_eq_getElem (by omega)] at hj
    simp only [Option.map_some, Option.some.injEq] at hj
    rw [← hj, List.getD_eq_getElem?_getD, List.getElem?_eq_getElem (by omega)]
    rfl
def aggTy : Option TypeDesc → Bool
  | some (.struct _) => true
  | some (.array _ _) => true
  | _ => false
theorem open_len {H : Type} {enc : TypeId × Value → H} {P : Program} {W : World} {base : Nat} {spare : Nat → Bool} {held : Bool} {fuel : Nat} {t e : TypeId} {a : Option Addr} {len cap : Nat} {d : DataW H} {p : List MemPlace} (ht : P.underlying t = some (.slice e)) (h : DataW.trod enc P W base spare held fuel t [.slice a len cap] = some (d, p)) :
    len = 0 ∨ ∃ el sp, d = .slice el sp ∧ el.length = len := by
  rcases Go.Deep.open_slice ht h with ⟨hcs, _⟩ | ⟨a', len', cap', m, n, D, Pl, hcs, hb, hl, hm, hmm, hx, _⟩
  · simp only [List.cons.injEq, Value.slice.injEq, and_true] at hcs; exact .inl hcs.2.1
  · simp only [List.cons.injEq, Value.slice.injEq, and_true] at hcs
    simp only [Prod.mk.injEq] at hx
    exact .inr ⟨_, _, hx.1, by simp [hcs.2.1]⟩
theorem okWide_agg {P : Program} {w : World} {r : Reach} {base : Nat} {t : TypeId} {v : Value} (ht : aggTy (P.underlying t) = true) (h : Value.okWide P w r base t v) : ∃ cs, v = .agg cs := by
  unfold Value.okWide at h
  unfold aggTy at ht
  split at h
  · obtain ⟨cs, h1, _⟩ := h; exact ⟨cs, h1⟩
  · obtain ⟨cs, h1, _⟩ := h; exact ⟨cs, h1⟩
  · split at ht
    · rename_i h1 h2 _ _ h3; exact absurd h3 (h1 _)
    · rename_i h1 h2 _ _ _ h3; exact absurd h3 (h2 _ _)
    · cases ht
/-- A row of numbers that came in, as a slice. -/
theorem open_intsV {P : Program} {H : Type} {enc : TypeId × Value → H} {W : World} {base : Nat} {spare : Nat → Bool} {held : Bool} {fuel : Nat} {t e : TypeId} {v : Value} {x : DataW H × List MemPlace} (ht : P.underlying t = some (.slice e)) (he : P.underlying e = some (.int .i64)) (hc : P.cellsOf e = 1) (h : DataW.trod enc P W base spare held fuel t [v] = some x) :
    ∃ l : List Int, Vw (old W) v l.length (iV l) ∧ l.length ≤ 9223372036854775807 ∧ ∀ x ∈ l, i64 x := by
  have hmx : maxLen = 9223372036854775807 := by decide
  rcases open_ints ht he hc h with ⟨hcs, _⟩ | ⟨x, l, c, zs, hcs, _, hl, hm, hz, _, hcell, hwz⟩
  · simp only [List.cons.injEq, and_true] at hcs
    subst hcs
    exact ⟨[], ⟨none, 0, rfl, .inl rfl⟩, by simp, by simp⟩
  · simp only [List.cons.injEq, and_true] at hcs
    subst hcs
    obtain ⟨bs, h1, h2, h3⟩ := ints_view (len := l) (cap := c) (by split at hz <;> omega) hcell hwz
    subst h1
    exact ⟨bs, h2, by omega, h3⟩
/-- An array of numbers that came in. -/
theorem open_arrI {P : Program} {H : Type} {enc : TypeId × Value → H} {W : World} {base : Nat} {spare : Nat → Bool} {held : Bool} {fuel n : Nat} {t e : TypeId} {cs : Array Value} {x : DataW H × List MemPlace} (ht : P.underlying t = some (.array n e)) (he : P.underlying e = some (.int .i64)) (hc : P.cellsOf e = 1) (hct : P.cellsOf t = n) (h : DataW.trod enc P W base spare held fuel t (Value.agg cs).cells.toList = some x) :
    ∃ l : List Int, l.length = n ∧ cs = (iV l).toArray ∧ ∀ x ∈ l, i64 x := by
  obtain ⟨xs, m, _, _, hlen, hxl, hf⟩ := DataW.trod_array ht h
  rw [hct] at hlen
  obtain ⟨l, rfl⟩ : ∃ l : List Value, cs = l.toArray := ⟨cs.toList, by simp⟩
  simp only [Value.cells] at hlen hf
  have key : ∀ i, i < n → ∃ z : Int, l[i]? = some (.int .i64 z) ∧ i64 z := fun i hi => by
    have h1 := hf i hi
    obtain ⟨y, hy⟩ : ∃ y, xs[i]? = some y := ⟨xs[i]'(by rw [hxl]; exact hi), by simp⟩
    rw [hy, hc, Nat.mul_one] at h1
    obtain ⟨z, r, _, w⟩ := DataW.trod_int he h1
    refine ⟨z, ?_, i64_range w⟩
    have := congrArg (fun l : List Value => l[0]?) r
    simpa using this
  refine ⟨(List.range n).map fun i => match l[i]? with | Option.some (Value.int _ z) => z | _ => 0, by simp, ?_, ?_⟩
  · congr 1
    apply List.ext_getElem?
    intro i
    rcases Nat.lt_or_ge i n with hi | hi
    · obtain ⟨z, hz, _⟩ := key i hi
      simp [iV, hi, hz]
    · rw [List.getElem?_eq_none (by simpa using hlen ▸ hi), List.getElem?_eq_none (by simp [iV]; exact hi)]
  · intro x hx
    obtain ⟨i, hi, rfl⟩ := List.mem_map.1 hx
    obtain ⟨z, hz, hr⟩ := key i (by simpa using hi)
    rw [hz]; exact hr
end Go.SL

/- Engine, part W: rows of structs that came in, read off the given row's own reading. Nothing here names a program. -/
set_option linter.unusedVariables false
set_option linter.unusedSimpArgs false
namespace Go.SL
open Go Go.RowKit Go.ChangeShapes Go.WideShapes

section
variable {P : Program} {H : Type} {enc : TypeId × Value → H} {W : World} {base : Nat} {spare : Nat → Bool} {held : Bool}
theorem open_bytesP {t e : TypeId} (ht : P.underlying t = some (.slice e)) (he : P.underlying e = some (.int .u8)) (hc : P.cellsOf e = 1) {fuel : Nat} {cs : List Value} {x : DataW H × List MemPlace} (h : DataW.trod enc P W base spare held fuel t cs = some x) :
    ∃ (a : Option Addr) (c : Nat) (bs : List UInt8), cs = [.slice a bs.length c] ∧ bs.length ≤ 9223372036854775807 ∧ Vw (old W) (.slice a bs.length c) bs.length (bV bs) := by
  have hmx : maxLen = 9223372036854775807 := by decide
  rcases open_ints ht he hc h with ⟨hcs, _⟩ | ⟨x, l, c, zs, hcs, _, hl, hm, hz, _, hcell, hwz⟩
  · subst hcs
    exact ⟨none, 0, [], rfl, by simp, nil_view W⟩
  · subst hcs
    obtain ⟨bs, h1, h2⟩ := bytes_view (len := l) (cap := c) (by split at hz <;> omega) hcell hwz
    subst h1
    exact ⟨some x, c, bs, rfl, by omega, h2⟩
theorem open_rows {α : Type} [Inhabited α] {t e : TypeId} (ht : P.underlying t = some (.slice e)) (g : α → List Value) (s : Nat) (hs0 : 0 < s) (hs : ∀ x, (g x).length = s) (hc : P.cellsOf e = s) (Q : α → Prop)
    (hopen : ∀ (fuel : Nat) (cs : List Value) (x : DataW H × List MemPlace), DataW.trod enc P W base spare held fuel e cs = some x → ∃ y, cs = g y ∧ Q y)
    {fuel : Nat} {cs : List Value} {x : DataW H × List MemPlace} (h : DataW.trod enc P W base spare held fuel t cs = some x) : ∃ (l : List α) (a : Option Addr) (c : Nat), cs = [.slice a l.length c] ∧ Vw (old W) (.slice a l.length c) l.length (l.flatMap g) ∧ (∀ x ∈ l, Q x) ∧ l.length ≤ 9223372036854775807 := by
  have hmx : maxLen = 9223372036854775807 := by decide
  rcases Go.Deep.open_slice ht h with ⟨hcs, _⟩ | ⟨a, len, cap, m, n, D, Pl, hcs, hb, hl, hm, hmm, _, hx⟩
  · subst hcs
    exact ⟨[], none, 0, rfl, ⟨none, 0, rfl, .inl rfl⟩, by simp, by simp⟩
  · subst hcs
    have hml : len ≤ m := by rw [hmm]; split <;> omega
    have hx2 : ∀ i, i < len → ∃ y : α, (∀ k, k < s → W.cell? (a.add (i * s + k)) = (g y)[k]?) ∧ Q y := fun i hi => by
      obtain ⟨cs', h1, h2⟩ := hx i (by omega)
      obtain ⟨y, rfl, hy⟩ := hopen _ _ _ h2
      rw [hc] at h1
      obtain ⟨_, _, h3⟩ := World.cells?_some h1
      refine ⟨y, fun k hk => ?_, hy⟩
      rw [← h3 k hk, Addr.add_add]
    obtain ⟨f, hfy⟩ := Go.Deep.choose_lt hx2
    refine ⟨(List.range len).map f, some a, cap, by simp, ⟨some a, cap, by simp, ?_⟩, ?_, by simp; omega⟩
    · rcases Nat.eq_zero_or_pos len with h0 | h0
      · left; subst h0; simp
      · right
        obtain ⟨b, o, spot⟩ := a
        have hsp : spot = none := by
          have := (hfy 0 h0).1 0 hs0
          rw [Nat.zero_mul, Nat.zero_add, List.getElem?_eq_getElem (by rw [hs]; exact hs0)] at this
          simpa [Addr.add] using World.cell?_spot (this.trans rfl)
        subst hsp
        refine ⟨b, o, rfl, fun h ho j c hj => ?_⟩
        have hjl : j < len * s := by
          rcases Nat.lt_or_ge j (len * s) with h | h
          · exact h
          · rw [List.getElem?_eq_none (by rw [chunk_len hs]; simpa using h)] at hj; cases hj
        have hd : j / s < len := Nat.div_lt_of_lt_mul (by rw [Nat.mul_comm]; exact hjl)
        have hk : j % s < s := Nat.mod_lt _ hs0
        have hjj : j / s * s + j % s = j := by rw [Nat.mul_comm]; exact Nat.div_add_mod _ _
        have h1 := chunk_get hs (l := (List.range len).map f) (i := j / s) (x := f (j / s)) (by simp [hd]) (j % s) hk
        rw [hjj, hj] at h1
        have h2 := (hfy _ hd).1 _ hk
        rw [hjj, Addr.add_eq] at h2
        exact hcell_of_cell ho (h2.trans h1.symm)
    · intro x hx
      obtain ⟨i, hi, rfl⟩ := List.mem_map.1 hx
      exact (hfy i (by simpa using hi)).2
/-- The parts of a struct, one by one: its fields' types with what is asked of the cells of each. -/
inductive Parts (enc : TypeId × Value → H) (P : Program) (W : World) (base : Nat) (spare : Nat → Bool) (held : Bool) (n : Nat) : List TypeId → List Value → Prop where
  | nil : Parts enc P W base spare held n [] []
  | cons {t : TypeId} {ts : List TypeId} {cs rest : List Value} {x : DataW H × List MemPlace} (h : DataW.trod enc P W base spare held n t cs = some x) (hr : Parts enc P W base spare held n ts rest) : Parts enc P W base spare held n (t :: ts) (cs ++ rest)
def offs (P : Program) : Nat → List TypeId → List Nat
  | _, [] => []
  | o, t :: ts => o :: offs P (o + P.cellsOf t) ts
theorem open_struct {t : TypeId} {fs : Array Field} (ht : P.underlying t = some (.struct fs)) (ho : fs.toList.map Field.offset = offs P 0 (fs.toList.map Field.type)) (hn : P.cellsOf t = (fs.toList.map fun f : Field => P.cellsOf f.type).sum)
    {fuel : Nat} {cs : List Value} {x : DataW H × List MemPlace} (h : DataW.trod enc P W base spare held fuel t cs = some x) : ∃ n, Parts enc P W base spare held n (fs.toList.map Field.type) cs := by
  obtain ⟨xs, n, _, _, hlen, hxl, hf⟩ := DataW.trod_struct ht h
  refine ⟨n, ?_⟩
  have key : ∀ (l : List Field) (o k : Nat) (cs : List Value), cs.length = (l.map fun f : Field => P.cellsOf f.type).sum → l.map Field.offset = offs P o (l.map Field.type) →
      (∀ (j : Nat) (f : Field), l[j]? = some f → ∃ y, DataW.trod enc P W base spare held n f.type ((cs.drop (f.offset - o)).take (P.cellsOf f.type)) = some y) → Parts enc P W base spare held n (l.map Field.type) cs := by
    intro l
    induction l with
    | nil => intro o k cs hl _ _; simp at hl; subst hl; exact .nil
    | cons f l ih =>
      intro o k cs hl hoff hall
      simp only [List.map_cons, List.sum_cons] at hl
      simp only [List.map_cons, offs, List.cons.injEq] at hoff
      obtain ⟨h1, h2⟩ := hoff
      obtain ⟨y, hy⟩ := hall 0 f rfl
      rw [h1, Nat.sub_self, List.drop_zero] at hy
      have hsub := ih (o + P.cellsOf f.type) 0 (cs.drop (P.cellsOf f.type)) (by rw [List.length_drop]; omega) h2 (fun j f' hj => by
        obtain ⟨y', hy'⟩ := hall (j + 1) f' (by simpa using hj)
        have hge : o + P.cellsOf f.type ≤ f'.offset := by
          have hmem : f'.offset ∈ offs P (o + P.cellsOf f.type) (l.map Field.type) := by rw [← h2]; exact List.mem_map.2 ⟨f', List.mem_of_getElem? hj, rfl⟩
          have hmono : ∀ (ts : List TypeId) (p q : Nat), q ∈ offs P p ts → p ≤ q := by
            intro ts
            induction ts with
            | nil => intro p q hq; cases hq
            | cons t ts ih => intro p q hq; rcases List.mem_cons.1 hq with rfl | hq; exact Nat.le_refl _; have := ih _ _ hq; omega
          exact hmono _ _ _ hmem
        refine ⟨y', ?_⟩
        rw [List.drop_drop, show P.cellsOf f.type + (f'.offset - (o + P.cellsOf f.type)) = f'.offset - o from by omega]
        exact hy')
      have := Parts.cons hy hsub
      rw [List.take_append_drop] at this
      exact this
  refine key fs.toList 0 0 cs (by rw [hlen, hn]) ho fun j f hj => ?_
  have hj' : fs[j]? = some f := by simpa using hj
  have hjl : j < xs.length := by
    rw [hxl]
    rcases Nat.lt_or_ge j fs.size with h | h
    · exact h
    · rw [Array.getElem?_eq_none h] at hj'; cases hj'
  refine ⟨xs[j], ?_⟩
  rw [Nat.sub_zero]
  have := hf j f hj'
  rw [this]
  simp [hjl]
theorem Parts.inv {n : Nat} {t : TypeId} {ts : List TypeId} {cs : List Value} (h : Parts enc P W base spare held n (t :: ts) cs) : ∃ c0 rest x, cs = c0 ++ rest ∧ DataW.trod enc P W base spare held n t c0 = some x ∧ Parts enc P W base spare held n ts rest := by
  cases h with
  | cons h hr => exact ⟨_, _, _, rfl, h, hr⟩
theorem Parts.inv0 {n : Nat} {cs : List Value} (h : Parts enc P W base spare held n [] cs) : cs = [] := by cases h; rfl
/-- A part that is a number. -/
theorem Parts.int {n : Nat} {t : TypeId} {ts : List TypeId} {cs : List Value} {k : IntKind} (h : Parts enc P W base spare held n (t :: ts) cs) (ht : P.underlying t = some (.int k)) : ∃ (z : Int) (rest : List Value), cs = .int k z :: rest ∧ (Lit.int k z).wf = true ∧ Parts enc P W base spare held n ts rest := by
  obtain ⟨c0, rest, x, rfl, h0, hr⟩ := h.inv
  obtain ⟨z, rfl, _, hw⟩ := DataW.trod_int ht h0
  exact ⟨z, rest, rfl, hw, hr⟩
theorem Parts.str {n : Nat} {t : TypeId} {ts : List TypeId} {cs : List Value} (h : Parts enc P W base spare held n (t :: ts) cs) (ht : P.underlying t = some .string) : ∃ (z : ByteArray) (rest : List Value), cs = .string z :: rest ∧ z.size ≤ 9223372036854775807 ∧ Parts enc P W base spare held n ts rest := by
  have hmx : maxLen = 9223372036854775807 := by decide
  obtain ⟨c0, rest, x, rfl, h0, hr⟩ := h.inv
  obtain ⟨z, rfl, _, hw⟩ := DataW.trod_string ht h0
  exact ⟨z, rest, rfl, by omega, hr⟩
theorem Parts.bytes {n : Nat} {t e : TypeId} {ts : List TypeId} {cs : List Value} (h : Parts enc P W base spare held n (t :: ts) cs) (ht : P.underlying t = some (.slice e)) (he : P.underlying e = some (.int .u8)) (hc : P.cellsOf e = 1) : ∃ (a : Option Addr) (c : Nat) (bs : List UInt8) (rest : List Value), cs = .slice a bs.length c :: rest ∧ bs.length ≤ 9223372036854775807 ∧ Vw (old W) (.slice a bs.length c) bs.length (bV bs) ∧ Parts enc P W base spare held n ts rest := by
  obtain ⟨c0, rest, x, rfl, h0, hr⟩ := h.inv
  obtain ⟨a, c, bs, rfl, h2, h3⟩ := open_bytesP ht he hc h0
  exact ⟨a, c, bs, rest, rfl, h2, h3, hr⟩
end
end Go.SL

/- journal, part y: lists that a call told, the disk that stands; bounds. -/
set_option linter.unusedVariables false
set_option linter.unusedSimpArgs false
namespace Go.Proofs.YtpdmbmnhgcnelaaGreat
open Go Go.SL
theorem flat_bound : ∀ (ls : List (List UInt8)), (∀ x ∈ ls, x.length ≤ 4096) → (ls.flatMap encL).length ≤ 4106 * ls.length
  | [], _ => by simp
  | x :: ls, h => by
    have h1 := flat_bound ls (fun y hy => h y (List.mem_cons_of_mem _ hy))
    have hx := h x (List.mem_cons_self ..)
    have h2 := encL_len x (by omega)
    simp only [List.flatMap_cons, List.length_append, List.length_cons]
    omega
end Go.Proofs.YtpdmbmnhgcnelaaGreat
namespace Go.Proofs.YtpdmbmnhgcnelaaGreat
open Go Go.SL
section
variable {P : Program} {f : FuncId} {n : Nat} {R : Ending → World → Prop} {G : Glob} {k : List Item} {L : Lst} {H : List HP} {S : World → Prop} {all : Array Oper} {rest : Pl}
theorem J_dA {bd : Nat} {A : Ab} (i : Nat) (hi : getL H i = some (diskA bd A)) (h : (∃ D, Rel D A) → J P f n R G S all rest k L H) : J P f n R G S all rest k L H :=
  J_sat fun w hw => by
    obtain ⟨h1, _, D, hR, _⟩ := hw.getA hi
    exact h ⟨D, hR⟩
end
section
variable {P : Program} {f : FuncId} {n : Nat} {R : Ending → World → Prop} {G : Glob} {k : List Item} {L : Lst} {H : List HP}
/-- A list of texts that is held: seen in one piece. -/
theorem K_list {v : Value} {ls : List (List UInt8)} (h : ∀ Y, LAt Y v ls → K P f n R G k L (Y :: H)) : K P f n R G k L (listH v ls :: H) := by
  refine K_open (listH_open v ls) ?_
  rintro ⟨cs, M⟩ hR
  refine K_sat ?_
  rintro ⟨w, hw⟩
  obtain ⟨h3, _, hA3⟩ := hw.getA (i := 0) rfl
  refine K_ent (Ent.resep [slc 40 1 v ls.length cs, arrS 5 M] H) ?_
  exact h _ (hR.lat ⟨h3, hA3⟩)
variable {S : World → Prop} {all : Array Oper} {rest : Pl}
theorem J_list {v : Value} {ls : List (List UInt8)} (h : ∀ Y, LAt Y v ls → J P f n R G S all rest k L (Y :: H)) : J P f n R G S all rest k L (listH v ls :: H) := fun a w ha hw => by
  obtain ⟨t, o, u, hp, hpw, h1, h2, ⟨x, hR, hA⟩, hH, hd, he⟩ := hw
  have hw1 : Sat G w (Sep [slc 40 1 v ls.length x.1, arrS 5 x.2] :: H) := ⟨t, o, u, hp, hpw, h1, h2, hA, hH, hd, he⟩
  obtain ⟨h', _, hs'⟩ := Sep_get (i := 0) rfl h1 hA
  exact h _ (hR.lat ⟨h', hs'⟩) a w ha hw1
end
end Go.Proofs.YtpdmbmnhgcnelaaGreat

/- the reference's journal, part e: Open. -/
set_option linter.unusedVariables false
set_option linter.unusedSimpArgs false
namespace Go.Proofs.YtpdmbmnhgcnelaaGreat
open Go Go.SL
/-- What a file tells. -/
def RM.told (m : RM) (name : ByteArray) : List (List UInt8) := recordsA (foundL (m.read name 0 ((m.size name).1 : Int)).1)
def RM.openJ (m : RM) (name : ByteArray) : Nat × RM :=
  if ¬ (isName name = true ∧ isName (freshOf name) = true) then (1, m) else if m.down = true then (7, m) else m.put name (m.told name)
theorem RM.file_len {m : RM} {k : Nat} (h : MOk m k) (f : Nat) : (m.file f).length ≤ 1048576 := by
  unfold RM.file
  rw [List.getD_eq_getElem?_getD]
  cases hg : m.now[f]? with
  | none => simp
  | some b => exact h.now b (List.mem_of_getElem? hg)
theorem RM.read_len {m : RM} {k : Nat} (h : MOk m k) (name : ByteArray) (at_ n : Int) : (m.read name at_ n).1.length ≤ 1048576 := by
  unfold RM.read
  split
  · simp
  split
  · simp
  · rename_i f hf
    split
    · simp
    · have := RM.file_len h f
      rw [List.length_take, List.length_drop]; omega
theorem RM.size_len {m : RM} {k : Nat} (h : MOk m k) (name : ByteArray) : (m.size name).1 ≤ 1048576 := by
  unfold RM.size
  split
  · simp
  · exact RM.file_len h _
theorem foundL_len (b : List UInt8) : (foundL b).length ≤ b.length := by
  unfold foundL
  split
  · simp
  · rw [List.length_take, List.length_drop]; omega
theorem MOk.openJ {m : RM} {k : Nat} (h : MOk m k) (hk : k + 4 ≤ 100000) (name : ByteArray) : MOk (m.openJ name).2 (k + 4) := by
  unfold RM.openJ
  split
  · exact h.up (by omega) hk
  split
  · exact h.up (by omega) hk
  · exact h.put hk _ _
theorem Sim.openJ {A A' : Ab} {m : RM} (h : Sim A m) {name : ByteArray} {e : Nat} {x : JN} (ho : OpenR A name e A' x) : e = (m.openJ name).1 ∧ Sim A' (m.openJ name).2 ∧ fileL A name = m.told name ∧ (e = 0 → x = ⟨1, (((m.told name).flatMap encL).length : Int), (((m.told name).flatMap encL).length : Int), false⟩) := by
  have ht : fileL A name = m.told name := by unfold fileL RM.told; rw [h.size, h.read]
  have hoff : m.down = A.off := by obtain ⟨σ, h⟩ := h; exact h.off
  unfold OpenR at ho
  unfold RM.openJ
  rw [hoff]
  by_cases h1 : ¬ (isName name = true ∧ isName (freshOf name) = true)
  · rw [if_pos h1] at ho ⊢
    obtain ⟨rfl, rfl⟩ := ho
    exact ⟨rfl, h, ht, fun h => by cases h⟩
  rw [if_neg h1] at ho ⊢
  by_cases h2 : A.off = true
  · rw [if_pos h2] at ho ⊢
    obtain ⟨rfl, rfl⟩ := ho
    exact ⟨rfl, h, ht, fun h => by cases h⟩
  rw [if_neg h2] at ho ⊢
  obtain ⟨y, hp, rfl, rfl⟩ := ho
  rw [ht] at hp
  obtain ⟨h3, h4, h5⟩ := Sim.put (x := (A, 0, 0, 0)) h hp
  refine ⟨h3, h4, ht, fun he => ?_⟩
  rw [if_pos he] at h5
  rw [h5]
theorem rdM_open (br : Nat) (m : RM) : ∀ h, rdM br m h → ∃ D, RR D m ∧ Sep [rd br D] h := fun h ⟨D, hR, hd⟩ => ⟨D, hR, Sep_one' hd⟩
attribute [local irreducible] J K Ctr Ends pts slc mapR mapI sbRow stock arrS loopP CtrY diskA LI listH rdM

set_option maxHeartbeats 4000000 in
set_option maxRecDepth 20000 in
theorem refOpen_any (br k : Nat) (m : RM) (hM : MOk m k) (hk : k + 4 ≤ 100000) (name : ByteArray) (hname : name.size ≤ 1000000000) :
    Ctr Tryz.prog 9 [ptr br, .string name] [rdM br m]
      (fun r H => ((m.openJ name).1 ≠ 0 ∧ r = .tuple #[.pointer none, .slice none 0 0, .int .i64 ((m.openJ name).1 : Int)] ∧ H = [rdM br (m.openJ name).2]) ∨
        ((m.openJ name).1 = 0 ∧ ∃ jb lv Y, LAt Y lv (m.told name) ∧ r = .tuple #[ptr jb, lv, .int .i64 0] ∧ H = [rdM br (m.openJ name).2, pts jb (cl [ptr br, .string name, .int .i64 1, .int .i64 (((m.told name).flatMap encL).length : Int), .int .i64 (((m.told name).flatMap encL).length : Int), .bool false] 48), Y])) := by
  have hfrs : (freshOf name).size = name.size + 4 := by unfold freshOf; rw [ByteArray.size_append]; rfl
  refine Ctr.enter Tryz.func9 (by kernel_rfl) rfl Tryz.ntmps9 rfl rfl ?_
  intro G F R hE
  (refine go ?_)
  (first | refine J_callE rfl rfl rfl rfl (mIsName_any name (by omega)) entA ?_ (fun _ _ _ _ _ => trivial) | refine J_call0E rfl rfl rfl (mIsName_any name (by omega)) entA ?_ (fun _ _ _ _ _ => trivial) | (refine go ?_; first | refine J_callE rfl rfl rfl rfl (mIsName_any name (by omega)) entA ?_ (fun _ _ _ _ _ => trivial) | refine J_call0E rfl rfl rfl (mIsName_any name (by omega)) entA ?_ (fun _ _ _ _ _ => trivial)))
  rintro _ _ ⟨rfl, rfl⟩
  cases h1 : isName name with
  | false =>
    have ho : m.openJ name = (1, m) := by unfold RM.openJ; rw [if_pos (by simp [h1])]
    rw [ho] at hE
    (refine go ?_)
    (first | refine K_return hE Tryz.func9 rfl _ rfl (.inl ⟨Nat.one_ne_zero, rfl, rfl⟩) entA | refine K_fallEnd hE Tryz.func9 rfl _ rfl (.inl ⟨Nat.one_ne_zero, rfl, rfl⟩) entA)
  | true =>
  (refine go ?_)
  refine J_strAdd rfl rfl rfl (by show name.size + 4 ≤ _; omega) ?_
  refine J_slot 23 (.string (freshOf name)) rfl rfl ?_
  (first | refine J_callE rfl rfl rfl rfl (mIsName_any (freshOf name) (by omega)) entA ?_ (fun _ _ _ _ _ => trivial) | refine J_call0E rfl rfl rfl (mIsName_any (freshOf name) (by omega)) entA ?_ (fun _ _ _ _ _ => trivial) | (refine go ?_; first | refine J_callE rfl rfl rfl rfl (mIsName_any (freshOf name) (by omega)) entA ?_ (fun _ _ _ _ _ => trivial) | refine J_call0E rfl rfl rfl (mIsName_any (freshOf name) (by omega)) entA ?_ (fun _ _ _ _ _ => trivial)))
  rintro _ _ ⟨rfl, rfl⟩
  cases h2 : isName (freshOf name) with
  | false =>
    have ho : m.openJ name = (1, m) := by unfold RM.openJ; rw [if_pos (by simp [h2])]
    rw [ho] at hE
    (refine go ?_)
    (first | refine K_return hE Tryz.func9 rfl _ rfl (.inl ⟨Nat.one_ne_zero, rfl, rfl⟩) entA | refine K_fallEnd hE Tryz.func9 rfl _ rfl (.inl ⟨Nat.one_ne_zero, rfl, rfl⟩) entA)
  | true =>
  (refine go ?_)
  refine J_ent (Ent.pick [0] rfl) ?_
  refine J_open (rdM_open br m) ?_
  rintro ⟨room, now, sure, lv, sts, wrs, nxt, down, nowL, sureL, stsL, wl, arrs, nrows⟩ hR
  have hdn := hR.down
  simp only at hdn
  refine J_ent (rd_o _ _ _ _ _ _ _ _ _ _ _ _ _ _ _ _) ?_
  (refine go ?_)
  refine K_ent (rd_c _ _ _ _ _ _ _ _ _ _ _ _ _ _ _ _) ?_
  refine K_ent (rdM_in hR _) ?_
  cases hd : m.down with
  | true =>
    have ho : m.openJ name = (7, m) := by unfold RM.openJ; rw [if_neg (by simp [h1, h2]), if_pos hd]
    rw [ho] at hE
    rw [hd] at hdn
    subst hdn
    (refine go ?_)
    (first | refine K_return hE Tryz.func9 rfl _ rfl (.inl ⟨Nat.succ_ne_zero 6, rfl, rfl⟩) entA | refine K_fallEnd hE Tryz.func9 rfl _ rfl (.inl ⟨Nat.succ_ne_zero 6, rfl, rfl⟩) entA)
  | false =>
  have ho : m.openJ name = m.put name (m.told name) := by unfold RM.openJ; rw [if_neg (by simp [h1, h2]), if_neg (by simp [hd])]
  rw [ho] at hE
  rw [hd] at hdn
  subst hdn
  have hsz := RM.size_len hM name
  have hrl := RM.read_len hM name 0 ((m.size name).1 : Int)
  (refine go ?_)
  (first | refine J_callE rfl rfl rfl rfl (Size_rM br k m hM name) entA ?_ (fun _ _ _ _ _ => trivial) | refine J_call0E rfl rfl rfl (Size_rM br k m hM name) entA ?_ (fun _ _ _ _ _ => trivial) | (refine go ?_; first | refine J_callE rfl rfl rfl rfl (Size_rM br k m hM name) entA ?_ (fun _ _ _ _ _ => trivial) | refine J_call0E rfl rfl rfl (Size_rM br k m hM name) entA ?_ (fun _ _ _ _ _ => trivial)))
  rintro _ _ ⟨rfl, rfl⟩
  (refine go ?_)
  (first | refine J_callE rfl rfl rfl rfl (Read_rM br k m hM name 0 ((m.size name).1 : Int) (by omega) (by omega)) entA ?_ (fun _ _ _ _ _ => trivial) | refine J_call0E rfl rfl rfl (Read_rM br k m hM name 0 ((m.size name).1 : Int) (by omega) (by omega)) entA ?_ (fun _ _ _ _ _ => trivial) | (refine go ?_; first | refine J_callE rfl rfl rfl rfl (Read_rM br k m hM name 0 ((m.size name).1 : Int) (by omega) (by omega)) entA ?_ (fun _ _ _ _ _ => trivial) | refine J_call0E rfl rfl rfl (Read_rM br k m hM name 0 ((m.size name).1 : Int) (by omega) (by omega)) entA ?_ (fun _ _ _ _ _ => trivial)))
  rintro _ _ ⟨ra, rc, rfl, rfl⟩
  obtain ⟨B, hB⟩ : ∃ B, B = (m.read name 0 ((m.size name).1 : Int)).1 := ⟨_, rfl⟩
  have htold : m.told name = recordsA (foundL B) := by unfold RM.told; rw [hB]
  rw [← hB] at hrl ⊢
  (refine go ?_)
  refine J_slcB (bs := B) 0 rfl ?_
  intro hbr
  (first | refine J_callE rfl rfl rfl rfl (refTold_any _ _ B hbr hrl) entA ?_ (fun _ _ _ _ _ => trivial) | refine J_call0E rfl rfl rfl (refTold_any _ _ B hbr hrl) entA ?_ (fun _ _ _ _ _ => trivial) | (refine go ?_; first | refine J_callE rfl rfl rfl rfl (refTold_any _ _ B hbr hrl) entA ?_ (fun _ _ _ _ _ => trivial) | refine J_call0E rfl rfl rfl (refTold_any _ _ B hbr hrl) entA ?_ (fun _ _ _ _ _ => trivial)))
  rintro lv _ rfl
  rw [← htold]
  have hbd := recordsA_bound (foundL B)
  rw [← htold] at hbd
  have hfl := foundL_len B
  refine J_list ?_
  intro Y hY
  (refine go ?_)
  refine J_box rfl rfl (fun _ _ _ => trivial) ?_
  intro jb
  (refine go ?_)
  (first | refine J_callE rfl rfl rfl rfl (refPut_any br jb k m hM hk name hname 0 0 0 false Y lv (m.told name) hY (by omega) (by omega)) entA ?_ (fun _ _ _ _ _ => trivial) | refine J_call0E rfl rfl rfl (refPut_any br jb k m hM hk name hname 0 0 0 false Y lv (m.told name) hY (by omega) (by omega)) entA ?_ (fun _ _ _ _ _ => trivial) | (refine go ?_; first | refine J_callE rfl rfl rfl rfl (refPut_any br jb k m hM hk name hname 0 0 0 false Y lv (m.told name) hY (by omega) (by omega)) entA ?_ (fun _ _ _ _ _ => trivial) | refine J_call0E rfl rfl rfl (refPut_any br jb k m hM hk name hname 0 0 0 false Y lv (m.told name) hY (by omega) (by omega)) entA ?_ (fun _ _ _ _ _ => trivial)))
  rintro _ _ ⟨rfl, rfl⟩
  by_cases he : (m.put name (m.told name)).1 = 0
  · rw [if_pos he]
    (refine go ?_)
    refine K_condP rfl rfl ?_ ?_
    · intro h; exact absurd (by omega) h
    intro _
    (refine go ?_)
    (first | refine K_return hE Tryz.func9 rfl _ rfl (.inr ⟨he, jb, lv, Y, hY, rfl, rfl⟩) entA | refine K_fallEnd hE Tryz.func9 rfl _ rfl (.inr ⟨he, jb, lv, Y, hY, rfl, rfl⟩) entA)
  · (refine go ?_)
    refine K_condP rfl rfl ?_ ?_
    case' refine_2 => (intro h; exact absurd (by omega) h)
    intro _
    (refine go ?_)
    (first | refine K_return hE Tryz.func9 rfl _ rfl (.inl ⟨he, rfl, rfl⟩) entA | refine K_fallEnd hE Tryz.func9 rfl _ rfl (.inl ⟨he, rfl, rfl⟩) entA)
end Go.Proofs.YtpdmbmnhgcnelaaGreat

/- Engine, part Vi: the library's sort at numbers, by the shelf's contracts. Nothing here names a program. -/
set_option linter.unusedSimpArgs false
set_option linter.unusedVariables false
set_option linter.unusedSectionVars false
namespace Go.SL
open Go.Proofs Go.Shelf Go.RowKit Go.Lib Go.Sort
theorem Sat.grown {G : Glob} {w : World} {H : List HP} (hs : Sat G w H) (os : Array Obj) : Sat G (Sort.grow w os) H := by
  obtain ⟨a, b, c, h, hw, hh⟩ := hs
  refine ⟨a, b, c, h, fun x o e => ?_, hh⟩
  have h1 := hw x o e
  obtain ⟨h2, -⟩ := Array.getElem?_eq_some_iff.1 h1
  show (w.heap ++ os)[x]? = some o
  rw [Array.getElem?_append_left h2]
  exact h1
theorem Sat.ahead {G : Glob} {w : World} {H : List HP} (hs : Sat G w H) (n : Nat) : Sat G (Sort.ahead w n) H := hs.draw _ (Nat.le_add_right _ _)
theorem Sat.mapB {G : Glob} {w : World} {H : List HP} {b : Nat} {l l' : List Value} {e : TypeId} (hs : Sat G w (pts b (cl l e) :: H)) (f : Array Value → Array Value) (hf : f l.toArray = l'.toArray) : Sat G (Sort.mapBlock w b f) (pts b (cl l' e) :: H) := by
  have hb := hs.get (i := 0) rfl
  obtain ⟨hlt, hb2⟩ := Array.getElem?_eq_some_iff.1 hb
  have hm : w.heap.modify b (Sort.onCells f) = w.heap.setIfInBounds b (cl l' e) := by
    apply Array.ext_getElem?
    intro i
    rw [Array.getElem?_modify, Array.getElem?_setIfInBounds]
    by_cases h : b = i
    · subst h
      rw [if_pos rfl, if_pos rfl, if_pos hlt, hb]
      simp only [Option.map_some]
      unfold cl Sort.onCells
      simp only [hf]
    · rw [if_neg h, if_neg h]
  unfold Sort.mapBlock
  rw [hm]
  exact hs.set0
/-- Where all that was stands, the world has but grown. -/
theorem grow_of_old {W W' : World} (h : Sat { tape := W.tape, os := W.os, output := W.output, lo := W.drawn } W' [old W]) : ∃ q os', W' = Sort.grow (W.drewN q) os' := by
  obtain ⟨⟨h1, h2⟩, h3, h4, h0, hw, hs⟩ := h
  have ho := Sep_one hs
  have hb : ∀ k, k < W.heap.size → W'.heap[k]? = W.heap[k]? := fun k hk => by
    have e : W.heap[k]? = some W.heap[k] := by simp [hk]
    rw [e]
    exact hw k _ (by rw [ho k, e])
  have hle : W.heap.size ≤ W'.heap.size := by
    rcases Nat.eq_zero_or_pos W.heap.size with h0 | h0
    · omega
    · have := hb (W.heap.size - 1) (by omega)
      have e : W.heap[W.heap.size - 1]? = some W.heap[W.heap.size - 1] := by simp [h0]
      rw [e] at this
      have := (Array.getElem?_eq_some_iff.1 this).1
      omega
  refine ⟨W'.drawn - W.drawn, W'.heap.extract W.heap.size W'.heap.size, ?_⟩
  have hheap : W'.heap = W.heap ++ W'.heap.extract W.heap.size W'.heap.size := by
    apply Array.ext_getElem?
    intro i
    rw [Array.getElem?_append]
    split
    · rename_i hi; exact hb i hi
    · rename_i hi
      rw [Array.getElem?_extract]
      split
      · rename_i h; congr 1; omega
      · rename_i h; rw [Array.getElem?_eq_none (by omega)]
  have hd : W'.drawn = W.drawn + (W'.drawn - W.drawn) := by simp only at h2; omega
  cases W' with
  | mk hp tp dr os out =>
    simp only at h1 h2 h3 h4 hheap hd
    subst h1 h3 h4
    unfold Sort.grow World.drewN
    simp only
    rw [← hd, ← hheap]
variable {P : Program} {ρ : Ren} {α : Type} [Inhabited α]
theorem putCells_mid (pre cs cs' junk : List Value) (hl : cs'.length = cs.length) : Sort.putCells id pre.length cs'.toArray (pre ++ cs ++ junk).toArray = (pre ++ cs' ++ junk).toArray := by
  apply Array.ext_getElem?
  intro i
  unfold Sort.putCells
  rw [Array.getElem?_mapIdx]
  simp only [List.getElem?_toArray, id, List.size_toArray]
  rcases Nat.lt_or_ge i pre.length with h | h
  · rw [List.append_assoc, List.append_assoc, List.getElem?_append_left h, List.getElem?_append_left h]
    cases pre[i]? with
    | none => rfl
    | some x => simp only [Option.map_some]; rw [if_neg (by omega)]
  · rw [List.append_assoc, List.append_assoc, List.getElem?_append_right h, List.getElem?_append_right h]
    rcases Nat.lt_or_ge (i - pre.length) cs'.length with h2 | h2
    · rw [List.getElem?_append_left (by omega), List.getElem?_append_left h2, List.getElem?_eq_getElem (by omega), List.getElem?_eq_getElem h2]
      simp only [Option.map_some]
      rw [if_pos ⟨h, by omega⟩, getElem!_pos _ _ (by simpa using h2)]
      simp
    · rw [List.getElem?_append_right (by omega), List.getElem?_append_right h2, hl]
      cases junk[i - pre.length - cs.length]? with
      | none => rfl
      | some x => simp only [Option.map_some]; rw [if_neg (by omega)]
theorem holds_mid {w : World} {b : Nat} {e : TypeId} {pre cs junk : List Value} (hb : w.heap[b]? = some (cl (pre ++ cs ++ junk) e)) : Sort.Holds id w b pre.length cs.toArray := by
  intro j hj
  simp only [List.size_toArray] at hj
  constructor
  · unfold World.cell?
    simp only [hb, cl, Option.isSome_none, Bool.false_eq_true, if_false, List.getElem?_toArray]
    rw [List.append_assoc, List.getElem?_append_right (by omega), Nat.add_sub_cancel_left, List.getElem?_append_left hj, getElem!_pos _ _ (by simpa using hj), List.getElem?_eq_getElem hj]
    simp
  · unfold World.frozen?
    simp only [hb, cl]
    simp

theorem sortInt_ctr (L : SlLaysN.n53 P ρ) (e : TypeId) (v : Value) (l : List Int) (hen : P.funcs[ρ.f 53]?.map callable = some true) (hsz : l.length < 4611686018427387904) :
    Ctr P (ρ.f 53) [v] [slc e 1 v l.length (l.map (Value.int .i64))] (fun r H => r = .tuple #[] ∧ H = [slc e 1 v l.length ((l.mergeSort fun x y => decide (x ≤ y)).map (Value.int .i64))]) := by
  refine ⟨hen, fun G w F hs => ?_⟩
  obtain ⟨t, o, u, hp, hpw, hA, hB, ⟨hl, hcase⟩, hBB, hd, he⟩ := hs
  rcases hcase with ⟨a0, rfl, hn, hemp⟩ | ⟨b, oo, cap, pre, junk, rfl, hpre, hn, hcap, hpt⟩
  · have hl0 : l = [] := List.eq_nil_of_length_eq_zero hn
    subst hl0
    refine (AnyG.slices_Sort_int_none L a0 0 w).mono ?_
    rintro e' w' ⟨rfl, rfl⟩
    exact ⟨_, _, rfl, ⟨rfl, rfl⟩, t, o, u, hp, hpw, hA, hB, ⟨by simp, .inl ⟨a0, rfl, rfl, hemp⟩⟩, hBB, hd, he⟩
  · have hs1 : Sat G w (pts b (cl (pre ++ l.map (Value.int .i64) ++ junk) e) :: F) := ⟨t, o, u, hp, hpw, hA, hB, hpt, hBB, hd, he⟩
    have hb := hs1.get (i := 0) rfl
    have hlt := hs1.lt (i := 0) rfl
    subst hpre
    have hH : Sort.Holds (Value.int .i64) w b pre.length l.toArray := by
      have h0 := holds_mid hb
      intro j hj
      have := h0 j (by simpa using hj)
      simp only [List.size_toArray] at hj
      rw [getElem!_pos (l.map (Value.int .i64)).toArray j (by simpa using hj)] at this
      rw [getElem!_pos l.toArray j (by simpa using hj)]
      simpa using this
    have hS := AnyG.slices_Sort_int L b pre.length cap l w hH hlt hsz
    refine hS.mono ?_
    rintro e' w' ⟨rfl, n, os, rfl⟩
    refine ⟨_, _, rfl, ⟨rfl, rfl⟩, ?_⟩
    have hml : (l.mergeSort fun x y => decide (x ≤ y)).length = l.length := List.length_mergeSort _
    have h3 := (hs1.ahead n).mapB (Sort.putCells (Value.int .i64) pre.length (l.mergeSort fun x y => decide (x ≤ y)).toArray) (l' := pre ++ (l.mergeSort fun x y => decide (x ≤ y)).map (Value.int .i64) ++ junk) (by
      refine Eq.trans ?_ (putCells_mid pre (l.map (Value.int .i64)) ((l.mergeSort fun x y => decide (x ≤ y)).map (Value.int .i64)) junk (by rw [List.length_map, List.length_map, hml]))
      unfold Sort.putCells
      congr 1
      funext i x
      simp only [List.size_toArray, List.length_map, id]
      split
      · rename_i h
        rw [getElem!_pos (List.map (Value.int .i64) _).toArray (i - pre.length) (by simp; omega), getElem!_pos (l.mergeSort fun x y => decide (x ≤ y)).toArray (i - pre.length) (by simp; omega)]
        simp
      · rfl)
    have h4 := h3.grown os
    refine h4.ent ?_
    exact slc_closeN rfl hn (by rw [List.length_map] at hcap ⊢; rw [hml]; exact hcap) (by rw [List.length_map, hml, Nat.mul_one]) F
end Go.SL

/- Engine, part V2: the library's sort at strings. Nothing here names a program. -/
set_option linter.unusedSimpArgs false
set_option linter.unusedVariables false
set_option linter.unusedSectionVars false
namespace Go.SL
open Go.Proofs Go.Shelf Go.RowKit Go.Lib Go.Sort
variable {P : Program} {ρ : Ren}
theorem sortStr_ctr (L : SlLaysN.n54 P ρ) (e : TypeId) (v : Value) (l : List (List UInt8)) (hen : P.funcs[ρ.f 54]?.map callable = some true) (hsz : l.length < 4611686018427387904) :
    Ctr P (ρ.f 54) [v] [slc e 1 v l.length (l.map encStr)] (fun r H => r = .tuple #[] ∧ H = [slc e 1 v l.length ((l.mergeSort fun x y => decide (x ≤ y)).map encStr)]) := by
  refine ⟨hen, fun G w F hs => ?_⟩
  obtain ⟨t, o, u, hp, hpw, hA, hB, ⟨hl, hcase⟩, hBB, hd, he⟩ := hs
  rcases hcase with ⟨a0, rfl, hn, hemp⟩ | ⟨b, oo, cap, pre, junk, rfl, hpre, hn, hcap, hpt⟩
  · have hl0 : l = [] := List.eq_nil_of_length_eq_zero hn
    subst hl0
    refine (AnyG.slices_Sort_string_none L a0 0 w).mono ?_
    rintro e' w' ⟨rfl, rfl⟩
    exact ⟨_, _, rfl, ⟨rfl, rfl⟩, t, o, u, hp, hpw, hA, hB, ⟨by simp, .inl ⟨a0, rfl, rfl, hemp⟩⟩, hBB, hd, he⟩
  · have hs1 : Sat G w (pts b (cl (pre ++ l.map encStr ++ junk) e) :: F) := ⟨t, o, u, hp, hpw, hA, hB, hpt, hBB, hd, he⟩
    have hb := hs1.get (i := 0) rfl
    have hlt := hs1.lt (i := 0) rfl
    subst hpre
    have hH : Sort.Holds encStr w b pre.length l.toArray := by
      have h0 := holds_mid hb
      intro j hj
      have := h0 j (by simpa using hj)
      simp only [List.size_toArray] at hj
      rw [getElem!_pos (l.map encStr).toArray j (by simpa using hj)] at this
      rw [getElem!_pos l.toArray j (by simpa using hj)]
      simpa using this
    have hS := AnyG.slices_Sort_string L b pre.length cap l w hH hlt hsz
    refine hS.mono ?_
    rintro e' w' ⟨rfl, n, os, rfl⟩
    refine ⟨_, _, rfl, ⟨rfl, rfl⟩, ?_⟩
    have hml : (l.mergeSort fun x y => decide (x ≤ y)).length = l.length := List.length_mergeSort _
    have h3 := (hs1.ahead n).mapB (Sort.putCells encStr pre.length (l.mergeSort fun x y => decide (x ≤ y)).toArray) (l' := pre ++ (l.mergeSort fun x y => decide (x ≤ y)).map encStr ++ junk) (by
      refine Eq.trans ?_ (putCells_mid pre (l.map encStr) ((l.mergeSort fun x y => decide (x ≤ y)).map encStr) junk (by rw [List.length_map, List.length_map, hml]))
      unfold Sort.putCells
      congr 1
      funext i x
      simp only [List.size_toArray, List.length_map, id]
      split
      · rename_i h
        rw [getElem!_pos (List.map encStr _).toArray (i - pre.length) (by simp; omega), getElem!_pos (l.mergeSort fun x y => decide (x ≤ y)).toArray (i - pre.length) (by simp; omega)]
        simp
      · rfl)
    have h4 := h3.grown os
    refine h4.ent ?_
    exact slc_closeN rfl hn (by rw [List.length_map] at hcap ⊢; rw [hml]; exact hcap) (by rw [List.length_map, hml, Nat.mul_one]) F

theorem ltS_lt (a b : ByteArray) : ltS a b = decide (a.data.toList < b.data.toList) := bytesLess_eq _ _
end Go.SL

