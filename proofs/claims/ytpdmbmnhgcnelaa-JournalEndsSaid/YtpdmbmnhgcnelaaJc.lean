/- journal, part c: ToUint; encoded; long; found. -/
import Derived.Test.YtpdmbmnhgcnelaaJb
set_option linter.unusedVariables false
set_option linter.unusedSimpArgs false
namespace Go.Proofs.Ytpdmbmnhgcnelaa
open Go Go.SL
attribute [local irreducible] J K Ctr Ends pts slc mapR mapI sbRow stock arrS loopP

/-- Bytes that stand somewhere in A. -/
def BAt (A : HP) (v : Value) (bs : List UInt8) : Prop := Vw A v bs.length (bV bs) ∧ ∃ a c, v = .slice a bs.length c ∧ bs.length ≤ c
theorem BAt.cut {A : HP} {a : Option Addr} {n c : Nat} {bs : List UInt8} (h : BAt A (.slice a n c) bs) (p : Nat) (hp : p ≤ bs.length) : BAt A (.slice (sliceAt a c p 1) (bs.length - p) (c - p)) (bs.drop p) := by
  obtain ⟨hv, a', c', he, hc⟩ := h
  simp only [Value.slice.injEq] at he
  obtain ⟨rfl, rfl, rfl⟩ := he
  refine ⟨?_, _, _, by rw [List.length_drop], by rw [List.length_drop]; omega⟩
  have := hv.cutk (s := 1) (by rw [bV_length]; omega) hc p hp
  rw [List.length_drop, show bV (bs.drop p) = (bV bs).drop (p * 1) from by simp [bV, List.map_drop]]
  exact this
theorem BAt.front {A : HP} {a : Option Addr} {n c : Nat} {bs : List UInt8} (h : BAt A (.slice a n c) bs) (q : Nat) (hq : q ≤ bs.length) : BAt A (.slice (sliceAt a c 0 1) q c) (bs.take q) := by
  obtain ⟨hv, a', c', he, hc⟩ := h
  simp only [Value.slice.injEq] at he
  obtain ⟨rfl, rfl, rfl⟩ := he
  have hl : (bs.take q).length = q := by rw [List.length_take]; omega
  refine ⟨?_, _, _, by rw [hl], by rw [hl]; omega⟩
  have := hv.cut0 (s := 1) q
  rw [hl, show bV (bs.take q) = (bV bs).take (q * 1) from by simp [bV, List.map_take]]
  exact this
theorem BAt.mono {A B : HP} {v : Value} {bs : List UInt8} (h : BAt A v bs) (hAB : ∀ h, B h → ∃ h', sub h' h ∧ A h') : BAt B v bs := ⟨h.1.mono hAB, h.2⟩
theorem BAt.piece {A : HP} {a : Option Addr} {n c : Nat} {bs : List UInt8} (h : BAt A (.slice a n c) bs) (p q : Nat) (hp : p ≤ q) (hq : q ≤ bs.length) : BAt A (.slice (sliceAt a c p 1) (q - p) (c - p)) ((bs.drop p).take (q - p)) := by
  have h1 := h.cut p (by omega)
  obtain ⟨hv, a', c', he, hc⟩ := h1
  have hlen : ((bs.drop p).take (q - p)).length = q - p := by rw [List.length_take, List.length_drop]; omega
  refine ⟨?_, _, _, by rw [hlen], by rw [hlen]; obtain ⟨_, _, _, he2, hc2⟩ := h; simp only [Value.slice.injEq] at he2; omega⟩
  obtain ⟨a2, cap2, he2, h0 | ⟨b, o, ha, hc2⟩⟩ := hv
  · simp only [Value.slice.injEq] at he2
    have : (bs.drop p) = [] := by simpa [bV] using h0
    refine ⟨_, _, by rw [hlen], .inl ?_⟩
    rw [this]; simp [bV]
  · simp only [Value.slice.injEq] at he2
    refine ⟨_, _, by rw [hlen], .inr ⟨b, o, by rw [he2.1, ha], fun h' hA j x hj => ?_⟩⟩
    refine hc2 h' hA j x ?_
    rw [show bV ((bs.drop p).take (q - p)) = (bV (bs.drop p)).take (q - p) from by simp [bV, List.map_take]] at hj
    rw [List.getElem?_take] at hj
    split at hj
    · exact hj
    · cases hj
theorem ToUint_any (A : HP) (v : Value) (bs : List UInt8) (hv : BAt A v bs) (hl : bs.length ≤ 9223372036854775807) :
    Ctr Try.prog 90 [v] [A] (fun r H => r = (match toUintA bs with
      | some n => .tuple #[.int .u64 (n : Int), .int .i64 0]
      | none => .tuple #[.int .u64 0, .int .i64 2]) ∧ H = [A]) := by
  refine Ctr.enter Try.func90 (by kernel_rfl) rfl Try.ntmps90 rfl rfl ?_
  intro G F R hE
  (refine go ?_)
  (first | refine J_callE rfl rfl rfl rfl (cut_any A v bs hv.1 hv.2 hl) entA ?_ (fun _ _ _ _ _ => trivial) | refine J_call0E rfl rfl rfl (cut_any A v bs hv.1 hv.2 hl) entA ?_ (fun _ _ _ _ _ => trivial) | (refine go ?_; first | refine J_callE rfl rfl rfl rfl (cut_any A v bs hv.1 hv.2 hl) entA ?_ (fun _ _ _ _ _ => trivial) | refine J_call0E rfl rfl rfl (cut_any A v bs hv.1 hv.2 hl) entA ?_ (fun _ _ _ _ _ => trivial)))
  rintro _ _ ⟨rv, rfl, ⟨hvr, a, c, rfl, _⟩, rfl⟩
  cases hok : (cutA bs).2.2 with
  | false =>
    have hn : toUintA bs = none := by unfold toUintA; rw [if_neg (by rw [hok]; simp)]
    rw [hn] at hE
    (refine go ?_)
    (first | refine K_return hE Try.func90 rfl _ rfl ⟨rfl, rfl⟩ entA | refine K_fallEnd hE Try.func90 rfl _ rfl ⟨rfl, rfl⟩ entA)
  | true =>
    repeat' (first | (with_reducible intro _hh) | refine go1 ?_ | refine J_fork ?_ ?_ | refine J_gsP rfl rfl rfl rfl ?_ ?_ | refine K_condP rfl rfl ?_ ?_)
    · have hn : toUintA bs = none := by unfold toUintA; rw [if_neg (fun h => by rw [h.2] at _hh; simp at _hh)]
      rw [hn] at hE
      (first | refine K_return hE Try.func90 rfl _ rfl ⟨rfl, rfl⟩ entA | refine K_fallEnd hE Try.func90 rfl _ rfl ⟨rfl, rfl⟩ entA)
    · have hn : toUintA bs = some (cutA bs).1 := by unfold toUintA; rw [if_pos ⟨hok, List.eq_nil_of_length_eq_zero (by omega)⟩]
      rw [hn] at hE
      (first | refine K_return hE Try.func90 rfl _ rfl ⟨rfl, rfl⟩ entA | refine K_fallEnd hE Try.func90 rfl _ rfl ⟨rfl, rfl⟩ entA)
/-- A record as bytes. -/
def encL (bs : List UInt8) : List UInt8 := uv bs.length ++ bs
theorem encoded_any (A : HP) (v : Value) (bs : List UInt8) (hv : BAt A v bs) (hl : bs.length ≤ 1000000000000) : Ctr Try.prog 50 [v] [A] (fun r H => H = [slc 5 1 r (encL bs).length (bV (encL bs)), A]) := by
  obtain ⟨a, c, rfl, hc⟩ := hv.2
  refine Ctr.enter Try.func50 (by kernel_rfl) rfl Try.ntmps50 rfl rfl ?_
  intro G F R hE
  (refine go ?_)
  (first | refine J_callE rfl rfl rfl rfl (Uint_any bs.length (by omega)) entA ?_ (fun _ _ _ _ _ => trivial) | refine J_call0E rfl rfl rfl (Uint_any bs.length (by omega)) entA ?_ (fun _ _ _ _ _ => trivial) | (refine go ?_; first | refine J_callE rfl rfl rfl rfl (Uint_any bs.length (by omega)) entA ?_ (fun _ _ _ _ _ => trivial) | refine J_call0E rfl rfl rfl (Uint_any bs.length (by omega)) entA ?_ (fun _ _ _ _ _ => trivial)))
  rintro r _ rfl
  (first | refine J_shape 0 rfl ?_ | refine K_shape 0 rfl ?_)
  rintro ra rc rfl
  (refine go ?_)
  have hu := uv_len10 (n := bs.length) (by omega)
  refine J_append (U := tab) (mm := bs.length) (news := bV bs) 0 1 rfl rfl rfl rfl rfl rfl rfl rfl rfl rfl rfl rfl hv.1 (by show _ = _ * 1; rw [bV_length]; omega) (bV_one _) (by omega) (by show (_ + _) * 1 ≤ _; omega) (fun _ => rfl) (fun _ _ _ => trivial) ?_
  intro v1
  rw [show bV (uv bs.length) ++ bV bs = bV (encL bs) from by simp [bV, encL], show (uv bs.length).length + bs.length = (encL bs).length from by simp [encL]]
  (refine go ?_)
  (first | refine K_return hE Try.func50 rfl _ rfl rfl entA | refine K_fallEnd hE Try.func50 rfl _ rfl rfl entA)
set_option maxRecDepth 20000 in
theorem long_any (A : HP) (v : Value) (bs : List UInt8) (hv : BAt A v bs) (hl : bs.length ≤ 9223372036854775807) :
    Ctr Try.prog 63 [v] [A] (fun r H => r = (match longA bs with
      | some (k, n) => .tuple #[.int .i64 (k : Int), .int .i64 (n : Int), .bool (decide (n ≤ 4096))]
      | none => .tuple #[.int .i64 0, .int .i64 0, .bool false]) ∧ H = [A]) := by
  obtain ⟨a, c, rfl, hc⟩ := hv.2
  refine Ctr.enter Try.func63 (by kernel_rfl) rfl Try.ntmps63 rfl rfl ?_
  intro G F R hE
  (refine go ?_)
  refine K_loop (fun k : Nat => 1 ≤ k ∧ k ≤ 3 ∧ (2 ≤ k → 1 ≤ bs.length ∧ toUintA (bs.take 1) = none) ∧ (3 ≤ k → 2 ≤ bs.length ∧ toUintA (bs.take 2) = none)) (fun k => 3 - k)
    (fun k => [(0, .slice a bs.length c), (5, .int .i64 (k : Int))])
    (fun _ => A :: F) 1 ⟨by omega, by omega, by omega, by omega⟩ rfl (by repeat (first | exact keep_nil | refine keep_cons rfl ?_)) entA ?_
  rintro k ⟨hk1, hk2, h1, h2⟩ ih
  (refine go ?_)
  refine K_condP rfl rfl ?_ ?_
  case' refine_2 =>
    intro hge
    have hn : longA bs = none := by
      unfold longA
      split
      · obtain ⟨_, h3⟩ := h1 (by omega)
        rw [h3]
        simp only
        split
        · obtain ⟨_, h4⟩ := h2 (by omega)
          rw [h4]; rfl
        · rfl
      · rfl
    rw [hn] at hE
    (refine go ?_)
    (first | refine K_return hE Try.func63 rfl _ rfl ⟨rfl, rfl⟩ entA | refine K_fallEnd hE Try.func63 rfl _ rfl ⟨rfl, rfl⟩ entA)
  intro hlt
  have hkl : k ≤ bs.length := by omega
  (refine go ?_)
  refine J_sliceAny (U := tab) (p := 0) (q := (k : Int)) rfl rfl rfl rfl rfl rfl rfl (by omega) (by omega) (.inr (by omega)) ?_
  have hf := hv.front k hkl
  refine J_slot 18 (.slice (sliceAt a c 0 1) k c) rfl (by rw [show (0 : Int).toNat = 0 from rfl, show ((k : Int)).toNat = k from by omega]; rfl) ?_
  (first | refine J_callE rfl rfl rfl rfl (ToUint_any A _ (bs.take k) hf (by rw [List.length_take]; omega)) entA ?_ (fun _ _ _ _ _ => trivial) | refine J_call0E rfl rfl rfl (ToUint_any A _ (bs.take k) hf (by rw [List.length_take]; omega)) entA ?_ (fun _ _ _ _ _ => trivial) | (refine go ?_; first | refine J_callE rfl rfl rfl rfl (ToUint_any A _ (bs.take k) hf (by rw [List.length_take]; omega)) entA ?_ (fun _ _ _ _ _ => trivial) | refine J_call0E rfl rfl rfl (ToUint_any A _ (bs.take k) hf (by rw [List.length_take]; omega)) entA ?_ (fun _ _ _ _ _ => trivial)))
  cases hu : toUintA (bs.take k) with
  | none =>
    rintro _ _ ⟨rfl, rfl⟩
    (refine go ?_)
    refine K_again ih (k + 1) rfl ⟨by omega, by omega, fun h => by
      by_cases hk : k = 1
      · subst hk; exact ⟨by omega, hu⟩
      · exact h1 (by omega), fun h => by
      have hk : k = 2 := by omega
      subst hk; exact ⟨by omega, hu⟩⟩ (by omega) (by repeat (first | exact keep_nil | refine keep_cons rfl ?_)) entA
  | some n =>
    rintro _ _ ⟨rfl, rfl⟩
    have hn16 := toUint_small hu (by rw [List.length_take]; omega)
    have hres : longA bs = some (k, n) := by
      unfold longA
      rw [if_pos (by omega)]
      by_cases hk : k = 1
      · subst hk; rw [hu]
      · have hk : k = 2 := by omega
        subst hk
        obtain ⟨_, h3⟩ := h1 (by omega)
        rw [h3]
        simp only
        rw [if_pos (by omega), hu]; rfl
    rw [hres] at hE
    simp only at hE
    rw [show decide (n ≤ 4096) = decide ((n : Int) ≤ 4096) from decide_eq_decide.2 ⟨fun _ => by omega, fun _ => by omega⟩] at hE
    (refine go ?_)
    (first | refine K_return hE Try.func63 rfl _ rfl ⟨rfl, rfl⟩ entA | refine K_fallEnd hE Try.func63 rfl _ rfl ⟨rfl, rfl⟩ entA)
/-- Of a file's bytes those that count. -/
def headOk (b : List UInt8) (k last : Nat) : Bool :=
  let h := (b.drop (16 * k)).take 16
  decide (last < leN h ∧ leN h ≤ 1073741824 ∧ leN h % 2 = k ∧ leN (h.drop 4) + 32 ≤ b.length ∧ h = headL (leN h) (leN (h.drop 4)))
def lastOf2 (b : List UInt8) (k : Nat) (s : Nat × Nat) : Nat × Nat := if headOk b k s.1 then (leN ((b.drop (16 * k)).take 16), leN (((b.drop (16 * k)).take 16).drop 4)) else s
def foundL (b : List UInt8) : List UInt8 := if b.length < 32 then [] else (b.drop 32).take (lastOf2 b 1 (lastOf2 b 0 (0, 0))).2
theorem hd16 {b : List UInt8} {k : Nat} (hk : 16 * k + 16 ≤ b.length) : ((b.drop (16 * k)).take 16).length = 16 := by rw [List.length_take, List.length_drop]; omega
set_option maxRecDepth 20000 in
theorem found_any (A : HP) (v : Value) (b : List UInt8) (hv : BAt A v b) (hl : b.length ≤ 9223372036854775807) :
    Ctr Try.prog 43 [v] [A] (fun r H => BAt A r (foundL b) ∧ H = [A]) := by
  obtain ⟨a, c, rfl, hc⟩ := hv.2
  refine Ctr.enter Try.func43 (by kernel_rfl) rfl Try.ntmps43 rfl rfl ?_
  intro G F R hE
  repeat' (first | (with_reducible intro _hh) | refine go1 ?_ | refine J_fork ?_ ?_ | refine J_gsP rfl rfl rfl rfl ?_ ?_ | refine K_condP rfl rfl ?_ ?_)
  case' refine_1 =>
    have hn : foundL b = [] := by unfold foundL; rw [if_pos (by omega)]
    rw [hn] at hE
    (first | refine K_return hE Try.func43 rfl _ rfl ⟨⟨nilVw A, none, 0, rfl, Nat.le_refl _⟩, rfl⟩ entA | refine K_fallEnd hE Try.func43 rfl _ rfl ⟨⟨nilVw A, none, 0, rfl, Nat.le_refl _⟩, rfl⟩ entA)
  have hb32 : 32 ≤ b.length := by omega
  refine K_loop (fun s : Nat × Nat × Nat => s.1 ≤ 2 ∧ (s.1 = 0 → s.2 = (0, 0)) ∧ (s.1 = 1 → s.2 = lastOf2 b 0 (0, 0)) ∧ (s.1 = 2 → s.2 = lastOf2 b 1 (lastOf2 b 0 (0, 0))) ∧ s.2.2 + 32 ≤ b.length ∧ s.2.1 ≤ 1073741824) (fun s => 2 - s.1)
    (fun s => [(0, .slice a b.length c), (3, .int .i64 (s.2.1 : Int)), (4, .int .i64 (s.2.2 : Int)), (12, .int .i64 (s.1 : Int))])
    (fun _ => A :: F) (0, 0, 0) ⟨by omega, fun _ => rfl, by omega, by omega, by simp only; omega, by simp only; omega⟩ rfl (by repeat (first | exact keep_nil | refine keep_cons rfl ?_)) entA ?_
  rintro ⟨k, last, len⟩ ⟨hk, hk0, hk1, hk2, hlen, hlast⟩ ih
  simp only at hk hk0 hk1 hk2 hlen hlast
  (refine go ?_)
  refine K_condP rfl rfl ?_ ?_
  case' refine_2 =>
    intro hge
    simp only at hge
    have h2 := hk2 (by omega)
    have hf : foundL b = (b.drop 32).take len := by unfold foundL; rw [if_neg (by omega), ← h2]
    (refine go ?_)
    refine J_sliceAny (U := tab) (p := 32) (q := 32 + (len : Int)) rfl rfl rfl rfl rfl rfl rfl (by omega) (by omega) (.inr (by omega)) ?_
    have hp := hv.piece 32 (32 + len) (by omega) (by omega)
    rw [show 32 + len - 32 = len from by omega, ← hf] at hp
    refine J_slot 58 (.slice (sliceAt a c 32 1) len (c - 32)) rfl (by rw [show (32 : Int).toNat = 32 from rfl, show (32 + (len : Int)).toNat = 32 + len from by omega, show 32 + len - 32 = len from by omega]; rfl) ?_
    (refine go ?_)
    (first | refine K_return hE Try.func43 rfl _ rfl ⟨hp, rfl⟩ entA | refine K_fallEnd hE Try.func43 rfl _ rfl ⟨hp, rfl⟩ entA)
  intro hlt
  simp only at hlt
  have hk16 : 16 * k + 16 ≤ b.length := by omega
  (refine go ?_)
  refine J_mul rfl rfl rfl (by simp only [inK]; omega) ?_
  refine J_slot 17 (.int .i64 ((16 * k : Nat) : Int)) rfl (congrArg (Value.int .i64) (by simp only; omega)) ?_
  refine J_sliceAny (U := tab) (p := ((16 * k : Nat) : Int)) (q := (b.length : Int)) rfl rfl rfl rfl rfl rfl rfl (by omega) (by omega) (.inl rfl) ?_
  refine J_slot 18 (.slice (sliceAt a c (16 * k) 1) (b.length - 16 * k) (c - 16 * k)) rfl (by rw [show (((16 * k : Nat) : Int)).toNat = 16 * k from by omega, show ((b.length : Int)).toNat = b.length from by omega]; rfl) ?_
  have hh1 := hv.cut (16 * k) (by omega)
  refine J_sliceAny (U := tab) (p := 0) (q := 16) rfl rfl rfl rfl rfl rfl rfl (by omega) (by omega) (.inr (by omega)) ?_
  obtain ⟨hd, hhd⟩ : ∃ hd, hd = (b.drop (16 * k)).take 16 := ⟨_, rfl⟩
  have hdl : hd.length = 16 := by rw [hhd]; exact hd16 hk16
  obtain ⟨a1, ha1⟩ : ∃ a1, a1 = sliceAt (sliceAt a c (16 * k) 1) (c - 16 * k) 0 1 := ⟨_, rfl⟩
  have hh2 : BAt A (.slice a1 16 (c - 16 * k)) hd := by
    rw [show b.length - 16 * k = (b.drop (16 * k)).length from by rw [List.length_drop]] at hh1
    have := hh1.front 16 (by rw [List.length_drop]; omega)
    rw [ha1, hhd]; exact this
  refine J_slot 19 (.slice a1 16 (c - 16 * k)) rfl (by rw [show (0 : Int).toNat = 0 from rfl, show (16 : Int).toNat = 16 from rfl, ha1]; rfl) ?_
  (refine go ?_)
  refine K_drawA (fun w => Sat G w ([])) (.st 0 (.st 2 (.st 3 (.act 1 (.act 4 (.st 5 (.st 6 .nil))))))) rfl (by kernel_rfl) (by kernel_rfl) (by kernel_rfl) (fun w hw => hw.ent entA) ?_
  (refine go ?_)
  refine J_sliceAny (U := tab) (p := 4) (q := 16) rfl rfl rfl rfl rfl rfl rfl (by omega) (by omega) (.inl rfl) ?_
  have hh3 := (show BAt A (.slice a1 hd.length (c - 16 * k)) hd by rw [hdl]; exact hh2).cut 4 (by omega)
  rw [hdl] at hh3
  refine J_slot 23 (.slice (sliceAt a1 (c - 16 * k) 4 1) (16 - 4) (c - 16 * k - 4)) rfl (by rw [show (4 : Int).toNat = 4 from rfl, show (16 : Int).toNat = 16 from rfl]; rfl) ?_
  (first | refine J_callE rfl rfl rfl rfl (told_any A _ hd hh2.1 (by omega)) entA ?_ (fun _ _ w hp hw => by obtain ⟨_, rfl⟩ := hp; exact hw.ent entA) | refine J_call0E rfl rfl rfl (told_any A _ hd hh2.1 (by omega)) entA ?_ (fun _ _ w hp hw => by obtain ⟨_, rfl⟩ := hp; exact hw.ent entA))
  rintro _ _ ⟨rfl, rfl⟩
  (first | refine J_callE rfl rfl rfl rfl (told_any A _ (hd.drop 4) hh3.1 (by rw [List.length_drop]; omega)) entA ?_ (fun _ _ w hp hw => by obtain ⟨_, rfl⟩ := hp; exact hw.ent entA) | refine J_call0E rfl rfl rfl (told_any A _ (hd.drop 4) hh3.1 (by rw [List.length_drop]; omega)) entA ?_ (fun _ _ w hp hw => by obtain ⟨_, rfl⟩ := hp; exact hw.ent entA))
  rintro _ _ ⟨rfl, rfl⟩
  have hn := leN_lt hd
  have hm := leN_lt (hd.drop 4)
  have hok : headOk b k last = decide (last < leN hd ∧ leN hd ≤ 1073741824 ∧ leN hd % 2 = k ∧ leN (hd.drop 4) + 32 ≤ b.length ∧ hd = headL (leN hd) (leN (hd.drop 4))) := by unfold headOk; rw [← hhd]
  have hnx : ∀ s' : Nat × Nat, s' = lastOf2 b k (last, len) → s'.2 + 32 ≤ b.length ∧ s'.1 ≤ 1073741824 → (k + 1 ≤ 2 ∧ (k + 1 = 0 → s' = (0, 0)) ∧ (k + 1 = 1 → s' = lastOf2 b 0 (0, 0)) ∧ (k + 1 = 2 → s' = lastOf2 b 1 (lastOf2 b 0 (0, 0))) ∧ s'.2 + 32 ≤ b.length ∧ s'.1 ≤ 1073741824) := by
    intro s' h1 h2
    refine ⟨by omega, by omega, fun h => ?_, fun h => ?_, h2⟩
    · have : k = 0 := by omega
      subst this; rw [h1, hk0 rfl]
    · have : k = 1 := by omega
      subst this; rw [h1, hk1 rfl]
  have hbad : headOk b k last = false → (last, len) = lastOf2 b k (last, len) := fun h => by unfold lastOf2; rw [if_neg (by rw [h]; simp)]
  have hgood : headOk b k last = true → (leN hd, leN (hd.drop 4)) = lastOf2 b k (last, len) := fun h => by unfold lastOf2; rw [if_pos h, ← hhd]
  repeat' (first | (with_reducible intro _hh) | refine go1 ?_ | refine J_fork ?_ ?_ | refine J_gsP rfl rfl rfl rfl ?_ ?_ | refine K_condP rfl rfl ?_ ?_ | refine J_rem rfl rfl rfl (by omega) (by omega) ?_)
  any_goals (
    have hf : headOk b k last = false := by rw [hok]; exact decide_eq_false (fun h => by simp only at *; omega)
    refine K_again ih (k + 1, last, len) rfl (hnx _ (hbad hf) ⟨hlen, hlast⟩) (by simp only; omega) (by repeat (first | exact keep_nil | refine keep_cons rfl ?_)) entA)
  (first | refine J_callE rfl rfl rfl rfl (head_any (leN hd) (leN (hd.drop 4)) (by omega) (by omega)) entA ?_ (fun _ _ _ _ _ => trivial) | refine J_call0E rfl rfl rfl (head_any (leN hd) (leN (hd.drop 4)) (by omega) (by omega)) entA ?_ (fun _ _ _ _ _ => trivial) | (refine go ?_; first | refine J_callE rfl rfl rfl rfl (head_any (leN hd) (leN (hd.drop 4)) (by omega) (by omega)) entA ?_ (fun _ _ _ _ _ => trivial) | refine J_call0E rfl rfl rfl (head_any (leN hd) (leN (hd.drop 4)) (by omega) (by omega)) entA ?_ (fun _ _ _ _ _ => trivial)))
  rintro hv2 _ rfl
  refine J_slcVw 0 rfl ?_
  intro hvh
  (first | refine J_shape 0 rfl ?_ | refine K_shape 0 rfl ?_)
  rintro xa xc rfl
  (refine go ?_)
  (first | refine J_callE rfl rfl rfl rfl (Equal_any A (slc 5 1 (.slice xa (headL (leN hd) (leN (hd.drop 4))).length xc) (headL (leN hd) (leN (hd.drop 4))).length (bV (headL (leN hd) (leN (hd.drop 4))))) (.slice a1 16 (c - 16 * k)) (.slice xa (headL (leN hd) (leN (hd.drop 4))).length xc) hd (headL (leN hd) (leN (hd.drop 4))) hh2.1 hvh) entA ?_ (fun _ _ _ _ _ => trivial) | refine J_call0E rfl rfl rfl (Equal_any A (slc 5 1 (.slice xa (headL (leN hd) (leN (hd.drop 4))).length xc) (headL (leN hd) (leN (hd.drop 4))).length (bV (headL (leN hd) (leN (hd.drop 4))))) (.slice a1 16 (c - 16 * k)) (.slice xa (headL (leN hd) (leN (hd.drop 4))).length xc) hd (headL (leN hd) (leN (hd.drop 4))) hh2.1 hvh) entA ?_ (fun _ _ _ _ _ => trivial) | (refine go ?_; first | refine J_callE rfl rfl rfl rfl (Equal_any A (slc 5 1 (.slice xa (headL (leN hd) (leN (hd.drop 4))).length xc) (headL (leN hd) (leN (hd.drop 4))).length (bV (headL (leN hd) (leN (hd.drop 4))))) (.slice a1 16 (c - 16 * k)) (.slice xa (headL (leN hd) (leN (hd.drop 4))).length xc) hd (headL (leN hd) (leN (hd.drop 4))) hh2.1 hvh) entA ?_ (fun _ _ _ _ _ => trivial) | refine J_call0E rfl rfl rfl (Equal_any A (slc 5 1 (.slice xa (headL (leN hd) (leN (hd.drop 4))).length xc) (headL (leN hd) (leN (hd.drop 4))).length (bV (headL (leN hd) (leN (hd.drop 4))))) (.slice a1 16 (c - 16 * k)) (.slice xa (headL (leN hd) (leN (hd.drop 4))).length xc) hd (headL (leN hd) (leN (hd.drop 4))) hh2.1 hvh) entA ?_ (fun _ _ _ _ _ => trivial)))
  rintro _ _ ⟨rfl, rfl⟩
  repeat' (first | (with_reducible intro _hh) | refine go1 ?_ | refine J_fork ?_ ?_ | refine J_gsP rfl rfl rfl rfl ?_ ?_ | refine K_condP rfl rfl ?_ ?_)
  · have hf : headOk b k last = true := by rw [hok]; exact decide_eq_true (by refine ⟨?_, ?_, ?_, ?_, ‹_›⟩ <;> (simp only at *; omega))
    (refine go ?_)
    refine K_again ih (k + 1, leN hd, leN (hd.drop 4)) rfl (hnx _ (hgood hf) ⟨by simp only at *; omega, by simp only at *; omega⟩) (by simp only; omega) (by repeat (first | exact keep_nil | refine keep_cons rfl ?_)) entA
  · have hf : headOk b k last = false := by rw [hok]; exact decide_eq_false (fun h => ‹¬ _› h.2.2.2.2)
    refine K_again ih (k + 1, last, len) rfl (hnx _ (hbad hf) ⟨hlen, hlast⟩) (by simp only; omega) (by repeat (first | exact keep_nil | refine keep_cons rfl ?_)) entA
end Go.Proofs.Ytpdmbmnhgcnelaa
