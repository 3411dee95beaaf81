/- Texts of one claim, joined: Jd, EngK, Jg, Jh, Ji. -/
import Derived.Test.YtpdmbmnhgcnelaaQHeads3
import Derived.Test.YtpdmbmnhgcnelaaQHeads4
import Derived.Test.YtpdmbmnhgcnelaaQHeads5
import Derived.Test.YtpdmbmnhgcnelaaQHeads6
/- journal, part d: records. -/
set_option linter.unusedVariables false
set_option linter.unusedSimpArgs false
namespace Go.Proofs.Ytpdmbmnhgcnelaa
open Go Go.SL
attribute [local irreducible] J K Ctr Ends pts slc mapR mapI sbRow stock arrS loopP CtrY

theorem longA_pos {bs : List UInt8} {k n : Nat} (h : longA bs = some (k, n)) : 1 ≤ k ∧ k ≤ 2 ∧ k ≤ bs.length ∧ n < 16384 := by
  unfold longA at h
  split at h
  · rename_i h1
    split at h
    · rename_i m hm
      cases h
      exact ⟨by omega, by omega, h1, toUint_small hm (by rw [List.length_take]; omega)⟩
    · split at h
      · rename_i h2
        cases hu : toUintA (bs.take 2) with
        | none => rw [hu] at h; cases h
        | some m =>
          rw [hu] at h
          cases h
          exact ⟨by omega, by omega, h2, toUint_small hu (by rw [List.length_take]; omega)⟩
      · cases h
  · cases h
/-- The records with which bytes begin. -/
def recordsL : Nat → List UInt8 → List (List UInt8)
  | 0, _ => []
  | f + 1, bs => match longA bs with
    | none => []
    | some (k, n) => if n ≤ 4096 ∧ k + n ≤ bs.length then (bs.drop k).take n :: recordsL f (bs.drop (k + n)) else []
theorem recordsL_fuel : ∀ (f g : Nat) (bs : List UInt8), bs.length ≤ f → bs.length ≤ g → recordsL f bs = recordsL g bs
  | 0, 0, _, _, _ => rfl
  | 0, g + 1, bs, hf, _ => by
    have : bs = [] := List.eq_nil_of_length_eq_zero (by omega)
    subst this; rfl
  | f + 1, 0, bs, _, hg => by
    have : bs = [] := List.eq_nil_of_length_eq_zero (by omega)
    subst this; rfl
  | f + 1, g + 1, bs, hf, hg => by
    unfold recordsL
    split
    · rfl
    · rename_i k n hl
      have := longA_pos hl
      split
      · rw [recordsL_fuel f g _ (by rw [List.length_drop]; omega) (by rw [List.length_drop]; omega)]
      · rfl
def recordsA (bs : List UInt8) : List (List UInt8) := recordsL bs.length bs
theorem recordsA_none {bs : List UInt8} (h : longA bs = none) : recordsA bs = [] := by
  unfold recordsA
  cases hl : bs.length with
  | zero => rfl
  | succ f => unfold recordsL; rw [h]
theorem recordsA_bad {bs : List UInt8} {k n : Nat} (h : longA bs = some (k, n)) (hb : ¬ (n ≤ 4096 ∧ k + n ≤ bs.length)) : recordsA bs = [] := by
  unfold recordsA
  cases hl : bs.length with
  | zero => rfl
  | succ f => unfold recordsL; rw [h]; simp only; rw [if_neg hb]
theorem recordsA_cons {bs : List UInt8} {k n : Nat} (h : longA bs = some (k, n)) (hb : n ≤ 4096 ∧ k + n ≤ bs.length) : recordsA bs = (bs.drop k).take n :: recordsA (bs.drop (k + n)) := by
  have h1 := longA_pos h
  unfold recordsA
  obtain ⟨f, hf⟩ : ∃ f, bs.length = f + 1 := ⟨bs.length - 1, by omega⟩
  rw [hf]
  show recordsL (f + 1) bs = _
  rw [recordsL, h]
  simp only
  rw [if_pos hb, recordsL_fuel f _ _ (by rw [List.length_drop]; omega) (Nat.le_refl _)]

theorem records_any (a : Option Addr) (n c : Nat) : Ctr Try.prog 42 [.slice a n c] [] (fun r H => ∃ b, r = .func (.func 62) #[] #[ptr b] ∧ H = [pts b (cl [.slice a n c] 22)]) := by
  refine Ctr.enter Try.func42 (by kernel_rfl) rfl Try.ntmps42 rfl rfl ?_
  intro G F R hE
  (refine go ?_)
  refine J_box rfl rfl (fun _ _ _ => trivial) ?_
  intro b
  (refine go ?_)
  (first | refine K_return hE Try.func42 rfl _ rfl ⟨b, rfl, rfl⟩ entA | refine K_fallEnd hE Try.func42 rfl _ rfl ⟨b, rfl, rfl⟩ entA)

set_option maxRecDepth 20000 in
theorem records1_any (A : HP) (l bx : Nat) (v : Value) (bs : List UInt8) (hv : BAt A v bs) (hl : bs.length ≤ 1000000000) (Lp : HP) (Inv : Nat → HP)
    (hy : ∀ i x, (recordsA bs)[i]? = some x → ∀ r, CtrY Try.prog l [r] [Lp, Inv i, slc 5 1 r x.length (bV x)] (fun v H => v = .bool true ∧ H = [Lp, Inv (i + 1)])) :
    Ctr Try.prog 62 [.func (.yield l) #[] #[], ptr bx] [Lp, pts bx (cl [v] 22), A, Inv 0] (fun _ H => ∃ v', H = [Lp, pts bx (cl [v'] 22), A, Inv (recordsA bs).length]) := by
  refine Ctr.enter Try.func62 (by kernel_rfl) rfl Try.ntmps62 rfl rfl ?_
  intro G F R hE
  (refine go ?_)
  refine K_loop (fun y : Value × List UInt8 × Nat => BAt A y.1 y.2.1 ∧ y.2.1.length ≤ bs.length ∧ recordsA y.2.1 = (recordsA bs).drop y.2.2 ∧ y.2.2 ≤ (recordsA bs).length) (fun y => y.2.1.length)
    (fun _ => [(0, .func (.yield l) #[] #[]), (1, ptr bx)])
    (fun y => [Lp, pts bx (cl [y.1] 22), A, Inv y.2.2] ++ F) (v, bs, 0) ⟨hv, Nat.le_refl _, by simp, Nat.zero_le _⟩ rfl (by repeat (first | exact keep_nil | refine keep_cons rfl ?_)) entA ?_
  rintro ⟨v1, rest, i⟩ ⟨hv1, hr1, hr2, hr3⟩ ih
  simp only at hv1 hr1 hr2 hr3
  have hfin : recordsA rest = [] → i = (recordsA bs).length := fun h => by
    rw [hr2] at h
    have : (recordsA bs).length ≤ i := by simpa using h
    omega
  obtain ⟨a, c, rfl, hc⟩ := hv1.2
  (refine go ?_)
  (first | refine J_callE rfl rfl rfl rfl (long_any A _ rest hv1 (by omega)) entA ?_ (fun _ _ _ _ _ => trivial) | refine J_call0E rfl rfl rfl (long_any A _ rest hv1 (by omega)) entA ?_ (fun _ _ _ _ _ => trivial) | (refine go ?_; first | refine J_callE rfl rfl rfl rfl (long_any A _ rest hv1 (by omega)) entA ?_ (fun _ _ _ _ _ => trivial) | refine J_call0E rfl rfl rfl (long_any A _ rest hv1 (by omega)) entA ?_ (fun _ _ _ _ _ => trivial)))
  rintro _ _ ⟨rfl, rfl⟩
  cases hlo : longA rest with
  | none =>
    obtain rfl := hfin (recordsA_none hlo)
    (refine go ?_)
    (first | refine K_return hE Try.func62 rfl _ rfl ⟨_, rfl⟩ entA | refine K_fallEnd hE Try.func62 rfl _ rfl ⟨_, rfl⟩ entA)
  | some kn =>
    obtain ⟨k, n⟩ := kn
    have hp := longA_pos hlo
    by_cases hn : n ≤ 4096
    case neg =>
      have hend : recordsA rest = [] := recordsA_bad hlo (by omega)
      obtain rfl := hfin hend
      have hd : decide (n ≤ 4096) = false := decide_eq_false hn
      simp only [hd]
      (refine go ?_)
      (first | refine K_return hE Try.func62 rfl _ rfl ⟨_, rfl⟩ entA | refine K_fallEnd hE Try.func62 rfl _ rfl ⟨_, rfl⟩ entA)
    have hd : decide (n ≤ 4096) = true := decide_eq_true hn
    simp only [hd]
    (refine go ?_)
    by_cases hk : (rest.length : Int) < (k : Int) + n
    case pos =>
      obtain rfl := hfin (recordsA_bad hlo (by omega))
      have hd2 : decide ((rest.length : Int) < (k : Int) + n) = true := decide_eq_true hk
      simp only [hd2]
      (refine go ?_)
      (first | refine K_return hE Try.func62 rfl _ rfl ⟨_, rfl⟩ entA | refine K_fallEnd hE Try.func62 rfl _ rfl ⟨_, rfl⟩ entA)
    have hd2 : decide ((rest.length : Int) < (k : Int) + n) = false := decide_eq_false hk
    simp only [hd2]
    have hcons := recordsA_cons hlo ⟨hn, by omega⟩
    obtain ⟨x, hx⟩ : ∃ x, x = (rest.drop k).take n := ⟨_, rfl⟩
    have hxl : x.length = n := by rw [hx, List.length_take, List.length_drop]; omega
    rw [← hx] at hcons
    have hget : (recordsA bs)[i]? = some x := by
      have := congrArg (fun l => l[0]?) hr2
      simp only [List.getElem?_drop, hcons] at this
      simpa using this.symm
    have hnext : recordsA (rest.drop (k + n)) = (recordsA bs).drop (i + 1) := by
      have := congrArg (fun l => l.drop 1) hr2
      simp only [hcons, List.drop_drop] at this
      simpa using this
    have hi1 : i + 1 ≤ (recordsA bs).length := by
      have := (List.getElem?_eq_some_iff.1 hget).1
      omega
    have hpc := hv1.piece k (k + n) (by omega) (by omega)
    rw [show k + n - k = n from by omega, ← hx] at hpc
    (refine go ?_)
    refine J_sliceAny (U := tab) (p := (k : Int)) (q := ((k + n : Nat) : Int)) rfl rfl rfl rfl rfl rfl rfl (by omega) (by omega) (.inr (by omega)) ?_
    refine J_slot 29 (.slice (sliceAt a c k 1) n (c - k)) rfl (by rw [show ((k : Int)).toNat = k from by omega, show (((k + n : Nat) : Int)).toNat = k + n from by omega, show k + n - k = n from by omega]; rfl) ?_
    (refine go ?_)
    (first | refine J_callE rfl rfl rfl rfl (Clone_bytes A _ x hpc.1 (by omega)) entA ?_ (fun _ _ _ _ _ => trivial) | refine J_call0E rfl rfl rfl (Clone_bytes A _ x hpc.1 (by omega)) entA ?_ (fun _ _ _ _ _ => trivial) | (refine go ?_; first | refine J_callE rfl rfl rfl rfl (Clone_bytes A _ x hpc.1 (by omega)) entA ?_ (fun _ _ _ _ _ => trivial) | refine J_call0E rfl rfl rfl (Clone_bytes A _ x hpc.1 (by omega)) entA ?_ (fun _ _ _ _ _ => trivial)))
    rintro r _ rfl
    (refine go ?_)
    refine J_yield rfl rfl rfl (hy i x hget r) entA ?_ (fun _ _ _ _ _ => trivial)
    rintro _ _ ⟨rfl, rfl⟩
    (refine go ?_)
    refine J_sliceAny (U := tab) (p := ((k + n : Nat) : Int)) (q := (rest.length : Int)) rfl rfl rfl rfl rfl rfl rfl (by omega) (by omega) (.inl rfl) ?_
    have hcut := hv1.cut (k + n) (by omega)
    refine J_slot 38 (.slice (sliceAt a c (k + n) 1) (rest.length - (k + n)) (c - (k + n))) rfl (by rw [show (((k + n : Nat) : Int)).toNat = k + n from by omega, show ((rest.length : Int)).toNat = rest.length from by omega]; rfl) ?_
    (refine go ?_)
    refine K_again ih (.slice (sliceAt a c (k + n) 1) (rest.length - (k + n)) (c - (k + n)), rest.drop (k + n), i + 1) rfl (⟨hcut, by simp only [List.length_drop]; omega, hnext, hi1⟩) (by simp only [List.length_drop]; omega) (by repeat (first | exact keep_nil | refine keep_cons rfl ?_)) entA
end Go.Proofs.Ytpdmbmnhgcnelaa

/- journal, part e: Grow, Concat; the steps of put. -/
set_option linter.unusedVariables false
set_option linter.unusedSimpArgs false
namespace Go.Proofs.Ytpdmbmnhgcnelaa
open Go Go.SL

theorem slc_zero {e : TypeId} {sz n c : Nat} {a : Option Addr} {cs : List Value} (H : List HP) : Ent (slc e sz (.slice a n c) n cs :: H) (slc e sz (.slice (sliceAt a c 0 sz) 0 c) 0 [] :: H) :=
  Ent.fold (A := slc e sz (.slice (sliceAt a c 0 sz) 0 c) 0 []) (B := [slc e sz (.slice a n c) n cs]) fun h hs => by
    refine ⟨h, sub.refl h, ?_⟩
    obtain ⟨hl, ⟨a', he, hn, hem⟩ | ⟨b, o, cap, pre, junk, he, hp, hn, hc, hpt⟩⟩ := Sep_one hs
    · simp only [Value.slice.injEq] at he
      obtain ⟨rfl, rfl, rfl⟩ := he
      exact ⟨by simp, .inl ⟨_, rfl, rfl, hem⟩⟩
    · simp only [Value.slice.injEq] at he
      obtain ⟨rfl, -, rfl⟩ := he
      refine ⟨by simp, .inr ⟨b, o, c, pre, cs ++ junk, ?_, hp, Nat.zero_le _, by rw [List.length_append]; simpa using hc, by simpa using hpt⟩⟩
      unfold sliceAt
      split
      · rfl
      · simp [Addr.add]
attribute [local irreducible] J K Ctr Ends pts slc mapR mapI sbRow stock arrS loopP CtrY
theorem slices_len (ls : List (List UInt8)) (i : Nat) : ((ls.take i).flatten).length ≤ ls.flatten.length := by
  conv => rhs; rw [← List.take_append_drop i ls, List.flatten_append, List.length_append]
  omega
theorem Grow_any (n : Nat) (hn : n ≤ 1000000000) : Ctr Try.prog 91 [.slice none 0 0, .int .i64 (n : Int)] [] (fun r H => H = [slc 5 1 r 0 []]) := by
  refine Ctr.enter Try.func91 (by kernel_rfl) rfl Try.ntmps91 rfl rfl ?_
  intro G F R hE
  (repeat (first | refine go1 ?_ | refine J_fork ?_ ?_ | refine J_cap (U := tab) rfl rfl rfl rfl ?_))
  (first | refine J_slot 1 ((.int .i64 (n : Int))) rfl ((congrArg (Value.int .i64) (by omega))) ?_ | refine K_slot 1 ((.int .i64 (n : Int))) rfl ((congrArg (Value.int .i64) (by omega))) ?_)
  refine K_condP rfl rfl ?_ ?_
  · intro hpos
    have hp : 0 < n := by omega
    (repeat (first | refine go1 ?_ | refine J_fork ?_ ?_ | refine J_cap (U := tab) rfl rfl rfl rfl ?_))
    refine J_sliceAny (U := tab) (p := 0) (q := 0) rfl rfl rfl rfl rfl rfl rfl (by omega) (by omega) (.inr (by omega)) ?_
    refine J_slot 20 (.slice none 0 0) rfl rfl ?_
    refine J_ent (slc_lift 5 1 none _) ?_
    refine J_slcVw 0 rfl ?_
    intro hv0
    (refine go ?_)
    refine J_appendZ (U := tab) (mm := n) (cs := []) 0 rfl rfl rfl rfl rfl rfl rfl rfl rfl rfl rfl rfl hv0 rfl (by omega) hp (by omega) (by show _ * 1 ≤ _; omega) (by show _ * 1 ≤ _; omega) (fun _ _ _ => trivial) ?_
    intro v'
    (first | refine J_shape 0 rfl ?_ | refine K_shape 0 rfl ?_)
    rintro a' c' rfl
    (refine go ?_)
    refine J_sliceAny (U := tab) (p := 0) (q := 0) rfl rfl rfl rfl rfl rfl rfl (by omega) (by omega) (.inr (by omega)) ?_
    refine J_slot 25 (.slice (sliceAt a' c' 0 1) 0 c') rfl rfl ?_
    refine J_ent (slc_zero _) ?_
    (refine go ?_)
    (first | refine K_return hE Try.func91 rfl _ rfl rfl entA | refine K_fallEnd hE Try.func91 rfl _ rfl rfl entA)
  · intro hz
    have hz0 : n = 0 := by omega
    subst hz0
    (refine go ?_)
    refine K_ent (slc_lift 5 1 none _) ?_
    (first | refine K_return hE Try.func91 rfl _ rfl rfl entA | refine K_fallEnd hE Try.func91 rfl _ rfl rfl entA)
/-- A slice of slices of bytes, that stands in A with all that it tells. -/
def LAt (A : HP) (v : Value) (ls : List (List UInt8)) : Prop := ∃ cs : List Value, Vw A v ls.length cs ∧ cs.length = ls.length ∧ (∃ a c, v = .slice a ls.length c ∧ ls.length ≤ c) ∧ ∀ (i : Nat) (x : List UInt8), ls[i]? = some x → ∃ cv, cs[i]? = some cv ∧ BAt A cv x
theorem Concat_any (A : HP) (v : Value) (ls : List (List UInt8)) (hv : LAt A v ls) (hl : ls.flatten.length ≤ 1000000000) (hn : ls.length ≤ 1000000000) : Ctr Try.prog 66 [v] [A] (fun r H => H = [slc 5 1 r ls.flatten.length (bV ls.flatten), A]) := by
  obtain ⟨cs, hvw, hcl, ⟨a, c, rfl, hc⟩, hel⟩ := hv
  refine Ctr.enter Try.func66 (by kernel_rfl) rfl Try.ntmps66 rfl rfl ?_
  intro G F R hE
  (refine go ?_)
  refine K_loop (fun i : Nat => i ≤ ls.length) (fun i => ls.length - i)
    (fun i => [(0, .slice a ls.length c), (9, .slice a ls.length c), (10, .int .i64 (ls.length : Int)), (11, .int .i64 (i : Int)), (3, .int .i64 (((ls.take i).flatten.length : Nat) : Int))])
    (fun _ => A :: F) 0 (Nat.zero_le _) rfl (by repeat (first | exact keep_nil | refine keep_cons rfl ?_)) entA ?_
  rintro i hi ih
  (refine go ?_)
  refine K_condP rfl rfl ?_ ?_
  · intro hlt
    have hil : i < ls.length := by omega
    obtain ⟨x, hx⟩ : ∃ x, ls[i]? = some x := ⟨ls[i], List.getElem?_eq_getElem hil⟩
    obtain ⟨cv, hcv, hb⟩ := hel i x hx
    obtain ⟨b0, o0, c0, he0⟩ := hvw.some (by intro h; rw [h] at hcv; simp at hcv)
    simp only [Value.slice.injEq] at he0
    obtain ⟨rfl, -, rfl⟩ := he0
    (refine go ?_)
    refine J_at1 (U := tab) i rfl rfl rfl rfl rfl rfl rfl rfl hil ?_
    obtain ⟨ax, cx, rfl, hcx⟩ := hb.2
    have hsum : (ls.take (i + 1)).flatten.length = (ls.take i).flatten.length + x.length := by rw [List.take_add_one, hx]; simp
    have hle := slices_len ls (i + 1)
    refine J_loadAt (U := tab) 0 i rfl rfl rfl hvw rfl hcv rfl rfl ?_
    (refine go ?_)
    (first | refine J_slot 3 ((.int .i64 (((ls.take (i + 1)).flatten.length : Nat) : Int))) rfl ((congrArg (Value.int .i64) (by omega))) ?_ | refine K_slot 3 ((.int .i64 (((ls.take (i + 1)).flatten.length : Nat) : Int))) rfl ((congrArg (Value.int .i64) (by omega))) ?_)
    refine K_again ih (i + 1) rfl (by omega) (by omega) (by repeat (first | exact keep_nil | refine keep_cons rfl ?_)) entA
  intro hge
  have hi' : i = ls.length := by omega
  subst hi'
  rw [List.take_length]
  (first | refine J_callE rfl rfl rfl rfl (Grow_any ls.flatten.length hl) entA ?_ (fun _ _ _ _ _ => trivial) | refine J_call0E rfl rfl rfl (Grow_any ls.flatten.length hl) entA ?_ (fun _ _ _ _ _ => trivial) | (refine go ?_; first | refine J_callE rfl rfl rfl rfl (Grow_any ls.flatten.length hl) entA ?_ (fun _ _ _ _ _ => trivial) | refine J_call0E rfl rfl rfl (Grow_any ls.flatten.length hl) entA ?_ (fun _ _ _ _ _ => trivial)))
  rintro gv _ rfl
  (first | refine J_shape 0 rfl ?_ | refine K_shape 0 rfl ?_)
  rintro ga gc rfl
  (refine go ?_)
  refine K_loop (fun i : Value × Nat => i.2 ≤ ls.length) (fun i => ls.length - i.2)
    (fun i => [(0, .slice a ls.length c), (25, .slice a ls.length c), (26, .int .i64 (ls.length : Int)), (27, .int .i64 (i.2 : Int)), (6, i.1)])
    (fun i => slc 5 1 i.1 (ls.take i.2).flatten.length (bV (ls.take i.2).flatten) :: A :: F) (.slice ga 0 gc, 0) (Nat.zero_le _) rfl (by repeat (first | exact keep_nil | refine keep_cons rfl ?_)) entA ?_
  rintro ⟨v, i⟩ hi ih
  simp only at hi
  (refine go ?_)
  refine K_condP rfl rfl ?_ ?_
  · intro hlt
    simp only at hlt
    have hil : i < ls.length := by omega
    obtain ⟨x, hx⟩ : ∃ x, ls[i]? = some x := ⟨ls[i], List.getElem?_eq_getElem hil⟩
    obtain ⟨cv, hcv, hb⟩ := hel i x hx
    obtain ⟨b0, o0, c0, he0⟩ := hvw.some (by intro h; rw [h] at hcv; simp at hcv)
    simp only [Value.slice.injEq] at he0
    obtain ⟨rfl, -, rfl⟩ := he0
    (refine go ?_)
    refine J_at1 (U := tab) i rfl rfl rfl rfl rfl rfl rfl rfl hil ?_
    obtain ⟨ax, cx, rfl, hcx⟩ := hb.2
    have hsum : (ls.take (i + 1)).flatten = (ls.take i).flatten ++ x := by rw [List.take_add_one, hx]; simp
    have hsl : (ls.take (i + 1)).flatten.length = (ls.take i).flatten.length + x.length := by rw [hsum, List.length_append]
    have hle := slices_len ls (i + 1)
    refine J_loadAt (U := tab) 1 i rfl rfl rfl hvw rfl hcv rfl rfl ?_
    (first | refine J_shape 0 rfl ?_ | refine K_shape 0 rfl ?_)
    intro av cv hvv
    simp only at hvv
    subst hvv
    (refine go ?_)
    refine J_append (U := tab) (mm := x.length) (news := bV x) 0 1 rfl rfl rfl rfl rfl rfl rfl rfl rfl rfl rfl rfl hb.1 (by show _ = _ * 1; rw [bV_length]; omega) (bV_one _) (by simp only; omega) (by show (_ + _) * 1 ≤ _; simp only; omega) (fun _ => rfl) (fun _ _ _ => trivial) ?_
    intro v1
    simp only
    rw [show bV (ls.take i).flatten ++ bV x = bV (ls.take (i + 1)).flatten from by rw [hsum]; simp [bV], ← hsl]
    (refine go ?_)
    refine K_again ih (v1, i + 1) rfl (by simp only; omega) (by simp only; omega) (by repeat (first | exact keep_nil | refine keep_cons rfl ?_)) entA
  intro hge
  simp only at hge
  have hi' : i = ls.length := by omega
  subst hi'
  rw [List.take_length]
  (first | refine J_shape 0 rfl ?_ | refine K_shape 0 rfl ?_)
  intro av cv hvv
  simp only at hvv
  subst hvv
  (refine go ?_)
  (first | refine K_return hE Try.func66 rfl _ rfl rfl entA | refine K_fallEnd hE Try.func66 rfl _ rfl rfl entA)
end Go.Proofs.Ytpdmbmnhgcnelaa

/- Engine, part K: rows of any cells that nobody writes any more. Nothing here names a program. -/
set_option linter.unusedVariables false
set_option linter.unusedSimpArgs false
namespace Go.SL
/-- The slice v holds the cells cs, n elements of s cells, in one of these rows. -/
def RIn (M : Arrs) (s : Nat) (v : Value) (n : Nat) (cs : List Value) : Prop :=
  cs.length = n * s ∧ ∃ a cap, v = .slice a n cap ∧ n ≤ cap ∧ (n = 0 ∨ ∃ b o row, a = Option.some ⟨b, o, none⟩ ∧ (b, row) ∈ M ∧ (row.drop o).take cs.length = cs)
theorem RIn.mono {M M' : Arrs} {s n : Nat} {v : Value} {cs : List Value} (h : RIn M s v n cs) (hs : ∀ x ∈ M, x ∈ M') : RIn M' s v n cs := by
  obtain ⟨hl, a, cap, hv, hc, h0 | ⟨b, o, row, ha, hm, ht⟩⟩ := h
  · exact ⟨hl, a, cap, hv, hc, .inl h0⟩
  · exact ⟨hl, a, cap, hv, hc, .inr ⟨b, o, row, ha, hs _ hm, ht⟩⟩
theorem RIn.nil (M : Arrs) (s : Nat) (a : Option Addr) (cap : Nat) : RIn M s (.slice a 0 cap) 0 [] := ⟨by simp, a, cap, rfl, Nat.zero_le _, .inl rfl⟩
theorem RIn.shape {M : Arrs} {s n : Nat} {v : Value} {cs : List Value} (h : RIn M s v n cs) : ∃ a cap, v = .slice a n cap ∧ n ≤ cap := by
  obtain ⟨_, a, cap, hv, hc, _⟩ := h; exact ⟨a, cap, hv, hc⟩
theorem RIn.view {M : Arrs} {s n : Nat} {v : Value} {cs : List Value} (h : RIn M s v n cs) (e : TypeId) : Vw (arrS e M) v n cs := by
  obtain ⟨hl, a, cap, rfl, hc, h0 | ⟨b, o, row, ha, hm, ht⟩⟩ := h
  · have : cs = [] := List.eq_nil_of_length_eq_zero (by rw [hl, h0, Nat.zero_mul])
    subst h0 this; exact ⟨a, cap, rfl, .inl rfl⟩
  · have h1 : Vw (pts b (cl row e)) (.slice a n cap) n cs := by rw [ha]; exact Vw.pts ht
    exact h1.mono fun h hs => Sep_mem (List.mem_map.2 ⟨(b, row), hm, rfl⟩) hs
/-- A slice of its own becomes one of these. -/
theorem row_slcO (e : TypeId) (s n : Nat) (v : Value) (cs : List Value) (M : Arrs) : ∀ h, star (slc e s v n cs) (arrS e M) h → ∃ M', (RIn M' s v n cs ∧ ∀ x ∈ M, x ∈ M') ∧ Sep [arrS e M'] h := by
  rintro h ⟨h1, h2, ⟨hl, ⟨a, rfl, hn, he⟩ | ⟨b, o, cap, pre, junk, rfl, hp, hn, hc, hpt⟩⟩, hM, hd, hj⟩
  · have : cs = [] := List.eq_nil_of_length_eq_zero (by rw [hl, hn, Nat.zero_mul])
    subst hn this
    exact ⟨M, ⟨RIn.nil M s a 0, fun _ h => h⟩, Sep_one' (emp_star ⟨h1, h2, he, hM, hd, hj⟩)⟩
  · refine ⟨(b, pre ++ cs ++ junk) :: M, ⟨⟨hl, _, cap, rfl, hn, .inr ⟨b, o, pre ++ cs ++ junk, rfl, by simp, ?_⟩⟩, fun x hx => by simp [hx]⟩, Sep_one' ⟨h1, h2, hpt, hM, hd, hj⟩⟩
    subst hp
    rw [List.append_assoc, List.drop_left, List.take_left]
/-- A contract over heaps that say the same. -/
theorem Ctr.conv {P : Program} {f : FuncId} {args : List Value} {Pre Pre' : List HP} {Post Post' : Value → List HP → Prop} (c : Ctr P f args Pre Post) (h : Ent Pre' Pre) (hp : ∀ v H, Post v H → ∃ H', Post' v H' ∧ Ent H H') : Ctr P f args Pre' Post' :=
  ⟨c.1, fun G w F hw => (c.2 G w F (hw.ent (Ent.append F h))).mono fun e w' h' => let ⟨v, H, he, hpo, hs⟩ := h'; let ⟨H', hq, hE⟩ := hp v H hpo; ⟨v, H', he, hq, hs.ent (Ent.append F hE)⟩⟩
end Go.SL

/- journal, part f: all. -/
set_option linter.unusedVariables false
set_option linter.unusedSimpArgs false
namespace Go.Proofs.Ytpdmbmnhgcnelaa
open Go Go.SL
attribute [local irreducible] J K Ctr Ends pts slc mapR mapI sbRow stock arrS loopP CtrY

/-- Steps, as long as they are OK. -/
def Runs {σ : Type} : List (σ → Nat → σ → Prop) → σ → Nat → σ → Prop
  | [], x, e, y => e = 0 ∧ y = x
  | s :: ss, x, e, y => ∃ e1 x1, s x e1 x1 ∧ ((e1 ≠ 0 ∧ e = e1 ∧ y = x1) ∨ (e1 = 0 ∧ Runs ss x1 e y))
theorem all_any {σ : Type} (I : σ → HP) (V : HP) (v : Value) (fvs : List Value) (hv : Vw V v fvs.length fvs) (hn : fvs.length ≤ 1000000000) (ss : List (σ → Nat → σ → Prop)) (hlen : ss.length = fvs.length) (Q : Nat → σ → Prop)
    (hst : ∀ (i : Nat) (fv : Value) (s : σ → Nat → σ → Prop), fvs[i]? = some fv → ss[i]? = some s → ∃ g fi cap, fv = .func (.func g) fi cap ∧ ∀ x, Q i x → Ctr Try.prog g (fi.toList ++ cap.toList) [I x] (fun r H => ∃ (e : Nat) (x' : σ), r = .int .i64 (e : Int) ∧ H = [I x'] ∧ s x e x' ∧ (e = 0 → Q (i + 1) x')))
    (x0 : σ) (hQ : Q 0 x0) :
    Ctr Try.prog 52 [v] [V, I x0] (fun r H => ∃ (e : Nat) (x' : σ), r = .int .i64 (e : Int) ∧ H = [V, I x'] ∧ Runs ss x0 e x') := by
  obtain ⟨a, c, rfl⟩ := hv.shape
  refine Ctr.enter Try.func52 (by kernel_rfl) rfl Try.ntmps52 rfl rfl ?_
  intro G F R hE
  (refine go ?_)
  refine K_loop (fun y : Nat × σ => y.1 ≤ fvs.length ∧ Q y.1 y.2 ∧ ∀ e x', Runs (ss.drop y.1) y.2 e x' → Runs ss x0 e x') (fun y => fvs.length - y.1)
    (fun y => [(0, .slice a fvs.length c), (6, .slice a fvs.length c), (7, .int .i64 (fvs.length : Int)), (8, .int .i64 (y.1 : Int))])
    (fun y => V :: I y.2 :: F) (0, x0) ⟨Nat.zero_le _, hQ, fun _ _ h => h⟩ rfl (by repeat (first | exact keep_nil | refine keep_cons rfl ?_)) entA ?_
  rintro ⟨i, x⟩ ⟨hi, hq, hr⟩ ih
  simp only at hi hq hr
  (refine go ?_)
  refine K_condP rfl rfl ?_ ?_
  · intro hlt
    simp only at hlt
    have hil : i < fvs.length := by omega
    obtain ⟨fv, hfv⟩ : ∃ fv, fvs[i]? = some fv := ⟨fvs[i], List.getElem?_eq_getElem hil⟩
    obtain ⟨s, hs⟩ : ∃ s, ss[i]? = some s := ⟨ss[i], List.getElem?_eq_getElem (by omega)⟩
    obtain ⟨g, fi, cap, rfl, hc⟩ := hst i fv s hfv hs
    have hdrop : ss.drop i = s :: ss.drop (i + 1) := by
      rw [List.drop_eq_getElem_cons (by omega)]
      congr 1
      have := List.getElem?_eq_some_iff.1 hs
      exact this.2
    obtain ⟨b0, o0, c0, he0⟩ := hv.some (by intro h; rw [h] at hil; simp at hil)
    simp only [Value.slice.injEq] at he0
    obtain ⟨rfl, -, rfl⟩ := he0
    (refine go ?_)
    refine J_at1 (U := tab) i rfl rfl rfl rfl rfl rfl rfl rfl hil ?_
    refine J_loadAt (U := tab) 0 i rfl rfl rfl hv rfl hfv rfl rfl ?_
    (refine go ?_)
    refine J_callF rfl rfl rfl (by simp) (hc x hq) entA ?_ (fun _ _ _ _ _ => trivial)
    rintro _ _ ⟨e, x', rfl, rfl, hsx, hq'⟩
    (refine go ?_)
    refine K_condP rfl rfl ?_ ?_
    · intro hne
      have he : e ≠ 0 := by omega
      (refine go ?_)
      (first | refine K_return hE Try.func52 rfl _ rfl ⟨e, x', rfl, rfl, hr e x' (by rw [hdrop]; exact ⟨e, x', hsx, .inl ⟨he, rfl, rfl⟩⟩)⟩ entA | refine K_fallEnd hE Try.func52 rfl _ rfl ⟨e, x', rfl, rfl, hr e x' (by rw [hdrop]; exact ⟨e, x', hsx, .inl ⟨he, rfl, rfl⟩⟩)⟩ entA)
    · intro heq
      have he : e = 0 := by omega
      (refine go ?_)
      refine K_again ih (i + 1, x') rfl (⟨by simp only; omega, hq' he, fun e2 x2 h2 => hr e2 x2 (by rw [hdrop]; exact ⟨e, x', hsx, .inr ⟨he, h2⟩⟩)⟩) (by simp only; omega) (by repeat (first | exact keep_nil | refine keep_cons rfl ?_)) entA
  · intro hge
    simp only at hge
    have hi' : i = fvs.length := by omega
    subst hi'
    (refine go ?_)
    (first | refine K_return hE Try.func52 rfl _ rfl ⟨0, x, rfl, rfl, hr 0 x (by rw [List.drop_eq_nil_of_le (by omega)]; exact ⟨rfl, rfl⟩)⟩ entA | refine K_fallEnd hE Try.func52 rfl _ rfl ⟨0, x, rfl, rfl, hr 0 x (by rw [List.drop_eq_nil_of_le (by omega)]; exact ⟨rfl, rfl⟩)⟩ entA)
end Go.Proofs.Ytpdmbmnhgcnelaa

/- journal, part g0: a disk as it is known, without its inner parts. -/
set_option linter.unusedVariables false
set_option linter.unusedSimpArgs false
namespace Go.Proofs.Ytpdmbmnhgcnelaa
open Go Go.SL
attribute [local irreducible] J K Ctr Ends pts slc mapR mapI sbRow stock arrS

def diskA (bd : Nat) (A : Ab) : HP := fun h => ∃ D, Rel D A ∧ disk bd D h
theorem diskA_in {bd : Nat} {D : Dk} {A : Ab} (h : Rel D A) (H : List HP) : Ent (disk bd D :: H) (diskA bd A :: H) := Ent.fold (B := [_]) fun h' hs => ⟨h', sub.refl h', D, h, Sep_one hs⟩
theorem sat_diskA {G : Glob} {w : World} {bd : Nat} {A : Ab} {H : List HP} (hs : Sat G w (diskA bd A :: H)) : ∃ D, Rel D A ∧ Sat G w (disk bd D :: H) := by
  obtain ⟨t, o, u, hp, hpw, h1, h2, ⟨D, hR, hA⟩, hH, hd, he⟩ := hs
  exact ⟨D, hR, t, o, u, hp, hpw, h1, h2, hA, hH, hd, he⟩
end Go.Proofs.Ytpdmbmnhgcnelaa
namespace Go.Proofs.Ytpdmbmnhgcnelaa
open Go Go.SL
theorem ctr_disk {P : Program} {f : FuncId} {args : List Value} {bd : Nat} {A : Ab} {Pre : List HP} {Post Post' : Value → List HP → Prop} (hc : P.funcs[f]?.map callable = some true)
    (h : ∀ D, Rel D A → Ctr P f args (disk bd D :: Pre) Post) (hp : ∀ v H, Post v H → ∃ H', Post' v H' ∧ Ent H H') : Ctr P f args (diskA bd A :: Pre) Post' :=
  ⟨hc, fun G w F hw => by
    obtain ⟨D, hR, hw1⟩ := sat_diskA hw
    exact ((h D hR).2 G w F hw1).mono fun e w' h' => let ⟨v, H, he, hpo, hs⟩ := h'; let ⟨H', hq, hE⟩ := hp v H hpo; ⟨v, H', he, hq, hs.ent (Ent.append F hE)⟩⟩
attribute [local irreducible] J K Ctr Ends pts slc mapR mapI sbRow stock arrS
theorem Off_dA (bd : Nat) (A : Ab) : Ctr Try.prog 39 [ptr bd] [diskA bd A] (fun v H => v = .bool A.off ∧ H = [diskA bd A]) := by
  refine ctr_disk (by kernel_rfl) (Post := fun v H => v = .bool A.off ∧ H = [diskA bd A]) (fun D hR => ?_) (fun v H h => ⟨H, h, Ent.refl _⟩)
  obtain ⟨room, bm, sts, wrs, pln, off, maps, arrs, files, stb, wl⟩ := D
  have hoff := hR.off
  simp only at hoff
  subst hoff
  refine Ctr.enter Try.func39 (by kernel_rfl) rfl Try.ntmps39 rfl rfl ?_
  intro G F R hE
  refine K_ent (disk_o _ _ _ _ _ _ _ _ _ _ _ _ _) ?_
  (refine go ?_)
  refine K_ent ((Ent.pick [0, 1, 2, 3, 4, 5] rfl).trans (disk_c _ _ _ _ _ _ _ _ _ _ _ _ _)) ?_
  refine K_ent (diskA_in hR _) ?_
  (first | refine K_return hE Try.func39 rfl _ rfl ⟨rfl, rfl⟩ entA | refine K_fallEnd hE Try.func39 rfl _ rfl ⟨rfl, rfl⟩ entA)
theorem New_dA (room : Nat) (h1 : 1 ≤ room) (h2 : room ≤ 1073741824) : Ctr Try.prog 7 [.int .i64 room] [] (fun v H => ∃ bd, v = .tuple #[ptr bd, .int .i64 0] ∧ H = [diskA bd (Ab.new room)]) :=
  (New_good room h1 h2).conv (Ent.refl _) (by rintro v H ⟨bd, D, hR, rfl, rfl⟩; exact ⟨_, ⟨bd, rfl, rfl⟩, diskA_in hR _⟩)
theorem Size_dA (bd : Nat) (A : Ab) (name : ByteArray) : Ctr Try.prog 40 [ptr bd, .string name] [diskA bd A] (fun v H => H = [diskA bd A] ∧ v = .tuple #[.int .i64 (A.size name).1, .int .i64 (A.size name).2]) :=
  ctr_disk (by kernel_rfl) (Post := fun v H => ∃ D, Rel D A ∧ H = [disk bd D] ∧ v = .tuple #[.int .i64 (A.size name).1, .int .i64 (A.size name).2]) (fun D hR => (Size_any bd D A hR name).conv (Ent.refl _) (by rintro v H ⟨rfl, rfl⟩; exact ⟨_, ⟨D, hR, rfl, rfl⟩, Ent.refl _⟩)) (by rintro v H ⟨D, hR, rfl, rfl⟩; exact ⟨_, ⟨rfl, rfl⟩, diskA_in hR _⟩)
theorem Read_dA (bd : Nat) (A : Ab) (name : ByteArray) (at_ n : Int) : Ctr Try.prog 41 [ptr bd, .string name, .int .i64 at_, .int .i64 n] [diskA bd A]
    (fun v H => ∃ r, H = [diskA bd A, slc 5 1 r (A.read name at_ n).1.length (bV (A.read name at_ n).1)] ∧ v = .tuple #[r, .int .i64 (A.read name at_ n).2]) :=
  ctr_disk (by kernel_rfl) (Post := fun v H => ∃ D r, Rel D A ∧ H = [slc 5 1 r (A.read name at_ n).1.length (bV (A.read name at_ n).1), disk bd D] ∧ v = .tuple #[r, .int .i64 (A.read name at_ n).2])
    (fun D hR => (Read_any bd D A hR name at_ n).conv (Ent.refl _) (by rintro v H ⟨r, rfl, rfl⟩; exact ⟨_, ⟨D, r, hR, rfl, rfl⟩, Ent.refl _⟩)) (by rintro v H ⟨D, r, hR, rfl, rfl⟩; exact ⟨_, ⟨r, rfl, rfl⟩, (Ent.pick [1, 0] rfl).trans (diskA_in hR _)⟩)
theorem Create_dA (bd : Nat) (A : Ab) (name : ByteArray) (hst : A.states.length ≤ 1000000000) : Ctr Try.prog 10 [ptr bd, .string name] [diskA bd A]
    (fun v H => ∃ f, f ∉ A.fs.map (·.1) ∧ H = [diskA bd (A.create (isName name) name f).2] ∧ v = .int .i64 (A.create (isName name) name f).1) :=
  ctr_disk (by kernel_rfl) (fun D hR => Create_any bd D A hR name hst) (by rintro v H ⟨f, D', hf, hR, rfl, rfl⟩; exact ⟨_, ⟨f, hf, rfl, rfl⟩, diskA_in hR _⟩)
theorem Remove_dA (bd : Nat) (A : Ab) (name : ByteArray) (hst : A.states.length ≤ 1000000000) : Ctr Try.prog 68 [ptr bd, .string name] [diskA bd A]
    (fun v H => H = [diskA bd (A.remove (isName name) name).2] ∧ v = .int .i64 (A.remove (isName name) name).1) :=
  ctr_disk (by kernel_rfl) (fun D hR => Remove_any bd D A hR name hst) (by rintro v H ⟨D', hR, rfl, rfl⟩; exact ⟨_, ⟨rfl, rfl⟩, diskA_in hR _⟩)
theorem Write_dA (bd : Nat) (A : Ab) (name : ByteArray) (at_ : Int) (X : HP) (bv : Value) (b : List UInt8) (hv : Vw X bv b.length (bV b)) (hwl : A.writes.length ≤ 1000000000) (hbl : b.length ≤ 1000000000) (hat : -9223372036854775808 ≤ at_ ∧ at_ ≤ 9223372036854775807) :
    Ctr Try.prog 12 [ptr bd, .string name, .int .i64 at_, bv] [diskA bd A, X]
      (fun v H => H = [diskA bd (A.write (mayW name at_ b) name at_.toNat b).2, X] ∧ v = .int .i64 (A.write (mayW name at_ b) name at_.toNat b).1) :=
  ctr_disk (by kernel_rfl) (fun D hR => Write_any bd D A hR name at_ X bv b hv hwl hbl hat) (by rintro v H ⟨D', hR, rfl, rfl⟩; exact ⟨_, ⟨rfl, rfl⟩, diskA_in hR _⟩)
theorem Sync_dA (bd : Nat) (A : Ab) (name : ByteArray) (hwl : A.writes.length ≤ 1000000000) : Ctr Try.prog 54 [ptr bd, .string name] [diskA bd A]
    (fun v H => H = [diskA bd (A.sync (isName name) name).2] ∧ v = .int .i64 (A.sync (isName name) name).1) :=
  ctr_disk (by kernel_rfl) (fun D hR => Sync_any bd D A hR name hwl) (by rintro v H ⟨D', hR, rfl, rfl⟩; exact ⟨_, ⟨rfl, rfl⟩, diskA_in hR _⟩)
theorem SyncNames_dA (bd : Nat) (A : Ab) : Ctr Try.prog 74 [ptr bd] [diskA bd A]
    (fun v H => H = [diskA bd A.syncNames.2] ∧ v = .int .i64 A.syncNames.1) :=
  ctr_disk (by kernel_rfl) (fun D hR => SyncNames_any bd D A hR) (by rintro v H ⟨D', hR, rfl, rfl⟩; exact ⟨_, ⟨rfl, rfl⟩, diskA_in hR _⟩)
theorem Rename_dA (bd : Nat) (A : Ab) (old name : ByteArray) (hst : A.states.length ≤ 1000000000) : Ctr Try.prog 73 [ptr bd, .string old, .string name] [diskA bd A]
    (fun v H => H = [diskA bd (A.rename ([old, name].all isName) old name).2] ∧ v = .int .i64 (A.rename ([old, name].all isName) old name).1) :=
  ctr_disk (by kernel_rfl) (fun D hR => Rename_any bd D A hR old name hst) (by rintro v H ⟨D', hR, rfl, rfl⟩; exact ⟨_, ⟨rfl, rfl⟩, diskA_in hR _⟩)
theorem Crash_dA (bd : Nat) (A : Ab) (last torn cut : Int) (X : HP) (bv : Value) (stay : List UInt8) (hv : Vw X bv stay.length (bV stay)) (hsl : stay.length ≤ 9223372036854775807) (hst : A.states.length ≤ 1000000000) (hwl : A.writes.length ≤ 1000000000)
    (h1 : -9223372036854775808 ≤ last ∧ last ≤ 9223372036854775807) (h2 : -9223372036854775808 ≤ torn ∧ torn ≤ 9223372036854775807) (h3 : -9223372036854775808 ≤ cut ∧ cut ≤ 9223372036854775807) :
    Ctr Try.prog 20 [ptr bd, .int .i64 last, bv, .int .i64 torn, .int .i64 cut] [diskA bd A, X] (fun v H => H = [diskA bd (A.crash last stay torn cut), X]) :=
  ctr_disk (by kernel_rfl) (fun D hR => Crash_any bd D A hR last torn cut X bv stay hv hsl hst hwl h1 h2 h3) (by rintro v H ⟨D', hR, rfl⟩; exact ⟨_, rfl, diskA_in hR _⟩)
end Go.Proofs.Ytpdmbmnhgcnelaa

/- journal, part g: the steps of put. -/
set_option linter.unusedVariables false
set_option linter.unusedSimpArgs false
namespace Go.Proofs.Ytpdmbmnhgcnelaa
open Go Go.SL
attribute [local irreducible] J K Ctr Ends pts slc mapR mapI sbRow stock arrS loopP CtrY diskA

theorem put1_any (bd jb xj xf xw xb : Nat) (name fresh : ByteArray) (wa ba : Option Addr) (wc bl bc : Nat) (whole : List UInt8) (br : Bool) (A : Ab) (n s c : Int) (hst : A.states.length ≤ 1000000000) :
    Ctr Try.prog 67 [ptr xj, ptr xf] ([diskA bd A, pts jb (cl [ptr bd, .string name, .int .i64 n, .int .i64 s, .int .i64 c, .bool br] 93), pts xj (cl [ptr jb] 36), pts xf (cl [.string fresh] 9), pts xw (cl [.slice wa whole.length wc] 22), pts xb (cl [.slice ba bl bc] 22), slc 5 1 (.slice wa whole.length wc) whole.length (bV whole)]) (fun r H => ∃ (e : Nat) (A1 : Ab), e = (A.remove (isName fresh) fresh).1 ∧ A1 = (A.remove (isName fresh) fresh).2 ∧ r = .int .i64 (e : Int) ∧ H = [diskA bd A1, pts jb (cl [ptr bd, .string name, .int .i64 n, .int .i64 s, .int .i64 c, .bool br] 93), pts xj (cl [ptr jb] 36), pts xf (cl [.string fresh] 9), pts xw (cl [.slice wa whole.length wc] 22), pts xb (cl [.slice ba bl bc] 22), slc 5 1 (.slice wa whole.length wc) whole.length (bV whole)]) := by
  refine Ctr.enter Try.func67 (by kernel_rfl) rfl Try.ntmps67 rfl rfl ?_
  intro G F R hE
  (refine go ?_)
  refine K_drawA (fun w => Sat G w ([pts jb (cl [ptr bd, .string name, .int .i64 n, .int .i64 s, .int .i64 c, .bool br] 93), pts xj (cl [ptr jb] 36), pts xf (cl [.string fresh] 9), pts xw (cl [.slice wa whole.length wc] 22), slc 5 1 (.slice wa whole.length wc) whole.length (bV whole)])) (.st 0 (.st 1 (.st 2 (.st 3 (.st 4 (.act 5 (.st 6 .nil))))))) rfl (by kernel_rfl) (by kernel_rfl) (by kernel_rfl) (fun w hw => hw.ent entA) ?_
  (refine go ?_)
  (first | refine J_callE rfl rfl rfl rfl (Remove_dA bd A fresh hst) entA ?_ (fun _ _ w hp hw => by obtain ⟨rfl, rfl⟩ := hp; exact hw.ent entA) | refine J_call0E rfl rfl rfl (Remove_dA bd A fresh hst) entA ?_ (fun _ _ w hp hw => by obtain ⟨rfl, rfl⟩ := hp; exact hw.ent entA))
  rintro _ _ ⟨rfl, rfl⟩
  (refine go ?_)
  (first | refine K_return hE Try.func67 rfl _ rfl ⟨_, _, rfl, rfl, rfl, rfl⟩ entA | refine K_fallEnd hE Try.func67 rfl _ rfl ⟨_, _, rfl, rfl, rfl, rfl⟩ entA)
theorem put2_any (bd jb xj xf xw xb : Nat) (name fresh : ByteArray) (wa ba : Option Addr) (wc bl bc : Nat) (whole : List UInt8) (br : Bool) (A : Ab) (n s c : Int) (hst : A.states.length ≤ 1000000000) :
    Ctr Try.prog 69 [ptr xj, ptr xf] ([diskA bd A, pts jb (cl [ptr bd, .string name, .int .i64 n, .int .i64 s, .int .i64 c, .bool br] 93), pts xj (cl [ptr jb] 36), pts xf (cl [.string fresh] 9), pts xw (cl [.slice wa whole.length wc] 22), pts xb (cl [.slice ba bl bc] 22), slc 5 1 (.slice wa whole.length wc) whole.length (bV whole)]) (fun r H => ∃ (e : Nat) (A1 : Ab), (∃ f, f ∉ A.fs.map (·.1) ∧ e = (A.create (isName fresh) fresh f).1 ∧ A1 = (A.create (isName fresh) fresh f).2) ∧ r = .int .i64 (e : Int) ∧ H = [diskA bd A1, pts jb (cl [ptr bd, .string name, .int .i64 n, .int .i64 s, .int .i64 c, .bool br] 93), pts xj (cl [ptr jb] 36), pts xf (cl [.string fresh] 9), pts xw (cl [.slice wa whole.length wc] 22), pts xb (cl [.slice ba bl bc] 22), slc 5 1 (.slice wa whole.length wc) whole.length (bV whole)]) := by
  refine Ctr.enter Try.func69 (by kernel_rfl) rfl Try.ntmps69 rfl rfl ?_
  intro G F R hE
  (refine go ?_)
  refine K_drawA (fun w => Sat G w ([pts jb (cl [ptr bd, .string name, .int .i64 n, .int .i64 s, .int .i64 c, .bool br] 93), pts xj (cl [ptr jb] 36), pts xf (cl [.string fresh] 9), pts xw (cl [.slice wa whole.length wc] 22), slc 5 1 (.slice wa whole.length wc) whole.length (bV whole)])) (.st 0 (.st 1 (.st 2 (.st 3 (.st 4 (.act 5 (.st 6 .nil))))))) rfl (by kernel_rfl) (by kernel_rfl) (by kernel_rfl) (fun w hw => hw.ent entA) ?_
  (refine go ?_)
  (first | refine J_callE rfl rfl rfl rfl (Create_dA bd A fresh hst) entA ?_ (fun _ _ w hp hw => by obtain ⟨_, _, rfl, _⟩ := hp; exact hw.ent entA) | refine J_call0E rfl rfl rfl (Create_dA bd A fresh hst) entA ?_ (fun _ _ w hp hw => by obtain ⟨_, _, rfl, _⟩ := hp; exact hw.ent entA))
  rintro _ _ ⟨f, hf, rfl, rfl⟩
  (refine go ?_)
  (first | refine K_return hE Try.func69 rfl _ rfl ⟨_, _, ⟨f, hf, rfl, rfl⟩, rfl, rfl⟩ entA | refine K_fallEnd hE Try.func69 rfl _ rfl ⟨_, _, ⟨f, hf, rfl, rfl⟩, rfl, rfl⟩ entA)
theorem put3_any (bd jb xj xf xw xb : Nat) (name fresh : ByteArray) (wa ba : Option Addr) (wc bl bc : Nat) (whole : List UInt8) (br : Bool) (A : Ab) (n s c : Int) (hwl : A.writes.length ≤ 1000000000) (hbl : whole.length ≤ 1000000000) :
    Ctr Try.prog 70 [ptr xj, ptr xf, ptr xw] ([diskA bd A, pts jb (cl [ptr bd, .string name, .int .i64 n, .int .i64 s, .int .i64 c, .bool br] 93), pts xj (cl [ptr jb] 36), pts xf (cl [.string fresh] 9), pts xw (cl [.slice wa whole.length wc] 22), pts xb (cl [.slice ba bl bc] 22), slc 5 1 (.slice wa whole.length wc) whole.length (bV whole)]) (fun r H => ∃ (e : Nat) (A1 : Ab), e = (A.write (mayW fresh 0 whole) fresh 0 whole).1 ∧ A1 = (A.write (mayW fresh 0 whole) fresh 0 whole).2 ∧ r = .int .i64 (e : Int) ∧ H = [diskA bd A1, pts jb (cl [ptr bd, .string name, .int .i64 n, .int .i64 s, .int .i64 c, .bool br] 93), pts xj (cl [ptr jb] 36), pts xf (cl [.string fresh] 9), pts xw (cl [.slice wa whole.length wc] 22), pts xb (cl [.slice ba bl bc] 22), slc 5 1 (.slice wa whole.length wc) whole.length (bV whole)]) := by
  refine Ctr.enter Try.func70 (by kernel_rfl) rfl Try.ntmps70 rfl rfl ?_
  intro G F R hE
  (refine go ?_)
  refine K_drawA (fun w => Sat G w ([pts jb (cl [ptr bd, .string name, .int .i64 n, .int .i64 s, .int .i64 c, .bool br] 93), pts xj (cl [ptr jb] 36), pts xf (cl [.string fresh] 9), pts xw (cl [.slice wa whole.length wc] 22), slc 5 1 (.slice wa whole.length wc) whole.length (bV whole)])) (.st 0 (.st 1 (.st 2 (.st 3 (.st 4 (.st 5 (.act 6 (.st 7 .nil)))))))) rfl (by kernel_rfl) (by kernel_rfl) (by kernel_rfl) (fun w hw => hw.ent entA) ?_
  (refine go ?_)
  refine J_slcVw 6 rfl ?_
  intro hvw
  (refine go ?_)
  refine J_isLoad ?_
  refine J_loadH (U := tab) 3 rfl rfl rfl rfl rfl rfl ?_
  (refine go ?_)
  (first | refine J_callE rfl rfl rfl rfl (Write_dA bd A fresh 0 _ _ whole hvw hwl hbl (by omega)) entA ?_ (fun _ _ w hp hw => by obtain ⟨rfl, rfl⟩ := hp; exact hw.ent entA) | refine J_call0E rfl rfl rfl (Write_dA bd A fresh 0 _ _ whole hvw hwl hbl (by omega)) entA ?_ (fun _ _ w hp hw => by obtain ⟨rfl, rfl⟩ := hp; exact hw.ent entA))
  rintro _ _ ⟨rfl, rfl⟩
  (refine go ?_)
  (first | refine K_return hE Try.func70 rfl _ rfl ⟨_, _, rfl, rfl, rfl, rfl⟩ entA | refine K_fallEnd hE Try.func70 rfl _ rfl ⟨_, _, rfl, rfl, rfl, rfl⟩ entA)
theorem put4_any (bd jb xj xf xw xb : Nat) (name fresh : ByteArray) (wa ba : Option Addr) (wc bl bc : Nat) (whole : List UInt8) (br : Bool) (A : Ab) (n s c : Int) (hwl : A.writes.length ≤ 1000000000) :
    Ctr Try.prog 71 [ptr xj, ptr xf] ([diskA bd A, pts jb (cl [ptr bd, .string name, .int .i64 n, .int .i64 s, .int .i64 c, .bool br] 93), pts xj (cl [ptr jb] 36), pts xf (cl [.string fresh] 9), pts xw (cl [.slice wa whole.length wc] 22), pts xb (cl [.slice ba bl bc] 22), slc 5 1 (.slice wa whole.length wc) whole.length (bV whole)]) (fun r H => ∃ (e : Nat) (A1 : Ab), e = (A.sync (isName fresh) fresh).1 ∧ A1 = (A.sync (isName fresh) fresh).2 ∧ r = .int .i64 (e : Int) ∧ H = [diskA bd A1, pts jb (cl [ptr bd, .string name, .int .i64 n, .int .i64 s, .int .i64 c, .bool br] 93), pts xj (cl [ptr jb] 36), pts xf (cl [.string fresh] 9), pts xw (cl [.slice wa whole.length wc] 22), pts xb (cl [.slice ba bl bc] 22), slc 5 1 (.slice wa whole.length wc) whole.length (bV whole)]) := by
  refine Ctr.enter Try.func71 (by kernel_rfl) rfl Try.ntmps71 rfl rfl ?_
  intro G F R hE
  (refine go ?_)
  refine K_drawA (fun w => Sat G w ([pts jb (cl [ptr bd, .string name, .int .i64 n, .int .i64 s, .int .i64 c, .bool br] 93), pts xj (cl [ptr jb] 36), pts xf (cl [.string fresh] 9), pts xw (cl [.slice wa whole.length wc] 22), slc 5 1 (.slice wa whole.length wc) whole.length (bV whole)])) (.st 0 (.st 1 (.st 2 (.st 3 (.st 4 (.act 5 (.st 6 .nil))))))) rfl (by kernel_rfl) (by kernel_rfl) (by kernel_rfl) (fun w hw => hw.ent entA) ?_
  (refine go ?_)
  (first | refine J_callE rfl rfl rfl rfl (Sync_dA bd A fresh hwl) entA ?_ (fun _ _ w hp hw => by obtain ⟨rfl, rfl⟩ := hp; exact hw.ent entA) | refine J_call0E rfl rfl rfl (Sync_dA bd A fresh hwl) entA ?_ (fun _ _ w hp hw => by obtain ⟨rfl, rfl⟩ := hp; exact hw.ent entA))
  rintro _ _ ⟨rfl, rfl⟩
  (refine go ?_)
  (first | refine K_return hE Try.func71 rfl _ rfl ⟨_, _, rfl, rfl, rfl, rfl⟩ entA | refine K_fallEnd hE Try.func71 rfl _ rfl ⟨_, _, rfl, rfl, rfl, rfl⟩ entA)
theorem put5_any (bd jb xj xf xw xb : Nat) (name fresh : ByteArray) (wa ba : Option Addr) (wc bl bc : Nat) (whole : List UInt8) (br : Bool) (A : Ab) (n s c : Int) (hst : A.states.length ≤ 1000000000) :
    Ctr Try.prog 72 [ptr xj, ptr xf] ([diskA bd A, pts jb (cl [ptr bd, .string name, .int .i64 n, .int .i64 s, .int .i64 c, .bool br] 93), pts xj (cl [ptr jb] 36), pts xf (cl [.string fresh] 9), pts xw (cl [.slice wa whole.length wc] 22), pts xb (cl [.slice ba bl bc] 22), slc 5 1 (.slice wa whole.length wc) whole.length (bV whole)]) (fun r H => ∃ (e : Nat) (A1 : Ab), e = (A.rename ([fresh, name].all isName) fresh name).1 ∧ A1 = (A.rename ([fresh, name].all isName) fresh name).2 ∧ r = .int .i64 (e : Int) ∧ H = [diskA bd A1, pts jb (cl [ptr bd, .string name, .int .i64 n, .int .i64 s, .int .i64 c, .bool br] 93), pts xj (cl [ptr jb] 36), pts xf (cl [.string fresh] 9), pts xw (cl [.slice wa whole.length wc] 22), pts xb (cl [.slice ba bl bc] 22), slc 5 1 (.slice wa whole.length wc) whole.length (bV whole)]) := by
  refine Ctr.enter Try.func72 (by kernel_rfl) rfl Try.ntmps72 rfl rfl ?_
  intro G F R hE
  (refine go ?_)
  refine K_drawA (fun w => Sat G w ([pts jb (cl [ptr bd, .string name, .int .i64 n, .int .i64 s, .int .i64 c, .bool br] 93), pts xj (cl [ptr jb] 36), pts xf (cl [.string fresh] 9), pts xw (cl [.slice wa whole.length wc] 22), slc 5 1 (.slice wa whole.length wc) whole.length (bV whole)])) (.st 0 (.st 1 (.st 2 (.st 3 (.st 4 (.st 5 (.st 6 (.st 7 (.st 8 (.act 9 (.st 10 .nil))))))))))) rfl (by kernel_rfl) (by kernel_rfl) (by kernel_rfl) (fun w hw => hw.ent entA) ?_
  (refine go ?_)
  (first | refine J_callE rfl rfl rfl rfl (Rename_dA bd A fresh name hst) entA ?_ (fun _ _ w hp hw => by obtain ⟨rfl, rfl⟩ := hp; exact hw.ent entA) | refine J_call0E rfl rfl rfl (Rename_dA bd A fresh name hst) entA ?_ (fun _ _ w hp hw => by obtain ⟨rfl, rfl⟩ := hp; exact hw.ent entA))
  rintro _ _ ⟨rfl, rfl⟩
  (refine go ?_)
  (first | refine K_return hE Try.func72 rfl _ rfl ⟨_, _, rfl, rfl, rfl, rfl⟩ entA | refine K_fallEnd hE Try.func72 rfl _ rfl ⟨_, _, rfl, rfl, rfl, rfl⟩ entA)
theorem put6_any (bd jb xj xf xw xb : Nat) (name fresh : ByteArray) (wa ba : Option Addr) (wc bl bc : Nat) (whole : List UInt8) (br : Bool) (A : Ab) (n s c : Int) :
    Ctr Try.prog 75 [ptr xb, ptr xj] ([diskA bd A, pts jb (cl [ptr bd, .string name, .int .i64 n, .int .i64 s, .int .i64 c, .bool br] 93), pts xj (cl [ptr jb] 36), pts xf (cl [.string fresh] 9), pts xw (cl [.slice wa whole.length wc] 22), pts xb (cl [.slice ba bl bc] 22), slc 5 1 (.slice wa whole.length wc) whole.length (bV whole)]) (fun r H => r = .int .i64 0 ∧ H = [diskA bd A, pts jb (cl [ptr bd, .string name, .int .i64 1, .int .i64 (bl : Int), .int .i64 (bl : Int), .bool br] 93), pts xj (cl [ptr jb] 36), pts xf (cl [.string fresh] 9), pts xw (cl [.slice wa whole.length wc] 22), pts xb (cl [.slice ba bl bc] 22), slc 5 1 (.slice wa whole.length wc) whole.length (bV whole)]) := by
  refine Ctr.enter Try.func75 (by kernel_rfl) rfl Try.ntmps75 rfl rfl ?_
  intro G F R hE
  (refine go ?_)
  refine K_drawA (fun w => Sat G w ([pts xj (cl [ptr jb] 36), pts xb (cl [.slice ba bl bc] 22)])) (.st 0 (.st 1 (.st 2 (.st 3 (.st 4 (.st 5 (.st 6 (.st 7 (.st 8 (.act 9 (.st 10 (.st 11 (.act 12 (.st 13 (.st 14 (.act 15 .nil)))))))))))))))) rfl (by kernel_rfl) (by kernel_rfl) (by kernel_rfl) (fun w hw => hw.ent entA) ?_
  (refine go ?_)
  refine J_isStore ?_
  refine J_store (U := tab) 1 (fun w hw => by exact hw.ent entA) rfl rfl rfl rfl rfl rfl rfl rfl rfl ?_
  (refine go ?_)
  refine J_isStore ?_
  refine J_store (U := tab) 1 (fun w hw => by exact hw.ent entA) rfl rfl rfl rfl rfl rfl rfl rfl rfl ?_
  (refine go ?_)
  (first | refine K_return hE Try.func75 rfl _ rfl ⟨rfl, rfl⟩ entA | refine K_fallEnd hE Try.func75 rfl _ rfl ⟨rfl, rfl⟩ entA)
end Go.Proofs.Ytpdmbmnhgcnelaa

/- journal, part h0 (plain): the steps of put as a relation; how a disk's lists grow. -/
set_option linter.unusedVariables false
set_option linter.unusedSimpArgs false
namespace Go.Proofs.Ytpdmbmnhgcnelaa
open Go Go.SL

theorem slc_BAt {e : TypeId} {v : Value} {bs : List UInt8} (h0 : ∃ h, slc e 1 v bs.length (bV bs) h) : BAt (slc e 1 v bs.length (bV bs)) v bs := by
  refine ⟨Vw.of_slc e 1 v bs.length (bV bs) h0, ?_⟩
  obtain ⟨h, hl, ⟨a, rfl, hn, _⟩ | ⟨b, o, cap, pre, junk, rfl, hp, hn, hc, _⟩⟩ := h0
  · exact ⟨a, 0, by rw [hn], by omega⟩
  · exact ⟨_, cap, rfl, hn⟩
section
variable {P : Program} {f : FuncId} {n : Nat} {R : Ending → World → Prop} {G : Glob} {k : List Item} {L : Lst} {H : List HP} {S : World → Prop} {all : Array Oper} {rest : Pl}
theorem J_slcB {e : TypeId} {v : Value} {bs : List UInt8} (i : Nat) (hi : getL H i = some (slc e 1 v bs.length (bV bs))) (h : BAt (slc e 1 v bs.length (bV bs)) v bs → J P f n R G S all rest k L H) : J P f n R G S all rest k L H :=
  J_sat fun w hw => by
    obtain ⟨h1, _, hA⟩ := hw.getA hi
    exact h (slc_BAt ⟨h1, hA⟩)
theorem K_slcB {e : TypeId} {v : Value} {bs : List UInt8} (i : Nat) (hi : getL H i = some (slc e 1 v bs.length (bV bs))) (h : BAt (slc e 1 v bs.length (bV bs)) v bs → K P f n R G k L H) : K P f n R G k L H :=
  K_sat fun ⟨w, hw⟩ => by
    obtain ⟨h1, _, hA⟩ := hw.getA hi
    exact h (slc_BAt ⟨h1, hA⟩)
end
theorem Sep_get {H : List HP} {i : Nat} {A : HP} (hi : getL H i = some A) : ∀ h, Sep H h → ∃ h', sub h' h ∧ A h' := fun h hs => by
  rw [getL_eq] at hi
  obtain ⟨h', hs', hA⟩ := Ent.perm (perm_of_get hi) h hs
  obtain ⟨h1, h2, ha, _, hd, hj⟩ := hA
  refine ⟨h1, fun b o hb => ?_, ha⟩
  refine hs' b o ?_
  rw [hj b, hb]; rfl

/-- A grew into B by one at most. -/
def Grow1 (A B : Ab) : Prop := B.states.length ≤ A.states.length + 1 ∧ B.writes.length ≤ A.writes.length + 1
theorem grow_find (A : Ab) (n : ByteArray) (ok : Bool) : (A.find n ok).2.2.states.length = A.states.length ∧ (A.find n ok).2.2.writes.length = A.writes.length := by
  have h := find_same A n ok
  rw [h.2.2.1, h.2.2.2.1]; exact ⟨rfl, rfl⟩
theorem grow_meet (A : Ab) (ok : Bool) : (A.meet ok).2.states.length = A.states.length ∧ (A.meet ok).2.writes.length = A.writes.length := by
  unfold Ab.meet
  split
  · exact ⟨rfl, rfl⟩
  split
  · exact ⟨rfl, rfl⟩
  split
  · exact ⟨rfl, rfl⟩
  · split
    · exact ⟨rfl, rfl⟩
    split <;> exact ⟨rfl, rfl⟩
theorem grow_remove (A : Ab) (ok : Bool) (n : ByteArray) : Grow1 A (A.remove ok n).2 := by
  have h := grow_find A n ok
  unfold Ab.remove
  split
  · rename_i f A1 he
    rw [he] at h
    simp only at h
    constructor <;> simp [Ab.chg] <;> omega
  · rename_i e o A1 _ he
    rw [he] at h
    simp only at h
    constructor <;> simp only <;> omega
theorem grow_rename (A : Ab) (ok : Bool) (o n : ByteArray) : Grow1 A (A.rename ok o n).2 := by
  have h := grow_find A o ok
  unfold Ab.rename
  split
  · rename_i f A1 he
    rw [he] at h
    simp only at h
    constructor <;> simp [Ab.chg] <;> omega
  · rename_i e o A1 _ he
    rw [he] at h
    simp only at h
    constructor <;> simp only <;> omega
theorem grow_create (A : Ab) (ok : Bool) (n : ByteArray) (f : Nat) : Grow1 A (A.create ok n f).2 := by
  have h := grow_meet A ok
  unfold Ab.create
  split
  · split
    · constructor <;> simp only <;> omega
    split
    · constructor <;> simp only <;> omega
    · constructor <;> simp [Ab.chg] <;> omega
  · constructor <;> simp only <;> omega
theorem grow_write (A : Ab) (ok : Bool) (n : ByteArray) (at_ : Nat) (b : List UInt8) : Grow1 A (A.write ok n at_ b).2 := by
  have h := grow_find A n ok
  unfold Ab.write
  split
  · split
    · split
      · constructor <;> simp only <;> omega
      · constructor <;> simp <;> omega
    · constructor <;> simp only <;> omega
  · constructor <;> simp only <;> omega
theorem grow_sync (A : Ab) (ok : Bool) (n : ByteArray) : Grow1 A (A.sync ok n).2 := by
  have h := grow_find A n ok
  unfold Ab.sync
  split
  · split
    · constructor
      · simp only; omega
      · simp only
        refine Nat.le_trans (List.length_filter_le _ _) ?_
        omega
    · constructor <;> simp only <;> omega
  · constructor <;> simp only <;> omega
theorem grow_syncNames (A : Ab) : Grow1 A A.syncNames.2 := by
  have h := grow_meet A true
  unfold Ab.syncNames
  split
  · constructor <;> simp only [List.length_singleton] <;> omega
  · constructor <;> simp only <;> omega
/-- The state that the steps of put change: the disk, the number, the size, what counts. -/
abbrev PS := Ab × Int × Int × Int
def onA (g : Ab → Nat → Ab → Prop) (x : PS) (e : Nat) (y : PS) : Prop := g x.1 e y.1 ∧ y.2 = x.2
def sRemove (fresh : ByteArray) := onA fun A e B => e = (A.remove (isName fresh) fresh).1 ∧ B = (A.remove (isName fresh) fresh).2
def sCreate (fresh : ByteArray) := onA fun A e B => ∃ f, f ∉ A.fs.map (·.1) ∧ e = (A.create (isName fresh) fresh f).1 ∧ B = (A.create (isName fresh) fresh f).2
def sWrite (fresh : ByteArray) (whole : List UInt8) := onA fun A e B => e = (A.write (mayW fresh 0 whole) fresh 0 whole).1 ∧ B = (A.write (mayW fresh 0 whole) fresh 0 whole).2
def sSync (fresh : ByteArray) := onA fun A e B => e = (A.sync (isName fresh) fresh).1 ∧ B = (A.sync (isName fresh) fresh).2
def sRename (fresh name : ByteArray) := onA fun A e B => e = (A.rename ([fresh, name].all isName) fresh name).1 ∧ B = (A.rename ([fresh, name].all isName) fresh name).2
def sNames := onA fun A e B => e = A.syncNames.1 ∧ B = A.syncNames.2
def sSet (bl : Nat) (x : PS) (e : Nat) (y : PS) : Prop := e = 0 ∧ y = (x.1, 1, (bl : Int), (bl : Int))
def freshOf (name : ByteArray) : ByteArray := name ++ ⟨#[46, 110, 101, 119]⟩
def wholeOf (ls : List (List UInt8)) : List UInt8 := List.replicate 16 0 ++ headL 1 (ls.flatMap encL).length ++ ls.flatMap encL
def putSteps (name : ByteArray) (ls : List (List UInt8)) (A : Ab) : List (PS → Nat → PS → Prop) :=
  (if (A.size (freshOf name)).2 = 0 then [sRemove (freshOf name)] else []) ++
  [sCreate (freshOf name), sWrite (freshOf name) (wholeOf ls), sSync (freshOf name), sRename (freshOf name) name, sNames, sSet (ls.flatMap encL).length]
/-- What put does. -/
def PutR (name : ByteArray) (ls : List (List UInt8)) (x : PS) (e : Nat) (y : PS) : Prop := Runs (putSteps name ls x.1) x e y
end Go.Proofs.Ytpdmbmnhgcnelaa

/- journal, part g2: the steps of put, as all does them. -/
set_option linter.unusedVariables false
set_option linter.unusedSimpArgs false
namespace Go.Proofs.Ytpdmbmnhgcnelaa
open Go Go.SL
attribute [local irreducible] J K Ctr Ends pts slc mapR mapI sbRow stock arrS loopP CtrY diskA

theorem _root_.Go.SL.Ent.unsep1 (l : List HP) : Ent [Sep l] l := by have := Ent.unsep l []; rwa [List.append_nil] at this
theorem _root_.Go.SL.Ent.resep1 (l : List HP) : Ent l [Sep l] := by have := Ent.resep l []; rwa [List.append_nil] at this
def PI (bd jb xj xf xw xb : Nat) (name fresh : ByteArray) (wa ba : Option Addr) (wc bl bc : Nat) (whole : List UInt8) (br : Bool) (x : PS) : HP := Sep [diskA bd x.1, pts jb (cl [ptr bd, .string name, .int .i64 x.2.1, .int .i64 x.2.2.1, .int .i64 x.2.2.2, .bool br] 93), pts xj (cl [ptr jb] 36), pts xf (cl [.string fresh] 9), pts xw (cl [.slice wa whole.length wc] 22), pts xb (cl [.slice ba bl bc] 22), slc 5 1 (.slice wa whole.length wc) whole.length (bV whole)]
def PQ (i : Nat) (x : PS) : Prop := x.1.states.length ≤ 900000000 + i ∧ x.1.writes.length ≤ 900000000 + i
theorem PQ.next {i : Nat} {x : PS} (h : PQ i x) {B : Ab} (g : Grow1 x.1 B) : PQ (i + 1) (B, x.2) := by
  obtain ⟨h1, h2⟩ := h
  obtain ⟨g1, g2⟩ := g
  exact ⟨by simp only; omega, by simp only; omega⟩
end Go.Proofs.Ytpdmbmnhgcnelaa
namespace Go.Proofs.Ytpdmbmnhgcnelaa
open Go Go.SL
theorem ctr_frame {P : Program} {f : FuncId} {args : List Value} {Pre : List HP} {Post : Value → List HP → Prop} (X : List HP) (c : Ctr P f args Pre Post) : Ctr P f args (Pre ++ X) (fun v H => ∃ H', Post v H' ∧ H = H' ++ X) :=
  ⟨c.1, fun G w F hw => (c.2 G w (X ++ F) (by rw [List.append_assoc] at hw; exact hw)).mono fun e w' h' => let ⟨v, H, he, hpo, hs⟩ := h'; ⟨v, H ++ X, he, ⟨H, hpo, rfl⟩, by rw [List.append_assoc]; exact hs⟩⟩
attribute [local irreducible] J K Ctr Ends pts slc mapR mapI sbRow stock arrS loopP CtrY diskA
theorem put1_I (bd jb xj xf xw xb : Nat) (name fresh : ByteArray) (wa ba : Option Addr) (wc bl bc : Nat) (whole : List UInt8) (br : Bool) (i : Nat) (hi : i ≤ 10) (x : PS) (hq : PQ i x) :
    Ctr Try.prog 67 [ptr xj, ptr xf] [PI bd jb xj xf xw xb name fresh wa ba wc bl bc whole br x] (fun r H => ∃ (e : Nat) (x' : PS), r = .int .i64 (e : Int) ∧ H = [PI bd jb xj xf xw xb name fresh wa ba wc bl bc whole br x'] ∧ sRemove fresh x e x' ∧ (e = 0 → PQ (i + 1) x')) :=
  (put1_any bd jb xj xf xw xb name fresh wa ba wc bl bc whole br x.1 x.2.1 x.2.2.1 x.2.2.2 (by have := hq.1; omega)).conv (Ent.unsep1 _) (by
    rintro v H ⟨e, A1, he, hA1, rfl, rfl⟩
    exact ⟨_, ⟨_, (A1, x.2), rfl, rfl, ⟨⟨he, hA1⟩, rfl⟩, fun _ => hq.next (hA1 ▸ grow_remove _ _ _)⟩, Ent.resep1 _⟩)
theorem put2_I (bd jb xj xf xw xb : Nat) (name fresh : ByteArray) (wa ba : Option Addr) (wc bl bc : Nat) (whole : List UInt8) (br : Bool) (i : Nat) (hi : i ≤ 10) (x : PS) (hq : PQ i x) :
    Ctr Try.prog 69 [ptr xj, ptr xf] [PI bd jb xj xf xw xb name fresh wa ba wc bl bc whole br x] (fun r H => ∃ (e : Nat) (x' : PS), r = .int .i64 (e : Int) ∧ H = [PI bd jb xj xf xw xb name fresh wa ba wc bl bc whole br x'] ∧ sCreate fresh x e x' ∧ (e = 0 → PQ (i + 1) x')) :=
  (put2_any bd jb xj xf xw xb name fresh wa ba wc bl bc whole br x.1 x.2.1 x.2.2.1 x.2.2.2 (by have := hq.1; omega)).conv (Ent.unsep1 _) (by
    rintro v H ⟨e, A1, ⟨f, hf, he, hA1⟩, rfl, rfl⟩
    exact ⟨_, ⟨_, (A1, x.2), rfl, rfl, ⟨⟨f, hf, he, hA1⟩, rfl⟩, fun _ => hq.next (hA1 ▸ grow_create _ _ _ _)⟩, Ent.resep1 _⟩)
theorem put3_I (bd jb xj xf xw xb : Nat) (name fresh : ByteArray) (wa ba : Option Addr) (wc bl bc : Nat) (whole : List UInt8) (br : Bool) (i : Nat) (hi : i ≤ 10) (hbl : whole.length ≤ 1000000000) (x : PS) (hq : PQ i x) :
    Ctr Try.prog 70 [ptr xj, ptr xf, ptr xw] [PI bd jb xj xf xw xb name fresh wa ba wc bl bc whole br x] (fun r H => ∃ (e : Nat) (x' : PS), r = .int .i64 (e : Int) ∧ H = [PI bd jb xj xf xw xb name fresh wa ba wc bl bc whole br x'] ∧ sWrite fresh whole x e x' ∧ (e = 0 → PQ (i + 1) x')) :=
  (put3_any bd jb xj xf xw xb name fresh wa ba wc bl bc whole br x.1 x.2.1 x.2.2.1 x.2.2.2 (by have := hq.2; omega) hbl).conv (Ent.unsep1 _) (by
    rintro v H ⟨e, A1, he, hA1, rfl, rfl⟩
    exact ⟨_, ⟨_, (A1, x.2), rfl, rfl, ⟨⟨he, hA1⟩, rfl⟩, fun _ => hq.next (hA1 ▸ grow_write _ _ _ _ _)⟩, Ent.resep1 _⟩)
theorem put4_I (bd jb xj xf xw xb : Nat) (name fresh : ByteArray) (wa ba : Option Addr) (wc bl bc : Nat) (whole : List UInt8) (br : Bool) (i : Nat) (hi : i ≤ 10) (x : PS) (hq : PQ i x) :
    Ctr Try.prog 71 [ptr xj, ptr xf] [PI bd jb xj xf xw xb name fresh wa ba wc bl bc whole br x] (fun r H => ∃ (e : Nat) (x' : PS), r = .int .i64 (e : Int) ∧ H = [PI bd jb xj xf xw xb name fresh wa ba wc bl bc whole br x'] ∧ sSync fresh x e x' ∧ (e = 0 → PQ (i + 1) x')) :=
  (put4_any bd jb xj xf xw xb name fresh wa ba wc bl bc whole br x.1 x.2.1 x.2.2.1 x.2.2.2 (by have := hq.2; omega)).conv (Ent.unsep1 _) (by
    rintro v H ⟨e, A1, he, hA1, rfl, rfl⟩
    exact ⟨_, ⟨_, (A1, x.2), rfl, rfl, ⟨⟨he, hA1⟩, rfl⟩, fun _ => hq.next (hA1 ▸ grow_sync _ _ _)⟩, Ent.resep1 _⟩)
theorem put5_I (bd jb xj xf xw xb : Nat) (name fresh : ByteArray) (wa ba : Option Addr) (wc bl bc : Nat) (whole : List UInt8) (br : Bool) (i : Nat) (hi : i ≤ 10) (x : PS) (hq : PQ i x) :
    Ctr Try.prog 72 [ptr xj, ptr xf] [PI bd jb xj xf xw xb name fresh wa ba wc bl bc whole br x] (fun r H => ∃ (e : Nat) (x' : PS), r = .int .i64 (e : Int) ∧ H = [PI bd jb xj xf xw xb name fresh wa ba wc bl bc whole br x'] ∧ sRename fresh name x e x' ∧ (e = 0 → PQ (i + 1) x')) :=
  (put5_any bd jb xj xf xw xb name fresh wa ba wc bl bc whole br x.1 x.2.1 x.2.2.1 x.2.2.2 (by have := hq.1; omega)).conv (Ent.unsep1 _) (by
    rintro v H ⟨e, A1, he, hA1, rfl, rfl⟩
    exact ⟨_, ⟨_, (A1, x.2), rfl, rfl, ⟨⟨he, hA1⟩, rfl⟩, fun _ => hq.next (hA1 ▸ grow_rename _ _ _ _)⟩, Ent.resep1 _⟩)
theorem putN_I (bd jb xj xf xw xb : Nat) (name fresh : ByteArray) (wa ba : Option Addr) (wc bl bc : Nat) (whole : List UInt8) (br : Bool) (i : Nat) (x : PS) (hq : PQ i x) :
    Ctr Try.prog 74 [ptr bd] [PI bd jb xj xf xw xb name fresh wa ba wc bl bc whole br x] (fun r H => ∃ (e : Nat) (x' : PS), r = .int .i64 (e : Int) ∧ H = [PI bd jb xj xf xw xb name fresh wa ba wc bl bc whole br x'] ∧ sNames x e x' ∧ (e = 0 → PQ (i + 1) x')) :=
  (ctr_frame ([diskA bd x.1, pts jb (cl [ptr bd, .string name, .int .i64 x.2.1, .int .i64 x.2.2.1, .int .i64 x.2.2.2, .bool br] 93), pts xj (cl [ptr jb] 36), pts xf (cl [.string fresh] 9), pts xw (cl [.slice wa whole.length wc] 22), pts xb (cl [.slice ba bl bc] 22), slc 5 1 (.slice wa whole.length wc) whole.length (bV whole)].drop 1) (SyncNames_dA bd x.1)).conv (Ent.unsep1 _) (by
    rintro v H ⟨_, ⟨rfl, rfl⟩, rfl⟩
    exact ⟨_, ⟨_, (x.1.syncNames.2, x.2), rfl, rfl, ⟨⟨rfl, rfl⟩, rfl⟩, fun _ => hq.next (grow_syncNames _)⟩, Ent.resep1 _⟩)
theorem put6_I (bd jb xj xf xw xb : Nat) (name fresh : ByteArray) (wa ba : Option Addr) (wc bl bc : Nat) (whole : List UInt8) (br : Bool) (i : Nat) (x : PS) (hq : PQ i x) :
    Ctr Try.prog 75 [ptr xb, ptr xj] [PI bd jb xj xf xw xb name fresh wa ba wc bl bc whole br x] (fun r H => ∃ (e : Nat) (x' : PS), r = .int .i64 (e : Int) ∧ H = [PI bd jb xj xf xw xb name fresh wa ba wc bl bc whole br x'] ∧ sSet bl x e x' ∧ (e = 0 → PQ (i + 1) x')) :=
  (put6_any bd jb xj xf xw xb name fresh wa ba wc bl bc whole br x.1 x.2.1 x.2.2.1 x.2.2.2).conv (Ent.unsep1 _) (by
    rintro v H ⟨rfl, rfl⟩
    exact ⟨_, ⟨0, (x.1, 1, (bl : Int), (bl : Int)), rfl, rfl, ⟨rfl, rfl⟩, fun _ => ⟨by have := hq.1; simp only; omega, by have := hq.2; simp only; omega⟩⟩, Ent.resep1 _⟩)
end Go.Proofs.Ytpdmbmnhgcnelaa

/- journal, part h: put. -/
set_option linter.unusedVariables false
set_option linter.unusedSimpArgs false
namespace Go.Proofs.Ytpdmbmnhgcnelaa
open Go Go.SL
attribute [local irreducible] J K Ctr Ends pts slc mapR mapI sbRow stock arrS loopP CtrY diskA

/-- The cells of a journal. -/
def jr (jb bd : Nat) (name : ByteArray) (n s c : Int) (br : Bool) : HP := pts jb (cl [ptr bd, .string name, .int .i64 n, .int .i64 s, .int .i64 c, .bool br] 93)
theorem flat_take {ls : List (List UInt8)} {i : Nat} {x : List UInt8} (h : ls[i]? = some x) : (ls.take (i + 1)).flatMap encL = (ls.take i).flatMap encL ++ encL x := by
  rw [List.take_add_one, h]; simp
theorem flat_le (ls : List (List UInt8)) (i : Nat) : ((ls.take i).flatMap encL).length ≤ (ls.flatMap encL).length := by
  conv => rhs; rw [← List.take_append_drop i ls, List.flatMap_append, List.length_append]
  omega
set_option maxRecDepth 20000 in
theorem put_any (jb bd : Nat) (name : ByteArray) (n s c : Int) (br : Bool) (A : Ab) (V : HP) (lv : Value) (ls : List (List UInt8)) (hv : LAt V lv ls) (hl : (ls.flatMap encL).length ≤ 500000000) (hln : ls.length ≤ 1000000000)
    (hname : name.size ≤ 1000000000) (hst : A.states.length ≤ 900000000) (hwr : A.writes.length ≤ 900000000) :
    Ctr Try.prog 44 [ptr jb, lv] [diskA bd A, jr jb bd name n s c br, V]
      (fun r H => ∃ (e : Nat) (y : PS), r = .int .i64 (e : Int) ∧ H = [diskA bd y.1, jr jb bd name y.2.1 y.2.2.1 y.2.2.2 br, V] ∧ PutR name ls (A, n, s, c) e y) := by
  obtain ⟨cs, hvw, hcl, ⟨a, cc, rfl, hc⟩, hel⟩ := hv
  unfold jr
  refine Ctr.enter Try.func44 (by kernel_rfl) rfl Try.ntmps44 rfl rfl ?_
  intro G F R hE
  (refine go ?_)
  refine J_box rfl rfl (fun _ _ _ => trivial) ?_
  intro xj
  (refine go ?_)
  refine J_strAdd rfl rfl rfl (by show name.size + 4 ≤ _; omega) ?_
  (refine go ?_)
  refine J_slot 17 (.string (freshOf name)) rfl rfl ?_
  generalize hfr : freshOf name = fresh
  refine J_alloc (U := tab) rfl rfl rfl (fun _ _ _ => trivial) ?_
  intro xf
  (refine go ?_)
  refine J_alloc (U := tab) rfl rfl rfl (fun _ _ _ => trivial) ?_
  intro xb
  (refine go ?_)
  refine K_ent (slc_lift 5 1 none _) ?_
  refine K_loop (fun y : Value × Nat => y.2 ≤ ls.length) (fun y => ls.length - y.2)
    (fun y => [(0, ptr jb), (2, ptr xj), (5, ptr xf), (6, ptr xb), (18, .slice a ls.length cc), (19, .int .i64 (ls.length : Int)), (20, .int .i64 (y.2 : Int))])
    (fun y => pts xb (cl [y.1] 22) :: slc 5 1 y.1 ((ls.take y.2).flatMap encL).length (bV ((ls.take y.2).flatMap encL)) :: pts xf (cl [.string fresh] 9) :: pts xj (cl [ptr jb] 36) :: diskA bd A :: pts jb (cl [ptr bd, .string name, .int .i64 n, .int .i64 s, .int .i64 c, .bool br] 93) :: V :: F) (.slice none 0 0, 0) (Nat.zero_le _) rfl (by repeat (first | exact keep_nil | refine keep_cons rfl ?_)) entA ?_
  rintro ⟨v, i⟩ hi ih
  simp only at hi
  (refine go ?_)
  refine K_condP rfl rfl ?_ ?_
  · intro hlt
    simp only at hlt
    have hil : i < ls.length := by omega
    obtain ⟨x, hx⟩ : ∃ x, ls[i]? = some x := ⟨ls[i], List.getElem?_eq_getElem hil⟩
    obtain ⟨cv, hcv, hb⟩ := hel i x hx
    obtain ⟨b0, o0, c0, he0⟩ := hvw.some (by intro h; rw [h] at hcv; simp at hcv)
    simp only [Value.slice.injEq] at he0
    obtain ⟨rfl, -, rfl⟩ := he0
    (refine go ?_)
    refine J_at1 (U := tab) i rfl rfl rfl rfl rfl rfl rfl rfl hil ?_
    obtain ⟨ax, cx, rfl, hcx⟩ := hb.2
    have hsum := flat_take hx
    have hsl : ((ls.take (i + 1)).flatMap encL).length = ((ls.take i).flatMap encL).length + (encL x).length := by rw [hsum, List.length_append]
    have hle := flat_le ls (i + 1)
    have hxl : x.length ≤ (encL x).length := by simp [encL]
    refine J_loadAt (U := tab) 6 i rfl rfl rfl hvw rfl hcv rfl rfl ?_
    (first | refine J_shape 1 rfl ?_ | refine K_shape 1 rfl ?_)
    intro av cv hvv
    simp only at hvv
    subst hvv
    (refine go ?_)
    refine K_drawA (fun w => Sat G w ([pts xb (cl [.slice av ((ls.take i).flatMap encL).length cv] 22)])) (.st 0 (.st 1 (.act 2 (.act 3 (.act 4 .nil))))) rfl (by kernel_rfl) (by kernel_rfl) (by kernel_rfl) (fun w hw => hw.ent entA) ?_
    (refine go ?_)
    (first | refine J_callE rfl rfl rfl rfl (encoded_any V _ x hb (by omega)) entA ?_ (fun _ _ w hp hw => by obtain rfl := hp; exact hw.ent entA) | refine J_call0E rfl rfl rfl (encoded_any V _ x hb (by omega)) entA ?_ (fun _ _ w hp hw => by obtain rfl := hp; exact hw.ent entA))
    rintro r _ rfl
    (first | refine J_shape 0 rfl ?_ | refine K_shape 0 rfl ?_)
    rintro ra rc rfl
    refine J_slcVw 0 rfl ?_
    intro hvr
    (refine go ?_)
    refine J_append (U := tab) (mm := (encL x).length) (news := bV (encL x)) 3 0 rfl rfl rfl rfl rfl rfl rfl rfl rfl rfl rfl rfl hvr (by show _ = _ * 1; rw [bV_length]; omega) (bV_one _) (by simp only; omega) (by show (_ + _) * 1 ≤ _; simp only; omega) (fun _ => rfl) (fun _ w hw => by exact hw.ent entA) ?_
    intro v1
    simp only
    rw [show bV ((ls.take i).flatMap encL) ++ bV (encL x) = bV ((ls.take (i + 1)).flatMap encL) from by rw [hsum]; simp [bV], ← hsl]
    (first | refine J_shape 3 rfl ?_ | refine K_shape 3 rfl ?_)
    rintro va vc rfl
    (refine go ?_)
    refine K_again ih (.slice va ((ls.take (i + 1)).flatMap encL).length vc, i + 1) rfl (by simp only; omega) (by simp only; omega) (by repeat (first | exact keep_nil | refine keep_cons rfl ?_)) entA
  intro hge
  simp only at hge
  have hi' : i = ls.length := by omega
  subst hi'
  rw [List.take_length]
  (first | refine J_shape 1 rfl ?_ | refine K_shape 1 rfl ?_)
  intro av cv hvv
  simp only at hvv
  subst hvv
  obtain ⟨B, hB⟩ : ∃ B, B = ls.flatMap encL := ⟨_, rfl⟩
  rw [← hB] at hl ⊢
  have hhl : (headL 1 B.length).length = 16 := headL_len _ _
  have hwl : (wholeOf ls) = List.replicate 16 0 ++ headL 1 B.length ++ B := by rw [hB]; rfl
  obtain ⟨W, hW⟩ : ∃ W, W = wholeOf ls := ⟨_, rfl⟩
  rw [← hW] at hwl
  have hWl : W.length = 32 + B.length := by rw [hwl]; simp only [List.length_append, List.length_replicate, hhl]
  have hcon : ∀ (m : Nat) (ra : Option Addr) (rc row : Nat), BAt (slc 5 1 (.slice ra (headL 1 B.length).length rc) (headL 1 B.length).length (bV (headL 1 B.length))) (.slice ra (headL 1 B.length).length rc) (headL 1 B.length) →
      BAt (slc 5 1 (.slice av B.length cv) B.length (bV B)) (.slice av B.length cv) B → Ctr Try.prog 66 [.slice (some ⟨row, 0, none⟩) 3 3]
      [Sep [pts row (cl [.slice (some ⟨m, 0, none⟩) 16 16, .slice ra (headL 1 B.length).length rc, .slice av B.length cv] 22), pts m (cl (bV (List.replicate 16 0)) 5), slc 5 1 (.slice ra (headL 1 B.length).length rc) (headL 1 B.length).length (bV (headL 1 B.length)), slc 5 1 (.slice av B.length cv) B.length (bV B)]]
      (fun r H => H = [slc 5 1 r W.length (bV W), Sep [pts row (cl [.slice (some ⟨m, 0, none⟩) 16 16, .slice ra (headL 1 B.length).length rc, .slice av B.length cv] 22), pts m (cl (bV (List.replicate 16 0)) 5), slc 5 1 (.slice ra (headL 1 B.length).length rc) (headL 1 B.length).length (bV (headL 1 B.length)), slc 5 1 (.slice av B.length cv) B.length (bV B)]]) := by
    intro m ra rc row hb1 hb2
    have hfl : [List.replicate 16 0, headL 1 B.length, B].flatten = W := by rw [hwl]; simp only [List.flatten_cons, List.flatten_nil, List.append_nil, List.append_assoc]
    have := Concat_any (Sep [pts row (cl [.slice (some ⟨m, 0, none⟩) 16 16, .slice ra (headL 1 B.length).length rc, .slice av B.length cv] 22), pts m (cl (bV (List.replicate 16 0)) 5), slc 5 1 (.slice ra (headL 1 B.length).length rc) (headL 1 B.length).length (bV (headL 1 B.length)), slc 5 1 (.slice av B.length cv) B.length (bV B)]) (.slice (some ⟨row, 0, none⟩) 3 3) [List.replicate 16 0, headL 1 B.length, B]
      ⟨[.slice (some ⟨m, 0, none⟩) 16 16, .slice ra (headL 1 B.length).length rc, .slice av B.length cv], (Vw.pts rfl).mono (Sep_get (i := 0) rfl), rfl, ⟨_, _, rfl, Nat.le_refl 3⟩, fun i x hx => by
        match i, hx with
        | 0, hx => cases hx; exact ⟨_, rfl, ⟨(Vw.pts (b := m) (l := bV (List.replicate 16 0)) (e := 5) rfl).mono (Sep_get (i := 1) rfl), _, _, rfl, by decide⟩⟩
        | 1, hx => cases hx; exact ⟨_, rfl, hb1.mono (Sep_get (i := 2) rfl)⟩
        | 2, hx => cases hx; exact ⟨_, rfl, hb2.mono (Sep_get (i := 3) rfl)⟩
        | k + 3, hx => simp at hx⟩ (by rw [hfl, hWl]; omega) (by show 3 ≤ _; omega)
    rw [hfl] at this
    exact this
  refine K_slcB (bs := B) 1 rfl ?_
  intro hb2
  refine K_adv1 rfl ?_
  refine K_mid 1 (fun y : Option Addr × Nat × Nat => True) (fun y => [(0, ptr jb), (2, ptr xj), (5, ptr xf), (6, ptr xb), (9, ptr y.2.2)]) (fun y => pts y.2.2 (cl [.slice y.1 W.length y.2.1] 22) :: slc 5 1 (.slice y.1 W.length y.2.1) W.length (bV W) :: pts xb (cl [.slice av B.length cv] 22) :: pts xf (cl [.string fresh] 9) :: pts xj (cl [ptr jb] 36) :: diskA bd A :: pts jb (cl [ptr bd, .string name, .int .i64 n, .int .i64 s, .int .i64 c, .bool br] 93) :: V :: F) rfl ?_ ?_
  rotate_left
  · intro tail
    refine K_drawA (fun w => Sat G w ([pts xb (cl [.slice av B.length cv] 22)])) (.st 1 (.st 2 (.st 4 (.fork (.fork (.act 0 (.fork (.act 3 (.fork (.act 5 (.fork (.act 6 (.act 7 (.act 8 .nil))) (.act 7 (.act 6 (.act 8 .nil))))) (.act 7 (.act 5 (.act 6 (.act 8 .nil)))))) (.act 7 (.act 3 (.act 5 (.act 6 (.act 8 .nil))))))) (.act 3 (.fork (.act 0 (.fork (.act 5 (.fork (.act 6 (.act 7 (.act 8 .nil))) (.act 7 (.act 6 (.act 8 .nil))))) (.act 7 (.act 5 (.act 6 (.act 8 .nil)))))) (.act 7 (.act 0 (.act 5 (.act 6 (.act 8 .nil)))))))) (.act 7 (.fork (.act 0 (.act 3 (.act 5 (.act 6 (.act 8 .nil))))) (.act 3 (.act 0 (.act 5 (.act 6 (.act 8 .nil))))))))))) rfl (by kernel_rfl) (by kernel_rfl) (by kernel_rfl) (fun w hw => hw.ent entA) ?_
    repeat' (first
      | refine J_fork ?_ ?_
      | (refine J_makeSlice (U := tab) (p := 16) (q := 16) rfl rfl rfl rfl rfl rfl rfl rfl rfl (by omega) (by omega) (by show 1 * 16 ≤ _; omega) (fun _ w hw => by exact hw.ent entA) ?_; intro m)
      | ((first | refine J_callE rfl rfl rfl rfl (head_any 1 B.length (by omega) (by omega)) entA ?_ (fun _ _ w hp hw => by obtain rfl := hp; exact hw.ent entA) | refine J_call0E rfl rfl rfl (head_any 1 B.length (by omega) (by omega)) entA ?_ (fun _ _ w hp hw => by obtain rfl := hp; exact hw.ent entA)); rintro _ _ rfl; (first | refine J_shape 0 rfl ?_ | refine K_shape 0 rfl ?_); rintro ra rc rfl; refine J_slcB (bs := headL 1 B.length) 0 rfl ?_; intro hb1)
      | (refine J_buildSlice1 (U := tab) rfl rfl rfl rfl rfl rfl rfl rfl rfl (fun _ w hw => by exact hw.ent entA) ?_; intro row)
      | (refine J_alloc (U := tab) rfl rfl rfl (fun _ w hw => by exact hw.ent entA) ?_; intro x9)
      | (refine J_callE rfl rfl rfl rfl (hcon m ra rc row hb1 hb2) (Ent.trans entA (Ent.resep [_, _, _, _] _)) ?_ (fun _ _ w hp hw => by obtain rfl := hp; exact hw.ent entA); rintro _ _ rfl; (first | refine J_shape 0 rfl ?_ | refine K_shape 0 rfl ?_); rintro wa wc rfl)
      | (refine J_isStore ?_; (first | refine J_store (U := tab) 0 (fun _ _ => trivial) rfl rfl rfl rfl rfl rfl rfl rfl rfl ?_ | refine J_store (U := tab) 1 (fun _ _ => trivial) rfl rfl rfl rfl rfl rfl rfl rfl rfl ?_ | refine J_store (U := tab) 2 (fun _ _ => trivial) rfl rfl rfl rfl rfl rfl rfl rfl rfl ?_ | refine J_store (U := tab) 3 (fun _ _ => trivial) rfl rfl rfl rfl rfl rfl rfl rfl rfl ?_); refine J_end ?_; refine K_to tail (wa, wc, x9) rfl trivial (by repeat (first | exact keep_nil | refine keep_cons rfl ?_)) entA)
      | (refine go1 ?_)
      | fail)
  rintro ⟨wa, wc, x9⟩ -
  simp only
  (refine go ?_)
  refine K_drawA (fun w => Sat G w ([pts jb (cl [ptr bd, .string name, .int .i64 n, .int .i64 s, .int .i64 c, .bool br] 93), pts xj (cl [ptr jb] 36), pts xf (cl [.string fresh] 9)])) (.st 0 (.st 1 (.st 2 (.st 3 (.st 4 (.act 5 (.st 6 (.st 7 (.st 8 (.st 9 (.st 10 .nil))))))))))) rfl (by kernel_rfl) (by kernel_rfl) (by kernel_rfl) (fun w hw => hw.ent entA) ?_
  (refine go ?_)
  (first | refine J_callE rfl rfl rfl rfl (Size_dA bd A fresh) entA ?_ (fun _ _ w hp hw => by obtain ⟨rfl, rfl⟩ := hp; exact hw.ent entA) | refine J_call0E rfl rfl rfl (Size_dA bd A fresh) entA ?_ (fun _ _ w hp hw => by obtain ⟨rfl, rfl⟩ := hp; exact hw.ent entA))
  rintro _ _ ⟨rfl, rfl⟩
  (refine go ?_)
  refine K_mid 1 (fun y : Value × List Value => y.2 = if (A.size fresh).2 = 0 then [.func (.func 67) #[] #[ptr xj, ptr xf] ] else []) (fun y => [(0, ptr jb), (2, ptr xj), (5, ptr xf), (6, ptr xb), (9, ptr x9), (10, y.1)]) (fun y => pts xj (cl [ptr jb] 36) :: pts jb (cl [ptr bd, .string name, .int .i64 n, .int .i64 s, .int .i64 c, .bool br] 93) :: slc 46 1 y.1 y.2.length y.2 :: pts x9 (cl [.slice wa W.length wc] 22) :: slc 5 1 (.slice wa W.length wc) W.length (bV W) :: pts xb (cl [.slice av B.length cv] 22) :: pts xf (cl [.string fresh] 9) :: diskA bd A :: V :: F) rfl ?_ ?_
  rotate_left
  · intro tail
    refine K_ent (slc_lift 46 1 none _) ?_
    refine K_condP rfl rfl ?_ ?_
    · intro he
      (refine go ?_)
      refine J_buildSlice1 (U := tab) rfl rfl rfl rfl rfl rfl rfl rfl rfl (fun _ _ _ => trivial) ?_
      intro row
      (refine go ?_)
      refine J_append (U := tab) (mm := 1) (news := [.func (.func 67) #[] #[ptr xj, ptr xf]]) 1 0 rfl rfl rfl rfl rfl rfl rfl rfl rfl rfl rfl rfl (Vw.pts rfl) rfl (by simp [Value.oneCell']) (by omega) (by show (0 + 1) * 8 ≤ _; omega) (fun _ => rfl) (fun _ _ _ => trivial) ?_
      intro v1
      (first | refine J_shape 1 rfl ?_ | refine K_shape 1 rfl ?_)
      rintro va vc rfl
      (refine goR ?_)
      refine K_to tail (.slice va (0 + 1) vc, [.func (.func 67) #[] #[ptr xj, ptr xf] ]) rfl (by rw [if_pos (by omega)]) (by repeat (first | exact keep_nil | refine keep_cons rfl ?_)) entA
    · intro he
      refine K_to tail (.slice none 0 0, []) rfl (by rw [if_neg (by omega)]) (by repeat (first | exact keep_nil | refine keep_cons rfl ?_)) entA
  rintro ⟨sv, fv⟩ hfv
  simp only at hfv ⊢
  (first | refine J_shape 2 rfl ?_ | refine K_shape 2 rfl ?_)
  rintro va vc rfl
  (refine go ?_)
  have hfl : fv.length ≤ 1 := by rw [hfv]; split <;> simp
  refine J_buildSlice1 (U := tab) (cs := [.func (.func 69) #[] #[ptr xj, ptr xf], .func (.func 70) #[] #[ptr xj, ptr xf, ptr x9], .func (.func 71) #[] #[ptr xj, ptr xf], .func (.func 72) #[] #[ptr xj, ptr xf], .func (.func 74) #[ptr bd] #[], .func (.func 75) #[] #[ptr xb, ptr xj] ]) rfl rfl rfl rfl rfl rfl rfl rfl rfl (fun _ _ _ => trivial) ?_
  intro row
  (refine go ?_)
  refine J_append (U := tab) (mm := 6) (news := [.func (.func 69) #[] #[ptr xj, ptr xf], .func (.func 70) #[] #[ptr xj, ptr xf, ptr x9], .func (.func 71) #[] #[ptr xj, ptr xf], .func (.func 72) #[] #[ptr xj, ptr xf], .func (.func 74) #[ptr bd] #[], .func (.func 75) #[] #[ptr xb, ptr xj] ]) 3 0 rfl rfl rfl rfl rfl rfl rfl rfl rfl rfl rfl rfl (Vw.pts rfl) rfl (by simp [Value.oneCell']) (by omega) (by show (_ + 6) * 8 ≤ _; omega) (fun _ => rfl) (fun _ _ _ => trivial) ?_
  intro v1
  refine J_slcVw 3 rfl ?_
  intro hv1
  obtain ⟨fs, hfs⟩ : ∃ fs, fs = fv ++ [.func (.func 69) #[] #[ptr xj, ptr xf], .func (.func 70) #[] #[ptr xj, ptr xf, ptr x9], .func (.func 71) #[] #[ptr xj, ptr xf], .func (.func 72) #[] #[ptr xj, ptr xf], .func (.func 74) #[ptr bd] #[], .func (.func 75) #[] #[ptr xb, ptr xj] ] := ⟨_, rfl⟩
  rw [← hfs] at hv1 ⊢
  have hfsl : fs.length = fv.length + 6 := by rw [hfs, List.length_append]; rfl
  rw [← hfsl] at hv1 ⊢
  have hpl : (putSteps name ls A).length = fs.length := by
    rw [hfsl, hfv]; unfold putSteps; rw [hfr]
    split <;> rfl
  have hWb : W.length ≤ 1000000000 := by omega
  have hst1 : ∀ (i : Nat) (fv : Value) (s : PS → Nat → PS → Prop), fs[i]? = some fv → (putSteps name ls A)[i]? = some s → ∃ g fi cap, fv = .func (.func g) fi cap ∧ ∀ x, PQ i x → Ctr Try.prog g (fi.toList ++ cap.toList) [PI bd jb xj xf x9 xb name fresh wa av wc B.length cv W br x] (fun r H => ∃ (e : Nat) (x' : PS), r = .int .i64 (e : Int) ∧ H = [PI bd jb xj xf x9 xb name fresh wa av wc B.length cv W br x'] ∧ s x e x' ∧ (e = 0 → PQ (i + 1) x')) := by
    intro i f1 s1 h1 h2
    have hi : i < fs.length := (List.getElem?_eq_some_iff.1 h1).1
    have hi10 : i ≤ 10 := by omega
    unfold putSteps at h2
    rw [hfr, ← hW, ← hB] at h2
    rw [hfs, hfv] at h1
    by_cases hz : (A.size fresh).2 = 0
    · rw [if_pos hz] at h1 h2
      match i, h1, h2 with
      | 0, h1, h2 => cases h1; cases h2; exact ⟨_, _, _, rfl, fun x hq => put1_I _ _ _ _ _ _ _ _ _ _ _ _ _ _ _ _ hi10 x hq⟩
      | 1, h1, h2 => cases h1; cases h2; exact ⟨_, _, _, rfl, fun x hq => put2_I _ _ _ _ _ _ _ _ _ _ _ _ _ _ _ _ hi10 x hq⟩
      | 2, h1, h2 => cases h1; cases h2; exact ⟨_, _, _, rfl, fun x hq => put3_I _ _ _ _ _ _ _ _ _ _ _ _ _ _ _ _ hi10 hWb x hq⟩
      | 3, h1, h2 => cases h1; cases h2; exact ⟨_, _, _, rfl, fun x hq => put4_I _ _ _ _ _ _ _ _ _ _ _ _ _ _ _ _ hi10 x hq⟩
      | 4, h1, h2 => cases h1; cases h2; exact ⟨_, _, _, rfl, fun x hq => put5_I _ _ _ _ _ _ _ _ _ _ _ _ _ _ _ _ hi10 x hq⟩
      | 5, h1, h2 => cases h1; cases h2; exact ⟨_, _, _, rfl, fun x hq => putN_I _ _ _ _ _ _ _ _ _ _ _ _ _ _ _ _ x hq⟩
      | 6, h1, h2 => cases h1; cases h2; exact ⟨_, _, _, rfl, fun x hq => put6_I _ _ _ _ _ _ _ _ _ _ _ _ _ _ _ _ x hq⟩
      | k + 7, h1, h2 => simp at h1
    · rw [if_neg hz] at h1 h2
      match i, h1, h2 with
      | 0, h1, h2 => cases h1; cases h2; exact ⟨_, _, _, rfl, fun x hq => put2_I _ _ _ _ _ _ _ _ _ _ _ _ _ _ _ _ hi10 x hq⟩
      | 1, h1, h2 => cases h1; cases h2; exact ⟨_, _, _, rfl, fun x hq => put3_I _ _ _ _ _ _ _ _ _ _ _ _ _ _ _ _ hi10 hWb x hq⟩
      | 2, h1, h2 => cases h1; cases h2; exact ⟨_, _, _, rfl, fun x hq => put4_I _ _ _ _ _ _ _ _ _ _ _ _ _ _ _ _ hi10 x hq⟩
      | 3, h1, h2 => cases h1; cases h2; exact ⟨_, _, _, rfl, fun x hq => put5_I _ _ _ _ _ _ _ _ _ _ _ _ _ _ _ _ hi10 x hq⟩
      | 4, h1, h2 => cases h1; cases h2; exact ⟨_, _, _, rfl, fun x hq => putN_I _ _ _ _ _ _ _ _ _ _ _ _ _ _ _ _ x hq⟩
      | 5, h1, h2 => cases h1; cases h2; exact ⟨_, _, _, rfl, fun x hq => put6_I _ _ _ _ _ _ _ _ _ _ _ _ _ _ _ _ x hq⟩
      | k + 6, h1, h2 => simp at h1
  have hall := all_any (PI bd jb xj xf x9 xb name fresh wa av wc B.length cv W br) (slc 46 1 v1 fs.length fs) v1 fs hv1 (by omega) (putSteps name ls A) hpl PQ hst1 (A, n, s, c) ⟨by simp only; omega, by simp only; omega⟩
  (first | refine J_shape 3 rfl ?_ | refine K_shape 3 rfl ?_)
  rintro va2 vc2 rfl
  (refine go ?_)
  refine J_callE rfl rfl rfl rfl hall (Ent.trans entA (Ent.cons _ (Ent.resep [diskA bd A, pts jb (cl [ptr bd, .string name, .int .i64 n, .int .i64 s, .int .i64 c, .bool br] 93), pts xj (cl [ptr jb] 36), pts xf (cl [.string fresh] 9), pts x9 (cl [.slice wa W.length wc] 22), pts xb (cl [.slice av B.length cv] 22), slc 5 1 (.slice wa W.length wc) W.length (bV W)] _))) ?_ (fun _ _ _ _ _ => trivial)
  rintro _ _ ⟨e, y, rfl, rfl, hr⟩
  refine J_ent (Ent.trans (Ent.pick [1] rfl) (Ent.unsep [diskA bd y.1, pts jb (cl [ptr bd, .string name, .int .i64 y.2.1, .int .i64 y.2.2.1, .int .i64 y.2.2.2, .bool br] 93), pts xj (cl [ptr jb] 36), pts xf (cl [.string fresh] 9), pts x9 (cl [.slice wa W.length wc] 22), pts xb (cl [.slice av B.length cv] 22), slc 5 1 (.slice wa W.length wc) W.length (bV W)] _)) ?_
  (refine go ?_)
  (first | refine K_return hE Try.func44 rfl _ rfl ⟨e, y, rfl, rfl, hr⟩ entA | refine K_fallEnd hE Try.func44 rfl _ rfl ⟨e, y, rfl, rfl, hr⟩ entA)
end Go.Proofs.Ytpdmbmnhgcnelaa

/- journal, part i: may, breaks, Size, Append. -/
set_option linter.unusedVariables false
set_option linter.unusedSimpArgs false
namespace Go.Proofs.Ytpdmbmnhgcnelaa
open Go Go.SL
attribute [local irreducible] J K Ctr Ends pts slc mapR mapI sbRow stock arrS loopP CtrY diskA

theorem may_new (name : ByteArray) (f : Nat) : ((Ab.new 1).create (isName name) name f).1 = if isName name then 0 else 1 := by
  cases h : isName name <;> simp [Ab.create, Ab.meet, Ab.new, Ab.look, Ab.lookIn]
theorem may_any (name : ByteArray) : Ctr Try.prog 38 [.string name] [] (fun r H => r = .bool (isName name) ∧ H = []) := by
  refine Ctr.enter Try.func38 (by kernel_rfl) rfl Try.ntmps38 rfl rfl ?_
  intro G F R hE
  (refine go ?_)
  (first | refine J_callE rfl rfl rfl rfl (New_dA 1 (by omega) (by omega)) entA ?_ (fun _ _ _ _ _ => trivial) | refine J_call0E rfl rfl rfl (New_dA 1 (by omega) (by omega)) entA ?_ (fun _ _ _ _ _ => trivial) | (refine go ?_; first | refine J_callE rfl rfl rfl rfl (New_dA 1 (by omega) (by omega)) entA ?_ (fun _ _ _ _ _ => trivial) | refine J_call0E rfl rfl rfl (New_dA 1 (by omega) (by omega)) entA ?_ (fun _ _ _ _ _ => trivial)))
  rintro _ _ ⟨bd, rfl, rfl⟩
  (refine go ?_)
  (first | refine J_callE rfl rfl rfl rfl (Create_dA bd (Ab.new 1) name (by simp [Ab.new])) entA ?_ (fun _ _ _ _ _ => trivial) | refine J_call0E rfl rfl rfl (Create_dA bd (Ab.new 1) name (by simp [Ab.new])) entA ?_ (fun _ _ _ _ _ => trivial) | (refine go ?_; first | refine J_callE rfl rfl rfl rfl (Create_dA bd (Ab.new 1) name (by simp [Ab.new])) entA ?_ (fun _ _ _ _ _ => trivial) | refine J_call0E rfl rfl rfl (Create_dA bd (Ab.new 1) name (by simp [Ab.new])) entA ?_ (fun _ _ _ _ _ => trivial)))
  rintro _ _ ⟨f, hf, rfl, rfl⟩
  rw [may_new]
  (refine go ?_)
  (first | refine J_slot 2 ((.bool (isName name))) rfl ((congrArg Value.bool (by cases isName name <;> rfl))) ?_ | refine K_slot 2 ((.bool (isName name))) rfl ((congrArg Value.bool (by cases isName name <;> rfl))) ?_)
  refine K_ent (Ent.drop _ _) ?_
  (first | refine K_return hE Try.func38 rfl _ rfl ⟨rfl, rfl⟩ entA | refine K_fallEnd hE Try.func38 rfl _ rfl ⟨rfl, rfl⟩ entA)
theorem breaks_any (jb bd : Nat) (name : ByteArray) (n s c : Int) (br : Bool) (e : Nat) : Ctr Try.prog 51 [ptr jb, .int .i64 (e : Int)] [jr jb bd name n s c br] (fun r H => r = .int .i64 (e : Int) ∧ H = [jr jb bd name n s c (br || decide (e ≠ 0))]) := by
  unfold jr
  refine Ctr.enter Try.func51 (by kernel_rfl) rfl Try.ntmps51 rfl rfl ?_
  intro G F R hE
  cases br
  · (refine go ?_)
    have hd : decide ((e : Int) ≠ 0) = (false || decide (e ≠ 0)) := by by_cases h : e = 0 <;> simp [h]
    simp only [hd]
    (first | refine K_return hE Try.func51 rfl _ rfl ⟨rfl, rfl⟩ entA | refine K_fallEnd hE Try.func51 rfl _ rfl ⟨rfl, rfl⟩ entA)
  · (refine go ?_)
    (first | refine K_return hE Try.func51 rfl _ rfl ⟨rfl, rfl⟩ entA | refine K_fallEnd hE Try.func51 rfl _ rfl ⟨rfl, rfl⟩ entA)
theorem JSize_any (jb bd : Nat) (name : ByteArray) (n s c : Int) (br : Bool) : Ctr Try.prog 21 [ptr jb] [jr jb bd name n s c br] (fun r H => r = .int .i64 s ∧ H = [jr jb bd name n s c br]) := by
  unfold jr
  refine Ctr.enter Try.func21 (by kernel_rfl) rfl Try.ntmps21 rfl rfl ?_
  intro G F R hE
  (refine go ?_)
  (first | refine K_return hE Try.func21 rfl _ rfl ⟨rfl, rfl⟩ entA | refine K_fallEnd hE Try.func21 rfl _ rfl ⟨rfl, rfl⟩ entA)
/-- A journal's numbers. -/
structure JN where
  n : Int
  s : Int
  c : Int
  br : Bool
def jrN (jb bd : Nat) (name : ByteArray) (x : JN) : HP := jr jb bd name x.n x.s x.c x.br
def appendA (name : ByteArray) (A : Ab) (x : JN) (b : List UInt8) : Nat × Ab × JN :=
  if x.br then (10, A, x) else if 4096 < b.length then (1, A, x) else if 524288 < x.s + (encL b).length then (3, A, x) else
  if (A.write (mayW name (32 + x.s) (encL b)) name (32 + x.s).toNat (encL b)).1 = 0 then (0, (A.write (mayW name (32 + x.s) (encL b)) name (32 + x.s).toNat (encL b)).2, { x with s := x.s + (encL b).length })
  else ((A.write (mayW name (32 + x.s) (encL b)) name (32 + x.s).toNat (encL b)).1, (A.write (mayW name (32 + x.s) (encL b)) name (32 + x.s).toNat (encL b)).2, { x with br := true })
theorem encL_len (b : List UInt8) (h : b.length ≤ 1000000000000) : (encL b).length ≤ b.length + 10 := by
  have := uv_len10 (n := b.length) (by omega)
  simp [encL]; omega
/-- A journal, broken or not. -/
def jrE (jb bd : Nat) (name : ByteArray) (n s c : Int) : HP := fun h => ∃ br, pts jb (cl [ptr bd, .string name, .int .i64 n, .int .i64 s, .int .i64 c, .bool br] 93) h
theorem jrE_in (jb bd : Nat) (name : ByteArray) (n s c : Int) (br : Bool) (H : List HP) : Ent (pts jb (cl [ptr bd, .string name, .int .i64 n, .int .i64 s, .int .i64 c, .bool br] 93) :: H) (jrE jb bd name n s c :: H) :=
  Ent.fold (B := [_]) fun h' hs => ⟨h', sub.refl h', br, Sep_one hs⟩
end Go.Proofs.Ytpdmbmnhgcnelaa
namespace Go.Proofs.Ytpdmbmnhgcnelaa
open Go Go.SL
theorem jrE_cell {G : Glob} {w : World} {jb bd : Nat} {name : ByteArray} {n s c : Int} (hw : Sat G w [jrE jb bd name n s c]) : w.cell? ⟨jb, 0, none⟩ = some (ptr bd) ∧ w.cell? ⟨jb, 1, none⟩ = some (.string name) ∧ w.cell? ⟨jb, 3, none⟩ = some (.int .i64 s) := by
  obtain ⟨h, hh, br, hA⟩ := hw.getA (i := 0) rfl
  have hb : h jb = some (cl [ptr bd, .string name, .int .i64 n, .int .i64 s, .int .i64 c, .bool br] 93) := by rw [hA jb, if_pos rfl]
  exact ⟨cell_of_hcell hh (by unfold hcell; rw [hb]; rfl), cell_of_hcell hh (by unfold hcell; rw [hb]; rfl), cell_of_hcell hh (by unfold hcell; rw [hb]; rfl)⟩
attribute [local irreducible] J K Ctr Ends pts slc mapR mapI sbRow stock arrS loopP CtrY diskA
set_option maxRecDepth 20000 in
theorem Append_any (jb bd : Nat) (name : ByteArray) (A : Ab) (x : JN) (X : HP) (bv : Value) (b : List UInt8) (hv : BAt X bv b) (hl : b.length ≤ 9223372036854775807) (hs : 0 ≤ x.s ∧ x.s ≤ 1000000000) (hwl : A.writes.length ≤ 1000000000) :
    Ctr Try.prog 18 [ptr jb, bv] [diskA bd A, jrN jb bd name x, X]
      (fun r H => r = .int .i64 ((appendA name A x b).1 : Int) ∧ H = [diskA bd (appendA name A x b).2.1, jrN jb bd name (appendA name A x b).2.2, X]) := by
  obtain ⟨n, s, c, br⟩ := x
  obtain ⟨a, cc, rfl, hc⟩ := hv.2
  simp only at hs
  dsimp only [jrN, jr]
  refine Ctr.enter Try.func18 (by kernel_rfl) rfl Try.ntmps18 rfl rfl ?_
  intro G F R hE
  dsimp only [appendA] at hE
  cases br with
  | true =>
    simp only [if_true] at hE
    (refine go ?_)
    (first | refine K_return hE Try.func18 rfl _ rfl ⟨rfl, rfl⟩ entA | refine K_fallEnd hE Try.func18 rfl _ rfl ⟨rfl, rfl⟩ entA)
  | false =>
    simp only [Bool.false_eq_true, if_false] at hE
    (refine go ?_)
    refine K_condP rfl rfl ?_ ?_
    · intro hbig
      rw [if_pos (by omega)] at hE
      (refine go ?_)
      (first | refine K_return hE Try.func18 rfl _ rfl ⟨rfl, rfl⟩ entA | refine K_fallEnd hE Try.func18 rfl _ rfl ⟨rfl, rfl⟩ entA)
    intro hsm
    have hb4 : b.length ≤ 4096 := by omega
    have hel := encL_len b (by omega)
    rw [if_neg (by omega)] at hE
    (refine go ?_)
    (first | refine J_callE rfl rfl rfl rfl (encoded_any X _ b hv (by omega)) entA ?_ (fun _ _ _ _ _ => trivial) | refine J_call0E rfl rfl rfl (encoded_any X _ b hv (by omega)) entA ?_ (fun _ _ _ _ _ => trivial) | (refine go ?_; first | refine J_callE rfl rfl rfl rfl (encoded_any X _ b hv (by omega)) entA ?_ (fun _ _ _ _ _ => trivial) | refine J_call0E rfl rfl rfl (encoded_any X _ b hv (by omega)) entA ?_ (fun _ _ _ _ _ => trivial)))
    rintro r _ rfl
    (first | refine J_shape 0 rfl ?_ | refine K_shape 0 rfl ?_)
    rintro ra rc rfl
    refine J_slcB (bs := encL b) 0 rfl ?_
    intro hbr
    (refine go ?_)
    refine K_condP rfl rfl ?_ ?_
    · intro hbig
      rw [if_pos (by omega)] at hE
      (refine go ?_)
      (first | refine K_return hE Try.func18 rfl _ rfl ⟨rfl, rfl⟩ entA | refine K_fallEnd hE Try.func18 rfl _ rfl ⟨rfl, rfl⟩ entA)
    intro hfit
    rw [if_neg (by omega)] at hE
    (refine go ?_)
    refine K_drawA (fun w => Sat G w [jrE jb bd name n s c]) (.st 0 (.st 1 (.st 2 (.st 3 (.st 4 (.st 5 (.st 6 (.st 7 (.st 8 (.st 9 (.st 10 (.st 11 (.st 12 (.st 13 (.st 14 (.act 15 (.act 16 (.st 17 .nil)))))))))))))))))) rfl (by kernel_rfl) (by kernel_rfl) (by kernel_rfl) (fun w hw => hw.ent (Ent.trans entA (jrE_in jb bd name n s c false []))) ?_
    (refine go ?_)
    refine J_isLoad ?_
    refine J_loadS (U := tab) rfl rfl (fun w hw => (jrE_cell hw).1) rfl rfl ?_
    (refine go ?_)
    refine J_isLoad ?_
    refine J_loadS (U := tab) rfl rfl (fun w hw => (jrE_cell hw).2.1) rfl rfl ?_
    (refine go ?_)
    refine J_isLoad ?_
    refine J_loadS (U := tab) rfl rfl (fun w hw => (jrE_cell hw).2.2) rfl rfl ?_
    (refine go ?_)
    obtain ⟨W, hW⟩ : ∃ W, W = A.write (mayW name (32 + s) (encL b)) name (32 + s).toNat (encL b) := ⟨_, rfl⟩
    have hwr := Write_dA bd A name (32 + s) (slc 5 1 (.slice ra (encL b).length rc) (encL b).length (bV (encL b))) (.slice ra (encL b).length rc) (encL b) hbr.1 hwl (by omega) (by omega)
    rw [← hW] at hE hwr
    refine J_callE rfl rfl rfl rfl hwr entA ?_ (fun _ _ w hp hw => by obtain ⟨rfl, rfl⟩ := hp; exact hw.ent (Ent.trans entA (jrE_in jb bd name n s c false [])))
    rintro _ _ ⟨rfl, rfl⟩
    refine J_callE rfl rfl rfl rfl (breaks_any jb bd name n s c false W.1) entA ?_ (fun _ _ w hp hw => by obtain ⟨rfl, rfl⟩ := hp; exact hw.ent (Ent.trans entA (jrE_in jb bd name n s c _ [])))
    rintro _ _ ⟨rfl, rfl⟩
    unfold jr
    (refine go ?_)
    refine K_condP rfl rfl ?_ ?_
    · intro hne
      have hne' : ¬ W.1 = 0 := by omega
      rw [if_neg hne'] at hE
      have hd : (false || decide (W.1 ≠ 0)) = true := by simp [hne']
      simp only [hd]
      (refine go ?_)
      (first | refine K_return hE Try.func18 rfl _ rfl ⟨rfl, rfl⟩ entA | refine K_fallEnd hE Try.func18 rfl _ rfl ⟨rfl, rfl⟩ entA)
    · intro heq
      have heq' : W.1 = 0 := by omega
      rw [if_pos heq'] at hE
      have hd : (false || decide (W.1 ≠ 0)) = false := by simp [heq']
      simp only [hd]
      (refine go ?_)
      (first | refine K_return hE Try.func18 rfl _ rfl ⟨rfl, rfl⟩ entA | refine K_fallEnd hE Try.func18 rfl _ rfl ⟨rfl, rfl⟩ entA)
end Go.Proofs.Ytpdmbmnhgcnelaa

