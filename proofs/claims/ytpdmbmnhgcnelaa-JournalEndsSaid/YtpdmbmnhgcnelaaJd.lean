/- journal, part d: records. -/
import Derived.Test.YtpdmbmnhgcnelaaJc
import Derived.Test.YtpdmbmnhgcnelaaEngN
set_option linter.unusedVariables false
set_option linter.unusedSimpArgs false
namespace Go.Proofs.Ytpdmbmnhgcnelaa
open Go Go.SL
attribute [local irreducible] J K Ctr Ends pts slc mapR mapI sbRow stock arrS loopP CtrY

theorem longA_pos {bs : List UInt8} {k n : Nat} (h : longA bs = some (k, n)) : 1 ≤ k ∧ k ≤ 2 ∧ k ≤ bs.length ∧ n < 16384 := by
  unfold longA at h
  split at h
  · rename_i h1
    split at h
    · rename_i m hm
      cases h
      exact ⟨by omega, by omega, h1, toUint_small hm (by rw [List.length_take]; omega)⟩
    · split at h
      · rename_i h2
        cases hu : toUintA (bs.take 2) with
        | none => rw [hu] at h; cases h
        | some m =>
          rw [hu] at h
          cases h
          exact ⟨by omega, by omega, h2, toUint_small hu (by rw [List.length_take]; omega)⟩
      · cases h
  · cases h
/-- The records with which bytes begin. -/
def recordsL : Nat → List UInt8 → List (List UInt8)
  | 0, _ => []
  | f + 1, bs => match longA bs with
    | none => []
    | some (k, n) => if n ≤ 4096 ∧ k + n ≤ bs.length then (bs.drop k).take n :: recordsL f (bs.drop (k + n)) else []
theorem recordsL_fuel : ∀ (f g : Nat) (bs : List UInt8), bs.length ≤ f → bs.length ≤ g → recordsL f bs = recordsL g bs
  | 0, 0, _, _, _ => rfl
  | 0, g + 1, bs, hf, _ => by
    have : bs = [] := List.eq_nil_of_length_eq_zero (by omega)
    subst this; rfl
  | f + 1, 0, bs, _, hg => by
    have : bs = [] := List.eq_nil_of_length_eq_zero (by omega)
    subst this; rfl
  | f + 1, g + 1, bs, hf, hg => by
    unfold recordsL
    split
    · rfl
    · rename_i k n hl
      have := longA_pos hl
      split
      · rw [recordsL_fuel f g _ (by rw [List.length_drop]; omega) (by rw [List.length_drop]; omega)]
      · rfl
def recordsA (bs : List UInt8) : List (List UInt8) := recordsL bs.length bs
theorem recordsA_none {bs : List UInt8} (h : longA bs = none) : recordsA bs = [] := by
  unfold recordsA
  cases hl : bs.length with
  | zero => rfl
  | succ f => unfold recordsL; rw [h]
theorem recordsA_bad {bs : List UInt8} {k n : Nat} (h : longA bs = some (k, n)) (hb : ¬ (n ≤ 4096 ∧ k + n ≤ bs.length)) : recordsA bs = [] := by
  unfold recordsA
  cases hl : bs.length with
  | zero => rfl
  | succ f => unfold recordsL; rw [h]; simp only; rw [if_neg hb]
theorem recordsA_cons {bs : List UInt8} {k n : Nat} (h : longA bs = some (k, n)) (hb : n ≤ 4096 ∧ k + n ≤ bs.length) : recordsA bs = (bs.drop k).take n :: recordsA (bs.drop (k + n)) := by
  have h1 := longA_pos h
  unfold recordsA
  obtain ⟨f, hf⟩ : ∃ f, bs.length = f + 1 := ⟨bs.length - 1, by omega⟩
  rw [hf]
  show recordsL (f + 1) bs = _
  rw [recordsL, h]
  simp only
  rw [if_pos hb, recordsL_fuel f _ _ (by rw [List.length_drop]; omega) (Nat.le_refl _)]

theorem records_any (a : Option Addr) (n c : Nat) : Ctr Try.prog 42 [.slice a n c] [] (fun r H => ∃ b, r = .func (.func 62) #[] #[ptr b] ∧ H = [pts b (cl [.slice a n c] 22)]) := by
  refine Ctr.enter Try.func42 (by kernel_rfl) rfl Try.ntmps42 rfl rfl ?_
  intro G F R hE
  (refine go ?_)
  refine J_box rfl rfl (fun _ _ _ => trivial) ?_
  intro b
  (refine go ?_)
  (first | refine K_return hE Try.func42 rfl _ rfl ⟨b, rfl, rfl⟩ entA | refine K_fallEnd hE Try.func42 rfl _ rfl ⟨b, rfl, rfl⟩ entA)

set_option maxRecDepth 20000 in
theorem records1_any (A : HP) (l bx : Nat) (v : Value) (bs : List UInt8) (hv : BAt A v bs) (hl : bs.length ≤ 1000000000) (Lp : HP) (Inv : Nat → HP)
    (hy : ∀ i x, (recordsA bs)[i]? = some x → ∀ r, CtrY Try.prog l [r] [Lp, Inv i, slc 5 1 r x.length (bV x)] (fun v H => v = .bool true ∧ H = [Lp, Inv (i + 1)])) :
    Ctr Try.prog 62 [.func (.yield l) #[] #[], ptr bx] [Lp, pts bx (cl [v] 22), A, Inv 0] (fun _ H => ∃ v', H = [Lp, pts bx (cl [v'] 22), A, Inv (recordsA bs).length]) := by
  refine Ctr.enter Try.func62 (by kernel_rfl) rfl Try.ntmps62 rfl rfl ?_
  intro G F R hE
  (refine go ?_)
  refine K_loop (fun y : Value × List UInt8 × Nat => BAt A y.1 y.2.1 ∧ y.2.1.length ≤ bs.length ∧ recordsA y.2.1 = (recordsA bs).drop y.2.2 ∧ y.2.2 ≤ (recordsA bs).length) (fun y => y.2.1.length)
    (fun _ => [(0, .func (.yield l) #[] #[]), (1, ptr bx)])
    (fun y => [Lp, pts bx (cl [y.1] 22), A, Inv y.2.2] ++ F) (v, bs, 0) ⟨hv, Nat.le_refl _, by simp, Nat.zero_le _⟩ rfl (by repeat (first | exact keep_nil | refine keep_cons rfl ?_)) entA ?_
  rintro ⟨v1, rest, i⟩ ⟨hv1, hr1, hr2, hr3⟩ ih
  simp only at hv1 hr1 hr2 hr3
  have hfin : recordsA rest = [] → i = (recordsA bs).length := fun h => by
    rw [hr2] at h
    have : (recordsA bs).length ≤ i := by simpa using h
    omega
  obtain ⟨a, c, rfl, hc⟩ := hv1.2
  (refine go ?_)
  (first | refine J_callE rfl rfl rfl rfl (long_any A _ rest hv1 (by omega)) entA ?_ (fun _ _ _ _ _ => trivial) | refine J_call0E rfl rfl rfl (long_any A _ rest hv1 (by omega)) entA ?_ (fun _ _ _ _ _ => trivial) | (refine go ?_; first | refine J_callE rfl rfl rfl rfl (long_any A _ rest hv1 (by omega)) entA ?_ (fun _ _ _ _ _ => trivial) | refine J_call0E rfl rfl rfl (long_any A _ rest hv1 (by omega)) entA ?_ (fun _ _ _ _ _ => trivial)))
  rintro _ _ ⟨rfl, rfl⟩
  cases hlo : longA rest with
  | none =>
    obtain rfl := hfin (recordsA_none hlo)
    (refine go ?_)
    (first | refine K_return hE Try.func62 rfl _ rfl ⟨_, rfl⟩ entA | refine K_fallEnd hE Try.func62 rfl _ rfl ⟨_, rfl⟩ entA)
  | some kn =>
    obtain ⟨k, n⟩ := kn
    have hp := longA_pos hlo
    by_cases hn : n ≤ 4096
    case neg =>
      have hend : recordsA rest = [] := recordsA_bad hlo (by omega)
      obtain rfl := hfin hend
      have hd : decide (n ≤ 4096) = false := decide_eq_false hn
      simp only [hd]
      (refine go ?_)
      (first | refine K_return hE Try.func62 rfl _ rfl ⟨_, rfl⟩ entA | refine K_fallEnd hE Try.func62 rfl _ rfl ⟨_, rfl⟩ entA)
    have hd : decide (n ≤ 4096) = true := decide_eq_true hn
    simp only [hd]
    (refine go ?_)
    by_cases hk : (rest.length : Int) < (k : Int) + n
    case pos =>
      obtain rfl := hfin (recordsA_bad hlo (by omega))
      have hd2 : decide ((rest.length : Int) < (k : Int) + n) = true := decide_eq_true hk
      simp only [hd2]
      (refine go ?_)
      (first | refine K_return hE Try.func62 rfl _ rfl ⟨_, rfl⟩ entA | refine K_fallEnd hE Try.func62 rfl _ rfl ⟨_, rfl⟩ entA)
    have hd2 : decide ((rest.length : Int) < (k : Int) + n) = false := decide_eq_false hk
    simp only [hd2]
    have hcons := recordsA_cons hlo ⟨hn, by omega⟩
    obtain ⟨x, hx⟩ : ∃ x, x = (rest.drop k).take n := ⟨_, rfl⟩
    have hxl : x.length = n := by rw [hx, List.length_take, List.length_drop]; omega
    rw [← hx] at hcons
    have hget : (recordsA bs)[i]? = some x := by
      have := congrArg (fun l => l[0]?) hr2
      simp only [List.getElem?_drop, hcons] at this
      simpa using this.symm
    have hnext : recordsA (rest.drop (k + n)) = (recordsA bs).drop (i + 1) := by
      have := congrArg (fun l => l.drop 1) hr2
      simp only [hcons, List.drop_drop] at this
      simpa using this
    have hi1 : i + 1 ≤ (recordsA bs).length := by
      have := (List.getElem?_eq_some_iff.1 hget).1
      omega
    have hpc := hv1.piece k (k + n) (by omega) (by omega)
    rw [show k + n - k = n from by omega, ← hx] at hpc
    (refine go ?_)
    refine J_sliceAny (U := tab) (p := (k : Int)) (q := ((k + n : Nat) : Int)) rfl rfl rfl rfl rfl rfl rfl (by omega) (by omega) (.inr (by omega)) ?_
    refine J_slot 29 (.slice (sliceAt a c k 1) n (c - k)) rfl (by rw [show ((k : Int)).toNat = k from by omega, show (((k + n : Nat) : Int)).toNat = k + n from by omega, show k + n - k = n from by omega]; rfl) ?_
    (refine go ?_)
    (first | refine J_callE rfl rfl rfl rfl (Clone_bytes A _ x hpc.1 (by omega)) entA ?_ (fun _ _ _ _ _ => trivial) | refine J_call0E rfl rfl rfl (Clone_bytes A _ x hpc.1 (by omega)) entA ?_ (fun _ _ _ _ _ => trivial) | (refine go ?_; first | refine J_callE rfl rfl rfl rfl (Clone_bytes A _ x hpc.1 (by omega)) entA ?_ (fun _ _ _ _ _ => trivial) | refine J_call0E rfl rfl rfl (Clone_bytes A _ x hpc.1 (by omega)) entA ?_ (fun _ _ _ _ _ => trivial)))
    rintro r _ rfl
    (refine go ?_)
    refine J_yield rfl rfl rfl (hy i x hget r) entA ?_ (fun _ _ _ _ _ => trivial)
    rintro _ _ ⟨rfl, rfl⟩
    (refine go ?_)
    refine J_sliceAny (U := tab) (p := ((k + n : Nat) : Int)) (q := (rest.length : Int)) rfl rfl rfl rfl rfl rfl rfl (by omega) (by omega) (.inl rfl) ?_
    have hcut := hv1.cut (k + n) (by omega)
    refine J_slot 38 (.slice (sliceAt a c (k + n) 1) (rest.length - (k + n)) (c - (k + n))) rfl (by rw [show (((k + n : Nat) : Int)).toNat = k + n from by omega, show ((rest.length : Int)).toNat = rest.length from by omega]; rfl) ?_
    (refine go ?_)
    refine K_again ih (.slice (sliceAt a c (k + n) 1) (rest.length - (k + n)) (c - (k + n)), rest.drop (k + n), i + 1) rfl (⟨hcut, by simp only [List.length_drop]; omega, hnext, hi1⟩) (by simp only [List.length_drop]; omega) (by repeat (first | exact keep_nil | refine keep_cons rfl ?_)) entA
end Go.Proofs.Ytpdmbmnhgcnelaa

/- journal, part e: Grow, Concat; the steps of put. -/
set_option linter.unusedVariables false
set_option linter.unusedSimpArgs false
namespace Go.Proofs.Ytpdmbmnhgcnelaa
open Go Go.SL

theorem slc_zero {e : TypeId} {sz n c : Nat} {a : Option Addr} {cs : List Value} (H : List HP) : Ent (slc e sz (.slice a n c) n cs :: H) (slc e sz (.slice (sliceAt a c 0 sz) 0 c) 0 [] :: H) :=
  Ent.fold (A := slc e sz (.slice (sliceAt a c 0 sz) 0 c) 0 []) (B := [slc e sz (.slice a n c) n cs]) fun h hs => by
    refine ⟨h, sub.refl h, ?_⟩
    obtain ⟨hl, ⟨a', he, hn, hem⟩ | ⟨b, o, cap, pre, junk, he, hp, hn, hc, hpt⟩⟩ := Sep_one hs
    · simp only [Value.slice.injEq] at he
      obtain ⟨rfl, rfl, rfl⟩ := he
      exact ⟨by simp, .inl ⟨_, rfl, rfl, hem⟩⟩
    · simp only [Value.slice.injEq] at he
      obtain ⟨rfl, -, rfl⟩ := he
      refine ⟨by simp, .inr ⟨b, o, c, pre, cs ++ junk, ?_, hp, Nat.zero_le _, by rw [List.length_append]; simpa using hc, by simpa using hpt⟩⟩
      unfold sliceAt
      split
      · rfl
      · simp [Addr.add]
attribute [local irreducible] J K Ctr Ends pts slc mapR mapI sbRow stock arrS loopP CtrY
theorem slices_len (ls : List (List UInt8)) (i : Nat) : ((ls.take i).flatten).length ≤ ls.flatten.length := by
  conv => rhs; rw [← List.take_append_drop i ls, List.flatten_append, List.length_append]
  omega
theorem Grow_any (n : Nat) (hn : n ≤ 1000000000) : Ctr Try.prog 91 [.slice none 0 0, .int .i64 (n : Int)] [] (fun r H => H = [slc 5 1 r 0 []]) := by
  refine Ctr.enter Try.func91 (by kernel_rfl) rfl Try.ntmps91 rfl rfl ?_
  intro G F R hE
  (repeat (first | refine go1 ?_ | refine J_fork ?_ ?_ | refine J_cap (U := tab) rfl rfl rfl rfl ?_))
  (first | refine J_slot 1 ((.int .i64 (n : Int))) rfl ((congrArg (Value.int .i64) (by omega))) ?_ | refine K_slot 1 ((.int .i64 (n : Int))) rfl ((congrArg (Value.int .i64) (by omega))) ?_)
  refine K_condP rfl rfl ?_ ?_
  · intro hpos
    have hp : 0 < n := by omega
    (repeat (first | refine go1 ?_ | refine J_fork ?_ ?_ | refine J_cap (U := tab) rfl rfl rfl rfl ?_))
    refine J_sliceAny (U := tab) (p := 0) (q := 0) rfl rfl rfl rfl rfl rfl rfl (by omega) (by omega) (.inr (by omega)) ?_
    refine J_slot 20 (.slice none 0 0) rfl rfl ?_
    refine J_ent (slc_lift 5 1 none _) ?_
    refine J_slcVw 0 rfl ?_
    intro hv0
    (refine go ?_)
    refine J_appendZ (U := tab) (mm := n) (cs := []) 0 rfl rfl rfl rfl rfl rfl rfl rfl rfl rfl rfl rfl hv0 rfl (by omega) hp (by omega) (by show _ * 1 ≤ _; omega) (by show _ * 1 ≤ _; omega) (fun _ _ _ => trivial) ?_
    intro v'
    (first | refine J_shape 0 rfl ?_ | refine K_shape 0 rfl ?_)
    rintro a' c' rfl
    (refine go ?_)
    refine J_sliceAny (U := tab) (p := 0) (q := 0) rfl rfl rfl rfl rfl rfl rfl (by omega) (by omega) (.inr (by omega)) ?_
    refine J_slot 25 (.slice (sliceAt a' c' 0 1) 0 c') rfl rfl ?_
    refine J_ent (slc_zero _) ?_
    (refine go ?_)
    (first | refine K_return hE Try.func91 rfl _ rfl rfl entA | refine K_fallEnd hE Try.func91 rfl _ rfl rfl entA)
  · intro hz
    have hz0 : n = 0 := by omega
    subst hz0
    (refine go ?_)
    refine K_ent (slc_lift 5 1 none _) ?_
    (first | refine K_return hE Try.func91 rfl _ rfl rfl entA | refine K_fallEnd hE Try.func91 rfl _ rfl rfl entA)
/-- A slice of slices of bytes, that stands in A with all that it tells. -/
def LAt (A : HP) (v : Value) (ls : List (List UInt8)) : Prop := ∃ cs : List Value, Vw A v ls.length cs ∧ cs.length = ls.length ∧ (∃ a c, v = .slice a ls.length c ∧ ls.length ≤ c) ∧ ∀ (i : Nat) (x : List UInt8), ls[i]? = some x → ∃ cv, cs[i]? = some cv ∧ BAt A cv x
theorem Concat_any (A : HP) (v : Value) (ls : List (List UInt8)) (hv : LAt A v ls) (hl : ls.flatten.length ≤ 1000000000) (hn : ls.length ≤ 1000000000) : Ctr Try.prog 66 [v] [A] (fun r H => H = [slc 5 1 r ls.flatten.length (bV ls.flatten), A]) := by
  obtain ⟨cs, hvw, hcl, ⟨a, c, rfl, hc⟩, hel⟩ := hv
  refine Ctr.enter Try.func66 (by kernel_rfl) rfl Try.ntmps66 rfl rfl ?_
  intro G F R hE
  (refine go ?_)
  refine K_loop (fun i : Nat => i ≤ ls.length) (fun i => ls.length - i)
    (fun i => [(0, .slice a ls.length c), (9, .slice a ls.length c), (10, .int .i64 (ls.length : Int)), (11, .int .i64 (i : Int)), (3, .int .i64 (((ls.take i).flatten.length : Nat) : Int))])
    (fun _ => A :: F) 0 (Nat.zero_le _) rfl (by repeat (first | exact keep_nil | refine keep_cons rfl ?_)) entA ?_
  rintro i hi ih
  (refine go ?_)
  refine K_condP rfl rfl ?_ ?_
  · intro hlt
    have hil : i < ls.length := by omega
    obtain ⟨x, hx⟩ : ∃ x, ls[i]? = some x := ⟨ls[i], List.getElem?_eq_getElem hil⟩
    obtain ⟨cv, hcv, hb⟩ := hel i x hx
    obtain ⟨b0, o0, c0, he0⟩ := hvw.some (by intro h; rw [h] at hcv; simp at hcv)
    simp only [Value.slice.injEq] at he0
    obtain ⟨rfl, -, rfl⟩ := he0
    (refine go ?_)
    refine J_at1 (U := tab) i rfl rfl rfl rfl rfl rfl rfl rfl hil ?_
    obtain ⟨ax, cx, rfl, hcx⟩ := hb.2
    have hsum : (ls.take (i + 1)).flatten.length = (ls.take i).flatten.length + x.length := by rw [List.take_add_one, hx]; simp
    have hle := slices_len ls (i + 1)
    refine J_loadAt (U := tab) 0 i rfl rfl rfl hvw rfl hcv rfl rfl ?_
    (refine go ?_)
    (first | refine J_slot 3 ((.int .i64 (((ls.take (i + 1)).flatten.length : Nat) : Int))) rfl ((congrArg (Value.int .i64) (by omega))) ?_ | refine K_slot 3 ((.int .i64 (((ls.take (i + 1)).flatten.length : Nat) : Int))) rfl ((congrArg (Value.int .i64) (by omega))) ?_)
    refine K_again ih (i + 1) rfl (by omega) (by omega) (by repeat (first | exact keep_nil | refine keep_cons rfl ?_)) entA
  intro hge
  have hi' : i = ls.length := by omega
  subst hi'
  rw [List.take_length]
  (first | refine J_callE rfl rfl rfl rfl (Grow_any ls.flatten.length hl) entA ?_ (fun _ _ _ _ _ => trivial) | refine J_call0E rfl rfl rfl (Grow_any ls.flatten.length hl) entA ?_ (fun _ _ _ _ _ => trivial) | (refine go ?_; first | refine J_callE rfl rfl rfl rfl (Grow_any ls.flatten.length hl) entA ?_ (fun _ _ _ _ _ => trivial) | refine J_call0E rfl rfl rfl (Grow_any ls.flatten.length hl) entA ?_ (fun _ _ _ _ _ => trivial)))
  rintro gv _ rfl
  (first | refine J_shape 0 rfl ?_ | refine K_shape 0 rfl ?_)
  rintro ga gc rfl
  (refine go ?_)
  refine K_loop (fun i : Value × Nat => i.2 ≤ ls.length) (fun i => ls.length - i.2)
    (fun i => [(0, .slice a ls.length c), (25, .slice a ls.length c), (26, .int .i64 (ls.length : Int)), (27, .int .i64 (i.2 : Int)), (6, i.1)])
    (fun i => slc 5 1 i.1 (ls.take i.2).flatten.length (bV (ls.take i.2).flatten) :: A :: F) (.slice ga 0 gc, 0) (Nat.zero_le _) rfl (by repeat (first | exact keep_nil | refine keep_cons rfl ?_)) entA ?_
  rintro ⟨v, i⟩ hi ih
  simp only at hi
  (refine go ?_)
  refine K_condP rfl rfl ?_ ?_
  · intro hlt
    simp only at hlt
    have hil : i < ls.length := by omega
    obtain ⟨x, hx⟩ : ∃ x, ls[i]? = some x := ⟨ls[i], List.getElem?_eq_getElem hil⟩
    obtain ⟨cv, hcv, hb⟩ := hel i x hx
    obtain ⟨b0, o0, c0, he0⟩ := hvw.some (by intro h; rw [h] at hcv; simp at hcv)
    simp only [Value.slice.injEq] at he0
    obtain ⟨rfl, -, rfl⟩ := he0
    (refine go ?_)
    refine J_at1 (U := tab) i rfl rfl rfl rfl rfl rfl rfl rfl hil ?_
    obtain ⟨ax, cx, rfl, hcx⟩ := hb.2
    have hsum : (ls.take (i + 1)).flatten = (ls.take i).flatten ++ x := by rw [List.take_add_one, hx]; simp
    have hsl : (ls.take (i + 1)).flatten.length = (ls.take i).flatten.length + x.length := by rw [hsum, List.length_append]
    have hle := slices_len ls (i + 1)
    refine J_loadAt (U := tab) 1 i rfl rfl rfl hvw rfl hcv rfl rfl ?_
    (first | refine J_shape 0 rfl ?_ | refine K_shape 0 rfl ?_)
    intro av cv hvv
    simp only at hvv
    subst hvv
    (refine go ?_)
    refine J_append (U := tab) (mm := x.length) (news := bV x) 0 1 rfl rfl rfl rfl rfl rfl rfl rfl rfl rfl rfl rfl hb.1 (by show _ = _ * 1; rw [bV_length]; omega) (bV_one _) (by simp only; omega) (by show (_ + _) * 1 ≤ _; simp only; omega) (fun _ => rfl) (fun _ _ _ => trivial) ?_
    intro v1
    simp only
    rw [show bV (ls.take i).flatten ++ bV x = bV (ls.take (i + 1)).flatten from by rw [hsum]; simp [bV], ← hsl]
    (refine go ?_)
    refine K_again ih (v1, i + 1) rfl (by simp only; omega) (by simp only; omega) (by repeat (first | exact keep_nil | refine keep_cons rfl ?_)) entA
  intro hge
  simp only at hge
  have hi' : i = ls.length := by omega
  subst hi'
  rw [List.take_length]
  (first | refine J_shape 0 rfl ?_ | refine K_shape 0 rfl ?_)
  intro av cv hvv
  simp only at hvv
  subst hvv
  (refine go ?_)
  (first | refine K_return hE Try.func66 rfl _ rfl rfl entA | refine K_fallEnd hE Try.func66 rfl _ rfl rfl entA)
end Go.Proofs.Ytpdmbmnhgcnelaa
