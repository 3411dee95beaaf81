/- net, part p0: NetOrder: plain laws. -/
import Derived.Test.YtngmcoopgbflaaaNn
import Derived.Test.YtngmcoopgbflaaaEngR
set_option linter.unusedVariables false
set_option linter.unusedSimpArgs false
namespace Go.Proofs.Ytngmcoopgbflaaa
open Go Go.SL
attribute [local irreducible] J K Ctr Ends pts slc mapR mapI sbRow stock arrS

/-- When that number is to come. -/
def wantOf (ds : List Int) (number moment num : Int) : Int := if num = number then moment else ds.getD (num - 1).toNat 0
structure Ord (A : NA) (ds : List Int) (number moment : Int) (i : Nat) : Prop where
  nodes : A.nodes = 2
  most : A.most = 500
  sent : A.sent = i
  each : ∀ x ∈ A.way, 1 ≤ x.num ∧ x.num ≤ i ∧ x.due = wantOf ds number moment x.num
theorem ord_new (ds : List Int) : Ord (NA.new 2 500) ds 0 0 0 := ⟨rfl, rfl, rfl, by simp [NA.new]⟩
theorem ord_send {A : NA} {ds : List Int} {i : Nat} (h : Ord A ds 0 0 i) (hl : A.way.length = i) (hi : i < 400) {d : Int} (hd : ds[i]? = some d) (h0 : 0 ≤ d ∧ d ≤ 1000) :
    A.send 0 1 d [] = (0, ⟨A.nodes, A.most, A.sent + 1, A.lost, insA ⟨(i : Int) + 1, 0, 1, d, []⟩ A.way⟩) ∧ Ord ⟨A.nodes, A.most, A.sent + 1, A.lost, insA ⟨(i : Int) + 1, 0, 1, d, []⟩ A.way⟩ ds 0 0 (i + 1) := by
  have hs := h.sent
  have hm := h.most
  have hn := h.nodes
  constructor
  · unfold NA.send
    rw [if_pos ⟨⟨by omega, by rw [hn]; decide⟩, ⟨by omega, by rw [hn]; decide⟩, ⟨by omega, by omega⟩, by simp⟩]
    unfold NA.fresh
    simp only
    rw [if_neg (by rw [insA_len, hl, hm]; omega), hs]
  · refine ⟨hn, hm, by simp only; omega, fun x hx => ?_⟩
    rcases List.mem_cons.1 ((insA_perm _ _).mem_iff.1 hx) with rfl | hx
    · refine ⟨by simp only; omega, by simp only; omega, ?_⟩
      simp only [wantOf]
      rw [if_neg (by omega), show ((i : Int) + 1 - 1).toNat = i from by omega, List.getD_eq_getElem?_getD, hd]; rfl
    · obtain ⟨h1, h2, h3⟩ := h.each x hx
      exact ⟨h1, by omega, h3⟩
theorem ord_hold {A : NA} {ds : List Int} {n : Nat} (h : Ord A ds 0 0 n) (hnd : (A.way.map Fa.num).Nodup) {q : Nat} {x : Fa} (hx : A.way[q]? = some x) {m : Int} (hm : okMoment m) :
    A.hold q m = (0, ⟨A.nodes, A.most, A.sent, A.lost, insA { x with due := m } (A.way.eraseIdx q)⟩) ∧ Ord ⟨A.nodes, A.most, A.sent, A.lost, insA { x with due := m } (A.way.eraseIdx q)⟩ ds x.num m n ∧ (insA { x with due := m } (A.way.eraseIdx q)).length = A.way.length := by
  have hq : q < A.way.length := by
    rcases Nat.lt_or_ge q A.way.length with h | h
    · exact h
    · rw [List.getElem?_eq_none h] at hx; cases hx
  have hpe := perm_erase hx
  have hnd2 : (x.num :: (A.way.eraseIdx q).map Fa.num).Nodup := by
    have : (x.num :: (A.way.eraseIdx q).map Fa.num).Perm (A.way.map Fa.num) := by simpa using hpe.map Fa.num
    exact this.nodup_iff.2 hnd
  have hne := (List.nodup_cons.1 hnd2).1
  refine ⟨?_, ⟨h.nodes, h.most, h.sent, fun y hy => ?_⟩, ?_⟩
  · unfold NA.hold
    rw [if_pos (by unfold laterE; rw [if_neg (fun h => h ⟨by omega, by omega⟩), if_neg (fun h => h hm)])]
    simp [List.getD_eq_getElem?_getD, hx]
  · rcases List.mem_cons.1 ((insA_perm _ _).mem_iff.1 hy) with rfl | hy
    · obtain ⟨h1, h2, h3⟩ := h.each x (List.mem_of_getElem? hx)
      exact ⟨h1, h2, by simp [wantOf]⟩
    · obtain ⟨h1, h2, h3⟩ := h.each y ((List.eraseIdx_sublist _ _).subset hy)
      refine ⟨h1, h2, ?_⟩
      have hyn : y.num ≠ x.num := fun e => hne (List.mem_map.2 ⟨y, hy, e⟩)
      rw [h3]
      unfold wantOf
      rw [if_neg hyn, if_neg (by omega)]
  · rw [insA_len]; have := hpe.length_eq; simpa using this
theorem ord_due {A : NA} {ds : List Int} {number moment : Int} {n : Nat} (h : Ord A ds number moment n) (now : Int) (hge : ∀ x ∈ A.way, now ≤ x.due) :
    Ord (A.due now).2 ds number moment n ∧ (∀ x ∈ (A.due now).2.way, now + 1 ≤ x.due ∨ x ∈ A.way) ∧ (A.due now).1.length + (A.due now).2.way.length = A.way.length ∧ (∀ x ∈ (A.due now).1, x ∈ A.way ∧ x.due = now) := by
  have hsub : (A.due now).2.way.Sublist A.way := List.dropWhile_sublist _
  refine ⟨⟨h.nodes, h.most, h.sent, fun x hx => h.each x (hsub.subset hx)⟩, fun x hx => .inr (hsub.subset hx), ?_, fun x hx => ?_⟩
  · have := congrArg List.length (List.takeWhile_append_dropWhile (p := fun x : Fa => decide (x.due ≤ now)) (l := A.way))
    rw [List.length_append] at this; exact this
  · have hx' : x ∈ A.way.takeWhile (fun x => decide (x.due ≤ now)) := hx
    have h1 := takeWhile_all A.way (P := fun x => decide (x.due ≤ now)) x hx'
    have h2 : x ∈ A.way := (List.takeWhile_sublist _).subset hx'
    have := hge x h2
    simp only [decide_eq_true_eq] at h1
    exact ⟨h2, by omega⟩
/-- Behind those that are due all come later. -/
theorem due_later {A : NA} (hs : Sorted A.way) (now : Int) : ∀ x ∈ (A.due now).2.way, now + 1 ≤ x.due := by
  intro x hx
  have hsd : Sorted (A.way.dropWhile fun x => decide (x.due ≤ now)) := hs.sublist (List.dropWhile_sublist _)
  have hx' : x ∈ A.way.dropWhile fun x => decide (x.due ≤ now) := hx
  cases hd : A.way.dropWhile (fun x => decide (x.due ≤ now)) with
  | nil => rw [hd] at hx'; cases hx'
  | cons y ys =>
    have hy : ¬ y.due ≤ now := by
      have := List.head?_dropWhile_not (fun x : Fa => decide (x.due ≤ now)) A.way
      rw [hd] at this
      simpa using this
    rw [hd] at hx' hsd
    rcases List.mem_cons.1 hx' with rfl | hx'
    · omega
    · have := (List.pairwise_cons.1 hsd).1 x hx'
      unfold ltA at this; omega
/-- What comes at one moment comes in the order in which it was sent. -/
theorem due_rise {A : NA} (hs : Sorted A.way) {now : Int} (hd : ∀ x ∈ (A.due now).1, x ∈ A.way ∧ x.due = now) {i : Nat} {x y : Fa} (hx : (A.due now).1[i]? = some x) (hy : (A.due now).1[i + 1]? = some y) : x.num < y.num := by
  have hsub : (A.due now).1.Sublist A.way := List.takeWhile_sublist _
  have hsd : Sorted (A.due now).1 := hs.sublist hsub
  have h1 := (hd x (List.mem_of_getElem? hx)).2
  have h2 := (hd y (List.mem_of_getElem? hy)).2
  obtain ⟨hi, hx⟩ := List.getElem?_eq_some_iff.1 hx
  obtain ⟨hj, hy⟩ := List.getElem?_eq_some_iff.1 hy
  have := List.pairwise_iff_getElem.1 hsd i (i + 1) hi hj (by omega)
  rw [hx, hy] at this
  unfold ltA at this; omega
theorem ord_zero {A : NA} {ds : List Int} {n : Nat} (h : Ord A ds 0 0 n) (m : Int) : Ord A ds 0 m n := ⟨h.nodes, h.most, h.sent, fun x hx => by
  obtain ⟨h1, h2, h3⟩ := h.each x hx
  refine ⟨h1, h2, ?_⟩
  rw [h3]; unfold wantOf; rw [if_neg (by omega), if_neg (by omega)]⟩
end Go.Proofs.Ytngmcoopgbflaaa
