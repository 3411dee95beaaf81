/- choke, part i (plain): ranks. -/
import Derived.Test.YtpacpkpkinmjcaaCh
set_option linter.unusedVariables false
set_option linter.unusedSimpArgs false
namespace Go.Proofs.Ytpacpkpkinmjcaa
open Go Go.SL
theorem risI_sorted (l : List Int) : (risI l).Pairwise (· ≤ ·) := by
  have h := List.pairwise_mergeSort (le := fun x y : Int => decide (x ≤ y)) (fun a b c h1 h2 => by simp at *; omega) (fun a b => by simp; omega) l
  exact h.imp fun h => of_decide_eq_true h
theorem risI_perm0 (l : List Int) : (risI l).Perm l := List.mergeSort_perm _ _
theorem sorted_eq {a b : List Int} (h : a.Perm b) (ha : a.Pairwise (· ≤ ·)) (hb : b.Pairwise (· ≤ ·)) : a = b :=
  List.Perm.eq_of_pairwise (fun x y _ _ h1 h2 => by omega) ha hb h
theorem risI_perm {a b : List Int} (h : a.Perm b) : risI a = risI b :=
  sorted_eq ((risI_perm0 a).trans (h.trans (risI_perm0 b).symm)) (risI_sorted a) (risI_sorted b)
theorem risI_mem {l : List Int} {x : Int} : x ∈ risI l ↔ x ∈ l := (risI_perm0 l).mem_iff
theorem insL_perm (n : Int) (l : List Int) : (insL n l).Perm (n :: l) := by
  induction l with
  | nil => exact List.Perm.refl _
  | cons x l ih =>
    simp only [insL]
    split
    · exact (ih.cons x).trans (List.Perm.swap ..)
    · exact List.Perm.refl _
theorem insL_sorted (n : Int) (l : List Int) (h : l.Pairwise (· ≤ ·)) : (insL n l).Pairwise (· ≤ ·) := by
  induction l with
  | nil => simp [insL]
  | cons x l ih =>
    simp only [insL]
    rw [List.pairwise_cons] at h
    split
    · rename_i hx
      rw [List.pairwise_cons]
      refine ⟨fun y hy => ?_, ih h.2⟩
      rcases List.mem_cons.1 ((insL_perm n l).mem_iff.1 hy) with rfl | hy
      · omega
      · exact h.1 y hy
    · rename_i hx
      rw [List.pairwise_cons, List.pairwise_cons]
      refine ⟨fun y hy => ?_, h⟩
      rcases List.mem_cons.1 hy with rfl | hy
      · omega
      · have := h.1 y hy; omega
theorem insL_ris (n : Int) (l : List Int) : insL n (risI l) = risI (l ++ [n]) :=
  sorted_eq ((insL_perm n _).trans (((risI_perm0 l).cons n).trans (by
    have : (n :: l).Perm (l ++ [n]) := (List.perm_append_comm (l₁ := [n]) (l₂ := l))
    exact this.trans (risI_perm0 _).symm))) (insL_sorted n _ (risI_sorted l)) (risI_sorted _)
theorem risI_ris (l : List Int) (n : Int) : risI (risI l ++ [n]) = risI (l ++ [n]) := risI_perm ((risI_perm0 l).append_right [n])
/-- What rank is. -/
theorem rank_perm (l : List Rt) : (rank l).Perm (wantW l) := List.mergeSort_perm _ _
theorem rank_sorted (l : List Rt) : (rank l).Pairwise fun a b => before b a = false := by
  have h := List.pairwise_mergeSort (le := fun x y : Wt => !before y x) (fun a b c h1 h2 => by simp [before] at *; omega) (fun a b => by simp [before]; omega) (wantW l)
  exact h.imp fun h => by simpa using h
theorem wantW_ids (l : List Rt) : (wantW l).map Wt.id = (l.filter (·.w)).map Rt.id := by
  unfold wantW; rw [List.map_map]; rfl
theorem rank_nodup {l : List Rt} (h : (l.map Rt.id).Nodup) : ((rank l).map Wt.id).Nodup := by
  have h1 : ((wantW l).map Wt.id).Nodup := by
    rw [wantW_ids]
    exact List.Nodup.sublist (List.filter_sublist.map _) h
  exact ((rank_perm l).map Wt.id).nodup_iff.2 h1
theorem mem_want {l : List Rt} {u : Wt} : u ∈ rank l ↔ ∃ x ∈ l, x.w = true ∧ x.id = u.id ∧ x.by_ = u.by_ := by
  rw [(rank_perm l).mem_iff]
  unfold wantW
  rw [List.mem_map]
  constructor
  · rintro ⟨x, hx, rfl⟩
    rw [List.mem_filter] at hx
    exact ⟨x, hx.1, hx.2, rfl, rfl⟩
  · rintro ⟨x, hx, hw, h1, h2⟩
    exact ⟨x, List.mem_filter.2 ⟨hx, hw⟩, by cases u; simp only at h1 h2; subst h1 h2; rfl⟩
/-- The first k of the ranks, rising. -/
def topI (l : List Rt) (k : Nat) : List Int := risI (((rank l).take k).map Wt.id)
theorem topI_mem {l : List Rt} {k : Nat} {n : Int} : n ∈ topI l k ↔ n ∈ ((rank l).take k).map Wt.id := risI_mem
theorem best_some {l : List Rt} {k : Nat} {at_ : Int} {t : Wt} (hn : (l.map Rt.id).Nodup) (ht : (rank l)[k]? = some t) (hb : BestP l (topI l k) at_) : ∃ (j : Nat) (x : Rt), at_ = (j : Int) ∧ l[j]? = some x ∧ x.id = t.id := by
  have hk := (List.getElem?_eq_some_iff.1 ht).1
  have hsplit : rank l = (rank l).take k ++ t :: (rank l).drop (k + 1) := by
    have h1 : (rank l).drop k = t :: (rank l).drop (k + 1) := by
      rw [List.drop_eq_getElem_cons hk]
      congr 1
      rw [List.getElem?_eq_getElem hk] at ht
      exact Option.some.inj ht
    rw [← h1, List.take_append_drop]
  have hnd := rank_nodup hn
  have hss := rank_sorted l
  have htn : t.id ∉ ((rank l).take k).map Wt.id := by
    rw [hsplit, List.map_append, List.nodup_append] at hnd
    intro h
    exact hnd.2.2 _ h _ (by simp) rfl
  obtain ⟨x0, hx0, hw0, hi0, hb0⟩ := mem_want.1 (List.mem_of_getElem? ht)
  have hok0 : okB (topI l k) x0 := ⟨hw0, fun h => htn (by rw [← hi0]; exact topI_mem.1 h)⟩
  rcases hb with ⟨_, h2⟩ | ⟨j, x, h1, h2, h3, h4⟩
  · exact absurd hok0 (h2 x0 hx0)
  refine ⟨j, x, h1, h2, ?_⟩
  have hnl := h4 x0 hx0 hok0
  have hu : (⟨x.id, x.by_⟩ : Wt) ∈ rank l := mem_want.2 ⟨x, List.mem_of_getElem? h2, h3.1, rfl, rfl⟩
  have hun : x.id ∉ ((rank l).take k).map Wt.id := fun h => h3.2 (topI_mem.2 h)
  rw [hsplit] at hu
  rcases List.mem_append.1 hu with h | h
  · exact absurd (List.mem_map.2 ⟨_, h, rfl⟩) hun
  rcases List.mem_cons.1 h with h | h
  · rw [← h]
  · rw [hsplit, List.pairwise_append] at hss
    have := (List.pairwise_cons.1 hss.2.1).1 _ h
    simp [before] at this
    unfold lessB at hnl
    omega
theorem best_none {l : List Rt} {k : Nat} {at_ : Int} (hk : (rank l).length ≤ k) (hb : BestP l (topI l k) at_) : at_ = -1 := by
  rcases hb with ⟨h1, _⟩ | ⟨j, x, h1, h2, h3, h4⟩
  · exact h1
  · have hu : (⟨x.id, x.by_⟩ : Wt) ∈ rank l := mem_want.2 ⟨x, List.mem_of_getElem? h2, h3.1, rfl, rfl⟩
    exact absurd (topI_mem.2 (List.mem_map.2 ⟨_, by rw [List.take_of_length_le hk]; exact hu, rfl⟩)) h3.2
theorem topI_succ {l : List Rt} {k : Nat} {t : Wt} (ht : (rank l)[k]? = some t) : insL t.id (topI l k) = topI l (k + 1) := by
  unfold topI
  rw [insL_ris, List.take_add_one, ht]
  simp
theorem topI_len (l : List Rt) (k : Nat) : (topI l k).length ≤ (rank l).length := by
  unfold topI; rw [risI_len, List.length_map, List.length_take]; omega
/-- The others, one by one. -/
def restI (l : List Rt) (F : List Int) : List Int := risI ((l.filter fun x => x.w && !decide (x.id ∈ F)).map Rt.id)
theorem rest_add {l : List Rt} {F : List Int} {i : Nat} {x : Rt} (hx : l[i]? = some x) (h : x.w = true ∧ x.id ∉ F) : insL x.id (restI (l.take i) F) = restI (l.take (i + 1)) F := by
  unfold restI
  rw [insL_ris, List.take_add_one, hx, Option.toList_some, List.filter_append, List.map_append]
  congr 2
  simp [h.1, h.2]
theorem rest_skip {l : List Rt} {F : List Int} {i : Nat} {x : Rt} (hx : l[i]? = some x) (h : ¬ (x.w = true ∧ x.id ∉ F)) : restI (l.take i) F = restI (l.take (i + 1)) F := by
  unfold restI
  rw [List.take_add_one, hx, Option.toList_some, List.filter_append, List.map_append]
  have : [x].filter (fun x => x.w && !decide (x.id ∈ F)) = [] := by
    rw [List.filter_eq_nil_iff]
    intro y hy
    simp at hy
    subst hy
    simp only [Bool.and_eq_true, Bool.not_eq_true', decide_eq_false_iff_not]
    exact h
  rw [this]
  simp
theorem rest_len (l : List Rt) (F : List Int) : (restI l F).length ≤ l.length := by
  unfold restI; rw [risI_len, List.length_map]; exact List.length_filter_le _ _
theorem filter_split {A B F : List Int} (hn : (A ++ B).Nodup) (hF : ∀ n, n ∈ F ↔ n ∈ A) : (A ++ B).filter (fun n => !decide (n ∈ F)) = B := by
  rw [List.nodup_append] at hn
  rw [List.filter_append, List.filter_eq_nil_iff.2, List.nil_append, List.filter_eq_self.2]
  · intro n hb
    have : n ∉ F := fun h => hn.2.2 n ((hF n).1 h) n hb rfl
    simp [this]
  · intro n ha
    simp [(hF n).2 ha]
theorem rest_top {l : List Rt} {k : Nat} (hn : (l.map Rt.id).Nodup) : restI l (topI l k) = risI (((rank l).drop k).map Wt.id) := by
  unfold restI
  apply risI_perm
  have h1 : (l.filter fun x => x.w && !decide (x.id ∈ topI l k)).map Rt.id = ((wantW l).map Wt.id).filter fun n => !decide (n ∈ topI l k) := by
    rw [wantW_ids, List.filter_map]
    congr 1
    rw [List.filter_filter]
    apply List.filter_congr
    intro x _
    simp [Bool.and_comm]
  rw [h1]
  have h2 : (((wantW l).map Wt.id).filter fun n => !decide (n ∈ topI l k)).Perm (((rank l).map Wt.id).filter fun n => !decide (n ∈ topI l k)) := (((rank_perm l).map Wt.id).filter _).symm
  refine h2.trans ?_
  have hnd := rank_nodup hn
  have hs : (rank l).map Wt.id = ((rank l).take k).map Wt.id ++ ((rank l).drop k).map Wt.id := by rw [← List.map_append, List.take_append_drop]
  rw [hs] at hnd ⊢
  rw [filter_split hnd (fun n => topI_mem)]
end Go.Proofs.Ytpacpkpkinmjcaa
