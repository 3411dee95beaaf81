/- files, part gg0 (plain): which names there are. -/
import Derived.Test.YtokknepnmfklnaaFr
set_option linter.unusedVariables false
set_option linter.unusedSimpArgs false
namespace Go.Proofs.Ytokknepnmfklnaa
open Go Go.SL
instance memDec (n : ByteArray) (K : List ByteArray) : Decidable (n ∈ K) := decidable_of_iff (K.any (fun x => decide (x = n)) = true) (by rw [List.any_eq_true]; exact ⟨fun ⟨x, hx, h⟩ => of_decide_eq_true h ▸ hx, fun h => ⟨n, h, decide_eq_true rfl⟩⟩)
def keysA (A : Ab) : List ByteArray := A.names.map (·.1)
theorem lookIn_iff {l : List (ByteArray × Nat)} {k : ByteArray} : (Ab.lookIn l k).isSome = true ↔ k ∈ l.map (·.1) := by
  unfold Ab.lookIn
  rw [Option.isSome_map, List.find?_isSome]
  simp [List.mem_map]
theorem keys_del {l : List (ByteArray × Nat)} {k n : ByteArray} : n ∈ (Ab.delN l k).map (·.1) ↔ n ∈ l.map (·.1) ∧ n ≠ k := by
  unfold Ab.delN
  simp only [List.mem_map, List.mem_filter]
  constructor
  · rintro ⟨x, ⟨h1, h2⟩, rfl⟩
    exact ⟨⟨x, h1, rfl⟩, by simpa using h2⟩
  · rintro ⟨⟨x, h1, rfl⟩, h2⟩
    exact ⟨x, ⟨h1, by simpa using h2⟩, rfl⟩
theorem keys_set {l : List (ByteArray × Nat)} {k n : ByteArray} {f : Nat} : n ∈ (Ab.setN l k f).map (·.1) ↔ n ∈ l.map (·.1) ∨ n = k := by
  unfold Ab.setN
  split
  · rename_i h
    have hk := lookIn_iff.1 h
    rw [List.map_map]
    have : (l.map ((fun x => x.1) ∘ fun x => if x.1 = k then (k, f) else x)) = l.map (·.1) := by
      apply List.map_congr_left
      intro x _
      simp only [Function.comp]
      split
      · rename_i h; rw [h]
      · rfl
    rw [this]
    constructor
    · exact .inl
    · rintro (h | rfl)
      · exact h
      · exact hk
  · simp
theorem meet_names (A : Ab) (ok : Bool) : (A.meet ok).2.names = A.names ∧ (A.meet ok).2.states = A.states := by
  unfold Ab.meet
  split
  · exact ⟨rfl, rfl⟩
  · split
    · exact ⟨rfl, rfl⟩
    · split
      · exact ⟨rfl, rfl⟩
      · split
        · exact ⟨rfl, rfl⟩
        · split <;> exact ⟨rfl, rfl⟩
theorem create_names (A : Ab) (ok : Bool) (name : ByteArray) (f : Nat) : (((A.create ok name f).1 = 0 ∧ name ∉ keysA A ∧ ∀ n, n ∈ keysA (A.create ok name f).2 ↔ n ∈ keysA A ∨ n = name) ∨ ((A.create ok name f).1 ≠ 0 ∧ keysA (A.create ok name f).2 = keysA A)) ∧ (A.create ok name f).2.states.length ≤ A.states.length + 1 := by
  obtain ⟨h1, h2⟩ := meet_names A ok
  unfold Ab.create keysA
  split
  · split
    · exact ⟨.inr ⟨by simp, by rw [h1]⟩, by simp only [h2]; omega⟩
    · rename_i hl
      split
      · exact ⟨.inr ⟨by simp, by rw [h1]⟩, by simp only [h2]; omega⟩
      · refine ⟨.inl ⟨rfl, ?_, fun n => ?_⟩, by simp [Ab.chg, h2]⟩
        · intro h
          apply hl
          unfold Ab.look
          rw [h1]
          exact lookIn_iff.2 h
        · simp [Ab.chg, h1]
  · rename_i hm
    exact ⟨.inr ⟨hm, by rw [h1]⟩, by simp only [h2]; omega⟩
theorem find_names (A : Ab) (name : ByteArray) (ok : Bool) : (A.find name ok).2.2.names = A.names ∧ (A.find name ok).2.2.states = A.states ∧ ((A.find name ok).1 = 0 → (∃ f, (A.find name ok).2.1 = some f) ∧ name ∈ keysA A) ∧ ((A.find name ok).1 ≠ 0 → (A.find name ok).2.1 = none) := by
  obtain ⟨h1, h2⟩ := meet_names A ok
  unfold Ab.find
  split
  · split
    · exact ⟨h1, h2, (fun h => by cases h), fun _ => rfl⟩
    · rename_i hm f hl
      refine ⟨h1, h2, fun _ => ⟨⟨f, rfl⟩, ?_⟩, fun h => absurd rfl h⟩
      unfold keysA
      rw [← h1]
      exact lookIn_iff.1 (by unfold Ab.look at hl; rw [hl]; rfl)
  · rename_i hm
    exact ⟨h1, h2, fun h => absurd h hm, fun _ => rfl⟩
theorem remove_names (A : Ab) (ok : Bool) (name : ByteArray) : (((A.remove ok name).1 = 0 ∧ name ∈ keysA A ∧ ∀ n, n ∈ keysA (A.remove ok name).2 ↔ n ∈ keysA A ∧ n ≠ name) ∨ ((A.remove ok name).1 ≠ 0 ∧ keysA (A.remove ok name).2 = keysA A)) ∧ (A.remove ok name).2.states.length ≤ A.states.length + 1 := by
  obtain ⟨h1, h2, h3, h4⟩ := find_names A name ok
  unfold Ab.remove
  rcases hf : A.find name ok with ⟨e, o, A1⟩
  rw [hf] at h1 h2 h3 h4
  simp only at h1 h2 h3 h4
  by_cases he : e = 0
  · subst he
    obtain ⟨⟨f, rfl⟩, hm⟩ := h3 rfl
    simp only
    refine ⟨.inl ⟨trivial, hm, fun n => ?_⟩, by simp [Ab.chg, h2]⟩
    unfold keysA Ab.chg
    simp only
    rw [keys_del, h1]
  · have := h4 he
    subst this
    cases e with
    | zero => exact absurd rfl he
    | succ e => exact ⟨.inr ⟨he, by unfold keysA; simp only; rw [h1]⟩, by simp only [h2]; omega⟩
theorem rename_names (A : Ab) (ok : Bool) (old name : ByteArray) : (((A.rename ok old name).1 = 0 ∧ old ∈ keysA A ∧ ∀ n, n ∈ keysA (A.rename ok old name).2 ↔ (n ∈ keysA A ∧ n ≠ old) ∨ n = name) ∨ ((A.rename ok old name).1 ≠ 0 ∧ keysA (A.rename ok old name).2 = keysA A)) ∧ (A.rename ok old name).2.states.length ≤ A.states.length + 1 := by
  obtain ⟨h1, h2, h3, h4⟩ := find_names A old ok
  unfold Ab.rename
  rcases hf : A.find old ok with ⟨e, o, A1⟩
  rw [hf] at h1 h2 h3 h4
  simp only at h1 h2 h3 h4
  by_cases he : e = 0
  · subst he
    obtain ⟨⟨f, rfl⟩, hm⟩ := h3 rfl
    simp only
    refine ⟨.inl ⟨trivial, hm, fun n => ?_⟩, by simp [Ab.chg, h2]⟩
    unfold keysA Ab.chg
    simp only
    rw [keys_set, keys_del, h1]
  · have := h4 he
    subst this
    cases e with
    | zero => exact absurd rfl he
    | succ e => exact ⟨.inr ⟨he, by unfold keysA; simp only; rw [h1]⟩, by simp only [h2]; omega⟩
/-- The statement's own set, as a map. -/
def TH (es : List (ByteArray × Value)) (K : List ByteArray) : Prop := (∀ n, n ∈ es.map (·.1) ↔ n ∈ K) ∧ ∀ x ∈ es, x.2 = .bool true
theorem TH.look {es : List (ByteArray × Value)} {K : List ByteArray} (h : TH es K) (n : ByteArray) : (alook es n).getD (.bool false) = .bool (decide (n ∈ K)) := by
  by_cases hk : n ∈ K
  · rw [decide_eq_true hk]
    have h1 := (h.1 n).2 hk
    unfold alook
    cases hf : es.find? (fun x => decide (x.1 = n)) with
    | none =>
      obtain ⟨y, hy, rfl⟩ := List.mem_map.1 h1
      exact absurd (List.find?_eq_none.1 hf y hy) (by simp)
    | some y => simp [h.2 y (List.mem_of_find?_eq_some hf)]
  · rw [decide_eq_false hk, alook_none.2 (fun h1 => hk ((h.1 n).1 h1))]; rfl
theorem aset_mem (es : List (ByteArray × Value)) (k n : ByteArray) (v : Value) : n ∈ (aset es k v).map (·.1) ↔ n ∈ es.map (·.1) ∨ n = k := by
  unfold aset
  split
  · rename_i hk
    have : (es.map fun x => if x.1 = k then (k, v) else x).map (·.1) = es.map (·.1) := by
      rw [List.map_map]
      apply List.map_congr_left
      intro x _
      simp only [Function.comp]
      split
      · rename_i h; rw [h]
      · rfl
    rw [this]
    constructor
    · exact .inl
    · rintro (h | rfl)
      · exact h
      · exact hk
  · simp
theorem TH.set {es : List (ByteArray × Value)} {K K' : List ByteArray} {k : ByteArray} (h : TH es K) (hK : ∀ n, n ∈ K' ↔ n ∈ K ∨ n = k) : TH (aset es k (.bool true)) K' := by
  refine ⟨fun n => by rw [aset_mem, h.1, hK], fun x hx => ?_⟩
  unfold aset at hx
  split at hx
  · obtain ⟨y, hy, rfl⟩ := List.mem_map.1 hx
    split
    · rfl
    · exact h.2 y hy
  · rcases List.mem_append.1 hx with h1 | h1
    · exact h.2 x h1
    · simp at h1; subst h1; rfl
theorem TH.del {es : List (ByteArray × Value)} {K K' : List ByteArray} {k : ByteArray} (h : TH es K) (hK : ∀ n, n ∈ K' ↔ n ∈ K ∧ n ≠ k) : TH (adel es k) K' := by
  unfold adel
  refine ⟨fun n => ?_, fun x hx => h.2 x (List.mem_filter.1 hx).1⟩
  rw [hK, ← h.1]
  simp only [List.mem_map, List.mem_filter]
  constructor
  · rintro ⟨x, ⟨h1, h2⟩, rfl⟩
    exact ⟨⟨x, h1, rfl⟩, by simpa using h2⟩
  · rintro ⟨⟨x, h1, rfl⟩, h2⟩
    exact ⟨x, ⟨h1, by simpa using h2⟩, rfl⟩
theorem TH.mono {es : List (ByteArray × Value)} {K K' : List ByteArray} (h : TH es K) (hK : ∀ n, n ∈ K' ↔ n ∈ K) : TH es K' := ⟨fun n => by rw [h.1, hK], h.2⟩
theorem nodup_len2 {α : Type} {a b : List α} (ha : a.Nodup) (hb : b.Nodup) (h : ∀ n, n ∈ a ↔ n ∈ b) : a.length = b.length :=
  ((List.perm_ext_iff_of_nodup ha hb).2 h).length_eq
/-- Names in order, as bytes. -/
def sortB (l : List ByteArray) : List (List UInt8) := (l.map fun b => b.data.toList).mergeSort fun x y => decide (x ≤ y)
theorem sortB_sorted (l : List ByteArray) : (sortB l).Pairwise (· ≤ ·) :=
  (List.pairwise_mergeSort (le := fun x y : List UInt8 => decide (x ≤ y)) (fun a b c h1 h2 => decide_eq_true (List.le_trans (of_decide_eq_true h1) (of_decide_eq_true h2))) (fun a b => by simpa using List.le_total a b) _).imp fun h => of_decide_eq_true h
theorem sortB_perm0 (l : List ByteArray) : (sortB l).Perm (l.map fun b => b.data.toList) := List.mergeSort_perm _ _
theorem sortB_perm {a b : List ByteArray} (h : a.Perm b) : sortB a = sortB b :=
  List.Perm.eq_of_pairwise (fun x y _ _ h1 h2 => List.le_antisymm h1 h2) (sortB_sorted a) (sortB_sorted b) ((sortB_perm0 a).trans ((h.map _).trans (sortB_perm0 b).symm))
theorem sortB_len (l : List ByteArray) : (sortB l).length = l.length := by rw [(sortB_perm0 l).length_eq, List.length_map]
theorem sortB_mem {l : List ByteArray} {x : List UInt8} (h : x ∈ sortB l) : (⟨x.toArray⟩ : ByteArray) ∈ l := by
  obtain ⟨b, hb, rfl⟩ := List.mem_map.1 ((sortB_perm0 l).mem_iff.1 h)
  exact hb
theorem bytes_inj {a b : ByteArray} (h : a.data.toList = b.data.toList) : a = b := by
  cases a; cases b; simp only [ByteArray.mk.injEq]; exact Array.ext' h
theorem sortB_nodup {l : List ByteArray} (h : l.Nodup) : (sortB l).Nodup := by
  refine (sortB_perm0 l).nodup_iff.2 ?_
  unfold List.Nodup at h ⊢
  rw [List.pairwise_map]
  exact h.imp fun hne he => hne (bytes_inj he)
theorem sortB_lt {l : List ByteArray} (h : l.Nodup) {k : Nat} {x y : List UInt8} (hx : (sortB l)[k]? = some x) (hy : (sortB l)[k + 1]? = some y) : x < y := by
  obtain ⟨hk, rfl⟩ := List.getElem?_eq_some_iff.1 hx
  obtain ⟨hk1, rfl⟩ := List.getElem?_eq_some_iff.1 hy
  have h1 := List.pairwise_iff_getElem.1 (sortB_sorted l) k (k + 1) hk hk1 (by omega)
  have h2 := List.pairwise_iff_getElem.1 (sortB_nodup h) k (k + 1) hk hk1 (by omega)
  rcases Decidable.em ((sortB l)[k] < (sortB l)[k + 1]) with h3 | h3
  · exact h3
  · exact absurd (List.le_antisymm h1 (List.not_lt.1 h3)) h2
end Go.Proofs.Ytokknepnmfklnaa
