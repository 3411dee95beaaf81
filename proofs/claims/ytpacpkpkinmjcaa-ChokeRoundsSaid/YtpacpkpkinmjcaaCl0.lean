/- choke, part l0 (plain): who may ask is fair. -/
import Derived.Test.YtpacpkpkinmjcaaCk
set_option linter.unusedVariables false
set_option linter.unusedSimpArgs false
namespace Go.Proofs.Ytpacpkpkinmjcaa
open Go Go.SL
theorem id_uniq {l : List Rt} (h : (l.map Rt.id).Nodup) {x y : Rt} (hx : x ∈ l) (hy : y ∈ l) (he : x.id = y.id) : x = y := by
  induction l with
  | nil => cases hx
  | cons z l ih =>
    rw [List.map_cons, List.nodup_cons] at h
    rcases List.mem_cons.1 hx with h1 | h1
    · rcases List.mem_cons.1 hy with h2 | h2
      · rw [h1, h2]
      · exact absurd (List.mem_map.2 ⟨y, h2, by rw [← he, h1]⟩) h.1
    · rcases List.mem_cons.1 hy with h2 | h2
      · exact absurd (List.mem_map.2 ⟨x, h1, by rw [he, h2]⟩) h.1
      · exact ih h.2 h1 h2
theorem mem_ids {l : List Rt} {n : Int} : n ∈ (rank l).map Wt.id ↔ ∃ x ∈ l, x.w = true ∧ x.id = n := by
  rw [List.mem_map]
  constructor
  · rintro ⟨u, hu, rfl⟩
    obtain ⟨x, hx, hw, h1, h2⟩ := mem_want.1 hu
    exact ⟨x, hx, hw, h1⟩
  · rintro ⟨x, hx, hw, rfl⟩
    exact ⟨⟨x.id, x.by_⟩, mem_want.2 ⟨x, hx, hw, rfl, rfl⟩, rfl⟩
/-- What Choose tells, as the statement asks it. -/
structure FairP (l : List Rt) (slots : Int) (may : List Int) (tried : Int) : Prop where
  nodup : may.Nodup
  len : (may.length : Int) = min slots (rank l).length
  sub : ∀ n ∈ may, n ∈ (rank l).map Wt.id
  tr : (tried = 0 ∧ ((rank l).length : Int) < slots) ∨ tried ∈ may
  best : ∀ x ∈ l, ∀ y ∈ l, x.w = true → x.id ∉ may → y.w = true → y.id ∈ may → y.id ≠ tried → x.by_ ≤ y.by_
theorem others_mem {l : List Rt} {k : Nat} {n : Int} : n ∈ risI (((rank l).drop k).map Wt.id) ↔ n ∈ ((rank l).drop k).map Wt.id := risI_mem
theorem top_best {l : List Rt} (hn : (l.map Rt.id).Nodup) (k : Nat) {x y : Rt} (hx : x ∈ l) (hy : y ∈ l) (hxw : x.w = true) (hxm : x.id ∉ topI l k) (hyw : y.w = true) (hym : y.id ∈ topI l k) : x.by_ ≤ y.by_ := by
  have hu : (⟨x.id, x.by_⟩ : Wt) ∈ rank l := mem_want.2 ⟨x, hx, hxw, rfl, rfl⟩
  obtain ⟨v, hv, hvy⟩ := List.mem_map.1 (topI_mem.1 hym)
  have hvr : v ∈ rank l := List.mem_of_mem_take hv
  obtain ⟨z, hz, hzw, hz1, hz2⟩ := mem_want.1 hvr
  have hzy : z = y := id_uniq hn hz hy (by rw [hz1, hvy])
  subst hzy
  have hss := rank_sorted l
  rw [← List.take_append_drop k (rank l)] at hu hss
  rw [List.pairwise_append] at hss
  rcases List.mem_append.1 hu with h | h
  · exact absurd (topI_mem.2 (List.mem_map.2 ⟨_, h, rfl⟩)) hxm
  · have := hss.2.2 v hv _ h
    simp [before] at this
    omega
theorem id_pos {l : List Rt} (ho : ∀ x ∈ l, oddR x = false) {x : Rt} (hx : x ∈ l) : 1 ≤ x.id ∧ 0 ≤ x.by_ ∧ x.by_ ≤ 1099511627776 := by
  have := ho x hx
  simp [oddR] at this
  omega
theorem fair_law {l : List Rt} {slots : Int} {seed : Int} (h1 : 1 ≤ slots) (h2 : slots ≤ 16) (hr : rightA l = 0) : (chooseA l slots 0 false seed).2.2 = 0 ∧ FairP l slots (chooseA l slots 0 false seed).1 (chooseA l slots 0 false seed).2.1 := by
  obtain ⟨h64, hnd, hodd⟩ := right_zero (l := l) (by rw [hr]; simp)
  have hrn := rank_nodup hnd
  obtain ⟨k0, hk0⟩ : ∃ k : Nat, (k : Int) = min (slots - 1) (rank l).length := ⟨(min (slots - 1) (rank l).length).toNat, by omega⟩
  have hf : firstA l slots = topI l k0 := by unfold firstA topI; rw [← hk0, Int.toNat_natCast]
  have ho : othersA l slots = risI (((rank l).drop k0).map Wt.id) := by unfold othersA; rw [← hk0, Int.toNat_natCast]
  have hkl : k0 ≤ (rank l).length := by omega
  have htl : (topI l k0).length = k0 := by unfold topI; rw [risI_len, List.length_map, List.length_take]; omega
  have hsplit : (rank l).map Wt.id = ((rank l).take k0).map Wt.id ++ ((rank l).drop k0).map Wt.id := by rw [← List.map_append, List.take_append_drop]
  have hnd2 := hrn
  rw [hsplit, List.nodup_append] at hnd2
  have htn : (topI l k0).Nodup := (risI_perm0 _).nodup_iff.2 hnd2.1
  have htsub : ∀ n ∈ topI l k0, n ∈ (rank l).map Wt.id := fun n hn => by rw [hsplit]; exact List.mem_append_left _ (topI_mem.1 hn)
  unfold chooseA
  rw [if_neg (by omega), if_neg (by rw [hr]; simp), hf, ho]
  by_cases hem : risI (((rank l).drop k0).map Wt.id) = []
  · rw [if_pos hem]
    have hlen : (rank l).length ≤ k0 := by
      have := congrArg List.length hem
      rw [risI_len, List.length_map, List.length_drop] at this
      simp at this; omega
    refine ⟨rfl, htn, by simp only [htl]; omega, htsub, .inl ⟨rfl, by omega⟩, fun x hx y hy hxw hxm hyw hym _ => top_best hnd k0 hx hy hxw hxm hyw hym⟩
  · rw [if_neg hem]
    obtain ⟨O, hO⟩ : ∃ O, O = risI (((rank l).drop k0).map Wt.id) := ⟨_, rfl⟩
    have hOm : ∀ n, n ∈ O ↔ n ∈ ((rank l).drop k0).map Wt.id := fun n => by rw [hO]; exact risI_mem
    have hOlen : O.length = (rank l).length - k0 := by rw [hO, risI_len, List.length_map, List.length_drop]
    rw [← hO] at hem ⊢
    have hpos : 0 < O.length := by
      rcases Nat.eq_zero_or_pos O.length with h | h
      · exact absurd (List.eq_nil_of_length_eq_zero h) hem
      · exact h
    have h0 : (0 : Int) ∉ O := fun h => by
      have h3 : (0 : Int) ∈ (rank l).map Wt.id := by rw [hsplit]; exact List.mem_append_right _ ((hOm 0).1 h)
      obtain ⟨x, hx, _, hx0⟩ := mem_ids.1 h3
      have := (id_pos hodd hx).1
      omega
    have htr : triedA O 0 false seed ∈ O := by
      unfold triedA
      rw [if_pos (.inr h0)]
      have hlt : drawA seed O.length < O.length := belowN_lt (mixV_lt _) hpos
      rw [List.getD_eq_getElem?_getD, List.getElem?_eq_getElem hlt]
      exact List.getElem_mem hlt
    generalize triedA O 0 false seed = t at htr
    have htO := (hOm t).1 htr
    have htF : t ∉ topI l k0 := fun h => hnd2.2.2 t (topI_mem.1 h) t htO rfl
    have hmem : ∀ n, n ∈ risI (topI l k0 ++ [t]) ↔ n ∈ topI l k0 ∨ n = t := fun n => by rw [risI_mem]; simp
    refine ⟨rfl, ?_, ?_, ?_, .inr ((hmem t).2 (.inr rfl)), ?_⟩
    · refine (risI_perm0 _).nodup_iff.2 ?_
      rw [List.nodup_append]
      refine ⟨htn, by simp, ?_⟩
      rintro a ha b hb rfl
      simp at hb
      subst hb
      exact htF ha
    · simp only [risI_len, List.length_append, htl, List.length_singleton]
      omega
    · intro n hn
      rcases (hmem n).1 hn with h | rfl
      · exact htsub n h
      · rw [hsplit]; exact List.mem_append_right _ htO
    · intro x hx y hy hxw hxm hyw hym hyt
      have hyF : y.id ∈ topI l k0 := by
        rcases (hmem _).1 hym with h | h
        · exact h
        · exact absurd h hyt
      exact top_best hnd k0 hx hy hxw (fun h => hxm ((hmem _).2 (.inl h))) hyw hyF
theorem not_want {l : List Rt} (hn : (l.map Rt.id).Nodup) {slots tried : Int} {may : List Int} (h : FairP l slots may tried) {x : Rt} (hx : x ∈ l) (hw : x.w = false) : x.id ∉ may := fun hm => by
  obtain ⟨y, hy, hyw, hye⟩ := mem_ids.1 (h.sub _ hm)
  have := id_uniq hn hy hx hye
  subst this
  rw [hw] at hyw; cases hyw
/-- What the statement's loop has gathered. -/
structure Gath (l : List Rt) (may : List Int) (tried : Int) (i : Nat) (want : Nat) (least most : Int) : Prop where
  w : want = ((l.take i).filter (·.w)).length
  least : least = 2199023255552 ∨ ∃ y ∈ l, y.w = true ∧ y.id ∈ may ∧ y.id ≠ tried ∧ least = y.by_
  most : most = -1 ∨ ∃ x ∈ l, x.w = true ∧ x.id ∉ may ∧ most = x.by_
theorem gath_le {l : List Rt} {may : List Int} {slots tried : Int} {i want : Nat} {least most : Int} (ho : ∀ x ∈ l, oddR x = false) (hf : FairP l slots may tried) (h : Gath l may tried i want least most) : most ≤ least := by
  rcases h.least with h1 | ⟨y, hy, hyw, hym, hyt, rfl⟩
  · rcases h.most with h2 | ⟨x, hx, hxw, hxm, rfl⟩
    · omega
    · have := id_pos ho hx; omega
  · have hy2 := id_pos ho hy
    rcases h.most with h2 | ⟨x, hx, hxw, hxm, rfl⟩
    · omega
    · exact hf.best x hx y hy hxw hxm hyw hym hyt
theorem gath_want {l : List Rt} {may : List Int} {tried : Int} {i want : Nat} {least most : Int} (h : Gath l may tried i want least most) (hi : l.length ≤ i) : want = (rank l).length := by
  rw [h.w, List.take_of_length_le hi, rank_len]
  unfold wantW
  rw [List.length_map]
theorem take_want {l : List Rt} {i : Nat} {x : Rt} (hx : l[i]? = some x) : ((l.take (i + 1)).filter (·.w)).length = ((l.take i).filter (·.w)).length + (if x.w = true then 1 else 0) := by
  rw [List.take_add_one, hx, Option.toList_some, List.filter_append, List.length_append]
  congr 1
  cases hw : x.w <;> simp [hw]
end Go.Proofs.Ytpacpkpkinmjcaa
