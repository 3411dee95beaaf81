/- choke, part d: the numbers of peers, rising; what is wrong with peers. -/
import Derived.Test.YtpacpkpkinmjcaaCc
import Derived.Test.YtpacpkpkinmjcaaCs0
import Derived.Test.YtpacpkpkinmjcaaEngV
set_option linter.unusedVariables false
set_option linter.unusedSimpArgs false
namespace Go.Proofs.Ytpacpkpkinmjcaa
open Go Go.SL
def risI (l : List Int) : List Int := l.mergeSort fun x y => decide (x ≤ y)
theorem risI_len (l : List Int) : (risI l).length = l.length := List.length_mergeSort _
theorem iV_one (l : List Int) : ∀ v ∈ iV l, v.oneCell' = true := by
  intro v hv
  obtain ⟨x, _, rfl⟩ := List.mem_map.1 hv
  rfl
/-- A set of numbers, as a map. -/
def stL (l : List Int) : List (Int × Value) := l.foldl (fun es k => aset es k (.bool true)) []
theorem stL_add (l : List Int) (x : Int) : stL (l ++ [x]) = aset (stL l) x (.bool true) := by simp [stL]
theorem aset_keys (es : List (Int × Value)) (k : Int) (v : Value) : (aset es k v).map (·.1) = if k ∈ es.map (·.1) then es.map (·.1) else es.map (·.1) ++ [k] := by
  unfold aset
  split
  · rw [List.map_map]
    apply List.map_congr_left
    intro x hx
    simp only [Function.comp]
    split
    · rename_i h; rw [h]
    · rfl
  · simp
theorem rev_ind {p : List Int → Prop} (h0 : p []) (h1 : ∀ l x, p l → p (l ++ [x])) (l : List Int) : p l := by
  have : ∀ m : List Int, p m.reverse := by
    intro m
    induction m with
    | nil => exact h0
    | cons x m ih => rw [List.reverse_cons]; exact h1 _ _ ih
  have h2 := this l.reverse
  rwa [List.reverse_reverse] at h2
theorem stL_mem (l : List Int) (k : Int) : k ∈ (stL l).map (·.1) ↔ k ∈ l := by
  induction l using rev_ind with
  | h0 => simp [stL]
  | h1 l x ih =>
    rw [stL_add, aset_keys]
    split
    · rename_i h
      rw [ih, List.mem_append, List.mem_singleton]
      constructor
      · exact .inl
      · rintro (h2 | rfl)
        · exact h2
        · exact (by have := h; revert this; induction l using rev_ind with | h0 => simp [stL] | h1 => exact fun h => ih.1 h)
    · rw [List.mem_append, List.mem_append, ih]
theorem stL_nodup (l : List Int) : ((stL l).map (·.1)).Nodup := by
  induction l using rev_ind with
  | h0 => simp [stL]
  | h1 l x ih =>
    rw [stL_add, aset_keys]
    split
    · exact ih
    · rename_i h
      rw [List.nodup_append]
      refine ⟨ih, by simp, ?_⟩
      rintro a ha b hb rfl
      simp at hb
      subst hb
      exact h ha
theorem stL_len (l : List Int) : (stL l).length ≤ l.length ∧ ((stL l).length = l.length ↔ l.Nodup) := by
  induction l using rev_ind with
  | h0 => simp [stL]
  | h1 l x ih =>
    have hm := stL_mem l x
    have hl : (stL (l ++ [x])).length = if x ∈ l then (stL l).length else (stL l).length + 1 := by
      have h := congrArg List.length (aset_keys (stL l) x (.bool true))
      rw [List.length_map] at h
      rw [stL_add, h]
      by_cases hx : x ∈ l
      · rw [if_pos (hm.2 hx), if_pos hx, List.length_map]
      · rw [if_neg (fun h => hx (hm.1 h)), if_neg hx, List.length_append, List.length_map]; rfl
    rw [hl, List.length_append, List.length_singleton, List.nodup_append]
    by_cases hx : x ∈ l
    · rw [if_pos hx]
      refine ⟨by omega, ⟨fun h => by omega, fun h => ?_⟩⟩
      exact absurd rfl (h.2.2 x hx x (by simp))
    · rw [if_neg hx]
      refine ⟨by omega, ⟨fun h => ⟨ih.2.1 (by omega), by simp, ?_⟩, fun h => by have := ih.2.2 h.1; omega⟩⟩
      rintro a ha b hb rfl
      simp at hb
      subst hb
      exact hx ha
theorem stL_look (l : List Int) (k : Int) : (alook (stL l) k).getD (.bool false) = .bool (decide (k ∈ l)) := by
  have hval : ∀ x ∈ stL l, x.2 = .bool true := by
    induction l using rev_ind with
    | h0 => simp [stL]
    | h1 l x ih =>
      rw [stL_add]
      unfold aset
      split
      · intro y hy
        obtain ⟨z, hz, rfl⟩ := List.mem_map.1 hy
        split
        · rfl
        · exact ih z hz
      · intro y hy
        rcases List.mem_append.1 hy with h | h
        · exact ih y h
        · simp at h; subst h; rfl
  by_cases h : k ∈ l
  · rw [decide_eq_true h]
    have h1 := (stL_mem l k).2 h
    unfold alook
    cases hf : (stL l).find? (fun x => decide (x.1 = k)) with
    | none =>
      obtain ⟨y, hy, rfl⟩ := List.mem_map.1 h1
      exact absurd (List.find?_eq_none.1 hf y hy) (by simp)
    | some y => simp [hval y (List.mem_of_find?_eq_some hf)]
  · rw [decide_eq_false h, alook_none.2 (fun h1 => h ((stL_mem l k).1 h1))]; rfl
/-- What is wrong with peers. -/
def rightA (l : List Rt) : Int := if 64 < l.length ∨ l.any oddR = true then 1 else if (l.map Rt.id).Nodup then 0 else 5
attribute [local irreducible] J K Ctr Ends pts slc mapR mapI sbRow stock arrS loopP CtrY

theorem Sort_any (v : Value) (l : List Int) (hl : l.length ≤ 1000000000) : Ctr Try.prog 33 [v] [slc 3 1 v l.length (iV l)] (fun r H => r = .tuple #[] ∧ H = [slc 3 1 v l.length (iV (risI l))]) :=
  sortInt_ctr (ρ := sortI_ren) sortI 3 v l (by kernel_rfl) (by omega)
theorem ids_any (A : HP) (v : Value) (l : List Rt) (hv : Vw A v l.length (rV l)) (hl : l.length ≤ 1000000) :
    Ctr Try.prog 29 [v] [A] (fun r H => H = [slc 3 1 r l.length (iV (risI (l.map Rt.id))), A]) := by
  obtain ⟨a, c0, rfl⟩ := hv.shape
  refine Ctr.enter Try.func29 (by kernel_rfl) rfl Try.ntmps29 rfl rfl ?_
  intro G F R hE
  (refine go ?_)
  refine K_ent (slc_lift 3 1 none _) ?_
  refine K_loop (fun y : Value × Nat => y.2 ≤ l.length) (fun y => l.length - y.2) (fun y => [(3, y.1), (6, .slice a l.length c0), (7, .int .i64 l.length), (8, .int .i64 (y.2 : Int))]) (fun y => slc 3 1 y.1 y.2 (iV ((l.take y.2).map Rt.id)) :: A :: F) (.slice none 0 0, 0) (Nat.zero_le _) rfl (by repeat (first | exact keep_nil | refine keep_cons rfl ?_)) entA ?_
  rintro ⟨w, i⟩ hi ih
  simp only at hi
  (first | refine J_shape 0 rfl ?_ | refine K_shape 0 rfl ?_)
  intro wa wc hw
  simp only at hw
  subst hw
  simp only
  (refine go ?_)
  refine K_condP rfl rfl ?_ ?_
  · intro hlt
    have hi' : i < l.length := by omega
    obtain ⟨x, hx⟩ : ∃ x, l[i]? = some x := ⟨l[i], by simp [hi']⟩
    obtain ⟨b, o, c', he⟩ := hv.some (by intro e; have := congrArg List.length e; rw [rV_len] at this; simp at this; omega)
    simp only [Value.slice.injEq, true_and] at he
    obtain ⟨rfl, rfl⟩ := he
    (refine go ?_)
    refine J_at (U := tab) i 3 rfl rfl rfl rfl rfl rfl rfl rfl hi' ?_
    refine J_loadElem (U := tab) (es := rC x) 1 (i * 3) rfl rfl rfl hv rfl (fun q v hq => ?_) rfl rfl rfl ?_
    · have hj3 : q < 3 := by
        rcases Nat.lt_or_ge q 3 with h | h
        · exact h
        · rw [List.getElem?_eq_none (by rw [rC_len]; exact h)] at hq; cases hq
      rw [rV_eq, chunk_get rC_len hx q hj3]; exact hq
    refine J_alloc (U := tab) rfl rfl rfl (fun _ _ _ => trivial) ?_
    intro bx
    (refine go ?_)
    refine J_buildSlice1 (U := tab) (cs := iV [x.id]) rfl rfl rfl rfl rfl rfl rfl rfl rfl (fun _ _ _ => trivial) ?_
    intro b1
    (refine go ?_)
    refine J_append (U := tab) (mm := 1) (news := iV [x.id]) 2 0 rfl rfl rfl rfl rfl rfl rfl rfl rfl rfl rfl rfl (Vw.pts rfl) rfl (iV_one _) (by omega) (by show (_ + 1) * 8 ≤ _; omega) (fun _ => rfl) (fun _ _ _ => trivial) ?_
    intro v1
    rw [show iV ((l.take i).map Rt.id) ++ iV [x.id] = iV ((l.take (i + 1)).map Rt.id) from by rw [List.take_add_one, hx]; simp [iV]]
    (first | refine J_shape 2 rfl ?_ | refine K_shape 2 rfl ?_)
    rintro va2 vc2 rfl
    (refine go ?_)
    refine K_again ih (.slice va2 (i + 1) vc2, i + 1) rfl (by simp only; omega) (by simp only; omega) (by repeat (first | exact keep_nil | refine keep_cons rfl ?_)) entA
  intro hge
  have hil : i = l.length := by omega
  subst hil
  rw [List.take_length]
  have hso := Sort_any (.slice wa l.length wc) (l.map Rt.id) (by rw [List.length_map]; omega)
  rw [List.length_map] at hso
  (refine go ?_)
  (first | refine J_callE rfl rfl rfl rfl (hso) entA ?_ (fun _ _ _ _ _ => trivial) | refine J_call0E rfl rfl rfl (hso) entA ?_ (fun _ _ _ _ _ => trivial) | (refine go ?_; first | refine J_callE rfl rfl rfl rfl (hso) entA ?_ (fun _ _ _ _ _ => trivial) | refine J_call0E rfl rfl rfl (hso) entA ?_ (fun _ _ _ _ _ => trivial)))
  rintro _ _ ⟨rfl, rfl⟩
  (refine go ?_)
  (first | refine K_return hE Try.func29 rfl _ rfl rfl entA | refine K_fallEnd hE Try.func29 rfl _ rfl rfl entA)
theorem right_any (A : HP) (v : Value) (l : List Rt) (hv : Vw A v l.length (rV l)) (hl : l.length ≤ 9223372036854775807) :
    Ctr Try.prog 21 [v] [A] (fun r H => r = .int .i64 (rightA l) ∧ H = [A]) := by
  obtain ⟨a, c0, rfl⟩ := hv.shape
  have hki : KeyOk Try.prog 3 (Value.int .i64) := keyInt Try.underlying3
  refine Ctr.enter Try.func21 (by kernel_rfl) rfl Try.ntmps21 rfl rfl ?_
  intro G F R hE
  (refine go ?_)
  refine J_gsP rfl rfl rfl rfl ?_ ?_
  · intro hbig
    (refine go ?_)
    have : rightA l = 1 := by unfold rightA; rw [if_pos (.inl (by omega))]
    (first | refine K_return hE Try.func21 rfl _ rfl ⟨by rw [this]; rfl, rfl⟩ entA | refine K_fallEnd hE Try.func21 rfl _ rfl ⟨by rw [this]; rfl, rfl⟩ entA)
  intro hsm
  (refine go ?_)
  (first | refine K_ent (Ent.addEmp _) ?_ | refine J_ent (Ent.addEmp _) ?_)
  (first | refine J_callE rfl rfl rfl rfl (ContainsFunc_rt A emp (.slice a l.length c0) l hv (by omega) 39 [] oddR (fun x _ => Ctr.frame1 emp (right1_any x))) entA ?_ (fun _ _ _ _ _ => trivial) | refine J_call0E rfl rfl rfl (ContainsFunc_rt A emp (.slice a l.length c0) l hv (by omega) 39 [] oddR (fun x _ => Ctr.frame1 emp (right1_any x))) entA ?_ (fun _ _ _ _ _ => trivial) | (refine go ?_; first | refine J_callE rfl rfl rfl rfl (ContainsFunc_rt A emp (.slice a l.length c0) l hv (by omega) 39 [] oddR (fun x _ => Ctr.frame1 emp (right1_any x))) entA ?_ (fun _ _ _ _ _ => trivial) | refine J_call0E rfl rfl rfl (ContainsFunc_rt A emp (.slice a l.length c0) l hv (by omega) 39 [] oddR (fun x _ => Ctr.frame1 emp (right1_any x))) entA ?_ (fun _ _ _ _ _ => trivial)))
  rintro _ _ ⟨rfl, rfl⟩
  (refine go ?_)
  refine K_condA rfl rfl ?_ ?_
  · intro hany
    (refine go ?_)
    have : rightA l = 1 := by unfold rightA; rw [if_pos (.inr hany)]
    (first | refine K_return hE Try.func21 rfl _ rfl ⟨by rw [this]; rfl, rfl⟩ entA | refine K_fallEnd hE Try.func21 rfl _ rfl ⟨by rw [this]; rfl, rfl⟩ entA)
  intro hany
  have hr0 : rightA l = if (l.map Rt.id).Nodup then 0 else 5 := by unfold rightA; rw [if_neg (by rintro (h | h); omega; rw [hany] at h; cases h)]
  rw [hr0] at hE
  (refine go ?_)
  refine J_makeMap rfl (fun _ _ _ => trivial) ?_
  intro bm
  (first | refine K_ent (Ent.fold (B := [_]) (A := mapR (Value.int .i64) bm []) (fun h hs => ⟨h, sub.refl h, mapR_new (Value.int .i64) bm h (Sep_one hs)⟩)) ?_ | refine J_ent (Ent.fold (B := [_]) (A := mapR (Value.int .i64) bm []) (fun h hs => ⟨h, sub.refl h, mapR_new (Value.int .i64) bm h (Sep_one hs)⟩)) ?_)
  (refine go ?_)
  refine K_loop (fun i : Nat => i ≤ l.length) (fun i => l.length - i) (fun i => [(0, .slice a l.length c0), (4, .map (some bm)), (16, .slice a l.length c0), (17, .int .i64 l.length), (18, .int .i64 (i : Int))]) (fun i => mapR (Value.int .i64) bm (stL ((l.take i).map Rt.id)) :: A :: F) 0 (Nat.zero_le _) rfl (by repeat (first | exact keep_nil | refine keep_cons rfl ?_)) entA ?_
  rintro i hi ih
  (refine go ?_)
  refine K_condP rfl rfl ?_ ?_
  · intro hlt
    have hi' : i < l.length := by omega
    obtain ⟨x, hx⟩ : ∃ x, l[i]? = some x := ⟨l[i], by simp [hi']⟩
    obtain ⟨b, o, c', he⟩ := hv.some (by intro e; have := congrArg List.length e; rw [rV_len] at this; simp at this; omega)
    simp only [Value.slice.injEq, true_and] at he
    obtain ⟨rfl, rfl⟩ := he
    (refine go ?_)
    refine J_at (U := tab) i 3 rfl rfl rfl rfl rfl rfl rfl rfl hi' ?_
    refine J_loadElem (U := tab) (es := rC x) 1 (i * 3) rfl rfl rfl hv rfl (fun q v hq => ?_) rfl rfl rfl ?_
    · have hj3 : q < 3 := by
        rcases Nat.lt_or_ge q 3 with h | h
        · exact h
        · rw [List.getElem?_eq_none (by rw [rC_len]; exact h)] at hq; cases hq
      rw [rV_eq, chunk_get rC_len hx q hj3]; exact hq
    refine J_alloc (U := tab) rfl rfl rfl (fun _ _ _ => trivial) ?_
    intro bx
    (refine go ?_)
    refine J_mapUpdate (U := tab) (key := x.id) 1 hki (fun _ _ => trivial) rfl rfl rfl rfl rfl rfl rfl rfl ?_
    rw [← stL_add, show (l.take i).map Rt.id ++ [x.id] = (l.take (i + 1)).map Rt.id from by rw [List.take_add_one, hx]; simp]
    (refine go ?_)
    refine K_again ih (i + 1) rfl (by omega) (by omega) (by repeat (first | exact keep_nil | refine keep_cons rfl ?_)) entA
  intro hge
  have hil : i = l.length := by omega
  subst hil
  rw [List.take_length]
  obtain ⟨hl1, hl2⟩ := stL_len (l.map Rt.id)
  rw [List.length_map] at hl1 hl2
  (refine go ?_)
  refine J_lenMap (U := tab) 0 rfl rfl rfl rfl rfl ?_
  (refine go ?_)
  refine K_condP rfl rfl ?_ ?_
  · intro h
    have hn : ¬ (l.map Rt.id).Nodup := fun hn => by have := hl2.2 hn; omega
    rw [if_neg hn] at hE
    (refine go ?_)
    (first | refine K_return hE Try.func21 rfl _ rfl ⟨rfl, rfl⟩ entA | refine K_fallEnd hE Try.func21 rfl _ rfl ⟨rfl, rfl⟩ entA)
  intro h
  have hn : (l.map Rt.id).Nodup := hl2.1 (by omega)
  rw [if_pos hn] at hE
  (refine go ?_)
  (first | refine K_return hE Try.func21 rfl _ rfl ⟨rfl, rfl⟩ entA | refine K_fallEnd hE Try.func21 rfl _ rfl ⟨rfl, rfl⟩ entA)
end Go.Proofs.Ytpacpkpkinmjcaa
