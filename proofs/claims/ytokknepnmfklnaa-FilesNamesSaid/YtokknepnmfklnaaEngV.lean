/- Engine, part V: the library's sorts, by the shelf's contracts. Nothing here names a program. -/
import Derived.Test.YtokknepnmfklnaaEngI
import Derived.Test.YtokknepnmfklnaaEngZ
import Derived.Shelf.SlSortCmp.NoneTotal
import Derived.Shelf.SortG.Plain
import Derived.Shelf.SortG.SortNone
set_option linter.unusedSimpArgs false
set_option linter.unusedVariables false
set_option linter.unusedSectionVars false
namespace Go.SL
open Go.Proofs Go.Shelf Go.RowKit Go.Lib Go.Sort
theorem Sat.grown {G : Glob} {w : World} {H : List HP} (hs : Sat G w H) (os : Array Obj) : Sat G (Sort.grow w os) H := by
  obtain ⟨a, b, c, h, hw, hh⟩ := hs
  refine ⟨a, b, c, h, fun x o e => ?_, hh⟩
  have h1 := hw x o e
  obtain ⟨h2, -⟩ := Array.getElem?_eq_some_iff.1 h1
  show (w.heap ++ os)[x]? = some o
  rw [Array.getElem?_append_left h2]
  exact h1
theorem Sat.ahead {G : Glob} {w : World} {H : List HP} (hs : Sat G w H) (n : Nat) : Sat G (Sort.ahead w n) H := hs.draw _ (Nat.le_add_right _ _)
theorem Sat.mapB {G : Glob} {w : World} {H : List HP} {b : Nat} {l l' : List Value} {e : TypeId} (hs : Sat G w (pts b (cl l e) :: H)) (f : Array Value → Array Value) (hf : f l.toArray = l'.toArray) : Sat G (Sort.mapBlock w b f) (pts b (cl l' e) :: H) := by
  have hb := hs.get (i := 0) rfl
  obtain ⟨hlt, hb2⟩ := Array.getElem?_eq_some_iff.1 hb
  have hm : w.heap.modify b (Sort.onCells f) = w.heap.setIfInBounds b (cl l' e) := by
    apply Array.ext_getElem?
    intro i
    rw [Array.getElem?_modify, Array.getElem?_setIfInBounds]
    by_cases h : b = i
    · subst h
      rw [if_pos rfl, if_pos rfl, if_pos hlt, hb]
      simp only [Option.map_some]
      unfold cl Sort.onCells
      simp only [hf]
    · rw [if_neg h, if_neg h]
  unfold Sort.mapBlock
  rw [hm]
  exact hs.set0
/-- Where all that was stands, the world has but grown. -/
theorem grow_of_old {W W' : World} (h : Sat { tape := W.tape, os := W.os, output := W.output, lo := W.drawn } W' [old W]) : ∃ q os', W' = Sort.grow (W.drewN q) os' := by
  obtain ⟨⟨h1, h2⟩, h3, h4, h0, hw, hs⟩ := h
  have ho := Sep_one hs
  have hb : ∀ k, k < W.heap.size → W'.heap[k]? = W.heap[k]? := fun k hk => by
    have e : W.heap[k]? = some W.heap[k] := by simp [hk]
    rw [e]
    exact hw k _ (by rw [ho k, e])
  have hle : W.heap.size ≤ W'.heap.size := by
    rcases Nat.eq_zero_or_pos W.heap.size with h0 | h0
    · omega
    · have := hb (W.heap.size - 1) (by omega)
      have e : W.heap[W.heap.size - 1]? = some W.heap[W.heap.size - 1] := by simp [h0]
      rw [e] at this
      have := (Array.getElem?_eq_some_iff.1 this).1
      omega
  refine ⟨W'.drawn - W.drawn, W'.heap.extract W.heap.size W'.heap.size, ?_⟩
  have hheap : W'.heap = W.heap ++ W'.heap.extract W.heap.size W'.heap.size := by
    apply Array.ext_getElem?
    intro i
    rw [Array.getElem?_append]
    split
    · rename_i hi; exact hb i hi
    · rename_i hi
      rw [Array.getElem?_extract]
      split
      · rename_i h; congr 1; omega
      · rename_i h; rw [Array.getElem?_eq_none (by omega)]
  have hd : W'.drawn = W.drawn + (W'.drawn - W.drawn) := by simp only at h2; omega
  cases W' with
  | mk hp tp dr os out =>
    simp only at h1 h2 h3 h4 hheap hd
    subst h1 h3 h4
    unfold Sort.grow World.drewN
    simp only
    rw [← hd, ← hheap]
variable {P : Program} {ρ : Ren} {α : Type} [Inhabited α]
/-- What the sort asks of its comparison, out of a contract that needs nothing. -/
theorem cmpLays_of {g : FuncId} {cb : Array Value} {enc : α → List Value} {k : Nat} {cf : α → α → Int} (blk off size : Nat) (w : World)
    (hc : ∀ x y, Ctr P g (.agg (enc x).toArray :: .agg (enc y).toArray :: cb.toList) [] (fun r H => r = .int .i64 (cf x y) ∧ H = [])) : CmpLays P g cb enc k cf blk off size w := by
  intro m os dk hs x y
  generalize sortWorldK enc k w blk off m dk os = W
  have h1 : Sat { tape := W.tape, os := W.os, output := W.output, lo := W.drawn } W ([] ++ [old W]) := ⟨⟨rfl, Nat.le_refl _⟩, rfl, rfl, fun b => W.heap[b]?, fun _ _ h => h, Sep_one' fun _ => rfl⟩
  have h2 := (hc x y).2 _ W [old W] h1
  have he : (Value.agg (enc x).toArray :: Value.agg (enc y).toArray :: cb.toList).toArray = #[.agg (enc x).toArray, .agg (enc y).toArray] ++ cb := by
    apply Array.ext'; simp
  rw [he] at h2
  refine h2.mono ?_
  rintro e w' ⟨v, H, rfl, ⟨rfl, rfl⟩, hs'⟩
  exact ⟨rfl, grow_of_old hs'⟩
theorem flatK_list (enc : α → List Value) (k : Nat) (hk : ∀ x, (enc x).length = k) (d : Array α) : Sort.flatK enc k d = (d.toList.flatMap enc).toArray := by
  refine Sort.ext_get! (by simp [chunk_len hk]) fun t ht => ?_
  have ht' : t < d.size * k := by simpa using ht
  rw [Sort.get_flatK _ _ _ _ ht']
  have hk0 : 0 < k := by
    rcases Nat.eq_zero_or_pos k with h | h
    · subst h; simp at ht'
    · exact h
  have hq : t / k < d.size := Nat.div_lt_of_lt_mul (by rw [Nat.mul_comm]; exact ht')
  have hx : d.toList[t / k]? = some d[t / k]! := by
    rw [getElem!_pos d (t / k) hq]; simp [hq]
  have h1 := chunk_get hk hx (t % k) (Nat.mod_lt _ hk0)
  rw [Nat.div_add_mod' t k] at h1
  have hlt : t % k < (enc d[t / k]!).length := by rw [hk]; exact Nat.mod_lt _ hk0
  have hlt2 : t < (d.toList.flatMap enc).length := by rw [chunk_len hk]; simpa using ht'
  rw [getElem!_pos (enc d[t / k]!) (t % k) hlt, getElem!_pos (d.toList.flatMap enc).toArray t (by simpa using hlt2)]
  rw [List.getElem?_eq_getElem hlt2, List.getElem?_eq_getElem hlt] at h1
  exact (Option.some.inj h1).symm
theorem putCells_mid (pre cs cs' junk : List Value) (hl : cs'.length = cs.length) : Sort.putCells id pre.length cs'.toArray (pre ++ cs ++ junk).toArray = (pre ++ cs' ++ junk).toArray := by
  apply Array.ext_getElem?
  intro i
  unfold Sort.putCells
  rw [Array.getElem?_mapIdx]
  simp only [List.getElem?_toArray, id, List.size_toArray]
  rcases Nat.lt_or_ge i pre.length with h | h
  · rw [List.append_assoc, List.append_assoc, List.getElem?_append_left h, List.getElem?_append_left h]
    cases pre[i]? with
    | none => rfl
    | some x => simp only [Option.map_some]; rw [if_neg (by omega)]
  · rw [List.append_assoc, List.append_assoc, List.getElem?_append_right h, List.getElem?_append_right h]
    rcases Nat.lt_or_ge (i - pre.length) cs'.length with h2 | h2
    · rw [List.getElem?_append_left (by omega), List.getElem?_append_left h2, List.getElem?_eq_getElem (by omega), List.getElem?_eq_getElem h2]
      simp only [Option.map_some]
      rw [if_pos ⟨h, by omega⟩, getElem!_pos _ _ (by simpa using h2)]
      simp
    · rw [List.getElem?_append_right (by omega), List.getElem?_append_right h2, hl]
      cases junk[i - pre.length - cs.length]? with
      | none => rfl
      | some x => simp only [Option.map_some]; rw [if_neg (by omega)]
theorem holds_mid {w : World} {b : Nat} {e : TypeId} {pre cs junk : List Value} (hb : w.heap[b]? = some (cl (pre ++ cs ++ junk) e)) : Sort.Holds id w b pre.length cs.toArray := by
  intro j hj
  simp only [List.size_toArray] at hj
  constructor
  · unfold World.cell?
    simp only [hb, cl, Option.isSome_none, Bool.false_eq_true, if_false, List.getElem?_toArray]
    rw [List.append_assoc, List.getElem?_append_right (by omega), Nat.add_sub_cancel_left, List.getElem?_append_left hj, getElem!_pos _ _ (by simpa using hj), List.getElem?_eq_getElem hj]
    simp
  · unfold World.frozen?
    simp only [hb, cl]
    simp

/-- slices.SortFunc over a slice of one's own: the elements sorted. -/
theorem sortFunc_ctr (L : SlLaysF0.n6 P ρ) (k : Nat) (aE : ∀ w, (isAgg (ρ.t 24)).run P w = .ok true w) (zE : ∀ w, (Go.sizeOf (ρ.t 24)).run P w = .ok k w) (enc : α → List Value) (hk : ∀ x, (enc x).length = k) (h1 : ∀ x, ∀ v ∈ enc x, v.oneCell' = true) (cf : α → α → Int) (hO : SWO (ltOf cf)) (g : FuncId)
    (e : TypeId) (v : Value) (l : List α) (hen : P.funcs[ρ.f 6]?.map callable = some true) (eg : ∀ args w, (callFunc g args).run P w = .ok (.enter g args) w) (hc : ∀ x y, Ctr P g [.agg (enc x).toArray, .agg (enc y).toArray] [] (fun r H => r = .int .i64 (cf x y) ∧ H = []))
    (hsz : l.length < 4611686018427387904) (hT : ∀ x y, (ltOf cf) x y = false → (ltOf cf) y x = false → x = y) :
    Ctr P (ρ.f 6) [v, .func (.func g) #[] #[]] [slc e k v l.length (l.flatMap enc)] (fun r H => r = .tuple #[] ∧ H = [slc e k v l.length ((l.mergeSort fun x y => !(ltOf cf) y x).flatMap enc)]) := by
  refine ⟨hen, fun G w F hs => ?_⟩
  obtain ⟨t, o, u, hp, hpw, hA, hB, ⟨hl, hcase⟩, hBB, hd, he⟩ := hs
  rcases hcase with ⟨a0, rfl, hn, hemp⟩ | ⟨b, oo, cap, pre, junk, rfl, hpre, hn, hcap, hpt⟩
  · have hl0 : l = [] := List.eq_nil_of_length_eq_zero hn
    subst hl0
    refine (AnyF.slices_SortFunc_none (P := P) (ρ := ρ) { L with } a0 0 (.func (.func g) #[] #[]) w).mono ?_
    rintro e' w' ⟨rfl, rfl⟩
    exact ⟨_, _, rfl, ⟨rfl, rfl⟩, t, o, u, hp, hpw, hA, hB, ⟨by simp, .inl ⟨a0, rfl, rfl, hemp⟩⟩, hBB, hd, he⟩
  · have hs1 : Sat G w (pts b (cl (pre ++ l.flatMap enc ++ junk) e) :: F) := ⟨t, o, u, hp, hpw, hA, hB, hpt, hBB, hd, he⟩
    have hb := hs1.get (i := 0) rfl
    have hlt := hs1.lt (i := 0) rfl
    subst hpre
    have hH : Sort.HoldsK enc k w b pre.length l.toArray := by
      unfold Sort.HoldsK
      rw [flatK_list enc k hk]
      exact holds_mid hb
    have hS := AnyQ.slices_SortFunc_total L k aE zE enc hk h1 cf hO g #[] b pre.length cap l.toArray w eg (cmpLays_of b pre.length l.toArray.size w hc) hH hlt (by simpa using hsz) hT
    refine (by simpa using hS : Calls P (ρ.f 6) #[.slice (some ⟨b, pre.length, none⟩) l.length cap, .func (.func g) #[] #[]] w _).mono ?_
    rintro e' w' ⟨rfl, n, os, rfl⟩
    refine ⟨_, _, rfl, ⟨rfl, rfl⟩, ?_⟩
    have hml : (l.mergeSort fun x y => !(ltOf cf) y x).length = l.length := List.length_mergeSort _
    have h3 := (hs1.ahead n).mapB (Sort.putCells id pre.length (Sort.flatK enc k (l.mergeSort fun x y => !(ltOf cf) y x).toArray)) (l' := pre ++ (l.mergeSort fun x y => !(ltOf cf) y x).flatMap enc ++ junk) (by
      rw [flatK_list enc k hk]
      exact putCells_mid _ _ _ _ (by rw [chunk_len hk, chunk_len hk, hml]))
    have h4 := h3.grown os
    refine h4.ent ?_
    exact slc_closeN rfl hn (by rw [chunk_len hk, hml, ← hl]; exact hcap) (by rw [chunk_len hk, hml]) F
theorem sortInt_ctr (L : SlLaysN.n53 P ρ) (e : TypeId) (v : Value) (l : List Int) (hen : P.funcs[ρ.f 53]?.map callable = some true) (hsz : l.length < 4611686018427387904) :
    Ctr P (ρ.f 53) [v] [slc e 1 v l.length (l.map (Value.int .i64))] (fun r H => r = .tuple #[] ∧ H = [slc e 1 v l.length ((l.mergeSort fun x y => decide (x ≤ y)).map (Value.int .i64))]) := by
  refine ⟨hen, fun G w F hs => ?_⟩
  obtain ⟨t, o, u, hp, hpw, hA, hB, ⟨hl, hcase⟩, hBB, hd, he⟩ := hs
  rcases hcase with ⟨a0, rfl, hn, hemp⟩ | ⟨b, oo, cap, pre, junk, rfl, hpre, hn, hcap, hpt⟩
  · have hl0 : l = [] := List.eq_nil_of_length_eq_zero hn
    subst hl0
    refine (AnyG.slices_Sort_int_none L a0 0 w).mono ?_
    rintro e' w' ⟨rfl, rfl⟩
    exact ⟨_, _, rfl, ⟨rfl, rfl⟩, t, o, u, hp, hpw, hA, hB, ⟨by simp, .inl ⟨a0, rfl, rfl, hemp⟩⟩, hBB, hd, he⟩
  · have hs1 : Sat G w (pts b (cl (pre ++ l.map (Value.int .i64) ++ junk) e) :: F) := ⟨t, o, u, hp, hpw, hA, hB, hpt, hBB, hd, he⟩
    have hb := hs1.get (i := 0) rfl
    have hlt := hs1.lt (i := 0) rfl
    subst hpre
    have hH : Sort.Holds (Value.int .i64) w b pre.length l.toArray := by
      have h0 := holds_mid hb
      intro j hj
      have := h0 j (by simpa using hj)
      simp only [List.size_toArray] at hj
      rw [getElem!_pos (l.map (Value.int .i64)).toArray j (by simpa using hj)] at this
      rw [getElem!_pos l.toArray j (by simpa using hj)]
      simpa using this
    have hS := AnyG.slices_Sort_int L b pre.length cap l w hH hlt hsz
    refine hS.mono ?_
    rintro e' w' ⟨rfl, n, os, rfl⟩
    refine ⟨_, _, rfl, ⟨rfl, rfl⟩, ?_⟩
    have hml : (l.mergeSort fun x y => decide (x ≤ y)).length = l.length := List.length_mergeSort _
    have h3 := (hs1.ahead n).mapB (Sort.putCells (Value.int .i64) pre.length (l.mergeSort fun x y => decide (x ≤ y)).toArray) (l' := pre ++ (l.mergeSort fun x y => decide (x ≤ y)).map (Value.int .i64) ++ junk) (by
      refine Eq.trans ?_ (putCells_mid pre (l.map (Value.int .i64)) ((l.mergeSort fun x y => decide (x ≤ y)).map (Value.int .i64)) junk (by rw [List.length_map, List.length_map, hml]))
      unfold Sort.putCells
      congr 1
      funext i x
      simp only [List.size_toArray, List.length_map, id]
      split
      · rename_i h
        rw [getElem!_pos (List.map (Value.int .i64) _).toArray (i - pre.length) (by simp; omega), getElem!_pos (l.mergeSort fun x y => decide (x ≤ y)).toArray (i - pre.length) (by simp; omega)]
        simp
      · rfl)
    have h4 := h3.grown os
    refine h4.ent ?_
    exact slc_closeN rfl hn (by rw [List.length_map] at hcap ⊢; rw [hml]; exact hcap) (by rw [List.length_map, hml, Nat.mul_one]) F
theorem Ctr.frame {P : Program} {f : FuncId} {args : List Value} {Pre : List HP} {Post : Value → List HP → Prop} (X : List HP) (c : Ctr P f args Pre Post) : Ctr P f args (Pre ++ X) (fun v H => ∃ H', Post v H' ∧ H = H' ++ X) :=
  ⟨c.1, fun G w F hw => (c.2 G w (X ++ F) (by rw [List.append_assoc] at hw; exact hw)).mono fun e w' h' => let ⟨v, H, he, hpo, hs⟩ := h'; ⟨v, H ++ X, he, ⟨H, hpo, rfl⟩, by rw [List.append_assoc]; exact hs⟩⟩
theorem Ctr.frame1 {P : Program} {f : FuncId} {args : List Value} {v : Value} (X : HP) (c : Ctr P f args [] (fun r H => r = v ∧ H = [])) : Ctr P f args [X] (fun r H => r = v ∧ H = [X]) :=
  Ctr.post (Ctr.frame [X] c) (by rintro r H ⟨H', ⟨rfl, rfl⟩, rfl⟩; exact ⟨rfl, rfl⟩)
end Go.SL
