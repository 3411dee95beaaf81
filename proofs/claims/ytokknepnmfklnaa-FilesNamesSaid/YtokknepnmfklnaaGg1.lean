/- files, part gg1: Names: the keys of a map, in order. -/
import Derived.Test.YtokknepnmfklnaaGg0
import Derived.Test.YtokknepnmfklnaaEngX
import Derived.Test.YtokknepnmfklnaaEngU
import Derived.Test.YtokknepnmfklnaaEngV2
import Derived.Test.YtokknepnmfklnaaGs0
set_option linter.unusedVariables false
set_option linter.unusedSimpArgs false
namespace Go.Proofs.Ytokknepnmfklnaa
open Go Go.SL
def sS (l : List ByteArray) : List Value := l.map Value.string
theorem sS_one (l : List ByteArray) : ∀ v ∈ sS l, v.oneCell' = true := by
  intro v hv
  obtain ⟨x, _, rfl⟩ := List.mem_map.1 hv
  rfl
/-- A slice of strings that grows, in a box. -/
def SI (bs : Nat) (ks : List ByteArray) : HP := fun h => ∃ v : Value, True ∧ Sep [pts bs (cl [v] 55), slc 9 1 v ks.length (sS ks)] h
theorem SI_open (bs : Nat) (ks : List ByteArray) : ∀ h, SI bs ks h → ∃ v : Value, True ∧ Sep [pts bs (cl [v] 55), slc 9 1 v ks.length (sS ks)] h := fun h hs => hs
theorem SI_close (bs : Nat) (ks : List ByteArray) (v : Value) (H : List HP) : Ent (pts bs (cl [v] 55) :: slc 9 1 v ks.length (sS ks) :: H) (SI bs ks :: H) :=
  Ent.fold (A := SI bs ks) (B := [pts bs (cl [v] 55), slc 9 1 v ks.length (sS ks)]) fun h hs => ⟨h, sub.refl h, v, trivial, hs⟩
theorem kStr' : KeyOk Try.prog 9 Value.string := keyStr Try.underlying9
attribute [local irreducible] J K Ctr Ends pts slc mapR mapI sbRow stock arrS loopP CtrY SI

theorem Keys_any (bm : Nat) : Ctr Try.prog 49 [.map (some bm)] [] (fun r H => ∃ bx, r = .func (.func 63) #[] #[ptr bx] ∧ H = [pts bx (cl [.map (some bm)] 58)]) := by
  refine Ctr.enter Try.func49 (by kernel_rfl) rfl Try.ntmps49 rfl rfl ?_
  intro G F R hE
  (refine go ?_)
  refine J_box rfl rfl (fun _ _ _ => trivial) ?_
  intro bx
  (refine go ?_)
  (first | refine K_return hE Try.func49 rfl _ rfl ⟨bx, rfl, rfl⟩ entA | refine K_fallEnd hE Try.func49 rfl _ rfl ⟨bx, rfl, rfl⟩ entA)
theorem Keys1_any (l bx bm : Nat) (es : List (ByteArray × Value)) (hnd : (es.map (·.1)).Nodup) (Lp : HP) (Inv : List ByteArray → HP)
    (hy : ∀ dn k, k ∈ es.map (·.1) → dn.length < es.length → CtrY Try.prog l [.string k] [Lp, Inv dn] (fun v H => v = .bool true ∧ H = [Lp, Inv (dn ++ [k])])) :
    Ctr Try.prog 63 [.func (.yield l) #[] #[], ptr bx] [Lp, pts bx (cl [.map (some bm)] 58), mapR Value.string bm es, Inv [] ] (fun _ H => ∃ dn : List ByteArray, dn.Perm (es.map (·.1)) ∧ H = [Lp, pts bx (cl [.map (some bm)] 58), mapR Value.string bm es, Inv dn]) := by
  refine Ctr.enter Try.func63 (by kernel_rfl) rfl Try.ntmps63 rfl rfl ?_
  intro G F R hE
  refine K_ent (Ent.pick [2, 0, 1] rfl) ?_
  (refine go ?_)
  refine J_range (kv := Value.string) (es := es) (U := tab) 0 rfl rfl rfl rfl rfl (fun _ => rfl) (fun _ _ _ => trivial) ?_
  intro it
  (refine go ?_)
  refine K_loop (fun s : List ByteArray => s.Nodup ∧ ∀ x ∈ s, x ∈ es.map (·.1)) (fun s => es.length - s.length) (fun s => [(0, .func (.yield l) #[] #[]), (5, .pointer (some ⟨it, 0, none⟩))])
    (fun s => mapI Value.string bm it es s :: Lp :: pts bx (cl [.map (some bm)] 58) :: Inv s.reverse :: F) [] ⟨List.nodup_nil, by simp⟩ rfl (by repeat (first | exact keep_nil | refine keep_cons rfl ?_)) entA ?_
  rintro dn ⟨hdn, hsub⟩ ih
  (refine go ?_)
  refine J_next (kv := Value.string) (es := es) 0 rfl kStr'.inj rfl rfl (fun _ => rfl) (fun _ _ => trivial) (fun _ _ _ => trivial) ?_ ?_
  · intro hall
    (refine go ?_)
    refine K_ent (Ent.head (B := [mapR Value.string bm es]) (fun h hs => by obtain ⟨h', s, hm⟩ := mapI_mapR h hs; exact ⟨h', s, Sep_one' hm⟩)) ?_
    have hp : dn.reverse.Perm (es.map (·.1)) := (List.reverse_perm dn).trans ((List.perm_ext_iff_of_nodup hdn hnd).2 fun a => ⟨hsub a, fun h => by obtain ⟨y, hy, rfl⟩ := List.mem_map.1 h; exact hall y hy⟩)
    (first | refine K_return hE Try.func63 rfl _ rfl ⟨_, hp, rfl⟩ entA | refine K_fallEnd hE Try.func63 rfl _ rfl ⟨_, hp, rfl⟩ entA)
  · intro key v hmem hnot
    have hk : key ∈ es.map (·.1) := List.mem_map.2 ⟨_, hmem, rfl⟩
    have hlt : dn.length < es.length := by
      have h1 : ((List.filter (fun x => decide (x ∈ dn)) (es.map (·.1)))).length ≤ (es.map (·.1)).length := List.length_filter_le _ _
      have h2 : dn.length = (List.filter (fun x => decide (x ∈ dn)) (es.map (·.1))).length := nodup_len2 hdn (hnd.sublist List.filter_sublist) (fun n => by
        simp only [List.mem_filter, decide_eq_true_eq]
        exact ⟨fun h => ⟨hsub n h, h⟩, fun h => h.2⟩)
      rw [List.length_map] at h1
      rcases Nat.lt_or_ge dn.length es.length with h | h
      · exact h
      · exfalso
        have h3 : (List.filter (fun x => decide (x ∈ dn)) (es.map (·.1))).length = (es.map (·.1)).length := by rw [List.length_map]; omega
        have h4 := List.filter_eq_self.1 ((List.filter_sublist (p := fun x => decide (x ∈ dn)) (l := es.map (·.1))).eq_of_length h3) key hk
        exact hnot (of_decide_eq_true h4)
    (refine go ?_)
    refine J_entry (kv := Value.string) (es := es) 0 rfl kStr'.inj rfl rfl hmem ?_
    (refine go ?_)
    refine J_yield rfl rfl rfl (hy dn.reverse key hk (by rw [List.length_reverse]; exact hlt)) entA ?_ (fun _ _ _ _ _ => trivial)
    rintro _ _ ⟨rfl, rfl⟩
    rw [show dn.reverse ++ [key] = (key :: dn).reverse from by simp]
    (refine go ?_)
    refine K_again ih (key :: dn) rfl (⟨List.nodup_cons.2 ⟨hnot, hdn⟩, fun x hx => by rcases List.mem_cons.1 hx with rfl | h; exact hk; exact hsub x h⟩) (by show _ - (key :: dn).length < _; simp only [List.length_cons]; omega) (by repeat (first | exact keep_nil | refine keep_cons rfl ?_)) entA
theorem AppendSeq_any (bx bm : Nat) (es : List (ByteArray × Value)) (hnd : (es.map (·.1)).Nodup) (hes : es.length ≤ 1000000) :
    Ctr Try.prog 66 [.slice none 0 0, .func (.func 63) #[] #[ptr bx] ] [pts bx (cl [.map (some bm)] 58), mapR Value.string bm es] (fun r H => ∃ dn : List ByteArray, dn.Perm (es.map (·.1)) ∧ H = [slc 9 1 r dn.length (sS dn), pts bx (cl [.map (some bm)] 58), mapR Value.string bm es]) := by
  refine Ctr.enter Try.func66 (by kernel_rfl) rfl Try.ntmps66 rfl rfl ?_
  intro G F R hE
  refine K_regionA rfl ?_
  refine J_box rfl rfl (fun _ _ _ => trivial) ?_
  intro bs
  (refine go ?_)
  refine K_adv1 rfl ?_
  refine K_ent (Ent.trans (Ent.cons _ (slc_lift 9 1 none _)) (SI_close bs [] (.slice none 0 0) _)) ?_
  refine K_range (Fr := F) (Pre := fun _ _ => [pts bx (cl [.map (some bm)] 58), mapR Value.string bm es, SI bs [] ]) (Post := ?Po) rfl hE.1.1 rfl ?c (fun l r => entA) ?hend
  case c =>
    intro l r
    refine Keys1_any l bx bm es hnd _ (fun dn => SI bs dn) ?_
    intro dn k hk hlt
    refine CtrY.of_K rfl rfl ?_
    intro G2 F2 R2 hY
    (refine go ?_)
    refine K_beginRound rfl hY ?_
    refine K_ent (Ent.pick [1] rfl) ?_
    refine K_open (SI_open bs dn) ?_
    rintro v -
    refine K_shape 1 rfl ?_
    rintro va vc rfl
    (refine go ?_)
    refine J_buildSlice1 (U := tab) (cs := sS [k]) rfl rfl rfl rfl rfl rfl rfl rfl rfl (fun _ _ _ => trivial) ?_
    intro row
    (refine go ?_)
    refine J_append (U := tab) (mm := 1) (news := sS [k]) 2 0 rfl rfl rfl rfl rfl rfl rfl rfl rfl rfl rfl rfl (Vw.pts rfl) rfl (sS_one _) (by omega) (by show (_ + 1) * 16 ≤ _; omega) (fun _ => rfl) (fun _ _ _ => trivial) ?_
    intro v1
    rw [show sS dn ++ sS [k] = sS (dn ++ [k]) from by simp [sS], show dn.length + 1 = (dn ++ [k]).length from by simp]
    (first | refine J_shape 2 rfl ?_ | refine K_shape 2 rfl ?_)
    rintro va2 vc2 rfl
    (refine go ?_)
    refine K_ent (Ent.trans entA (SI_close bs (dn ++ [k]) (.slice va2 (dn ++ [k]).length vc2) _)) ?_
    refine K_roundEnd hY rfl entA ⟨rfl, rfl⟩
  intro l r v H hpost
  obtain ⟨dn, hp, rfl⟩ := hpost
  refine ⟨_, _, _, rfl, by decide, ?_⟩
  rw [hE.1.2]
  refine K_ent (Ent.pick [2] rfl) ?_
  refine K_open (SI_open bs dn) ?_
  rintro w -
  (refine go ?_)
  refine K_returnM hE Try.func66 rfl _ rfl ⟨dn, hp, rfl⟩ entA
theorem Collect_any (bx bm : Nat) (es : List (ByteArray × Value)) (hnd : (es.map (·.1)).Nodup) (hes : es.length ≤ 1000000) :
    Ctr Try.prog 61 [.func (.func 63) #[] #[ptr bx] ] [pts bx (cl [.map (some bm)] 58), mapR Value.string bm es] (fun r H => ∃ dn : List ByteArray, dn.Perm (es.map (·.1)) ∧ H = [slc 9 1 r dn.length (sS dn), pts bx (cl [.map (some bm)] 58), mapR Value.string bm es]) := by
  refine Ctr.enter Try.func61 (by kernel_rfl) rfl Try.ntmps61 rfl rfl ?_
  intro G F R hE
  (refine go ?_)
  (first | refine J_callE rfl rfl rfl rfl (AppendSeq_any bx bm es hnd hes) entA ?_ (fun _ _ _ _ _ => trivial) | refine J_call0E rfl rfl rfl (AppendSeq_any bx bm es hnd hes) entA ?_ (fun _ _ _ _ _ => trivial) | (refine go ?_; first | refine J_callE rfl rfl rfl rfl (AppendSeq_any bx bm es hnd hes) entA ?_ (fun _ _ _ _ _ => trivial) | refine J_call0E rfl rfl rfl (AppendSeq_any bx bm es hnd hes) entA ?_ (fun _ _ _ _ _ => trivial)))
  rintro w _ ⟨dn, hp, rfl⟩
  (refine go ?_)
  (first | refine K_return hE Try.func61 rfl _ rfl ⟨dn, hp, rfl⟩ entA | refine K_fallEnd hE Try.func61 rfl _ rfl ⟨dn, hp, rfl⟩ entA)
def nS (l : List (List UInt8)) : List Value := l.map Go.Proofs.encStr
theorem sS_nS (l : List ByteArray) : sS l = nS (l.map fun b => b.data.toList) := by
  unfold sS nS
  rw [List.map_map]
  rfl
theorem SortS_any (v : Value) (l : List ByteArray) (hl : l.length ≤ 1000000000) : Ctr Try.prog 62 [v] [slc 9 1 v l.length (sS l)] (fun r H => r = .tuple #[] ∧ H = [slc 9 1 v l.length (nS (sortB l))]) := by
  have h := sortStr_ctr (ρ := sortS_ren) sortS 9 v (l.map fun b => b.data.toList) (by kernel_rfl) (by rw [List.length_map]; omega)
  rw [List.length_map] at h
  rw [sS_nS]
  exact h
theorem Sorted_any (bx bm : Nat) (es : List (ByteArray × Value)) (hnd : (es.map (·.1)).Nodup) (hes : es.length ≤ 1000000) :
    Ctr Try.prog 48 [.func (.func 63) #[] #[ptr bx] ] [pts bx (cl [.map (some bm)] 58), mapR Value.string bm es] (fun r H => H = [slc 9 1 r es.length (nS (sortB (es.map (·.1)))), pts bx (cl [.map (some bm)] 58), mapR Value.string bm es]) := by
  refine Ctr.enter Try.func48 (by kernel_rfl) rfl Try.ntmps48 rfl rfl ?_
  intro G F R hE
  (refine go ?_)
  (first | refine J_callE rfl rfl rfl rfl (Collect_any bx bm es hnd hes) entA ?_ (fun _ _ _ _ _ => trivial) | refine J_call0E rfl rfl rfl (Collect_any bx bm es hnd hes) entA ?_ (fun _ _ _ _ _ => trivial) | (refine go ?_; first | refine J_callE rfl rfl rfl rfl (Collect_any bx bm es hnd hes) entA ?_ (fun _ _ _ _ _ => trivial) | refine J_call0E rfl rfl rfl (Collect_any bx bm es hnd hes) entA ?_ (fun _ _ _ _ _ => trivial)))
  rintro w _ ⟨dn, hp, rfl⟩
  have hlen : dn.length = es.length := by rw [hp.length_eq, List.length_map]
  (first | refine J_shape 0 rfl ?_ | refine K_shape 0 rfl ?_)
  rintro wa wc rfl
  (refine go ?_)
  (first | refine J_callE rfl rfl rfl rfl (SortS_any (.slice wa dn.length wc) dn (by omega)) entA ?_ (fun _ _ _ _ _ => trivial) | refine J_call0E rfl rfl rfl (SortS_any (.slice wa dn.length wc) dn (by omega)) entA ?_ (fun _ _ _ _ _ => trivial) | (refine go ?_; first | refine J_callE rfl rfl rfl rfl (SortS_any (.slice wa dn.length wc) dn (by omega)) entA ?_ (fun _ _ _ _ _ => trivial) | refine J_call0E rfl rfl rfl (SortS_any (.slice wa dn.length wc) dn (by omega)) entA ?_ (fun _ _ _ _ _ => trivial)))
  rintro _ _ ⟨rfl, rfl⟩
  rw [sortB_perm hp, hlen]
  (refine go ?_)
  (first | refine K_return hE Try.func48 rfl _ rfl rfl entA | refine K_fallEnd hE Try.func48 rfl _ rfl rfl entA)
theorem Names_any (bd : Nat) (D : Dk) (A : Ab) (hR : Rel D A) : Ctr Try.prog 26 [ptr bd] [disk bd D] (fun r H => H = [slc 9 1 r (keysA A).length (nS (sortB (keysA A))), disk bd D]) := by
  have hnd := hR.nodup _ (List.mem_cons_self ..)
  have hsm := hR.smallN _ (List.mem_cons_self ..)
  have hkeys : (ptrs A.names).map (·.1) = keysA A := by simp [ptrs, keysA, Function.comp_def]
  have hkl : (ptrs A.names).length = (keysA A).length := by simp [ptrs, keysA]
  have hsl : (keysA A).length ≤ 200 := by unfold keysA; rw [List.length_map]; exact hsm
  obtain ⟨jm, hjm⟩ := List.getElem?_of_mem hR.names
  obtain ⟨room, bm, sts, wrs, pln, off, maps, arrs, files, stb, wl⟩ := D
  simp only at hjm
  refine Ctr.enter Try.func26 (by kernel_rfl) rfl Try.ntmps26 rfl rfl ?_
  intro G F R hE
  refine K_ent (disk_o _ _ _ _ _ _ _ _ _ _ _ _ _) ?_
  (refine go ?_)
  (first | refine J_callE rfl rfl rfl rfl (Keys_any bm) entA ?_ (fun _ _ _ _ _ => trivial) | refine J_call0E rfl rfl rfl (Keys_any bm) entA ?_ (fun _ _ _ _ _ => trivial) | (refine go ?_; first | refine J_callE rfl rfl rfl rfl (Keys_any bm) entA ?_ (fun _ _ _ _ _ => trivial) | refine J_call0E rfl rfl rfl (Keys_any bm) entA ?_ (fun _ _ _ _ _ => trivial)))
  rintro _ _ ⟨bx, rfl, rfl⟩
  have hso := Sorted_any bx bm (ptrs A.names) (by rw [hkeys]; exact hnd) (by omega)
  rw [hkeys, hkl] at hso
  refine J_ent (Ent.pick [2] rfl) ?_
  refine J_ent (stock_out mapG hjm _) ?_
  refine J_ent (Ent.pick [2, 0] rfl) ?_
  (refine go ?_)
  refine J_callE rfl rfl rfl rfl hso entA ?_ (fun _ _ _ _ _ => trivial)
  rintro v _ rfl
  refine J_ent (Ent.pick [2, 3] rfl) ?_
  refine J_ent (stock_in mapG hjm _) ?_
  (refine go ?_)
  refine K_ent ((Ent.pick [3, 0, 4, 5, 6, 7] rfl).trans (disk_c _ _ _ _ _ _ _ _ _ _ _ _ _)) ?_
  (first | refine K_return hE Try.func26 rfl _ rfl rfl entA | refine K_fallEnd hE Try.func26 rfl _ rfl rfl entA)
end Go.Proofs.Ytokknepnmfklnaa
