/- files, part gg2: FilesNames, the walk. -/
import Derived.Test.YtokknepnmfklnaaGg1
import Derived.Test.YtokknepnmfklnaaFl
import Derived.Test.YtokknepnmfklnaaFk
import Derived.Test.YtokknepnmfklnaaEngO
set_option linter.unusedVariables false
set_option linter.unusedSimpArgs false
namespace Go.Proofs.Ytokknepnmfklnaa
open Go Go.SL
attribute [local irreducible] J K Ctr Ends pts slc mapR mapI sbRow stock arrS loopP CtrY

set_option maxRecDepth 20000 in
theorem FilesNames_any (X : HP) (v : Value) (l : List ActD) (hA : ActsIn X v l) :
    Ctr Try.prog 9 [v] [X] (fun v H => v = .bool true ∧ H = [X]) := by
  obtain ⟨a0, c0, rfl⟩ := hA.view.shape
  have hll := hA.len
  refine Ctr.enter Try.func9 (by kernel_rfl) rfl Try.ntmps9 rfl rfl ?_
  intro G F R hE
  (refine go ?_)
  (first | refine J_callE rfl rfl rfl rfl (awake_any) entA ?_ (fun _ _ _ _ _ => trivial) | refine J_call0E rfl rfl rfl (awake_any) entA ?_ (fun _ _ _ _ _ => trivial) | (refine go ?_; first | refine J_callE rfl rfl rfl rfl (awake_any) entA ?_ (fun _ _ _ _ _ => trivial) | refine J_call0E rfl rfl rfl (awake_any) entA ?_ (fun _ _ _ _ _ => trivial)))
  rintro _ _ ⟨rfl, rfl⟩
  (refine go ?_)
  (first | refine J_callE rfl rfl rfl rfl (New_good 1048576 (by omega) (by omega)) entA ?_ (fun _ _ _ _ _ => trivial) | refine J_call0E rfl rfl rfl (New_good 1048576 (by omega) (by omega)) entA ?_ (fun _ _ _ _ _ => trivial) | (refine go ?_; first | refine J_callE rfl rfl rfl rfl (New_good 1048576 (by omega) (by omega)) entA ?_ (fun _ _ _ _ _ => trivial) | refine J_call0E rfl rfl rfl (New_good 1048576 (by omega) (by omega)) entA ?_ (fun _ _ _ _ _ => trivial)))
  rintro _ _ ⟨bd, D, hR, rfl, rfl⟩
  (refine go ?_)
  refine J_makeMap rfl (fun _ _ _ => trivial) ?_
  intro bm
  (first | refine K_ent (Ent.fold (B := [_]) (A := mapR Value.string bm []) (fun h hs => ⟨h, sub.refl h, mapR_new Value.string bm h (Sep_one hs)⟩)) ?_ | refine J_ent (Ent.fold (B := [_]) (A := mapR Value.string bm []) (fun h hs => ⟨h, sub.refl h, mapR_new Value.string bm h (Sep_one hs)⟩)) ?_)
  (refine go ?_)
  refine K_loop (fun s : Nat × Dk × Ab × List (ByteArray × Value) => (s.1 ≤ l.length ∧ s.1 ≤ 100) ∧ Rel s.2.1 s.2.2.1 ∧ TH s.2.2.2 (keysA s.2.2.1) ∧ s.2.2.1.states.length ≤ s.1 + 1) (fun s => l.length - s.1)
    (fun s => [(0, .slice a0 l.length c0), (4, ptr bd), (6, .map (some bm)), (7, .int .i64 (s.1 : Int))])
    (fun s => disk bd s.2.1 :: mapR Value.string bm s.2.2.2 :: X :: F) (0, D, Ab.new 1048576, []) ⟨⟨Nat.zero_le _, by simp⟩, hR, ⟨fun n => by simp [keysA, Ab.new], by simp⟩, by simp [Ab.new]⟩ rfl (by repeat (first | exact keep_nil | refine keep_cons rfl ?_)) entA ?_
  rintro ⟨i, D1, A1, es⟩ ⟨⟨hi, hi100⟩, hR1, hT, hst⟩ ih
  simp only at hi hi100 hR1 hT hst
  simp only
  (refine go ?_)
  refine J_gsP rfl rfl rfl rfl ?_ ?_
  rotate_left
  · intro hge
    (refine go ?_)
    (first | refine K_return hE Try.func9 rfl _ rfl ⟨rfl, rfl⟩ entA | refine K_fallEnd hE Try.func9 rfl _ rfl ⟨rfl, rfl⟩ entA)
  intro hlt
  (refine go ?_)
  refine K_condP rfl rfl ?_ ?_
  case' refine_2 =>
    intro hge
    (refine go ?_)
    (first | refine K_return hE Try.func9 rfl _ rfl ⟨rfl, rfl⟩ entA | refine K_fallEnd hE Try.func9 rfl _ rfl ⟨rfl, rfl⟩ entA)
  intro h100
  have hil : i < l.length := by omega
  obtain ⟨x, hx⟩ : ∃ x, l[i]? = some x := ⟨l[i], by simp [hil]⟩
  have hok := hA.each x (List.mem_of_getElem? hx)
  obtain ⟨bb, ob, cb, hsb⟩ := hA.some (by omega)
  simp only [Value.slice.injEq, true_and] at hsb
  obtain ⟨rfl, rfl⟩ := hsb
  have hvA := hA.view
  (refine go ?_)
  refine J_at (U := tab) i 7 rfl rfl rfl rfl rfl rfl rfl rfl hil ?_
  refine J_loadElem (U := tab) (es := actCells x) 2 (i * 7) rfl rfl rfl hvA rfl (fun q v hq => ?_) rfl rfl rfl ?_
  · have hj3 : q < 7 := by
      rcases Nat.lt_or_ge q 7 with h | h
      · exact h
      · rw [List.getElem?_eq_none (by simpa [actCells] using h)] at hq; cases hq
    rw [act_get hx q hj3]; exact hq
  refine J_alloc (U := tab) rfl rfl rfl (fun _ _ _ => trivial) ?_
  intro bx
  (refine go ?_)
  refine J_gsP rfl rfl rfl rfl ?_ ?_
  · intro hbig
    (refine go ?_)
    (first | refine K_return hE Try.func9 rfl _ rfl ⟨rfl, rfl⟩ entA | refine K_fallEnd hE Try.func9 rfl _ rfl ⟨rfl, rfl⟩ entA)
  intro hsa
  (refine go ?_)
  refine K_condP rfl rfl ?_ ?_
  · intro hbig
    (refine go ?_)
    (first | refine K_return hE Try.func9 rfl _ rfl ⟨rfl, rfl⟩ entA | refine K_fallEnd hE Try.func9 rfl _ rfl ⟨rfl, rfl⟩ entA)
  intro hsc
  refine K_regionA rfl ?_
  (refine goR ?_)
  refine K_adv1 rfl ?_
  refine K_mid 2 (fun s : Dk × Ab × List (ByteArray × Value) => Rel s.1 s.2.1 ∧ TH s.2.2 (keysA s.2.1) ∧ s.2.1.states.length ≤ i + 2) (fun s => [(0, .slice (some ⟨bb, ob, none⟩) l.length c0), (4, ptr bd), (6, .map (some bm)), (7, .int .i64 (i : Int))]) (fun s => disk bd s.1 :: mapR Value.string bm s.2.2 :: X :: F) rfl ?_ ?_
  · clear hR1 hT hst
    rintro ⟨D2, A2, es2⟩ ⟨hR2, hT2, hst2⟩
    simp only at hR2 hT2 hst2
    simp only
    (refine go ?_)
    (first | refine J_callE rfl rfl rfl rfl (Names_any bd D2 A2 hR2) entA ?_ (fun _ _ _ _ _ => trivial) | refine J_call0E rfl rfl rfl (Names_any bd D2 A2 hR2) entA ?_ (fun _ _ _ _ _ => trivial) | (refine go ?_; first | refine J_callE rfl rfl rfl rfl (Names_any bd D2 A2 hR2) entA ?_ (fun _ _ _ _ _ => trivial) | refine J_call0E rfl rfl rfl (Names_any bd D2 A2 hR2) entA ?_ (fun _ _ _ _ _ => trivial)))
    rintro nv _ rfl
    have hnd := hR2.nodup _ (List.mem_cons_self ..)
    have hsm := hR2.smallN _ (List.mem_cons_self ..)
    have hkl : (keysA A2).length ≤ 200 := by unfold keysA; rw [List.length_map]; exact hsm
    change (keysA A2).Nodup at hnd
    have hnl := sortB_len (keysA A2)
    generalize hns : sortB (keysA A2) = ns at hnl ⊢
    generalize hN : (keysA A2).length = N at hnl hkl ⊢
    (first | refine J_shape 0 rfl ?_ | refine K_shape 0 rfl ?_)
    rintro na nc rfl
    (refine go ?_)
    have ihO := ih
    clear ih
    refine K_loop (fun k : Nat => k ≤ N) (fun k => N - k) (fun k => [(0, .slice (some ⟨bb, ob, none⟩) l.length c0), (4, ptr bd), (6, .map (some bm)), (7, .int .i64 (i : Int)), (10, .slice na N nc), (11, .int .i64 (k : Int))])
      (fun k => slc 9 1 (.slice na N nc) N (nS ns) :: mapR Value.string bm es2 :: disk bd D2 :: X :: F) 0 (Nat.zero_le _) rfl (by repeat (first | exact keep_nil | refine keep_cons rfl ?_)) entA ?_
    rintro k hk ih
    (refine go ?_)
    refine K_condP rfl rfl ?_ ?_
    case' refine_2 =>
      intro hge
      clear ih
      have ih := ihO
      refine K_sat ?_
      rintro ⟨w0, hw0⟩
      obtain ⟨h1, _, hA1⟩ := hw0.getA (i := 1) rfl
      have hel : es2.length = N := by
        have h2 := nodup_len2 (mapR_nodup hA1) hnd hT2.1
        rw [List.length_map, hN] at h2
        exact h2
      (refine go ?_)
      refine J_lenMap (kv := Value.string) (U := tab) 1 rfl rfl rfl rfl rfl ?_
      (refine go ?_)
      refine K_condP rfl rfl ?_ ?_
      · intro h; exfalso; omega
      intro _
      (refine go ?_)
      refine K_again ih (i + 1, D2, A2, es2) rfl ⟨⟨by simp only; omega, by simp only; omega⟩, hR2, hT2, by simp only; omega⟩ (by simp only; omega) (by repeat (first | exact keep_nil | refine keep_cons rfl ?_)) entA
    intro hltk
    have hk' : k < N := by omega
    obtain ⟨z, hz⟩ : ∃ z, ns[k]? = some z := ⟨ns[k]'(by omega), by simp⟩
    have hzm : (⟨z.toArray⟩ : ByteArray) ∈ keysA A2 := sortB_mem (by rw [hns]; exact List.mem_of_getElem? hz)
    have hlk := hT2.look ⟨z.toArray⟩
    rw [decide_eq_true hzm] at hlk
    refine K_slcF 0 rfl (by omega) ?_
    intro nb no noc hne hnle hncl hvn
    simp only [Value.slice.injEq, true_and] at hne
    obtain ⟨rfl, rfl⟩ := hne
    have hcz : (nS ns)[k]? = some (.string ⟨z.toArray⟩) := by simp [nS, hz, Go.Proofs.encStr]
    (refine go ?_)
    refine K_drawA (fun w => Sat G w ([slc 9 1 (.slice (some ⟨nb, no, none⟩) N nc) N (nS ns), mapR Value.string bm es2])) (.st 0 (.st 1 (.st 2 (.st 3 (.st 4 (.st 5 (.st 6 (.st 7 (.st 8 (.st 9 (.st 10 (.st 11 (.st 12 (.st 13 (.st 14 (.st 15 (.st 16 (.st 17 (.st 18 (.st 19 (.st 20 (.st 21 (.st 22 .nil))))))))))))))))))))))) rfl (by kernel_rfl) (by kernel_rfl) (by kernel_rfl) (fun w hw => hw.ent entA) ?_
    (refine go ?_)
    refine J_at1 (U := tab) k rfl rfl rfl rfl rfl rfl rfl rfl hk' ?_
    refine J_isLoad ?_
    refine J_loadAtS (U := tab) 0 k rfl rfl rfl hvn rfl hcz rfl rfl ?_
    (refine go ?_)
    refine J_lookupS (U := tab) (key := ⟨z.toArray⟩) rfl kStr' rfl rfl rfl rfl rfl rfl rfl (fun w hw => hw.getMap (i := 1) rfl) ?_
    (first | refine J_slot 119 ((.bool true)) rfl (hlk) ?_ | refine K_slot 119 ((.bool true)) rfl (hlk) ?_)
    (refine go ?_)
    refine J_gsP rfl rfl rfl rfl ?_ ?_
    rotate_left
    · intro hk0
      (refine go ?_)
      refine K_again ih (k + 1) rfl (by omega) (by omega) (by repeat (first | exact keep_nil | refine keep_cons rfl ?_)) entA
    intro hk0
    obtain ⟨k', rfl⟩ : ∃ k', k = k' + 1 := ⟨k - 1, by omega⟩
    obtain ⟨y, hy⟩ : ∃ y, ns[k']? = some y := ⟨ns[k']'(by omega), by simp⟩
    have hlt2 : y < z := sortB_lt hnd (by rw [hns]; exact hy) (by rw [hns]; exact hz)
    have hcy : (nS ns)[k']? = some (.string ⟨y.toArray⟩) := by simp [nS, hy, Go.Proofs.encStr]
    (refine go ?_)
    (first | refine J_slot 127 ((.int .i64 (k' : Int))) rfl ((congrArg (Value.int .i64) (by omega))) ?_ | refine K_slot 127 ((.int .i64 (k' : Int))) rfl ((congrArg (Value.int .i64) (by omega))) ?_)
    refine J_at1 (U := tab) k' rfl rfl rfl rfl rfl rfl rfl rfl (by omega) ?_
    (refine go ?_)
    refine J_isLoad ?_
    refine J_loadAtS (U := tab) 0 k' rfl rfl rfl hvn rfl hcy rfl rfl ?_
    (refine go ?_)
    refine J_at1 (U := tab) (k' + 1) rfl rfl rfl rfl rfl rfl rfl rfl hk' ?_
    (refine go ?_)
    refine J_isLoad ?_
    refine J_loadAtS (U := tab) 0 (k' + 1) rfl rfl rfl hvn rfl hcz rfl rfl ?_
    (refine go ?_)
    (first | refine J_slot 136 ((.bool false)) rfl ((by show Value.bool (!(ltS _ _)) = _; rw [ltS_lt, decide_eq_true hlt2]; rfl)) ?_ | refine K_slot 136 ((.bool false)) rfl ((by show Value.bool (!(ltS _ _)) = _; rw [ltS_lt, decide_eq_true hlt2]; rfl)) ?_)
    (refine go ?_)
    refine K_again ih (k' + 1 + 1) rfl (by omega) (by omega) (by repeat (first | exact keep_nil | refine keep_cons rfl ?_)) entA
  · intro tail
    (refine go ?_)
    refine K_condP rfl rfl ?_ ?_
    · intro hdo
      (refine go ?_)
      (first | refine J_callE rfl rfl rfl rfl (Create_any bd D1 A1 hR1 x.a (by omega)) entA ?_ (fun _ _ _ _ _ => trivial) | refine J_call0E rfl rfl rfl (Create_any bd D1 A1 hR1 x.a (by omega)) entA ?_ (fun _ _ _ _ _ => trivial) | (refine go ?_; first | refine J_callE rfl rfl rfl rfl (Create_any bd D1 A1 hR1 x.a (by omega)) entA ?_ (fun _ _ _ _ _ => trivial) | refine J_call0E rfl rfl rfl (Create_any bd D1 A1 hR1 x.a (by omega)) entA ?_ (fun _ _ _ _ _ => trivial)))
      rintro _ _ ⟨f, D2, hf, hR2, rfl, rfl⟩
      obtain ⟨hcr, hst2⟩ := create_names A1 (isName x.a) x.a f
      generalize A1.create (isName x.a) x.a f = res at hR2 hcr hst2
      obtain ⟨e, A2⟩ := res
      simp only at hR2 hcr hst2
      rcases hcr with ⟨he, hno, hk⟩ | ⟨he, hk⟩
      · subst he
        (refine go ?_)
        have hlk := hT.look x.a
        rw [decide_eq_false hno] at hlk
        refine J_lookup (U := tab) (key := x.a) 2 rfl kStr' rfl rfl rfl rfl rfl rfl rfl rfl ?_
        (first | refine J_slot 65 ((.bool false)) rfl (hlk) ?_ | refine K_slot 65 ((.bool false)) rfl (hlk) ?_)
        (refine go ?_)
        refine J_mapUpdate (U := tab) (key := x.a) 2 kStr' (fun _ _ => trivial) rfl rfl rfl rfl rfl rfl rfl rfl ?_
        (refine goR ?_)
        refine K_to tail (D2, A2, _) rfl ⟨hR2, hT.set hk, by simp only; omega⟩ (by repeat (first | exact keep_nil | refine keep_cons rfl ?_)) entA
      · (refine go ?_)
        refine K_condP rfl rfl ?_ ?_
        · intro h; exact absurd (by simpa using h) he
        intro _
        refine K_to tail (D2, A2, _) rfl ⟨hR2, hT.mono (fun n => by rw [hk]), by simp only; omega⟩ (by repeat (first | exact keep_nil | refine keep_cons rfl ?_)) entA
    intro hdo0
    (refine go ?_)
    refine K_condP rfl rfl ?_ ?_
    · intro hdo
      (refine go ?_)
      (first | refine J_callE rfl rfl rfl rfl (Rename_any bd D1 A1 hR1 x.a x.c (by omega)) entA ?_ (fun _ _ _ _ _ => trivial) | refine J_call0E rfl rfl rfl (Rename_any bd D1 A1 hR1 x.a x.c (by omega)) entA ?_ (fun _ _ _ _ _ => trivial) | (refine go ?_; first | refine J_callE rfl rfl rfl rfl (Rename_any bd D1 A1 hR1 x.a x.c (by omega)) entA ?_ (fun _ _ _ _ _ => trivial) | refine J_call0E rfl rfl rfl (Rename_any bd D1 A1 hR1 x.a x.c (by omega)) entA ?_ (fun _ _ _ _ _ => trivial)))
      rintro _ _ ⟨D2, hR2, rfl, rfl⟩
      obtain ⟨hcr, hst2⟩ := rename_names A1 ([x.a, x.c].all isName) x.a x.c
      generalize A1.rename ([x.a, x.c].all isName) x.a x.c = res at hR2 hcr hst2
      obtain ⟨e, A2⟩ := res
      simp only at hR2 hcr hst2
      rcases hcr with ⟨he, hyes, hk⟩ | ⟨he, hk⟩
      · subst he
        (refine go ?_)
        have hlk := hT.look x.a
        rw [decide_eq_true hyes] at hlk
        refine J_lookup (U := tab) (key := x.a) 2 rfl kStr' rfl rfl rfl rfl rfl rfl rfl rfl ?_
        (first | refine J_slot 82 ((.bool true)) rfl (hlk) ?_ | refine K_slot 82 ((.bool true)) rfl (hlk) ?_)
        (refine go ?_)
        refine J_delete (key := x.a) (U := tab) 2 kStr' (fun _ _ => trivial) rfl rfl rfl rfl rfl rfl rfl ?_
        (refine go ?_)
        refine J_mapUpdate (U := tab) (key := x.c) 2 kStr' (fun _ _ => trivial) rfl rfl rfl rfl rfl rfl rfl rfl ?_
        (refine goR ?_)
        refine K_to tail (D2, A2, _) rfl ⟨hR2, (hT.del (k := x.a) (K' := (keysA A1).filter fun n => !decide (n = x.a)) (fun n => by rw [List.mem_filter]; simp)).set (k := x.c) (fun n => by rw [hk, List.mem_filter]; simp), by simp only; omega⟩ (by repeat (first | exact keep_nil | refine keep_cons rfl ?_)) entA
      · (refine go ?_)
        refine K_condP rfl rfl ?_ ?_
        · intro h; exact absurd (by simpa using h) he
        intro _
        refine K_to tail (D2, A2, _) rfl ⟨hR2, hT.mono (fun n => by rw [hk]), by simp only; omega⟩ (by repeat (first | exact keep_nil | refine keep_cons rfl ?_)) entA
    intro hdo3
    (refine go ?_)
    refine K_condP rfl rfl ?_ ?_
    · intro hdo
      (refine go ?_)
      (first | refine J_callE rfl rfl rfl rfl (Remove_any bd D1 A1 hR1 x.a (by omega)) entA ?_ (fun _ _ _ _ _ => trivial) | refine J_call0E rfl rfl rfl (Remove_any bd D1 A1 hR1 x.a (by omega)) entA ?_ (fun _ _ _ _ _ => trivial) | (refine go ?_; first | refine J_callE rfl rfl rfl rfl (Remove_any bd D1 A1 hR1 x.a (by omega)) entA ?_ (fun _ _ _ _ _ => trivial) | refine J_call0E rfl rfl rfl (Remove_any bd D1 A1 hR1 x.a (by omega)) entA ?_ (fun _ _ _ _ _ => trivial)))
      rintro _ _ ⟨D2, hR2, rfl, rfl⟩
      obtain ⟨hcr, hst2⟩ := remove_names A1 (isName x.a) x.a
      generalize A1.remove (isName x.a) x.a = res at hR2 hcr hst2
      obtain ⟨e, A2⟩ := res
      simp only at hR2 hcr hst2
      rcases hcr with ⟨he, hyes, hk⟩ | ⟨he, hk⟩
      · subst he
        (refine go ?_)
        have hlk := hT.look x.a
        rw [decide_eq_true hyes] at hlk
        refine J_lookup (U := tab) (key := x.a) 2 rfl kStr' rfl rfl rfl rfl rfl rfl rfl rfl ?_
        (first | refine J_slot 101 ((.bool true)) rfl (hlk) ?_ | refine K_slot 101 ((.bool true)) rfl (hlk) ?_)
        (refine go ?_)
        refine J_delete (key := x.a) (U := tab) 2 kStr' (fun _ _ => trivial) rfl rfl rfl rfl rfl rfl rfl ?_
        (refine goR ?_)
        refine K_to tail (D2, A2, _) rfl ⟨hR2, hT.del hk, by simp only; omega⟩ (by repeat (first | exact keep_nil | refine keep_cons rfl ?_)) entA
      · (refine go ?_)
        refine K_condP rfl rfl ?_ ?_
        · intro h; exact absurd (by simpa using h) he
        intro _
        refine K_to tail (D2, A2, _) rfl ⟨hR2, hT.mono (fun n => by rw [hk]), by simp only; omega⟩ (by repeat (first | exact keep_nil | refine keep_cons rfl ?_)) entA
    intro hdo4
    refine K_to tail (D1, A1, es) rfl ⟨hR1, hT, by simp only; omega⟩ (by repeat (first | exact keep_nil | refine keep_cons rfl ?_)) entA
end Go.Proofs.Ytokknepnmfklnaa
