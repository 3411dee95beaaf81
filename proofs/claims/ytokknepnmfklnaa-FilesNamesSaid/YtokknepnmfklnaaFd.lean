/- files, part d: maps.Clone, change, the makers. -/
import Derived.Test.YtokknepnmfklnaaFc
import Derived.Test.YtokknepnmfklnaaEngG
set_option linter.unusedVariables false
set_option linter.unusedSimpArgs false
namespace Go.Proofs.Ytokknepnmfklnaa
open Go Go.SL
attribute [local irreducible] J K Ctr Ends pts slc mapR mapI sbRow stock arrS

theorem mapsClone_any (b : Nat) (es : List (ByteArray × Value)) :
    Ctr Try.prog 52 [.map (some b)] [mapR Value.string b es] (fun v H => ∃ b', v = .map (some b') ∧ H = [mapR Value.string b' es, mapR Value.string b es]) := by
  refine Ctr.enter Try.func52 (by kernel_rfl) rfl Try.ntmps52 rfl rfl ?_
  intro G F R hR
  (refine go ?_)
  refine J_mkIface (U := tab) rfl rfl rfl rfl ?_
  refine J_mapsClone (kv := Value.string) (es := es) 0 rfl Try.func65 (by kernel_rfl) (by kernel_rfl) (by kernel_rfl) (by kernel_rfl) rfl rfl (fun _ _ _ => trivial) ?_
  intro b'
  refine J_assert (U := tab) rfl rfl rfl rfl ?_
  (refine go ?_)
  refine K_return hR Try.func52 rfl _ rfl ⟨b', rfl, rfl⟩ (Ent.fin [0, 1] 0 rfl rfl)

/-- change: does what the function value does to the names. -/
theorem change_any {α : Type} (bd : Nat) (D : Dk) (nm : List (ByteArray × Nat)) (hm : (D.bm, ptrs nm) ∈ D.maps) (g : FuncId) (cap : Array Value) (E : HP) (nm' : α → List (ByteArray × Nat)) (E' : α → HP) (q : α → Prop)
    (hc : ∀ b', Ctr Try.prog g (.map (some b') :: cap.toList) [mapR Value.string b' (ptrs nm), E] (fun _ H => ∃ x, q x ∧ H = [mapR Value.string b' (ptrs (nm' x)), E' x])) (hlen : D.stb.length ≤ 1000000000) :
    Ctr Try.prog 29 [ptr bd, .func (.func g) #[] cap] [disk bd D, E]
      (fun _ H => ∃ x b' v, q x ∧ H = [disk bd { D with bm := b', maps := (b', ptrs (nm' x)) :: D.maps, sts := v, stb := D.stb ++ [b'] }, E' x]) := by
  obtain ⟨room, bm, sts, wrs, pln, off, maps, arrs, files, stb, wl⟩ := D
  simp only at hm hlen ⊢
  refine Ctr.enter Try.func29 (by kernel_rfl) rfl Try.ntmps29 rfl rfl ?_
  intro G F R hE
  refine K_ent (disk_o _ _ _ _ _ _ _ _ _ _ _ _ _) ?_
  (refine go ?_)
  obtain ⟨j, hj⟩ := List.getElem?_of_mem hm
  refine J_ent (Ent.pick [1] rfl) ?_
  refine J_ent (stock_out mapG hj _) ?_
  refine J_call [0] rfl rfl rfl rfl (mapsClone_any bm (ptrs nm)) rfl (fun _ _ _ _ _ => trivial) ?_
  rintro _ _ ⟨b', rfl, rfl⟩
  refine J_ent (Ent.pick [1, 2] rfl) ?_
  refine J_ent (stock_in mapG hj _) ?_
  (refine go ?_)
  refine J_call [1, 7] rfl rfl rfl rfl (hc b') rfl (fun _ _ _ _ _ => trivial) ?_
  rintro _ _ ⟨x, hq, rfl⟩
  refine J_ent (Ent.pick [0, 2] rfl) ?_
  refine J_ent (stock_add mapG (b', ptrs (nm' x)) maps _) ?_
  (refine go ?_)
  refine K_drawA (fun w => Sat G w ([pts bd (cl [.int .i64 room, .map (some b'), sts, wrs, pln, .bool off] 62)])) (.st 0 (.st 1 (.st 2 (.st 3 (.st 4 (.st 5 (.st 6 (.st 7 (.st 8 (.act 9 (.act 10 (.st 11 (.st 12 (.act 13 .nil)))))))))))))) rfl (by kernel_rfl) (by kernel_rfl) (by kernel_rfl) (fun w hw => hw.ent (Ent.pickOnly ([2]) rfl)) ?_
  (refine go ?_)
  refine J_buildSlice1 (U := tab) rfl rfl rfl rfl rfl rfl rfl rfl rfl (fun _ w hw => hw.ent (Ent.pickOnly ([3]) rfl)) ?_
  intro b0
  refine J_append (U := tab) (mm := 1) (news := [.map (some b')]) 6 0 rfl rfl rfl rfl rfl rfl rfl rfl rfl rfl rfl rfl (Vw.pts rfl) rfl (by simp [Value.oneCell']) (by omega) (by show _ * 8 ≤ _; omega) (fun _ => rfl) (fun _ w hw => hw.ent (Ent.pickOnly ([3]) rfl)) ?_
  intro v'
  have e1 : (stb.map fun b => Value.map (some b)) ++ [.map (some b')] = (stb ++ [b']).map fun b => Value.map (some b) := by simp
  have e2 : stb.length + 1 = (stb ++ [b']).length := by simp
  rw [e1, e2]
  refine J_shape 6 rfl ?_
  rintro av cv rfl
  (refine go ?_)
  refine K_ent (Ent.pick [3, 1, 4, 5, 6, 7, 2] rfl) ?_
  refine K_ent (disk_c bd room b' _ wrs pln off _ arrs files (stb ++ [b']) wl _) ?_
  refine K_fallEnd hE Try.func29 rfl _ rfl ⟨x, b', _, hq, rfl⟩ (Ent.fin [0, 1] 1 rfl rfl)

theorem Rel.new (room bm bm2 : Nat) (v : Value) (h : room ≤ 1073741824) : Rel ⟨room, bm, v, .slice none 0 0, .slice none 0 0, false, [(bm2, []), (bm, [])], [], [], [bm2], []⟩ (Ab.new room) where
  room := rfl
  off := rfl
  names := by simp [Ab.new, ptrs]
  states := All2.one (by simp [ptrs])
  fs := All2.nil
  writes := All2.nil
  plan := BIn.nil _ _ _
  ids := by simp [Ab.new]
  known := by simp [Ab.new]
  knownW := by simp [Ab.new]
  nodup := by simp [Ab.new]
  smallF := by simp [Ab.new]
  smallW := by simp [Ab.new]
  smallN := by simp [Ab.new]
  smallR := h
  smallP := by simp [Ab.new]
  full := by simp [Ab.new]
theorem New_good (room : Nat) (h1 : 1 ≤ room) (h2 : room ≤ 1073741824) :
    Ctr Try.prog 11 [.int .i64 room] [] (fun v H => ∃ bd D, Rel D (Ab.new room) ∧ v = .tuple #[ptr bd, .int .i64 0] ∧ H = [disk bd D]) := by
  refine Ctr.enter Try.func11 (by kernel_rfl) rfl Try.ntmps11 rfl rfl ?_
  intro G F R hE
  repeat' (first | (with_reducible intro _hh) | refine go1 ?_ | refine J_fork ?_ ?_ | refine J_gsP rfl rfl rfl rfl ?_ ?_ | refine K_condP rfl rfl ?_ ?_)
  · omega
  · omega
  refine J_makeMap rfl (fun _ _ _ => trivial) ?_
  intro bm
  refine J_ent (Ent.head (B := [mapG (bm, [])]) (fun h hs => ⟨h, sub.refl h, Sep_one' (mapR_new _ _ h hs)⟩)) ?_
  refine J_makeMap rfl (fun _ _ _ => trivial) ?_
  intro bm2
  refine J_ent (Ent.head (B := [mapG (bm2, [])]) (fun h hs => ⟨h, sub.refl h, Sep_one' (mapR_new _ _ h hs)⟩)) ?_
  refine J_buildSlice1 (U := tab) rfl rfl rfl rfl rfl rfl rfl rfl rfl (fun _ _ _ => trivial) ?_
  intro b0
  (refine go ?_)
  refine J_box rfl rfl (fun _ _ _ => trivial) ?_
  intro bd
  (refine go ?_)
  refine K_ent (stock_nil mapG _) ?_
  refine K_ent (Ent.pick [4, 0] rfl) ?_
  refine K_ent (stock_add mapG (bm, []) [] _) ?_
  refine K_ent (Ent.pick [3, 0] rfl) ?_
  refine K_ent (stock_add mapG (bm2, []) [(bm, [])] _) ?_
  refine K_ent (Ent.pick [2] rfl) ?_
  refine K_ent (slc_row 58 1 b0 1 1 [.map (some bm2)] [] _ rfl (Nat.le_refl _) (by simp)) ?_
  refine K_ent (slc_lift 75 3 none _) ?_
  refine K_ent (arrS_nil 5 _) ?_
  refine K_ent (stock_nil fileG _) ?_
  refine K_ent (Ent.pick [5, 4, 1, 0, 3, 2] rfl) ?_
  refine K_ent (disk_c bd room bm (.slice (some ⟨b0, 0, none⟩) 1 1) (.slice none 0 0) (.slice none 0 0) false [(bm2, []), (bm, [])] [] [] [bm2] [] _) ?_
  refine K_return hE Try.func11 rfl _ rfl ⟨bd, _, Rel.new room bm bm2 _ h2, rfl, rfl⟩ (Ent.fin [0] 0 rfl rfl)

/-! ## the closures that change names -/
theorem lookIn_key {l : List (ByteArray × Nat)} {k : ByteArray} : (Ab.lookIn l k).isSome = true ↔ k ∈ l.map (·.1) := by
  unfold Ab.lookIn
  rw [Option.isSome_map, List.find?_isSome]
  simp only [decide_eq_true_eq, List.mem_map]
theorem adel_ptrs (l : List (ByteArray × Nat)) (k : ByteArray) : adel (ptrs l) k = ptrs (Ab.delN l k) := by
  unfold adel ptrs Ab.delN
  rw [List.filter_map]
  rfl
theorem aset_ptrs (l : List (ByteArray × Nat)) (k : ByteArray) (f : Nat) : aset (ptrs l) k (ptr f) = ptrs (Ab.setN l k f) := by
  have hk : (ptrs l).map (·.1) = l.map (·.1) := by simp [ptrs, Function.comp_def]
  unfold aset Ab.setN
  rw [hk]
  by_cases h : (Ab.lookIn l k).isSome = true
  · rw [if_pos (lookIn_key.1 h), if_pos h]
    simp only [ptrs, List.map_map]
    apply List.map_congr_left
    intro x _
    simp only [Function.comp]
    split <;> rfl
  · rw [if_neg (fun h' => h (lookIn_key.2 h')), if_neg h]
    simp [ptrs]

theorem Remove1_any (b box : Nat) (l : List (ByteArray × Nat)) (k : ByteArray) :
    Ctr Try.prog 34 [.map (some b), ptr box] [mapR Value.string b (ptrs l), pts box (cl [.string k] 9)] (fun _ H => H = [mapR Value.string b (ptrs (Ab.delN l k)), pts box (cl [.string k] 9)]) := by
  refine Ctr.enter Try.func34 (by kernel_rfl) rfl Try.ntmps34 rfl rfl ?_
  intro G F R hE
  (refine go ?_)
  refine J_delete (U := tab) 0 kStr (fun _ _ => trivial) rfl rfl rfl rfl rfl rfl rfl ?_
  rw [adel_ptrs]
  (refine go ?_)
  refine K_fallEnd hE Try.func34 rfl _ rfl rfl (Ent.fin [0, 1] 0 rfl rfl)
theorem Rename1_any (b box1 box2 box3 f : Nat) (l : List (ByteArray × Nat)) (k k2 : ByteArray) :
    Ctr Try.prog 37 [.map (some b), ptr box1, ptr box2, ptr box3] [mapR Value.string b (ptrs l), Sep [pts box1 (cl [.string k] 9), pts box2 (cl [ptr f] 65), pts box3 (cl [.string k2] 9)]]
      (fun _ H => H = [mapR Value.string b (ptrs (Ab.setN (Ab.delN l k) k2 f)), emp]) := by
  refine Ctr.enter Try.func37 (by kernel_rfl) rfl Try.ntmps37 rfl rfl ?_
  intro G F R hE
  refine K_ent (Ent.pick [1] rfl) ?_
  refine K_ent (Ent.unsep _ _) ?_
  (refine go ?_)
  refine J_delete (U := tab) 3 kStr (fun _ _ => trivial) rfl rfl rfl rfl rfl rfl rfl ?_
  rw [adel_ptrs]
  (refine go ?_)
  refine J_mapUpdate (U := tab) 3 kStr (fun _ _ => trivial) rfl rfl rfl rfl rfl rfl rfl rfl ?_
  rw [aset_ptrs]
  (refine go ?_)
  refine K_ent (Ent.addEmp _) ?_
  refine K_fallEnd hE Try.func37 rfl _ rfl rfl (Ent.fin [4, 0] 3 rfl rfl)
theorem Create1_any (b box : Nat) (l : List (ByteArray × Nat)) (k : ByteArray) :
    Ctr Try.prog 30 [.map (some b), ptr box] [mapR Value.string b (ptrs l), pts box (cl [.string k] 9)]
      (fun _ H => ∃ f, True ∧ H = [mapR Value.string b (ptrs (Ab.setN l k f)), fileG (f, .slice none 0 0, .slice none 0 0)]) := by
  refine Ctr.enter Try.func30 (by kernel_rfl) rfl Try.ntmps30 rfl rfl ?_
  intro G F R hE
  (refine go ?_)
  refine J_box rfl rfl (fun _ _ _ => trivial) ?_
  intro f
  (refine go ?_)
  refine J_mapUpdate (U := tab) (v := ptr f) 1 kStr (fun _ _ => trivial) rfl rfl rfl rfl rfl rfl rfl rfl ?_
  rw [aset_ptrs]
  (refine go ?_)
  refine K_fallEnd hE Try.func30 rfl _ rfl ⟨f, trivial, rfl⟩ (Ent.fin [1, 0] 1 rfl rfl)
end Go.Proofs.Ytokknepnmfklnaa
