/- files, part q: SyncNames, Sync. -/
import Derived.Test.YtpdmbmnhgcnelaaFp
set_option linter.unusedVariables false
set_option linter.unusedSimpArgs false
namespace Go.Proofs.Ytpdmbmnhgcnelaa
open Go Go.SL
attribute [local irreducible] J K Ctr Ends pts slc mapR mapI sbRow stock arrS

theorem SyncNames_any (bd : Nat) (D : Dk) (A : Ab) (hR : Rel D A) :
    Ctr Try.prog 74 [ptr bd] [disk bd D] (fun v H => ∃ D', Rel D' A.syncNames.2 ∧ H = [disk bd D'] ∧ v = .int .i64 A.syncNames.1) := by
  refine Ctr.enter Try.func74 (by kernel_rfl) rfl Try.ntmps74 rfl rfl ?_
  intro G F R hE
  (refine go ?_)
  refine J_call [0] rfl rfl rfl rfl (meet_any bd D A hR true) rfl (fun _ _ _ _ _ => trivial) ?_
  rintro _ _ ⟨D', hR', rfl, rfl⟩
  (refine go ?_)
  refine K_condA rfl rfl ?_ ?_
  · intro h0
    have h0' : ¬ (A.meet true).1 = 0 := by have := of_decide_eq_true h0; omega
    have hf : A.syncNames = ((A.meet true).1, (A.meet true).2) := by simp [Ab.syncNames, h0']
    rw [hf] at hE
    (refine go ?_)
    refine K_return hE Try.func74 rfl _ rfl ⟨D', hR', rfl, rfl⟩ (Ent.fin [0] 0 rfl rfl)
  · intro h0
    have h0' : (A.meet true).1 = 0 := by have := of_decide_eq_false h0; omega
    have hf : A.syncNames = (0, { (A.meet true).2 with states := [(A.meet true).2.names] }) := by simp [Ab.syncNames, h0']
    rw [hf] at hE
    obtain ⟨room, bm, sts, wrs, pln, off, maps, arrs, files, stb, wl⟩ := D'
    refine K_ent (disk_o _ _ _ _ _ _ _ _ _ _ _ _ _) ?_
    (refine go ?_)
    refine J_buildSlice1 (U := tab) rfl rfl rfl rfl rfl rfl rfl rfl rfl (fun _ _ _ => trivial) ?_
    intro b0
    (refine go ?_)
    refine K_ent (slc_row 52 1 b0 1 1 [.map (some bm)] [] _ rfl (Nat.le_refl _) (by simp)) ?_
    refine K_ent (Ent.pick [1, 2, 3, 4, 0, 6] rfl) ?_
    refine K_ent (disk_c bd room bm _ wrs pln off maps arrs files [bm] wl _) ?_
    have hR2 : Rel ⟨room, bm, .slice (some ⟨b0, 0, none⟩) 1 1, wrs, pln, off, maps, arrs, files, [bm], wl⟩ { (A.meet true).2 with states := [(A.meet true).2.names] } :=
      { room := hR'.room, off := hR'.off, names := hR'.names, states := All2.one hR'.names, fs := hR'.fs, writes := hR'.writes, plan := hR'.plan, ids := hR'.ids
        known := fun st hst => hR'.known st (by simp only [List.mem_cons, List.not_mem_nil, or_false] at hst; rcases hst with rfl | rfl <;> exact List.mem_cons_self ..)
        knownW := hR'.knownW
        nodup := fun st hst => hR'.nodup st (by simp only [List.mem_cons, List.not_mem_nil, or_false] at hst; rcases hst with rfl | rfl <;> exact List.mem_cons_self ..)
        smallF := hR'.smallF, smallW := hR'.smallW
        smallN := fun st hst => hR'.smallN st (by simp only [List.mem_cons, List.not_mem_nil, or_false] at hst; rcases hst with rfl | rfl <;> exact List.mem_cons_self ..)
        smallR := hR'.smallR, smallP := hR'.smallP, full := by simp }
    refine K_return hE Try.func74 rfl _ rfl ⟨_, hR2, rfl, rfl⟩ (Ent.fin [0] 1 rfl rfl)

theorem All2.filter {α β : Type} {q : α → β → Prop} {l : List α} {r : List β} (h : All2 q l r) {p1 : α → Bool} {p2 : β → Bool} (hp : ∀ x y, q x y → p1 x = p2 y) : All2 q (l.filter p1) (r.filter p2) := by
  induction l generalizing r with
  | nil =>
    have : r = [] := List.eq_nil_of_length_eq_zero h.1.symm
    subst this; exact All2.nil
  | cons x l ih =>
    cases r with
    | nil => exact absurd h.1 (by simp)
    | cons y r =>
      have h0 := h.2 0 x y rfl rfl
      have ht : All2 q l r := ⟨by have := h.1; simpa using this, fun i a b ha hb => h.2 (i + 1) a b (by simpa using ha) (by simpa using hb)⟩
      rw [List.filter_cons, List.filter_cons, hp x y h0]
      split
      · exact (ih ht).cons h0
      · exact ih ht
theorem updS_set {fs : List (Nat × List UInt8 × List UInt8)} (hn : (fs.map (·.1)).Nodup) {i f : Nat} {x : List UInt8 × List UInt8} (hi : fs[i]? = some (f, x)) : Ab.updS fs f = fs.set i (f, x.1, x.1) := by
  induction fs generalizing i with
  | nil => simp at hi
  | cons y l ih =>
    simp only [List.map_cons, List.nodup_cons] at hn
    cases i with
    | zero =>
      simp at hi
      subst hi
      simp only [Ab.updS, List.map_cons, if_true, List.set_cons_zero, List.cons.injEq, true_and]
      rw [List.map_congr_left (g := id) (fun z hz => ?_), List.map_id]
      have : z.1 ≠ f := fun e => hn.1 (List.mem_map.2 ⟨z, hz, e⟩)
      simp [this]
    | succ i =>
      simp at hi
      have hne : y.1 ≠ f := fun e => hn.1 (List.mem_map.2 ⟨_, List.mem_of_getElem? hi, e.symm⟩)
      have := ih hn.2 hi
      simp only [Ab.updS] at this
      simp only [Ab.updS, List.map_cons, hne, if_false, List.set_cons_succ, this]
theorem updS_ids (fs : List (Nat × List UInt8 × List UInt8)) (f : Nat) : (Ab.updS fs f).map (·.1) = fs.map (·.1) := by
  simp only [Ab.updS, List.map_map]
  apply List.map_congr_left
  intro x _
  simp only [Function.comp]
  split <;> rfl
theorem Rel.synced {D : Dk} {A : Ab} (h : Rel D A) {i f : Nat} {v1 v2 w : Value} (hi : D.files[i]? = some (f, v1, v2)) (ha : A.fs[i]? = some (f, A.now f, A.sure f)) :
    Rel { D with files := D.files.set i (f, v1, v1), wrs := w, wl := D.wl.filter fun x => !decide (x.1 = f) } { A with fs := Ab.updS A.fs f, writes := A.writes.filter fun x => !decide (x.1 = f) } where
  room := h.room
  off := h.off
  names := h.names
  states := h.states
  fs := by
    rw [updS_set h.ids ha]
    have h2 := h.fs.2 i _ _ hi ha
    exact All2.set h.fs i ⟨rfl, h2.2.1, h2.2.1⟩
  writes := All2.filter h.writes (fun x y hxy => by rw [hxy.1])
  plan := h.plan
  ids := by simp only [updS_ids]; exact h.ids
  known := by simp only [updS_ids]; exact h.known
  knownW := by
    simp only [updS_ids]
    exact fun x hx => h.knownW x (List.mem_filter.1 hx).1
  nodup := h.nodup
  smallF := by
    intro x hx
    simp only [Ab.updS, List.mem_map] at hx
    obtain ⟨y, hy, rfl⟩ := hx
    have := h.smallF y hy
    split
    · exact ⟨this.1, this.1⟩
    · exact this
  smallW := fun x hx => h.smallW x (List.mem_filter.1 hx).1
  smallN := h.smallN
  smallR := h.smallR
  smallP := h.smallP
  full := h.full

theorem Sync_any (bd : Nat) (D : Dk) (A : Ab) (hR : Rel D A) (name : ByteArray) (hwl : A.writes.length ≤ 1000000000) :
    Ctr Try.prog 54 [ptr bd, .string name] [disk bd D]
      (fun v H => ∃ D', Rel D' (A.sync (isName name) name).2 ∧ H = [disk bd D'] ∧ v = .int .i64 (A.sync (isName name) name).1) := by
  refine Ctr.enter Try.func54 (by kernel_rfl) rfl Try.ntmps54 rfl rfl ?_
  intro G F R hE
  (refine go ?_)
  refine J_buildSlice1 (U := tab) rfl rfl rfl rfl rfl rfl rfl rfl rfl (fun _ _ _ => trivial) ?_
  intro b0
  (refine go ?_)
  refine J_call [0] rfl rfl rfl rfl (right_any _ _ [name] (Vw.pts rfl) (by simp)) rfl (fun _ _ _ _ _ => trivial) ?_
  rintro _ _ ⟨rfl, rfl⟩
  have e1 : [name].all isName = isName name := by simp
  rw [e1]
  (refine go ?_)
  refine J_call [1] rfl rfl rfl rfl (find_any bd D A hR name (isName name)) rfl (fun _ _ _ _ _ => trivial) ?_
  generalize hok : isName name = ok at hE ⊢
  rintro _ _ ⟨D', hR', rfl, rfl⟩
  by_cases h0' : (A.find name ok).1 = 0
  · obtain ⟨hokt, fl, hfl, hmem⟩ := find_parts h0'
    have hw : A.sync ok name = (0, { (A.find name ok).2.2 with fs := Ab.updS (A.find name ok).2.2.fs fl, writes := (A.find name ok).2.2.writes.filter fun x => !decide (x.1 = fl) }) := by simp [Ab.sync, h0', hfl]
    rw [hw] at hE
    rw [hfl, h0']
    have hwl' : (A.find name ok).2.2.writes.length ≤ 1000000000 := by rw [(find_same A name ok).2.2.2.1]; exact hwl
    generalize (A.find name ok).2.2 = A1 at *
    obtain ⟨room, bm, sts, wrs, pln, off, maps, arrs, files, stb, wl⟩ := D'
    obtain ⟨i, v1, v2, hi, hfs, hv1, hv2⟩ := hR'.file (f := fl) (hR'.known _ (List.mem_cons_self ..) _ hmem)
    obtain ⟨a, cap, rfl, hcap⟩ := hv1.shape
    (refine go ?_)
    refine J_alloc (U := tab) rfl rfl rfl (fun _ _ _ => trivial) ?_
    intro c5
    (refine go ?_)
    refine K_ent (Ent.pick [1] rfl) ?_
    refine K_ent (disk_o _ _ _ _ _ _ _ _ _ _ _ _ _) ?_
    refine K_ent (Ent.pick [3] rfl) ?_
    refine K_ent (stock_out fileG hi _) ?_
    refine K_drawA (fun w => Sat G w ([pts c5 (cl [ptr fl] 66), pts fl (cl [.slice a (A1.now fl).length cap, v2] 70)])) (.st 0 (.st 1 (.st 2 (.st 3 (.st 4 (.st 5 (.st 6 (.act 7 .nil)))))))) rfl (by kernel_rfl) (by kernel_rfl) (by kernel_rfl) (fun w hw => hw.ent (Ent.pickOnly ([7, 0]) rfl)) ?_
    (refine go ?_)
    refine J_ent (stock_set fileG (y := (fl, .slice a (A1.now fl).length cap, .slice a (A1.now fl).length cap)) hi _) ?_
    refine J_ent (Ent.pick [6, 0] rfl) ?_
    refine J_ent (Ent.join _ _ _) ?_
    have hids : (files.set i (fl, .slice a (A1.now fl).length cap, .slice a (A1.now fl).length cap)).map (·.1) = files.map (·.1) := by
      rw [List.map_set]
      apply List.ext_getElem?
      intro j
      rw [List.getElem?_set]
      split
      · rename_i hij
        subst hij
        simp only [List.getElem?_map, hi, Option.map_some, List.length_map]
        rw [if_pos (by
          rcases Nat.lt_or_ge i files.length with h | h
          · exact h
          · rw [List.getElem?_eq_none h] at hi; cases hi)]
      · rfl
    have hfi := hR'.fids
    simp only at hfi
    have hwx : ∀ x ∈ wl, (∃ a n c, x.2.2 = .slice a n c) ∧ x.1 ∈ files.map (·.1) := fun x hx => by
      obtain ⟨j, hj⟩ := List.getElem?_of_mem hx
      obtain ⟨y, hy, h1, _, h3⟩ := hR'.writes.left hj
      obtain ⟨a, c, h4, _⟩ := h3.shape
      refine ⟨⟨_, _, _, h4⟩, ?_⟩
      rw [hfi, h1]
      exact hR'.knownW y (List.mem_of_getElem? hy)
    refine J_call [5, 0] rfl rfl rfl rfl (DeleteFunc_late wrs wl (star (pts c5 (cl [ptr fl] 66)) (stock fileG (files.set i (fl, .slice a (A1.now fl).length cap, .slice a (A1.now fl).length cap)))) 85 [ptr c5] (fun x => decide (x.1 = fl)) (by have := hR'.writes.1; simp only at this; omega) (fun x hx => (hwx x hx).1)
      (fun x hx => Sync1_any c5 fl x.1 x.2.1 x.2.2 _ (by rw [hids, hfi]; exact List.mem_map.2 ⟨_, List.mem_of_getElem? hfs, rfl⟩) (by rw [hids]; exact (hwx x hx).2) (by obtain ⟨⟨a, n, c, h⟩, _⟩ := hwx x hx; rw [h]; rfl))) rfl (fun _ _ _ _ _ => trivial) ?_
    rintro r _ rfl
    refine J_shape 0 rfl ?_
    rintro ar cr rfl
    (refine go ?_)
    refine K_ent (Ent.pick [1] rfl) ?_
    refine K_ent (Ent.part _ _ _) ?_
    refine K_ent (Ent.pick [3, 4, 5, 1, 6, 2] rfl) ?_
    refine K_ent (disk_c bd room bm sts _ pln off maps arrs _ stb _ _) ?_
    refine K_return hE Try.func54 rfl _ rfl ⟨_, hR'.synced hi hfs, rfl, rfl⟩ (Ent.fin [0] 2 rfl rfl)
  · have hw : A.sync ok name = ((A.find name ok).1, (A.find name ok).2.2) := by simp [Ab.sync, h0']
    rw [hw] at hE
    cases hfo : (A.find name ok).2.1 with
    | none =>
      (refine go ?_)
      refine J_alloc (U := tab) rfl rfl rfl (fun _ _ _ => trivial) ?_
      intro c5
      (refine go ?_)
      refine K_condA rfl rfl ?_ ?_
      · intro _
        (refine go ?_)
        refine K_return hE Try.func54 rfl _ rfl ⟨D', hR', rfl, rfl⟩ (Ent.fin [1] 2 rfl rfl)
      · intro h; exfalso; have := of_decide_eq_false h; omega
    | some fl =>
      (refine go ?_)
      refine J_alloc (U := tab) rfl rfl rfl (fun _ _ _ => trivial) ?_
      intro c5
      (refine go ?_)
      refine K_condA rfl rfl ?_ ?_
      · intro _
        (refine go ?_)
        refine K_return hE Try.func54 rfl _ rfl ⟨D', hR', rfl, rfl⟩ (Ent.fin [1] 2 rfl rfl)
      · intro h; exfalso; have := of_decide_eq_false h; omega
end Go.Proofs.Ytpdmbmnhgcnelaa
