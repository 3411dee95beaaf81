/- files, part e: Create, Remove, Rename. -/
import Derived.Test.YtokknepnmfklnaaFd
set_option linter.unusedVariables false
set_option linter.unusedSimpArgs false
namespace Go.Proofs.Ytokknepnmfklnaa
open Go Go.SL
attribute [local irreducible] J K Ctr Ends pts slc mapR mapI sbRow stock arrS

theorem fresh (l : List Nat) : ∃ n, n ∉ l := by
  suffices h : ∃ n, ∀ x ∈ l, x < n from let ⟨n, hn⟩ := h; ⟨n, fun hx => Nat.lt_irrefl _ (hn n hx)⟩
  induction l with
  | nil => exact ⟨0, by simp⟩
  | cons a l ih =>
    obtain ⟨n, hn⟩ := ih
    exact ⟨max n (a + 1), fun x hx => by
      rcases List.mem_cons.1 hx with rfl | h
      · omega
      · have := hn x h; omega⟩
theorem file_fresh {G : Glob} {w : World} {H : List HP} {files : List (Nat × Value × Value)} {x : Nat × Value × Value} (hs : Sat G w (fileG x :: stock fileG files :: H)) : x.1 ∉ files.map (·.1) := by
  intro hx
  obtain ⟨y, hy, he⟩ := List.mem_map.1 hx
  obtain ⟨i, hi⟩ := List.getElem?_of_mem hy
  have h1 := hs.ent ((Ent.perm (List.Perm.swap _ _ _)).trans ((stock_out fileG hi _).trans (Ent.pick [2, 0] rfl)))
  unfold fileG at h1
  exact h1.ne he.symm
theorem meet_fs (A : Ab) (may : Bool) : (A.meet may).2.fs = A.fs ∧ (A.meet may).2.names = A.names ∧ (A.meet may).2.states = A.states ∧ (A.meet may).2.writes = A.writes ∧ (A.meet may).2.room = A.room := by
  unfold Ab.meet
  split
  · simp
  split
  · simp
  split
  · simp
  split
  · simp
  split <;> simp
theorem Rel.chg {D : Dk} {A : Ab} (h : Rel D A) {b' : Nat} {v : Value} {nm : List (ByteArray × Nat)} (hk : ∀ x ∈ nm, x.2 ∈ A.fs.map (·.1)) (hn : (nm.map (·.1)).Nodup) (hl : nm.length ≤ 200) :
    Rel { D with bm := b', maps := (b', ptrs nm) :: D.maps, sts := v, stb := D.stb ++ [b'] } (A.chg nm) where
  room := h.room
  off := h.off
  names := by simp [Ab.chg]
  states := All2.snoc (h.states.mono fun b es hb => List.mem_cons_of_mem _ hb) (by simp)
  fs := h.fs
  writes := h.writes
  plan := h.plan
  ids := h.ids
  known := by
    intro st hst
    simp only [Ab.chg, List.mem_cons, List.mem_append, List.not_mem_nil, or_false] at hst
    rcases hst with rfl | hst | rfl
    · exact hk
    · exact h.known _ (List.mem_cons_of_mem _ hst)
    · exact hk
  knownW := h.knownW
  nodup := by
    intro st hst
    simp only [Ab.chg, List.mem_cons, List.mem_append, List.not_mem_nil, or_false] at hst
    rcases hst with rfl | hst | rfl
    · exact hn
    · exact h.nodup _ (List.mem_cons_of_mem _ hst)
    · exact hn
  smallF := h.smallF
  smallW := h.smallW
  smallN := by
    intro st hst
    simp only [Ab.chg, List.mem_cons, List.mem_append, List.not_mem_nil, or_false] at hst
    rcases hst with rfl | hst | rfl
    · exact hl
    · exact h.smallN _ (List.mem_cons_of_mem _ hst)
    · exact hl
  smallR := h.smallR
  smallP := h.smallP
  full := by simp [Ab.chg]
theorem Rel.addFile {D : Dk} {A : Ab} (h : Rel D A) {f : Nat} (hf : f ∉ A.fs.map (·.1)) : Rel { D with files := (f, .slice none 0 0, .slice none 0 0) :: D.files } { A with fs := (f, [], []) :: A.fs } where
  room := h.room
  off := h.off
  names := h.names
  states := h.states
  fs := h.fs.cons ⟨rfl, BIn.nil _ _ _, BIn.nil _ _ _⟩
  writes := h.writes
  plan := h.plan
  ids := by simp only [List.map_cons, List.nodup_cons]; exact ⟨hf, h.ids⟩
  known := fun st hst x hx => List.mem_cons_of_mem _ (h.known st hst x hx)
  knownW := fun x hx => List.mem_cons_of_mem _ (h.knownW x hx)
  nodup := h.nodup
  smallF := fun x hx => by
    rcases List.mem_cons.1 hx with rfl | hx
    · simp
    · exact h.smallF x hx
  smallW := h.smallW
  smallN := h.smallN
  smallR := h.smallR
  smallP := h.smallP
  full := h.full
theorem All2.ids {q : Nat × Value × Value → Nat × List UInt8 × List UInt8 → Prop} {l : List (Nat × Value × Value)} {r : List (Nat × List UInt8 × List UInt8)} (h : All2 q l r) (hq : ∀ x y, q x y → x.1 = y.1) : l.map (·.1) = r.map (·.1) := by
  apply List.ext_getElem?
  intro i
  simp only [List.getElem?_map]
  cases hx : l[i]? with
  | none =>
    have : r[i]? = none := by rw [List.getElem?_eq_none_iff] at hx ⊢; rw [← h.1]; exact hx
    rw [this]; rfl
  | some x =>
    obtain ⟨y, hy, hxy⟩ := h.left hx
    rw [hy]
    simp [hq x y hxy]
theorem Rel.fids {D : Dk} {A : Ab} (h : Rel D A) : D.files.map (·.1) = A.fs.map (·.1) := All2.ids h.fs fun x y hxy => hxy.1
theorem setN_new {l : List (ByteArray × Nat)} {k : ByteArray} {f : Nat} (h : Ab.lookIn l k = none) : Ab.setN l k f = l ++ [(k, f)] := by simp [Ab.setN, h]

theorem Create_any (bd : Nat) (D : Dk) (A : Ab) (hR : Rel D A) (name : ByteArray) (hst : A.states.length ≤ 1000000000) :
    Ctr Try.prog 12 [ptr bd, .string name] [disk bd D]
      (fun v H => ∃ f D', f ∉ A.fs.map (·.1) ∧ Rel D' (A.create (isName name) name f).2 ∧ H = [disk bd D'] ∧ v = .int .i64 (A.create (isName name) name f).1) := by
  refine Ctr.enter Try.func12 (by kernel_rfl) rfl Try.ntmps12 rfl rfl ?_
  intro G F R hE
  (refine go ?_)
  refine J_box rfl rfl (fun _ _ _ => trivial) ?_
  intro box
  (refine go ?_)
  refine J_buildSlice1 (U := tab) rfl rfl rfl rfl rfl rfl rfl rfl rfl (fun _ _ _ => trivial) ?_
  intro b0
  (refine go ?_)
  refine J_call [0] rfl rfl rfl rfl (right_any _ _ [name] (Vw.pts rfl) (by simp)) rfl (fun _ _ _ _ _ => trivial) ?_
  rintro _ _ ⟨rfl, rfl⟩
  have e1 : [name].all isName = isName name := by simp
  rw [e1]
  (refine go ?_)
  refine J_call [2] rfl rfl rfl rfl (meet_any bd D A hR (isName name)) rfl (fun _ _ _ _ _ => trivial) ?_
  rintro _ _ ⟨D', hR', rfl, rfl⟩
  obtain ⟨f0, hf0⟩ := fresh (A.fs.map (·.1))
  have hmf := meet_fs A (isName name)
  (refine go ?_)
  refine K_condA rfl rfl ?_ ?_
  · intro h0
    have h0' : ¬ (A.meet (isName name)).1 = 0 := by have := of_decide_eq_true h0; omega
    have hf : A.create (isName name) name f0 = ((A.meet (isName name)).1, (A.meet (isName name)).2) := by simp [Ab.create, h0']
    (refine go ?_)
    refine K_return hE Try.func12 rfl _ rfl ⟨f0, D', hf0, by rw [hf]; exact hR', rfl, by rw [hf]; rfl⟩ (Ent.fin [0] 2 rfl rfl)
  · intro h0
    have h0' : (A.meet (isName name)).1 = 0 := by have := of_decide_eq_false h0; omega
    obtain ⟨room, bm, sts, wrs, pln, off, maps, arrs, files, stb, wl⟩ := D'
    have hst' : stb.length ≤ 1000000000 := by have := hR'.states.1; simp only at this; rw [this, hmf.2.2.1]; exact hst
    refine K_ent (disk_o _ _ _ _ _ _ _ _ _ _ _ _ _) ?_
    refine K_drawA (fun w => Sat G w ([pts bd (cl [.int .i64 room, .map (some bm), sts, wrs, pln, .bool off] 62), stock mapG maps, pts box (cl [.string name] 9)])) (.st 0 (.st 1 (.st 2 (.st 3 (.st 4 (.st 5 (.st 6 (.st 7 (.st 8 (.st 9 (.st 10 .nil))))))))))) rfl (by kernel_rfl) (by kernel_rfl) (by kernel_rfl) (fun w hw => hw.ent (Ent.pickOnly ([0, 1, 7]) rfl)) ?_
    (refine go ?_)
    refine J_lookupOkS (U := tab) rfl kStr rfl rfl rfl rfl rfl rfl rfl (fun w hw => map_of_stock (i := 1) hw rfl hR'.names) ?_
    rw [alook_ptrs]
    cases hl : Ab.lookIn (A.meet (isName name)).2.names name with
    | some fl =>
      have hf : A.create (isName name) name f0 = (5, (A.meet (isName name)).2) := by simp [Ab.create, h0', Ab.look, hl]
      (refine go ?_)
      refine K_ent ((Ent.pick [0, 1, 2, 3, 4, 5] rfl).trans (disk_c _ _ _ _ _ _ _ _ _ _ _ _ _)) ?_
      refine K_return hE Try.func12 rfl _ rfl ⟨f0, _, hf0, by rw [hf]; exact hR', rfl, by rw [hf]; rfl⟩ (Ent.fin [0] 2 rfl rfl)
    | none =>
      (refine go ?_)
      refine J_lenMapC (kv := Value.string) (U := tab) rfl rfl rfl rfl (fun w hw => map_of_stock (i := 1) hw rfl hR'.names) ?_
      have hpl : (ptrs (A.meet (isName name)).2.names).length = (A.meet (isName name)).2.names.length := by simp [ptrs]
      rw [hpl]
      (refine go ?_)
      refine K_condP rfl rfl ?_ ?_
      · intro hfull
        have hf : A.create (isName name) name f0 = (3, (A.meet (isName name)).2) := by simp [Ab.create, h0', Ab.look, hl]; omega
        (refine go ?_)
        refine K_ent ((Ent.pick [0, 1, 2, 3, 4, 5] rfl).trans (disk_c _ _ _ _ _ _ _ _ _ _ _ _ _)) ?_
        refine K_return hE Try.func12 rfl _ rfl ⟨f0, _, hf0, by rw [hf]; exact hR', rfl, by rw [hf]; rfl⟩ (Ent.fin [0] 2 rfl rfl)
      · intro hfull
        (refine go ?_)
        refine J_ent ((Ent.pick [0, 1, 2, 3, 4, 5] rfl).trans (disk_c _ _ _ _ _ _ _ _ _ _ _ _ _)) ?_
        refine J_call [0, 2] rfl rfl rfl rfl (change_any (α := Nat) bd _ _ hR'.names 30 #[ptr box] (pts box (cl [.string name] 9)) (fun f => Ab.setN (A.meet (isName name)).2.names name f) (fun f => fileG (f, .slice none 0 0, .slice none 0 0)) (fun _ => True) (fun b' => Create1_any b' box _ name) hst') rfl (fun _ _ _ _ _ => trivial) ?_
        rintro _ _ ⟨f, b', v, _, rfl⟩
        (refine go ?_)
        refine K_ent (disk_o _ _ _ _ _ _ _ _ _ _ _ _ _) ?_
        refine K_ent (Ent.pick [6, 3] rfl) ?_
        refine K_sat fun ⟨w, hw⟩ => ?_
        have hff : f ∉ A.fs.map (·.1) := by have := file_fresh hw; have h2 := hR'.fids; simp only at h2; rw [h2, hmf.1] at this; exact this
        clear hw
        refine K_ent (stock_add fileG (f, .slice none 0 0, .slice none 0 0) files _) ?_
        have hlk : (A.meet (isName name)).2.look name = none := hl
        have hf : A.create (isName name) name f = (0, { (A.meet (isName name)).2.chg ((A.meet (isName name)).2.names ++ [(name, f)]) with fs := (f, [], []) :: (A.meet (isName name)).2.fs }) := by
          simp only [Ab.create, h0', if_true, hlk, Option.isSome_none, Bool.false_eq_true, if_false]
          rw [if_neg (by omega)]
        have hset : Ab.setN (A.meet (isName name)).2.names name f = (A.meet (isName name)).2.names ++ [(name, f)] := setN_new hl
        have hnin : name ∉ (A.meet (isName name)).2.names.map (·.1) := fun h => by have := lookIn_key.2 h; rw [hl] at this; cases this
        have hR2 := (hR'.addFile (f := f) (by rw [hmf.1]; exact hff)).chg (b' := b') (v := v) (nm := (A.meet (isName name)).2.names ++ [(name, f)])
          (fun x hx => by
            rcases List.mem_append.1 hx with hx | hx
            · exact List.mem_cons_of_mem _ (hR'.known _ (List.mem_cons_self ..) x hx)
            · simp only [List.mem_singleton] at hx; subst hx; exact List.mem_cons_self ..)
          (by
            rw [List.map_append, List.nodup_append]
            exact ⟨hR'.nodup _ (List.mem_cons_self ..), by simp, fun a ha b hb => by simp at hb; subst hb; rintro rfl; exact hnin ha⟩)
          (by rw [List.length_append]; simp only [List.length_singleton]; omega)
        rw [hset]
        refine K_ent (Ent.pick [1, 2, 3, 0, 4, 5] rfl) ?_
        refine K_ent (disk_c bd room b' _ wrs pln off _ arrs _ (stb ++ [b']) wl _) ?_
        refine K_return hE Try.func12 rfl _ rfl ⟨f, _, hff, by rw [hf]; exact hR2, rfl, by rw [hf]; rfl⟩ (Ent.fin [0] 1 rfl rfl)
end Go.Proofs.Ytokknepnmfklnaa
