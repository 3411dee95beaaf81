/- Texts of one claim, joined: Fg, Fj, EngI, Fp, Fq, Fs0, Fs, EngJ, Fu, EngK. -/
import Derived.Test.YtpdmbmnhgcnelaaGreatQJS3
import Derived.Test.YtpdmbmnhgcnelaaGreatQJS4
/- files, part g: Write. -/
set_option linter.unusedVariables false
set_option linter.unusedSimpArgs false
namespace Go.Proofs.YtpdmbmnhgcnelaaGreat
open Go Go.SL
attribute [local irreducible] J K Ctr Ends pts slc mapR mapI sbRow stock arrS

def mayW (name : ByteArray) (at_ : Int) (b : List UInt8) : Bool := isName name && decide (0 ≤ at_) && decide (at_ ≤ 1048576) && decide ((b.length : Int) ≤ 1048576 - at_)
theorem find_bad (A : Ab) (name : ByteArray) : A.find name false = (1, none, A) := by simp [Ab.find, Ab.meet]
theorem write_bad (A : Ab) (name : ByteArray) (at_ : Nat) (b : List UInt8) : A.write false name at_ b = (1, A) := by simp [Ab.write, find_bad]

theorem upd_set {fs : List (Nat × List UInt8 × List UInt8)} (hn : (fs.map (·.1)).Nodup) {i f : Nat} {x : List UInt8 × List UInt8} (hi : fs[i]? = some (f, x)) (n : List UInt8) : Ab.upd fs f n = fs.set i (f, n, x.2) := by
  induction fs generalizing i with
  | nil => simp at hi
  | cons y l ih =>
    simp only [List.map_cons, List.nodup_cons] at hn
    cases i with
    | zero =>
      simp at hi
      subst hi
      simp only [Ab.upd, List.map_cons, if_true, List.set_cons_zero, List.cons.injEq, true_and]
      rw [List.map_congr_left (g := id) (fun z hz => ?_), List.map_id]
      have : z.1 ≠ f := fun e => hn.1 (List.mem_map.2 ⟨z, hz, e⟩)
      simp [this]
    | succ i =>
      simp at hi
      have hne : y.1 ≠ f := fun e => hn.1 (List.mem_map.2 ⟨_, List.mem_of_getElem? hi, e.symm⟩)
      have := ih hn.2 hi
      simp only [Ab.upd] at this
      simp only [Ab.upd, List.map_cons, hne, if_false, List.set_cons_succ, this]
theorem upd_ids (fs : List (Nat × List UInt8 × List UInt8)) (f : Nat) (n : List UInt8) : (Ab.upd fs f n).map (·.1) = fs.map (·.1) := by
  simp only [Ab.upd, List.map_map]
  apply List.map_congr_left
  intro x _
  simp only [Function.comp]
  split <;> rfl
theorem Rel.wrote {D : Dk} {A : Ab} (h : Rel D A) {i f at_ : Nat} {v1 v2 v3 v4 : Value} {n b : List UInt8} {arrs' : Arrs} {w : Value} (hi : D.files[i]? = some (f, v1, v2)) (ha : A.fs[i]? = some (f, A.now f, A.sure f))
    (hsub : ∀ x ∈ D.arrs, x ∈ arrs') (hn : BIn arrs' v3 n) (hb : BIn arrs' v4 b) (hnl : n.length ≤ 1048576) (hbl : at_ + b.length ≤ 1048576) :
    Rel { D with files := D.files.set i (f, v3, v2), arrs := arrs', wrs := w, wl := D.wl ++ [(f, at_, v4)] } { A with fs := Ab.upd A.fs f n, writes := A.writes ++ [(f, at_, b)] } where
  room := h.room
  off := h.off
  names := h.names
  states := h.states
  fs := by
    rw [upd_set h.ids ha]
    have h2 := h.fs.2 i _ _ hi ha
    exact All2.set (h.fs.mono fun x y hxy => ⟨hxy.1, hxy.2.1.mono hsub, hxy.2.2.mono hsub⟩) i ⟨rfl, hn, h2.2.2.mono hsub⟩
  writes := All2.snoc (h.writes.mono fun x y hxy => ⟨hxy.1, hxy.2.1, hxy.2.2.mono hsub⟩) ⟨rfl, rfl, hb⟩
  plan := h.plan.mono hsub
  ids := by simp only [upd_ids]; exact h.ids
  known := by simp only [upd_ids]; exact h.known
  knownW := by
    simp only [upd_ids]
    intro x hx
    rcases List.mem_append.1 hx with hx | hx
    · exact h.knownW x hx
    · simp only [List.mem_singleton] at hx; subst hx; exact List.mem_map.2 ⟨_, List.mem_of_getElem? ha, rfl⟩
  nodup := h.nodup
  smallF := by
    intro x hx
    simp only [Ab.upd, List.mem_map] at hx
    obtain ⟨y, hy, rfl⟩ := hx
    have := h.smallF y hy
    split
    · exact ⟨hnl, this.2⟩
    · exact this
  smallW := by
    intro x hx
    rcases List.mem_append.1 hx with hx | hx
    · exact h.smallW x hx
    · simp only [List.mem_singleton] at hx; subst hx; exact hbl
  smallN := h.smallN
  smallR := h.smallR
  smallP := h.smallP
  full := h.full
theorem wroteL_len (old : List UInt8) (at_ : Nat) (b : List UInt8) : (wroteL old at_ b).length = max old.length (at_ + b.length) := by
  unfold wroteL; simp; omega
theorem find_same (A : Ab) (name : ByteArray) (ok : Bool) : (A.find name ok).2.2.fs = A.fs ∧ (A.find name ok).2.2.names = A.names ∧ (A.find name ok).2.2.states = A.states ∧ (A.find name ok).2.2.writes = A.writes ∧ (A.find name ok).2.2.room = A.room := by
  have := meet_fs A ok
  unfold Ab.find
  split
  · cases (A.meet ok).2.look name <;> exact this
  · exact this
theorem Rel.used_le {D : Dk} {A : Ab} (h : Rel D A) : A.used ≤ 209715200 := by
  rw [← sumOf_used (h.nodup _ (List.mem_cons_self ..))]
  have := sumOf_le (fun f => (h.small f).1) (A.names.map (·.1))
  have h2 := h.smallN _ (List.mem_cons_self ..)
  rw [List.length_map] at this
  omega
theorem arrS_slcO (e : TypeId) (v : Value) (bs : List UInt8) (M : Arrs) : ∀ h, star (slc e 1 v bs.length (bV bs)) (arrS e M) h → ∃ M', (BIn M' v bs ∧ ∀ x ∈ M, x ∈ M') ∧ Sep [arrS e M'] h := fun h hs => by
  obtain ⟨M', h1, h2, h3⟩ := arrS_slc e v bs M h hs
  exact ⟨M', ⟨h1, h2⟩, Sep_one' h3⟩
theorem find_parts {A : Ab} {name : ByteArray} {ok : Bool} (h : (A.find name ok).1 = 0) : ok = true ∧ ∃ fl, (A.find name ok).2.1 = some fl ∧ (name, fl) ∈ (A.find name ok).2.2.names := by
  unfold Ab.find at h ⊢
  split
  · rename_i h0
    rw [if_pos h0] at h
    cases hl : (A.meet ok).2.look name with
    | none => rw [hl] at h; cases h
    | some f =>
      refine ⟨?_, f, rfl, lookIn_some hl⟩
      cases ok with
      | true => rfl
      | false => simp [Ab.meet] at h0
  · rename_i h0
    rw [if_neg h0] at h
    exact absurd h h0

theorem Write_any (bd : Nat) (D : Dk) (A : Ab) (hR : Rel D A) (name : ByteArray) (at_ : Int) (X : HP) (bv : Value) (b : List UInt8) (hv : Vw X bv b.length (bV b)) (hwl : A.writes.length ≤ 1000000000) (hbl : b.length ≤ 1000000000) (hat : -9223372036854775808 ≤ at_ ∧ at_ ≤ 9223372036854775807) :
    Ctr Tryz.prog 39 [ptr bd, .string name, .int .i64 at_, bv] [disk bd D, X]
      (fun v H => ∃ D', Rel D' (A.write (mayW name at_ b) name at_.toNat b).2 ∧ H = [disk bd D', X] ∧ v = .int .i64 (A.write (mayW name at_ b) name at_.toNat b).1) := by
  obtain ⟨a0, c0, rfl⟩ := hv.shape
  refine Ctr.enter Tryz.func39 (by kernel_rfl) rfl Tryz.ntmps39 rfl rfl ?_
  intro G F R hE
  (refine go ?_)
  refine J_buildSlice1 (U := tab) rfl rfl rfl rfl rfl rfl rfl rfl rfl (fun _ _ _ => trivial) ?_
  intro b0
  (refine go ?_)
  refine J_call [0] rfl rfl rfl rfl (right_any _ _ [name] (Vw.pts rfl) (by simp)) rfl (fun _ _ _ _ _ => trivial) ?_
  rintro _ _ ⟨rfl, rfl⟩
  have e1 : [name].all isName = isName name := by simp
  rw [e1]
  cases hnm : isName name with
  | false =>
    have hm : mayW name at_ b = false := by simp [mayW, hnm]
    rw [hm, write_bad] at hE
    (refine go ?_)
    refine J_call [1] rfl rfl rfl rfl (find_any bd D A hR name false) rfl (fun _ _ _ _ _ => trivial) ?_
    rw [find_bad]
    rintro _ _ ⟨D', hR', rfl, rfl⟩
    (refine go ?_)
    refine K_return hE Tryz.func39 rfl _ rfl ⟨D', hR', rfl, rfl⟩ (Ent.fin [0, 2] 1 rfl rfl)
  | true =>
    repeat' (first | (with_reducible intro _hh) | refine go1 ?_ | refine J_fork ?_ ?_ | refine J_gsP rfl rfl rfl rfl ?_ ?_ | refine K_condP rfl rfl ?_ ?_)
    any_goals (
      have hm : mayW name at_ b = false := by simp [mayW, hnm, *]
      rw [hm, write_bad] at hE
      refine J_call [1] rfl rfl rfl rfl (find_any bd D A hR name false) rfl (fun _ _ _ _ _ => trivial) ?_
      rw [find_bad]
      rintro _ _ ⟨D', hR', rfl, rfl⟩
      (refine go ?_)
      refine K_return hE Tryz.func39 rfl _ rfl ⟨D', hR', rfl, rfl⟩ (Ent.fin [0, 2] 1 rfl rfl))
    rename_i h2
    obtain ⟨at_, rfl⟩ := Int.eq_ofNat_of_zero_le h2
    simp only [Int.toNat_natCast] at hE
    have hm : mayW name at_ b = decide ((b.length : Int) ≤ 1048576 - at_) := by simp [mayW, hnm, *]
    refine J_slot 31 (.bool (mayW name at_ b)) rfl (congrArg Value.bool hm.symm) ?_
    refine J_call [1] rfl rfl rfl rfl (find_any bd D A hR name (mayW name at_ b)) rfl (fun _ _ _ _ _ => trivial) ?_
    generalize hok : mayW name at_ b = ok at hE hm ⊢
    rintro _ _ ⟨D', hR', rfl, rfl⟩
    (refine go ?_)
    refine K_condA rfl rfl ?_ ?_
    · intro h0
      have h0' : ¬ (A.find name ok).1 = 0 := by have := of_decide_eq_true h0; omega
      have hw : A.write ok name at_ b = ((A.find name ok).1, (A.find name ok).2.2) := by simp [Ab.write, h0']
      rw [hw] at hE
      (refine go ?_)
      refine K_return hE Tryz.func39 rfl _ rfl ⟨D', hR', rfl, rfl⟩ (Ent.fin [0, 2] 1 rfl rfl)
    · intro h0
      have h0' : (A.find name ok).1 = 0 := by have := of_decide_eq_false h0; omega
      obtain ⟨hokt, fl, hfl, hmem⟩ := find_parts h0'
      rw [hokt] at hm
      have hlen := of_decide_eq_true hm.symm
      have hw : A.write ok name at_ b = if (A.find name ok).2.2.room < (A.find name ok).2.2.used + (at_ + b.length - ((A.find name ok).2.2.now fl).length) then (3, (A.find name ok).2.2)
        else (0, { (A.find name ok).2.2 with fs := Ab.upd (A.find name ok).2.2.fs fl (wroteL ((A.find name ok).2.2.now fl) at_ b), writes := (A.find name ok).2.2.writes ++ [(fl, at_, b)] }) := by simp [Ab.write, h0', hfl]
      rw [hfl]
      have hwl' : (A.find name ok).2.2.writes.length ≤ 1000000000 := by rw [(find_same A name ok).2.2.2.1]; exact hwl
      generalize (A.find name ok).2.2 = A1 at *
      obtain ⟨room, bm, sts, wrs, pln, off, maps, arrs, files, stb, wl⟩ := D'
      obtain ⟨i, v1, v2, hi, hfs, hv1, hv2⟩ := hR'.file (f := fl) (hR'.known _ (List.mem_cons_self ..) _ hmem)
      obtain ⟨a, cap, rfl, hcap⟩ := hv1.shape
      have hsm := (hR'.small fl).1
      have hroom := hR'.room
      have hrs := hR'.smallR
      simp only at hroom
      refine K_ent (disk_o _ _ _ _ _ _ _ _ _ _ _ _ _) ?_
      refine K_drawA (fun w => Sat G w ([pts bd (cl [.int .i64 room, .map (some bm), sts, wrs, pln, .bool off] 56), stock fileG files])) (.st 0 (.st 2 (.st 3 (.st 4 (.st 5 (.st 6 (.st 7 (.st 8 (.st 9 (.st 10 (.st 11 (.st 12 (.st 14 (.st 15 (.st 16 (.st 17 (.act 1 (.st 13 (.st 18 .nil))))))))))))))))))) rfl (by kernel_rfl) (by kernel_rfl) (by kernel_rfl) (fun w hw => hw.ent (Ent.pickOnly ([0, 3]) rfl)) ?_
      (refine go ?_)
      refine J_loadS (U := tab) rfl rfl (fun w hw => file_now (i := 1) hw rfl hi) rfl rfl ?_
      (refine go ?_)
      refine J_ent ((Ent.pick [0, 1, 2, 3, 4, 5] rfl).trans (disk_c _ _ _ _ _ _ _ _ _ _ _ _ _)) ?_
      have hul := hR'.used_le
      refine J_call [0] rfl rfl rfl rfl (Used_any bd _ A1 hR') rfl (fun _ _ w hp hw => by obtain ⟨rfl, _⟩ := hp; exact hw.ent ((disk_o _ _ _ _ _ _ _ _ _ _ _ _ _).trans (Ent.pickOnly [0, 3] rfl))) ?_
      rintro _ _ ⟨rfl, rfl⟩
      (refine go ?_)
      refine K_condP rfl rfl ?_ ?_
      · intro hfull
        rw [if_pos (by omega)] at hw
        rw [hw] at hE
        (refine go ?_)
        refine K_return hE Tryz.func39 rfl _ rfl ⟨_, hR', rfl, rfl⟩ (Ent.fin [0, 2] 1 rfl rfl)
      · intro hfull
        rw [if_neg (by omega)] at hw
        rw [hw] at hE
        (refine go ?_)
        refine J_ent (disk_o _ _ _ _ _ _ _ _ _ _ _ _ _) ?_
        (refine go ?_)
        refine J_ent (Ent.pick [3] rfl) ?_
        refine J_ent (stock_out fileG hi _) ?_
        (refine go ?_)
        refine J_ent (Ent.pick [4, 8] rfl) ?_
        refine J_ent (Ent.join _ _ _) ?_
        refine J_call [0] rfl rfl rfl rfl (wrote_any (star (arrS 5 arrs) X) _ _ (A1.now fl) b at_ (hv1.view _).left hv.right (by omega)) rfl (fun _ _ _ _ _ => trivial) ?_
        rintro _ _ ⟨bl, cap2, rfl, hcap2, rfl⟩
        refine J_ent (Ent.pick [1] rfl) ?_
        refine J_ent (Ent.part _ _ _) ?_
        refine J_ent (Ent.pick [2, 0] rfl) ?_
        refine J_ent (arrS_add 5 bl _ arrs _) ?_
        (refine go ?_)
        refine K_ent (Ent.pick [2, 3] rfl) ?_
        refine K_ent (stock_set fileG (y := (fl, .slice (some ⟨bl, 0, none⟩) (wroteL (A1.now fl) at_ b).length cap2, v2)) hi _) ?_
        refine K_drawA (fun w => Sat G w ([pts bd (cl [.int .i64 room, .map (some bm), sts, wrs, pln, .bool off] 56)])) (.st 0 (.st 1 (.st 2 (.st 3 (.st 4 (.st 5 (.st 6 (.st 7 (.act 8 (.st 9 (.act 10 (.act 11 (.st 12 (.st 13 (.act 14 .nil))))))))))))))) rfl (by kernel_rfl) (by kernel_rfl) (by kernel_rfl) (fun w hw => hw.ent (Ent.pickOnly ([3]) rfl)) ?_
        (refine go ?_)
        refine J_call [2] rfl rfl rfl rfl (Clone_bytes X _ b hv hbl) rfl (fun _ _ w hp hw => by subst hp; exact hw.ent (Ent.pickOnly [4] rfl)) ?_
        rintro r _ rfl
        refine J_shape 0 rfl ?_
        rintro ar cr rfl
        (refine go ?_)
        refine J_buildSlice1 (U := tab) rfl rfl rfl rfl rfl rfl rfl rfl rfl (fun _ w hw => hw.ent (Ent.pickOnly ([5]) rfl)) ?_
        intro b1
        refine J_append (U := tab) (mm := 1) (news := [ptr fl, .int .i64 at_, .slice ar b.length cr]) 8 0 rfl rfl rfl rfl rfl rfl rfl rfl rfl rfl rfl rfl (Vw.pts rfl) rfl (by simp [Value.oneCell', ptr]) (by have := hR'.writes.1; simp only at this; omega) (by have := hR'.writes.1; simp only at this; show _ * 40 ≤ _; omega) (fun _ => rfl) (fun _ w hw => hw.ent (Ent.pickOnly ([5]) rfl)) ?_
        intro v'
        have e2 : wcells wl ++ [ptr fl, .int .i64 at_, .slice ar b.length cr] = wcells (wl ++ [(fl, at_, .slice ar b.length cr)]) := by simp [wcells]
        have e3 : wl.length + 1 = (wl ++ [(fl, at_, Value.slice ar b.length cr)]).length := by simp
        rw [e2, e3]
        refine J_shape 8 rfl ?_
        rintro av cv rfl
        (refine go ?_)
        refine J_isStore ?_; refine J_store (U := tab) 5 (fun _ _ => trivial) rfl rfl rfl rfl rfl rfl rfl rfl rfl ?_
        (refine go ?_)
        refine K_ent (Ent.pick [1, 4] rfl) ?_
        refine K_ent (Ent.join _ _ _) ?_
        refine K_open (arrS_slcO 5 _ b _) ?_
        rintro arrs' ⟨hb', hsub⟩
        have hR2 := hR'.wrote (w := .slice av (wl ++ [(fl, at_, Value.slice ar b.length cr)]).length cv) hi hfs (fun x hx => hsub x (List.mem_cons_of_mem _ hx)) ((BIn.row (cap := cap2) hcap2).mono hsub) hb' (by rw [wroteL_len]; omega) (by omega : at_ + b.length ≤ 1048576)
        refine K_ent (Ent.pick [4, 5, 0, 3, 6, 7] rfl) ?_
        refine K_ent (disk_c bd room bm sts _ pln off maps arrs' _ stb _ _) ?_
        refine K_return hE Tryz.func39 rfl _ rfl ⟨_, hR2, rfl, rfl⟩ (Ent.fin [0, 2] 2 rfl rfl)
end Go.Proofs.YtpdmbmnhgcnelaaGreat

/- files, part j: Remove, Rename, SyncNames. -/
set_option linter.unusedVariables false
set_option linter.unusedSimpArgs false
namespace Go.Proofs.YtpdmbmnhgcnelaaGreat
open Go Go.SL
attribute [local irreducible] J K Ctr Ends pts slc mapR mapI sbRow stock arrS

theorem delN_sub {l : List (ByteArray × Nat)} {k : ByteArray} {x : ByteArray × Nat} (h : x ∈ Ab.delN l k) : x ∈ l ∧ x.1 ≠ k := by
  simpa [Ab.delN] using h
theorem delN_len (l : List (ByteArray × Nat)) (k : ByteArray) : (Ab.delN l k).length ≤ l.length := List.length_filter_le _ _
theorem delN_nodup {l : List (ByteArray × Nat)} (h : (l.map (·.1)).Nodup) (k : ByteArray) : ((Ab.delN l k).map (·.1)).Nodup := (List.filter_sublist.map _).nodup h
theorem delN_lt {l : List (ByteArray × Nat)} {k : ByteArray} {f : Nat} (h : (k, f) ∈ l) : (Ab.delN l k).length + 1 ≤ l.length := by
  have : (Ab.delN l k).length < l.length := by
    unfold Ab.delN
    rw [List.length_filter_lt_length_iff_exists]
    exact ⟨_, h, by simp⟩
  omega
theorem setN_len (l : List (ByteArray × Nat)) (k : ByteArray) (f : Nat) : (Ab.setN l k f).length ≤ l.length + 1 := by
  unfold Ab.setN
  split <;> simp
theorem setN_mem {l : List (ByteArray × Nat)} {k : ByteArray} {f : Nat} {x : ByteArray × Nat} (h : x ∈ Ab.setN l k f) : x = (k, f) ∨ x ∈ l := by
  unfold Ab.setN at h
  split at h
  · obtain ⟨y, hy, rfl⟩ := List.mem_map.1 h
    split
    · exact .inl rfl
    · exact .inr hy
  · rcases List.mem_append.1 h with h | h
    · exact .inr h
    · exact .inl (by simpa using h)
theorem setN_nodup {l : List (ByteArray × Nat)} (h : (l.map (·.1)).Nodup) (k : ByteArray) (f : Nat) : ((Ab.setN l k f).map (·.1)).Nodup := by
  unfold Ab.setN
  split
  · have : (l.map fun x => if x.1 = k then (k, f) else x).map (·.1) = l.map (·.1) := by
      rw [List.map_map]
      apply List.map_congr_left
      intro x _
      simp only [Function.comp]
      split
      · rename_i e; exact e.symm
      · rfl
    rw [this]; exact h
  · rename_i hk
    rw [List.map_append, List.nodup_append]
    exact ⟨h, by simp, fun a ha b hb => by simp at hb; subst hb; rintro rfl; exact hk (lookIn_key.2 ha)⟩

theorem Remove_any (bd : Nat) (D : Dk) (A : Ab) (hR : Rel D A) (name : ByteArray) (hst : A.states.length ≤ 1000000000) :
    Ctr Tryz.prog 57 [ptr bd, .string name] [disk bd D]
      (fun v H => ∃ D', Rel D' (A.remove (isName name) name).2 ∧ H = [disk bd D'] ∧ v = .int .i64 (A.remove (isName name) name).1) := by
  refine Ctr.enter Tryz.func57 (by kernel_rfl) rfl Tryz.ntmps57 rfl rfl ?_
  intro G F R hE
  (refine go ?_)
  refine J_box rfl rfl (fun _ _ _ => trivial) ?_
  intro box
  (refine go ?_)
  refine K_drawA (fun w => Sat G w ([pts box (cl [.string name] 9)])) (.st 0 (.st 1 (.st 2 (.act 3 (.act 4 (.act 5 (.st 6 (.st 7 (.st 8 (.st 9 (.st 10 .nil))))))))))) rfl (by kernel_rfl) (by kernel_rfl) (by kernel_rfl) (fun w hw => hw.ent (Ent.pickOnly ([0]) rfl)) ?_
  (refine go ?_)
  refine J_buildSlice1 (U := tab) rfl rfl rfl rfl rfl rfl rfl rfl rfl (fun _ w hw => hw.ent (Ent.pickOnly ([1]) rfl)) ?_
  intro b0
  refine J_call [0] rfl rfl rfl rfl (right_any _ _ [name] (Vw.pts rfl) (by simp)) rfl (fun _ _ w hp hw => by obtain ⟨_, rfl⟩ := hp; exact hw.ent (Ent.pickOnly [1] rfl)) ?_
  rintro _ _ ⟨rfl, rfl⟩
  have e1 : [name].all isName = isName name := by simp
  rw [e1]
  refine J_call [2] rfl rfl rfl rfl (find_any bd D A hR name (isName name)) rfl (fun _ _ w hp hw => by obtain ⟨_, _, rfl, _⟩ := hp; exact hw.ent (Ent.pickOnly [2] rfl)) ?_
  generalize hok : isName name = ok at hE ⊢
  rintro _ _ ⟨D', hR', rfl, rfl⟩
  (refine go ?_)
  refine K_condA rfl rfl ?_ ?_
  · intro h0
    have h0' : ¬ (A.find name ok).1 = 0 := by have := of_decide_eq_true h0; omega
    have hw : A.remove ok name = ((A.find name ok).1, (A.find name ok).2.2) := by
      unfold Ab.remove
      generalize A.find name ok = z at h0' ⊢
      obtain ⟨e, fo, A1⟩ := z
      cases fo with
      | none => cases e <;> rfl
      | some fl => cases e with
        | zero => exact absurd rfl h0'
        | succ e => rfl
    rw [hw] at hE
    (refine go ?_)
    refine K_return hE Tryz.func57 rfl _ rfl ⟨D', hR', rfl, rfl⟩ (Ent.fin [0] 2 rfl rfl)
  · intro h0
    have h0' : (A.find name ok).1 = 0 := by have := of_decide_eq_false h0; omega
    obtain ⟨hokt, fl, hfl, hmem⟩ := find_parts h0'
    have hw : A.remove ok name = (0, (A.find name ok).2.2.chg (Ab.delN (A.find name ok).2.2.names name)) := by
      unfold Ab.remove
      generalize A.find name ok = z at h0' hfl ⊢
      obtain ⟨e, fo, A1⟩ := z
      simp only at h0' hfl
      subst h0' hfl
      rfl
    have hst' : (A.find name ok).2.2.states.length ≤ 1000000000 := by rw [(find_same A name ok).2.2.1]; exact hst
    rw [hw] at hE
    generalize (A.find name ok).2.2 = A1 at *
    have hst2 : D'.stb.length ≤ 1000000000 := by rw [hR'.states.1]; exact hst'
    (refine go ?_)
    refine J_call [0, 2] rfl rfl rfl rfl (change_any (α := Unit) bd D' A1.names hR'.names 98 #[ptr box] (pts box (cl [.string name] 9)) (fun _ => Ab.delN A1.names name) (fun _ => pts box (cl [.string name] 9)) (fun _ => True) (fun b' => Ctr.post (Remove1_any b' box A1.names name) (fun v H h => ⟨(), trivial, h⟩)) hst2) rfl (fun _ _ _ _ _ => trivial) ?_
    rintro _ _ ⟨_, b', v, _, rfl⟩
    have hR2 := hR'.chg (b' := b') (v := v) (nm := Ab.delN A1.names name) (fun x hx => hR'.known _ (List.mem_cons_self ..) x (delN_sub hx).1) (delN_nodup (hR'.nodup _ (List.mem_cons_self ..)) name) (Nat.le_trans (delN_len _ _) (hR'.smallN _ (List.mem_cons_self ..)))
    (refine go ?_)
    refine K_return hE Tryz.func57 rfl _ rfl ⟨_, hR2, rfl, rfl⟩ (Ent.fin [0] 2 rfl rfl)
end Go.Proofs.YtpdmbmnhgcnelaaGreat

/- Engine, part I: whole elements of a slice, loaded and stored. Nothing here names a program. -/
set_option linter.unusedSimpArgs false
set_option linter.unusedVariables false
set_option linter.unusedSectionVars false
namespace Go.SL
section
variable {P : Program} {U : Tr} [hU : TabOk P U] {f : FuncId} {n : Nat} {R : Ending → World → Prop} {G : Glob} {k : List Item} {L : Lst} {H H' : List HP} {S : World → Prop} {all : Array Oper} {rest : Pl}
  {ty : TypeId} {pos : String} {af : Array Edge} {gd : Option (Nat × Bool)} {m : Bool} {d : Tmp}

theorem J_loadAggC {t : TypeId} {x : Operand} {b off : Nat} {ty' : Ty} {cs : List Value} (hd : Nat.blt d n = true) (hx : ev L x = some (.pointer (some ⟨b, off, none⟩)))
    (ht : U.get t = some ty') (hg : ty'.isAgg = true) (hl : Nat.beq cs.length ty'.info.size = true) (hc : ∀ w, Sat G w H → ∀ j v, cs[j]? = some v → w.cell? ⟨b, off + j, none⟩ = some v)
    (h : J P f n R G S all rest k ((d, .agg cs.toArray) :: L) H) : J P f n R G S all (.cons false true ⟨some d, .load t x, ty, pos, af, gd⟩ rest) k L H :=
  J_read hd (fun a w ha hw => by
    simp [execOp, ha.ev hx, run_loadAgg (P := P) ht hg (Nat.eq_of_beq_eq_true hl) (hc w hw)]) h
/-- A whole element out of a view. -/
theorem J_loadElem {t : TypeId} {x : Operand} {b o off nn cap : Nat} {ty' : Ty} {es cs : List Value} {A : HP} (i idx : Nat) (hd : Nat.blt d n = true) (hx : ev L x = some (.pointer (some ⟨b, off, none⟩)))
    (hi : getL H i = some A) (hv : Vw A (.slice (some ⟨b, o, none⟩) nn cap) nn cs) (hoff : off = o + idx) (hes : ∀ j v, es[j]? = some v → cs[idx + j]? = some v) (ht : U.get t = some ty') (hg : ty'.isAgg = true) (hl : Nat.beq es.length ty'.info.size = true)
    (h : J P f n R G S all rest k ((d, .agg es.toArray) :: L) H) : J P f n R G S all (.cons false true ⟨some d, .load t x, ty, pos, af, gd⟩ rest) k L H :=
  J_loadAggC (U := U) hd hx ht hg hl (fun w hw j v hj => by
    obtain ⟨h, hh, hA⟩ := hw.getA hi
    have := hv.cell (hes j v hj) h hA
    rw [hoff, show o + idx + j = o + (idx + j) by omega]
    exact cell_of_hcell hh this) h
theorem repl_many : ∀ (l vs acc : List Value) (off : Nat), off + vs.length ≤ l.length → repl acc off l vs = .mk (acc.reverse ++ (l.take off ++ vs ++ l.drop (off + vs.length))) := by
  intro l
  induction l with
  | nil =>
    intro vs acc off h
    simp only [List.length_nil] at h
    have h1 : off = 0 := by omega
    have h2 : vs = [] := List.eq_nil_of_length_eq_zero (by omega)
    subst h1 h2
    simp [repl, finV_mk]
  | cons y l ih =>
    intro vs acc off h
    cases vs with
    | nil => cases off <;> simp [repl, finV_mk]
    | cons v vs =>
      cases off with
      | zero =>
        simp only [repl]
        rw [ih vs _ 0 (by simp at h ⊢; omega)]
        simp
      | succ off =>
        simp only [repl]
        rw [ih (v :: vs) _ off (by simp at h ⊢; omega)]
        simp [show off + 1 + (vs.length + 1) = off + (vs.length + 1) + 1 by omega]
/-- A store of whatever cells into a row. -/
theorem J_storeRow {t : TypeId} {x y : Operand} {b off : Nat} {ty' : Ty} {l l' : List Value} {e : TypeId} {v : Value} (i : Nat) (hS : ∀ w, Sat G w H' → Sx rest S w)
    (hx : ev L x = some (.pointer (some ⟨b, off, none⟩))) (hy : ev L y = some v) (ht : U.get t = some ty') (hsz : Nat.beq (cellsL v).length ty'.info.size = true) (hne : Nat.beq (cellsL v).length 0 = false) (hone : allOne (cellsL v) = true)
    (hi : getL H i = some (pts b (cl l e))) (hfit : off + (cellsL v).length ≤ l.length) (hl : l' = l.take off ++ cellsL v ++ l.drop (off + (cellsL v).length)) (hp : putP i (pts b (cl l' e)) H [] = .mk H')
    (h : J P f n R G S all rest k L H') : J P f n R G S all (.cons false true ⟨none, .store t x y, ty, pos, af, gd⟩ rest) k L H :=
  J_store (U := U) i hS hx hy ht hsz hne hone hi (by rw [repl_many _ _ _ _ hfit, hl]; rfl) hp h
/-- A slice of its own, taken apart: it is nil, or a row. -/
theorem K_slcCases {e : TypeId} {sz nn : Nat} {v : Value} {cs : List Value} {H : List HP}
    (h0 : ∀ a, v = .slice a 0 0 → nn = 0 → cs = [] → K P f n R G k L H)
    (h1 : ∀ b o c pre junk, v = .slice (some ⟨b, o, none⟩) nn c → pre.length = o → nn ≤ c → c * sz ≤ cs.length + junk.length → cs.length = nn * sz → K P f n R G k L (pts b (cl (pre ++ cs ++ junk) e) :: H)) :
    K P f n R G k L (slc e sz v nn cs :: H) := by
  intro a w ha hw
  obtain ⟨t, o, u, hp, hpw, hA, hB, ⟨hl, hcase⟩, hBB, hd, he⟩ := hw
  rcases hcase with ⟨a0, hv, hn, hemp⟩ | ⟨b, oo, cap, pre, junk, hv, hpre, hn, hc, hpt⟩
  · refine h0 a0 hv hn (List.eq_nil_of_length_eq_zero (by rw [hl, hn]; simp)) a w ha ⟨t, o, u, hB, fun x y hxy => ?_, hBB⟩
    exact hpw x y (by rw [he x]; rw [hemp x]; simpa using hxy)
  · exact h1 b oo cap pre junk hv hpre hn hc hl a w ha ⟨t, o, u, hp, hpw, hA, hB, hpt, hBB, hd, he⟩
end
/-- The first of a list of rows of one length. -/
theorem chunk_get {α : Type} {g : α → List Value} {s : Nat} (hs : ∀ x, (g x).length = s) {l : List α} {i : Nat} {x : α} (h : l[i]? = some x) (j : Nat) (hj : j < s) : (l.flatMap g)[i * s + j]? = (g x)[j]? := by
  induction l generalizing i with
  | nil => simp at h
  | cons y l ih =>
    have hy := hs y
    rw [List.flatMap_cons]
    cases i with
    | zero => simp at h; subst h; rw [List.getElem?_append_left (by omega)]; simp
    | succ i =>
      simp at h
      have e : (i + 1) * s = i * s + s := by rw [Nat.add_mul, Nat.one_mul]
      rw [List.getElem?_append_right (by omega), hy, show (i + 1) * s + j - s = i * s + j by omega, ih h]
theorem chunk_len {α : Type} {g : α → List Value} {s : Nat} (hs : ∀ x, (g x).length = s) (l : List α) : (l.flatMap g).length = l.length * s := by
  induction l with
  | nil => simp
  | cons y l ih => rw [List.flatMap_cons, List.length_append, ih, hs, List.length_cons, Nat.add_mul, Nat.one_mul]; omega
theorem chunk_set {α : Type} {g : α → List Value} {s : Nat} (hs : ∀ x, (g x).length = s) {l : List α} {i : Nat} (hi : i < l.length) (x : α) : (l.set i x).flatMap g = (l.flatMap g).take (i * s) ++ g x ++ (l.flatMap g).drop (i * s + s) := by
  induction l generalizing i with
  | nil => simp at hi
  | cons y l ih =>
    have hy := hs y
    cases i with
    | zero =>
      rw [List.set_cons_zero, List.flatMap_cons, List.flatMap_cons, Nat.zero_mul, List.take_zero, List.nil_append, Nat.zero_add]
      rw [← hy, List.drop_left]
    | succ i =>
      have e : (i + 1) * s = s + i * s := by rw [Nat.add_mul, Nat.one_mul]; omega
      rw [List.set_cons_succ, List.flatMap_cons, List.flatMap_cons, ih (by simpa using hi), e, ← hy, List.take_length_add_append, show (g y).length + i * (g y).length + (g y).length = (g y).length + (i * (g y).length + (g y).length) by omega, List.drop_length_add_append]
      simp
theorem slc_closeN {e : TypeId} {sz b o c nn : Nat} {cs pre junk : List Value} (hp : pre.length = o) (hn : nn ≤ c) (hc : c * sz ≤ cs.length + junk.length) (hl : cs.length = nn * sz) (H : List HP) :
    Ent (pts b (cl (pre ++ cs ++ junk) e) :: H) (slc e sz (.slice (some ⟨b, o, none⟩) nn c) nn cs :: H) :=
  Ent.fold (B := [_]) fun h hs => ⟨h, sub.refl h, hl, .inr ⟨b, o, c, pre, junk, rfl, hp, hn, hc, Sep_one hs⟩⟩
theorem idxI_first {α : Type} {p : α → Bool} {l : List α} (h : ¬ idxI p l = -1) : ∃ (i : Nat) (x : α), idxI p l = i ∧ l[i]? = Option.some x ∧ p x = true ∧ ∀ y ∈ l.take i, p y = false := by
  have hex : ∃ (i : Nat) (x : α), l[i]? = Option.some x ∧ p x = true ∧ ∀ y ∈ l.take i, p y = false := by
    have hany : l.any p = true := by
      cases ha : l.any p with
      | true => rfl
      | false =>
        have h1 := idxI_neg.2 ha
        have h2 := idxI_ge p l
        omega
    clear h
    induction l with
    | nil => simp at hany
    | cons y l ih =>
      cases hy : p y with
      | true => exact ⟨0, y, by simp, hy, by simp⟩
      | false =>
        simp only [List.any_cons, hy, Bool.false_or] at hany
        obtain ⟨i, x, h1, h2, h3⟩ := ih hany
        refine ⟨i + 1, x, by simpa using h1, h2, fun z hz => ?_⟩
        rw [List.take_succ_cons] at hz
        rcases List.mem_cons.1 hz with rfl | hz
        · exact hy
        · exact h3 z hz
  obtain ⟨i, x, h1, h2, h3⟩ := hex
  exact ⟨i, x, idxI_some h1 h2 h3, h1, h2, h3⟩
theorem splice_mid (pre W junk vs : List Value) (q : Nat) (h : q + vs.length ≤ W.length) : (pre ++ W ++ junk).take (pre.length + q) ++ vs ++ (pre ++ W ++ junk).drop (pre.length + q + vs.length) = pre ++ (W.take q ++ vs ++ W.drop (q + vs.length)) ++ junk := by
  rw [List.append_assoc pre W junk, List.take_length_add_append, Nat.add_assoc, List.drop_length_add_append, List.take_append_of_le_length (by omega), List.drop_append_of_le_length (by omega)]
  simp only [List.append_assoc]
theorem chunk_take {α : Type} {g : α → List Value} {s : Nat} (hs : ∀ x, (g x).length = s) (l : List α) (i : Nat) (hi : i ≤ l.length) : (l.take i).flatMap g = (l.flatMap g).take (i * s) := by
  have h1 : l.flatMap g = (l.take i).flatMap g ++ (l.drop i).flatMap g := by rw [← List.flatMap_append, List.take_append_drop]
  have h2 : ((l.take i).flatMap g).length = i * s := by rw [chunk_len hs, List.length_take, Nat.min_eq_left hi]
  rw [h1, ← h2, List.take_left]
theorem flat_replicate (n : Nat) (x : List Value) : (List.replicate n x).flatten.length = n * x.length := by
  induction n with
  | zero => simp
  | succ n ih => rw [List.replicate_succ, List.flatten_cons, List.length_append, ih, Nat.add_mul, Nat.one_mul]; omega
/-- 'x & (2^n - 1)'. -/
theorem and_mask_i64 (x n : Nat) (hx : x < 9223372036854775808) (hn : n < 63) : IntKind.i64.wrap ((BitVec.ofInt IntKind.i64.bits (x : Int) &&& BitVec.ofInt IntKind.i64.bits ((2 ^ n - 1 : Nat) : Int)).toNat : Int) = ((x % 2 ^ n : Nat) : Int) := by
  have e1 : (BitVec.ofInt IntKind.i64.bits (x : Int)).toNat = x := by
    rw [BitVec.toNat_ofInt]
    have : IntKind.i64.bits = 64 := rfl
    rw [this]
    omega
  have hp : 2 ^ n < 2 ^ 63 := Nat.pow_lt_pow_right (by omega) hn
  have hpos : 0 < 2 ^ n := Nat.pow_pos (by omega)
  have e2 : (BitVec.ofInt IntKind.i64.bits ((2 ^ n - 1 : Nat) : Int)).toNat = 2 ^ n - 1 := by
    rw [BitVec.toNat_ofInt]
    have : IntKind.i64.bits = 64 := rfl
    rw [this]
    omega
  rw [BitVec.toNat_and, e1, e2, Nat.and_two_pow_sub_one_eq_mod]
  have hlt : x % 2 ^ n < 9223372036854775808 := Nat.lt_of_le_of_lt (Nat.mod_le _ _) hx
  exact wrap_in (by simp only [inK]; omega)
theorem and_one_u8 (x : Nat) (hx : x < 256) : IntKind.u8.wrap ((BitVec.ofInt IntKind.u8.bits (x : Int) &&& BitVec.ofInt IntKind.u8.bits 1).toNat : Int) = ((x % 2 : Nat) : Int) := by
  have e1 : (BitVec.ofInt IntKind.u8.bits (x : Int)).toNat = x := by
    rw [BitVec.toNat_ofInt]
    have : IntKind.u8.bits = 8 := rfl
    rw [this]
    omega
  have e2 : (BitVec.ofInt IntKind.u8.bits (1 : Int)).toNat = 2 ^ 1 - 1 := by decide
  rw [BitVec.toNat_and, e1, e2, Nat.and_two_pow_sub_one_eq_mod]
  exact wrap_in (by simp only [inK]; omega)
end Go.SL

/- files, part p: SyncNames, the closures and slices' functions of Sync. -/
set_option linter.unusedVariables false
set_option linter.unusedSimpArgs false
namespace Go.Proofs.YtpdmbmnhgcnelaaGreat
open Go Go.SL
attribute [local irreducible] J K Ctr Ends pts slc mapR mapI sbRow stock arrS

abbrev Late := Nat × Nat × Value
def lateC (x : Late) : List Value := [ptr x.1, .int .i64 x.2.1, x.2.2]
theorem wcells_eq (l : List Late) : wcells l = l.flatMap lateC := rfl
theorem lateC_len (x : Late) : (lateC x).length = 3 := rfl

theorem IndexFunc_late (A X : HP) (v : Value) (l : List Late) (hv : Vw A v l.length (wcells l)) (hlen : l.length ≤ 1000000000) (g : FuncId) (cap : List Value) (p : Late → Bool)
    (hf : ∀ x ∈ l, Ctr Tryz.prog g (.agg #[ptr x.1, .int .i64 x.2.1, x.2.2] :: cap) [X] (fun v H => v = .bool (p x) ∧ H = [X])) :
    Ctr Tryz.prog 108 [v, .func (.func g) #[] cap.toArray] [A, X] (fun r H => r = .int .i64 (idxI p l) ∧ H = [A, X]) := by
  obtain ⟨a, c0, rfl⟩ := hv.shape
  refine Ctr.enter Tryz.func108 (by kernel_rfl) rfl Tryz.ntmps108 rfl rfl ?_
  intro G F R hR
  (refine go ?_)
  refine K_loop (fun i : Nat => i ≤ l.length ∧ ∀ y ∈ l.take i, p y = false) (fun i => l.length - i) (fun i => [(0, .slice a l.length c0), (1, .func (.func g) #[] cap.toArray), (7, .int .i64 l.length), (8, .int .i64 i)]) (fun _ => [A, X] ++ F) 0 ⟨by simp, by simp⟩ rfl (by repeat (first | exact keep_nil | refine keep_cons rfl ?_)) (Ent.refl _) ?_
  rintro i ⟨hi, hb⟩ ih
  (refine go ?_)
  refine K_condP rfl rfl ?_ ?_
  · intro hlt
    (refine go ?_)
    have hi' : i < l.length := by omega
    have hx : l[i]? = some l[i] := by simp [hi']
    generalize hxx : l[i] = x at hx
    obtain ⟨b, o, cap', hsl⟩ := hv.some (by rw [← List.length_pos_iff, wcells_eq, chunk_len lateC_len]; omega)
    simp only [Value.slice.injEq] at hsl
    obtain ⟨rfl, _, rfl⟩ := hsl
    refine J_at (U := tab) i 3 rfl rfl rfl rfl rfl rfl rfl rfl hi' ?_
    refine J_loadElem (U := tab) (es := lateC x) 0 (i * 3) rfl rfl rfl hv rfl (fun j v hj => ?_) rfl rfl rfl ?_
    · have hj3 : j < 3 := by
        rcases Nat.lt_or_ge j 3 with h | h
        · exact h
        · rw [List.getElem?_eq_none (by rw [lateC_len]; exact h)] at hj; cases hj
      rw [wcells_eq, chunk_get lateC_len hx j hj3]; exact hj
    refine J_call [1] rfl rfl rfl rfl (hf x (List.mem_of_getElem? hx)) rfl (fun _ _ _ _ _ => trivial) ?_
    rintro _ _ ⟨rfl, rfl⟩
    (refine go ?_)
    refine K_condA rfl rfl ?_ ?_
    · intro hp
      (refine go ?_)
      refine K_return hR Tryz.func108 rfl _ rfl ⟨by rw [idxI_some hx hp hb]; rfl, rfl⟩ (Ent.fin [1, 0] 0 rfl rfl)
    · intro hp
      (refine go ?_)
      refine K_again ih (i + 1) rfl ⟨by omega, allTake hb hx hp⟩ (by omega) (by repeat (first | exact keep_nil | refine keep_cons rfl ?_)) (Ent.pick [1, 0] rfl)
  · intro hge
    (refine go ?_)
    have : i = l.length := by omega
    subst this
    refine K_return hR Tryz.func108 rfl _ rfl ⟨by rw [idxI_none (fun x hx => hb x (by simpa using hx))]; rfl, rfl⟩ (Ent.fin [0, 1] 0 rfl rfl)

/-- Is it that file's write? -/
theorem Sync1_any (c5 f g at_ : Nat) (bv : Value) (files : List (Nat × Value × Value)) (hf : f ∈ files.map (·.1)) (hg : g ∈ files.map (·.1)) (hone : bv.oneCell' = true) :
    Ctr Tryz.prog 87 [.agg #[ptr g, .int .i64 at_, bv], ptr c5] [star (pts c5 (cl [ptr f] 75)) (stock fileG files)] (fun v H => v = .bool (decide (g = f)) ∧ H = [star (pts c5 (cl [ptr f] 75)) (stock fileG files)]) := by
  have row : ∀ {G : Glob} {w : World} {H : List HP} {i y : Nat}, Sat G w H → getL H i = some (stock fileG files) → y ∈ files.map (·.1) → Row w y := by
    intro G w H i y hs hi hy
    obtain ⟨⟨y', v1, v2⟩, hm, rfl⟩ := List.mem_map.1 hy
    obtain ⟨j, hj⟩ := List.getElem?_of_mem hm
    exact ⟨_, _, file_cells hs hi hj⟩
  refine Ctr.enter Tryz.func87 (by kernel_rfl) rfl Tryz.ntmps87 rfl rfl ?_
  intro G F R hE
  refine K_ent (Ent.part _ _ _) ?_
  (refine go ?_)
  refine J_box rfl rfl (fun _ _ _ => trivial) ?_
  intro bx
  (refine go ?_)
  refine J_eqPtr (U := tab) rfl rfl rfl rfl rfl rfl rfl (fun w hw => row (i := 2) hw rfl hg) (fun w hw => row (i := 2) hw rfl hf) ?_
  (refine go ?_)
  refine K_ent (Ent.pick [1, 2] rfl) ?_
  refine K_ent (Ent.join _ _ _) ?_
  refine K_return hE Tryz.func87 rfl _ rfl ⟨congrArg Value.bool (by simp), rfl⟩ (Ent.fin [0] 1 rfl rfl)

theorem DeleteFunc_late (v : Value) (l : List Late) (X : HP) (g : FuncId) (cap : List Value) (p : Late → Bool) (hlen : l.length ≤ 1000000000) (hsl : ∀ x ∈ l, ∃ a n c, x.2.2 = .slice a n c)
    (hf : ∀ x ∈ l, Ctr Tryz.prog g (.agg #[ptr x.1, .int .i64 x.2.1, x.2.2] :: cap) [X] (fun v H => v = .bool (p x) ∧ H = [X])) :
    Ctr Tryz.prog 86 [v, .func (.func g) #[] cap.toArray] [slc 77 3 v l.length (wcells l), X]
      (fun r H => H = [slc 77 3 r (l.filter fun x => !p x).length (wcells (l.filter fun x => !p x)), X]) := by
  refine Ctr.enter Tryz.func86 (by kernel_rfl) rfl Tryz.ntmps86 rfl rfl ?_
  intro G F R hE
  refine K_shape 0 rfl ?_
  rintro a0 c rfl
  (refine go ?_)
  refine J_slcVw 0 rfl ?_
  intro hv
  refine J_call [0, 1] rfl rfl rfl rfl (IndexFunc_late _ X _ l hv hlen g cap p hf) rfl (fun _ _ _ _ _ => trivial) ?_
  rintro _ _ ⟨rfl, rfl⟩
  (refine go ?_)
  refine K_condP rfl rfl ?_ ?_
  · intro h0
    have hany : l.any p = false := idxI_neg.1 (by omega)
    have hfl : (l.filter fun x => !p x) = l := List.filter_eq_self.2 fun x hx => by
      have := List.any_eq_false.1 hany x hx
      simpa using this
    rw [hfl] at hE
    (refine go ?_)
    refine K_return hE Tryz.func86 rfl _ rfl rfl (Ent.fin [0, 1] 0 rfl rfl)
  · intro h0
    obtain ⟨i0, x0, hi0, hx0, hp0, hb0⟩ := idxI_first h0
    have hi0l : i0 < l.length := by
      rcases Nat.lt_or_ge i0 l.length with h | h
      · exact h
      · rw [List.getElem?_eq_none h] at hx0; cases hx0
    rw [hi0]
    (refine go ?_)
    refine K_slcCases (fun a hv0 hn _ => by omega) ?_
    rintro b o c' pre junk hvv hpre hnc hcap hcl
    simp only [Value.slice.injEq, true_and] at hvv
    obtain ⟨rfl, rfl⟩ := hvv
    have h1 : l.take (i0 + 1) = l.take i0 ++ [x0] := by rw [List.take_add_one, hx0]; rfl
    have hft : (l.take i0).filter (fun x => !p x) = l.take i0 := List.filter_eq_self.2 fun x hx => by simp [hb0 x hx]
    refine K_loop (fun s : Nat × Nat × List Late => s.1 < s.2.1 ∧ s.2.1 ≤ l.length ∧ s.2.2.length = l.length ∧ s.2.2.take s.1 = (l.take s.2.1).filter (fun x => !p x) ∧ s.2.2.drop s.2.1 = l.drop s.2.1) (fun s => l.length - s.2.1)
      (fun s => [(0, .slice (some ⟨b, o, none⟩) l.length c), (1, .func (.func g) #[] cap.toArray), (5, .int .i64 s.1), (6, .int .i64 s.2.1)])
      (fun s => pts b (cl (pre ++ wcells s.2.2 ++ junk) 77) :: X :: F) (i0, i0 + 1, l) ⟨by simp, by simp only; omega, rfl, by simp only [h1, List.filter_append, hft]; simp [hp0], rfl⟩ rfl (by repeat (first | exact keep_nil | refine keep_cons rfl ?_)) (Ent.refl _) ?_
    rintro ⟨i, j, E⟩ ⟨hij, hjl, hEl, hEt, hEd⟩ ih
    simp only at hij hjl hEl hEt hEd
    have hwl : (wcells E).length = l.length * 3 := by rw [wcells_eq, chunk_len lateC_len, hEl]
    have hvE : Vw (pts b (cl (pre ++ wcells E ++ junk) 77)) (.slice (some ⟨b, o, none⟩) l.length c) l.length (wcells E) := Vw.pts (by rw [List.append_assoc, ← hpre, List.drop_left, List.take_left])
    (refine go ?_)
    refine K_condP rfl rfl ?_ ?_
    · intro hlt
      simp only at hlt
      have hj' : j < l.length := by omega
      obtain ⟨⟨fx, ax, bx⟩, hx⟩ : ∃ x, l[j]? = some x := ⟨l[j], by simp [hj']⟩
      have hEx : E[j]? = some (fx, ax, bx) := by
        have := congrArg (·[0]?) hEd
        simp only [List.getElem?_drop, Nat.add_zero] at this
        rw [this]; exact hx
      have hmem := List.mem_of_getElem? hx
      obtain ⟨ab, nb, cb, hbx⟩ := hsl _ hmem
      simp only at hbx
      subst hbx
      have hfx := hf _ hmem
      (refine go ?_)
      refine J_at (U := tab) j 3 rfl rfl rfl rfl rfl rfl rfl rfl hj' ?_
      refine J_loadElem (U := tab) (es := lateC (fx, ax, .slice ab nb cb)) 0 (j * 3) rfl rfl rfl hvE rfl (fun q v hq => ?_) rfl rfl rfl ?_
      · have hj3 : q < 3 := by
          rcases Nat.lt_or_ge q 3 with h | h
          · exact h
          · rw [List.getElem?_eq_none (by rw [lateC_len]; exact h)] at hq; cases hq
        rw [wcells_eq, chunk_get lateC_len hEx q hj3]; exact hq
      refine J_alloc (U := tab) rfl rfl rfl (fun _ _ _ => trivial) ?_
      intro bv
      (refine go ?_)
      refine J_loadAgg (U := tab) 0 rfl rfl rfl rfl rfl rfl ?_
      refine J_call [2] rfl rfl rfl rfl (hfx) rfl (fun _ _ _ _ _ => trivial) ?_
      rintro _ _ ⟨rfl, rfl⟩
      (refine go ?_)
      refine K_condA rfl rfl ?_ ?_
      · intro hp
        have hp' : p (fx, ax, .slice ab nb cb) = false := by simpa using hp
        (refine go ?_)
        refine J_loadAgg (U := tab) 1 rfl rfl rfl rfl rfl rfl ?_
        (refine go ?_)
        refine J_at (U := tab) i 3 rfl rfl rfl rfl rfl rfl rfl rfl (by omega) ?_
        refine J_storeRow (U := tab) (l' := pre ++ wcells (E.set i (fx, ax, .slice ab nb cb)) ++ junk) 2 (fun _ _ => trivial) rfl rfl rfl rfl rfl rfl rfl ?_ ?_ rfl ?_
        · show o + i * 3 + 3 ≤ _
          rw [List.length_append, List.length_append, hwl]; omega
        · show _ = List.take (o + i * 3) (pre ++ wcells E ++ junk) ++ lateC (fx, ax, .slice ab nb cb) ++ List.drop (o + i * 3 + (lateC (fx, ax, .slice ab nb cb)).length) (pre ++ wcells E ++ junk)
          rw [← hpre, splice_mid _ _ _ _ _ (by rw [lateC_len, hwl]; omega), wcells_eq, chunk_set lateC_len (by omega)]
          rfl
        (refine go ?_)
        refine K_again ih (i + 1, j + 1, E.set i (fx, ax, .slice ab nb cb)) rfl ⟨by simp only; omega, by simp only; omega, by simp only [List.length_set]; exact hEl, ?_, ?_⟩ (by simp only; omega) (by repeat (first | exact keep_nil | refine keep_cons rfl ?_)) (Ent.to [2, 0] 1 rfl rfl rfl)
        · simp only
          rw [List.take_add_one, List.take_set_of_le (Nat.le_refl i), hEt, List.take_add_one (l := l), hx, List.getElem?_set_self (by omega)]
          simp [List.filter_append, hp']
        · simp only
          rw [List.drop_set_of_lt (by omega), ← List.drop_drop, hEd, List.drop_drop]
      · intro hp
        have hp' : p (fx, ax, .slice ab nb cb) = true := by simpa using hp
        (refine go ?_)
        refine K_again ih (i, j + 1, E) rfl ⟨by simp only; omega, by simp only; omega, hEl, by simp only; rw [hEt, List.take_add_one, hx]; simp [List.filter_append, hp'], by simp only; rw [← List.drop_drop, hEd, List.drop_drop]⟩ (by simp only; omega) (by repeat (first | exact keep_nil | refine keep_cons rfl ?_)) (Ent.to [2, 0] 1 rfl rfl rfl)
    · intro hge
      (refine go ?_)
      simp only at hge
      have hjn : j = l.length := by omega
      subst hjn
      rw [List.take_length] at hEt
      have hlen2 : (l.filter fun x => !p x).length = i := by rw [← hEt, List.length_take]; omega
      refine J_slice (U := tab) rfl rfl rfl rfl rfl rfl rfl (by omega) (by omega) (.inl rfl) ?_
      intro o1 ho1 ho2
      simp only [Int.toNat_natCast] at ho1 ho2
      have ho1' : i ≠ c → o1 = o + i * 3 := ho1
      have hL : (pre ++ wcells E ++ junk).length = o + l.length * 3 + junk.length := by rw [List.length_append, List.length_append, hwl, hpre]
      obtain ⟨junk', hjunk, hjl'⟩ : ∃ junk', (pre ++ wcells E ++ junk).take o1 ++ (List.replicate (((l.length : Int).toNat - (i : Int).toNat)) [Value.pointer none, .int .i64 0, .slice none 0 0]).flatten ++ (pre ++ wcells E ++ junk).drop (o1 + ((l.length : Int).toNat - (i : Int).toNat) * 3) = pre ++ wcells (E.take i) ++ junk' ∧ c * 3 ≤ i * 3 + junk'.length := by
        have hic : i ≠ c := by omega
        rw [ho1' hic, ← hpre, List.append_assoc pre, List.take_length_add_append, List.take_append_of_le_length (by rw [hwl]; omega), wcells_eq, wcells_eq, chunk_take lateC_len E i (by omega)]
        refine ⟨_, by rw [List.append_assoc], ?_⟩
        rw [List.length_append, List.length_drop, flat_replicate]
        simp only [List.length_append, List.length_cons, List.length_nil, chunk_len lateC_len, hEl, Int.toNat_natCast]
        have := hcl
        omega
      refine J_clear (U := tab) (l' := pre ++ wcells (E.take i) ++ junk') 0 (fun _ _ => trivial) rfl rfl rfl rfl rfl rfl rfl rfl ?_ ?_ rfl ?_
      · have hic : i ≠ c := by omega
        show o1 + ((l.length : Int).toNat - (i : Int).toNat) * 3 ≤ _
        rw [ho1' hic, hL]; omega
      · rw [← hjunk]; rfl
      (refine go ?_)
      refine J_slice (U := tab) rfl rfl rfl rfl rfl rfl rfl (by omega) (by omega) (.inr (by omega)) ?_
      intro o2 ho3 ho4
      have ho2' : o2 = o := by
        by_cases hc0 : (0 : Int).toNat = c
        · exact ho4 hc0
        · have := ho3 hc0; rw [this]; simp
      subst ho2'
      (refine go ?_)
      refine K_ent (slc_closeN (sz := 3) (nn := i) (c := c) hpre (by omega) (by rw [wcells_eq, chunk_len lateC_len, List.length_take]; omega) (by rw [wcells_eq, chunk_len lateC_len, List.length_take]; omega) _) ?_
      rw [← hEt, hEt, hlen2, ← hEt] at hE
      refine K_return hE Tryz.func86 rfl _ rfl rfl (Ent.fin [0, 1] 0 rfl rfl)
end Go.Proofs.YtpdmbmnhgcnelaaGreat

/- files, part q: SyncNames, Sync. -/
set_option linter.unusedVariables false
set_option linter.unusedSimpArgs false
namespace Go.Proofs.YtpdmbmnhgcnelaaGreat
open Go Go.SL
attribute [local irreducible] J K Ctr Ends pts slc mapR mapI sbRow stock arrS

theorem SyncNames_any (bd : Nat) (D : Dk) (A : Ab) (hR : Rel D A) :
    Ctr Tryz.prog 64 [ptr bd] [disk bd D] (fun v H => ∃ D', Rel D' A.syncNames.2 ∧ H = [disk bd D'] ∧ v = .int .i64 A.syncNames.1) := by
  refine Ctr.enter Tryz.func64 (by kernel_rfl) rfl Tryz.ntmps64 rfl rfl ?_
  intro G F R hE
  (refine go ?_)
  refine J_call [0] rfl rfl rfl rfl (meet_any bd D A hR true) rfl (fun _ _ _ _ _ => trivial) ?_
  rintro _ _ ⟨D', hR', rfl, rfl⟩
  (refine go ?_)
  refine K_condA rfl rfl ?_ ?_
  · intro h0
    have h0' : ¬ (A.meet true).1 = 0 := by have := of_decide_eq_true h0; omega
    have hf : A.syncNames = ((A.meet true).1, (A.meet true).2) := by simp [Ab.syncNames, h0']
    rw [hf] at hE
    (refine go ?_)
    refine K_return hE Tryz.func64 rfl _ rfl ⟨D', hR', rfl, rfl⟩ (Ent.fin [0] 0 rfl rfl)
  · intro h0
    have h0' : (A.meet true).1 = 0 := by have := of_decide_eq_false h0; omega
    have hf : A.syncNames = (0, { (A.meet true).2 with states := [(A.meet true).2.names] }) := by simp [Ab.syncNames, h0']
    rw [hf] at hE
    obtain ⟨room, bm, sts, wrs, pln, off, maps, arrs, files, stb, wl⟩ := D'
    refine K_ent (disk_o _ _ _ _ _ _ _ _ _ _ _ _ _) ?_
    (refine go ?_)
    refine J_buildSlice1 (U := tab) rfl rfl rfl rfl rfl rfl rfl rfl rfl (fun _ _ _ => trivial) ?_
    intro b0
    (refine go ?_)
    refine K_ent (slc_row 52 1 b0 1 1 [.map (some bm)] [] _ rfl (Nat.le_refl _) (by simp)) ?_
    refine K_ent (Ent.pick [1, 2, 3, 4, 0, 6] rfl) ?_
    refine K_ent (disk_c bd room bm _ wrs pln off maps arrs files [bm] wl _) ?_
    have hR2 : Rel ⟨room, bm, .slice (some ⟨b0, 0, none⟩) 1 1, wrs, pln, off, maps, arrs, files, [bm], wl⟩ { (A.meet true).2 with states := [(A.meet true).2.names] } :=
      { room := hR'.room, off := hR'.off, names := hR'.names, states := All2.one hR'.names, fs := hR'.fs, writes := hR'.writes, plan := hR'.plan, ids := hR'.ids
        known := fun st hst => hR'.known st (by simp only [List.mem_cons, List.not_mem_nil, or_false] at hst; rcases hst with rfl | rfl <;> exact List.mem_cons_self ..)
        knownW := hR'.knownW
        nodup := fun st hst => hR'.nodup st (by simp only [List.mem_cons, List.not_mem_nil, or_false] at hst; rcases hst with rfl | rfl <;> exact List.mem_cons_self ..)
        smallF := hR'.smallF, smallW := hR'.smallW
        smallN := fun st hst => hR'.smallN st (by simp only [List.mem_cons, List.not_mem_nil, or_false] at hst; rcases hst with rfl | rfl <;> exact List.mem_cons_self ..)
        smallR := hR'.smallR, smallP := hR'.smallP, full := by simp }
    refine K_return hE Tryz.func64 rfl _ rfl ⟨_, hR2, rfl, rfl⟩ (Ent.fin [0] 1 rfl rfl)

theorem All2.filter {α β : Type} {q : α → β → Prop} {l : List α} {r : List β} (h : All2 q l r) {p1 : α → Bool} {p2 : β → Bool} (hp : ∀ x y, q x y → p1 x = p2 y) : All2 q (l.filter p1) (r.filter p2) := by
  induction l generalizing r with
  | nil =>
    have : r = [] := List.eq_nil_of_length_eq_zero h.1.symm
    subst this; exact All2.nil
  | cons x l ih =>
    cases r with
    | nil => exact absurd h.1 (by simp)
    | cons y r =>
      have h0 := h.2 0 x y rfl rfl
      have ht : All2 q l r := ⟨by have := h.1; simpa using this, fun i a b ha hb => h.2 (i + 1) a b (by simpa using ha) (by simpa using hb)⟩
      rw [List.filter_cons, List.filter_cons, hp x y h0]
      split
      · exact (ih ht).cons h0
      · exact ih ht
theorem updS_set {fs : List (Nat × List UInt8 × List UInt8)} (hn : (fs.map (·.1)).Nodup) {i f : Nat} {x : List UInt8 × List UInt8} (hi : fs[i]? = some (f, x)) : Ab.updS fs f = fs.set i (f, x.1, x.1) := by
  induction fs generalizing i with
  | nil => simp at hi
  | cons y l ih =>
    simp only [List.map_cons, List.nodup_cons] at hn
    cases i with
    | zero =>
      simp at hi
      subst hi
      simp only [Ab.updS, List.map_cons, if_true, List.set_cons_zero, List.cons.injEq, true_and]
      rw [List.map_congr_left (g := id) (fun z hz => ?_), List.map_id]
      have : z.1 ≠ f := fun e => hn.1 (List.mem_map.2 ⟨z, hz, e⟩)
      simp [this]
    | succ i =>
      simp at hi
      have hne : y.1 ≠ f := fun e => hn.1 (List.mem_map.2 ⟨_, List.mem_of_getElem? hi, e.symm⟩)
      have := ih hn.2 hi
      simp only [Ab.updS] at this
      simp only [Ab.updS, List.map_cons, hne, if_false, List.set_cons_succ, this]
theorem updS_ids (fs : List (Nat × List UInt8 × List UInt8)) (f : Nat) : (Ab.updS fs f).map (·.1) = fs.map (·.1) := by
  simp only [Ab.updS, List.map_map]
  apply List.map_congr_left
  intro x _
  simp only [Function.comp]
  split <;> rfl
theorem Rel.synced {D : Dk} {A : Ab} (h : Rel D A) {i f : Nat} {v1 v2 w : Value} (hi : D.files[i]? = some (f, v1, v2)) (ha : A.fs[i]? = some (f, A.now f, A.sure f)) :
    Rel { D with files := D.files.set i (f, v1, v1), wrs := w, wl := D.wl.filter fun x => !decide (x.1 = f) } { A with fs := Ab.updS A.fs f, writes := A.writes.filter fun x => !decide (x.1 = f) } where
  room := h.room
  off := h.off
  names := h.names
  states := h.states
  fs := by
    rw [updS_set h.ids ha]
    have h2 := h.fs.2 i _ _ hi ha
    exact All2.set h.fs i ⟨rfl, h2.2.1, h2.2.1⟩
  writes := All2.filter h.writes (fun x y hxy => by rw [hxy.1])
  plan := h.plan
  ids := by simp only [updS_ids]; exact h.ids
  known := by simp only [updS_ids]; exact h.known
  knownW := by
    simp only [updS_ids]
    exact fun x hx => h.knownW x (List.mem_filter.1 hx).1
  nodup := h.nodup
  smallF := by
    intro x hx
    simp only [Ab.updS, List.mem_map] at hx
    obtain ⟨y, hy, rfl⟩ := hx
    have := h.smallF y hy
    split
    · exact ⟨this.1, this.1⟩
    · exact this
  smallW := fun x hx => h.smallW x (List.mem_filter.1 hx).1
  smallN := h.smallN
  smallR := h.smallR
  smallP := h.smallP
  full := h.full

theorem Sync_any (bd : Nat) (D : Dk) (A : Ab) (hR : Rel D A) (name : ByteArray) (hwl : A.writes.length ≤ 1000000000) :
    Ctr Tryz.prog 41 [ptr bd, .string name] [disk bd D]
      (fun v H => ∃ D', Rel D' (A.sync (isName name) name).2 ∧ H = [disk bd D'] ∧ v = .int .i64 (A.sync (isName name) name).1) := by
  refine Ctr.enter Tryz.func41 (by kernel_rfl) rfl Tryz.ntmps41 rfl rfl ?_
  intro G F R hE
  (refine go ?_)
  refine J_buildSlice1 (U := tab) rfl rfl rfl rfl rfl rfl rfl rfl rfl (fun _ _ _ => trivial) ?_
  intro b0
  (refine go ?_)
  refine J_call [0] rfl rfl rfl rfl (right_any _ _ [name] (Vw.pts rfl) (by simp)) rfl (fun _ _ _ _ _ => trivial) ?_
  rintro _ _ ⟨rfl, rfl⟩
  have e1 : [name].all isName = isName name := by simp
  rw [e1]
  (refine go ?_)
  refine J_call [1] rfl rfl rfl rfl (find_any bd D A hR name (isName name)) rfl (fun _ _ _ _ _ => trivial) ?_
  generalize hok : isName name = ok at hE ⊢
  rintro _ _ ⟨D', hR', rfl, rfl⟩
  by_cases h0' : (A.find name ok).1 = 0
  · obtain ⟨hokt, fl, hfl, hmem⟩ := find_parts h0'
    have hw : A.sync ok name = (0, { (A.find name ok).2.2 with fs := Ab.updS (A.find name ok).2.2.fs fl, writes := (A.find name ok).2.2.writes.filter fun x => !decide (x.1 = fl) }) := by simp [Ab.sync, h0', hfl]
    rw [hw] at hE
    rw [hfl, h0']
    have hwl' : (A.find name ok).2.2.writes.length ≤ 1000000000 := by rw [(find_same A name ok).2.2.2.1]; exact hwl
    generalize (A.find name ok).2.2 = A1 at *
    obtain ⟨room, bm, sts, wrs, pln, off, maps, arrs, files, stb, wl⟩ := D'
    obtain ⟨i, v1, v2, hi, hfs, hv1, hv2⟩ := hR'.file (f := fl) (hR'.known _ (List.mem_cons_self ..) _ hmem)
    obtain ⟨a, cap, rfl, hcap⟩ := hv1.shape
    (refine go ?_)
    refine J_alloc (U := tab) rfl rfl rfl (fun _ _ _ => trivial) ?_
    intro c5
    (refine go ?_)
    refine K_ent (Ent.pick [1] rfl) ?_
    refine K_ent (disk_o _ _ _ _ _ _ _ _ _ _ _ _ _) ?_
    refine K_ent (Ent.pick [3] rfl) ?_
    refine K_ent (stock_out fileG hi _) ?_
    refine K_drawA (fun w => Sat G w ([pts c5 (cl [ptr fl] 75), pts fl (cl [.slice a (A1.now fl).length cap, v2] 81)])) (.st 0 (.st 1 (.st 2 (.st 3 (.st 4 (.st 5 (.st 6 (.act 7 .nil)))))))) rfl (by kernel_rfl) (by kernel_rfl) (by kernel_rfl) (fun w hw => hw.ent (Ent.pickOnly ([7, 0]) rfl)) ?_
    (refine go ?_)
    refine J_ent (stock_set fileG (y := (fl, .slice a (A1.now fl).length cap, .slice a (A1.now fl).length cap)) hi _) ?_
    refine J_ent (Ent.pick [6, 0] rfl) ?_
    refine J_ent (Ent.join _ _ _) ?_
    have hids : (files.set i (fl, .slice a (A1.now fl).length cap, .slice a (A1.now fl).length cap)).map (·.1) = files.map (·.1) := by
      rw [List.map_set]
      apply List.ext_getElem?
      intro j
      rw [List.getElem?_set]
      split
      · rename_i hij
        subst hij
        simp only [List.getElem?_map, hi, Option.map_some, List.length_map]
        rw [if_pos (by
          rcases Nat.lt_or_ge i files.length with h | h
          · exact h
          · rw [List.getElem?_eq_none h] at hi; cases hi)]
      · rfl
    have hfi := hR'.fids
    simp only at hfi
    have hwx : ∀ x ∈ wl, (∃ a n c, x.2.2 = .slice a n c) ∧ x.1 ∈ files.map (·.1) := fun x hx => by
      obtain ⟨j, hj⟩ := List.getElem?_of_mem hx
      obtain ⟨y, hy, h1, _, h3⟩ := hR'.writes.left hj
      obtain ⟨a, c, h4, _⟩ := h3.shape
      refine ⟨⟨_, _, _, h4⟩, ?_⟩
      rw [hfi, h1]
      exact hR'.knownW y (List.mem_of_getElem? hy)
    refine J_call [5, 0] rfl rfl rfl rfl (DeleteFunc_late wrs wl (star (pts c5 (cl [ptr fl] 75)) (stock fileG (files.set i (fl, .slice a (A1.now fl).length cap, .slice a (A1.now fl).length cap)))) 87 [ptr c5] (fun x => decide (x.1 = fl)) (by have := hR'.writes.1; simp only at this; omega) (fun x hx => (hwx x hx).1)
      (fun x hx => Sync1_any c5 fl x.1 x.2.1 x.2.2 _ (by rw [hids, hfi]; exact List.mem_map.2 ⟨_, List.mem_of_getElem? hfs, rfl⟩) (by rw [hids]; exact (hwx x hx).2) (by obtain ⟨⟨a, n, c, h⟩, _⟩ := hwx x hx; rw [h]; rfl))) rfl (fun _ _ _ _ _ => trivial) ?_
    rintro r _ rfl
    refine J_shape 0 rfl ?_
    rintro ar cr rfl
    (refine go ?_)
    refine K_ent (Ent.pick [1] rfl) ?_
    refine K_ent (Ent.part _ _ _) ?_
    refine K_ent (Ent.pick [3, 4, 5, 1, 6, 2] rfl) ?_
    refine K_ent (disk_c bd room bm sts _ pln off maps arrs _ stb _ _) ?_
    refine K_return hE Tryz.func41 rfl _ rfl ⟨_, hR'.synced hi hfs, rfl, rfl⟩ (Ent.fin [0] 2 rfl rfl)
  · have hw : A.sync ok name = ((A.find name ok).1, (A.find name ok).2.2) := by simp [Ab.sync, h0']
    rw [hw] at hE
    cases hfo : (A.find name ok).2.1 with
    | none =>
      (refine go ?_)
      refine J_alloc (U := tab) rfl rfl rfl (fun _ _ _ => trivial) ?_
      intro c5
      (refine go ?_)
      refine K_condA rfl rfl ?_ ?_
      · intro _
        (refine go ?_)
        refine K_return hE Tryz.func41 rfl _ rfl ⟨D', hR', rfl, rfl⟩ (Ent.fin [1] 2 rfl rfl)
      · intro h; exfalso; have := of_decide_eq_false h; omega
    | some fl =>
      (refine go ?_)
      refine J_alloc (U := tab) rfl rfl rfl (fun _ _ _ => trivial) ?_
      intro c5
      (refine go ?_)
      refine K_condA rfl rfl ?_ ?_
      · intro _
        (refine go ?_)
        refine K_return hE Tryz.func41 rfl _ rfl ⟨D', hR', rfl, rfl⟩ (Ent.fin [1] 2 rfl rfl)
      · intro h; exfalso; have := of_decide_eq_false h; omega
end Go.Proofs.YtpdmbmnhgcnelaaGreat

/- files, part s0: plain laws for Crash. -/
set_option linter.unusedVariables false
set_option linter.unusedSimpArgs false
namespace Go.Proofs.YtpdmbmnhgcnelaaGreat
open Go Go.SL
attribute [local irreducible] J K Ctr Ends pts slc mapR mapI sbRow stock arrS

abbrev Fss := List (Nat × List UInt8 × List UInt8)
/-- The memory's files are these. -/
structure FilesAre (arrs0 arrs : Arrs) (files : List (Nat × Value × Value)) (fs : Fss) (ids : List Nat) : Prop where
  all : All2 (fun x y => x.1 = y.1 ∧ BIn arrs x.2.1 y.2.1 ∧ BIn arrs x.2.2 y.2.2) files fs
  sub : ∀ x ∈ arrs0, x ∈ arrs
  ids : fs.map (·.1) = ids
  small : ∀ x ∈ fs, x.2.1.length ≤ 1048576 ∧ x.2.2.length ≤ 1048576
def toldAt (stay : List UInt8) (i : Nat) : Bool := decide (i / 8 < stay.length ∧ ((stay.getD (i / 8) 0).toNat / 2 ^ (i % 8)) % 2 = 1)
theorem map_one (g : Nat × List UInt8 × List UInt8 → Nat × List UInt8 × List UInt8) {fs : Fss} (hn : (fs.map (·.1)).Nodup) {i f : Nat} {x : List UInt8 × List UInt8} (hi : fs[i]? = some (f, x)) : (fs.map fun y => if y.1 = f then g y else y) = fs.set i (g (f, x)) := by
  induction fs generalizing i with
  | nil => simp at hi
  | cons y l ih =>
    simp only [List.map_cons, List.nodup_cons] at hn
    cases i with
    | zero =>
      simp at hi
      subst hi
      simp only [List.map_cons, if_true, List.set_cons_zero, List.cons.injEq, true_and]
      rw [List.map_congr_left (g := id) (fun z hz => ?_), List.map_id]
      have : z.1 ≠ f := fun e => hn.1 (List.mem_map.2 ⟨z, hz, e⟩)
      simp [this]
    | succ i =>
      simp at hi
      have hne : y.1 ≠ f := fun e => hn.1 (List.mem_map.2 ⟨_, List.mem_of_getElem? hi, e.symm⟩)
      have := ih hn.2 hi
      simp only [List.map_cons, hne, if_false, List.set_cons_succ, this]
theorem FilesAre.get {arrs0 arrs : Arrs} {files : List (Nat × Value × Value)} {fs : Fss} {ids : List Nat} (h : FilesAre arrs0 arrs files fs ids) (hn : ids.Nodup) {f : Nat} (hf : f ∈ ids) :
    ∃ (j : Nat) (v1 v2 : Value) (n s : List UInt8), files[j]? = some (f, v1, v2) ∧ fs[j]? = some (f, n, s) ∧ BIn arrs v1 n ∧ BIn arrs v2 s ∧ n.length ≤ 1048576 ∧ s.length ≤ 1048576 ∧ (fs.find? fun x => decide (x.1 = f)) = some (f, n, s) := by
  rw [← h.ids] at hf hn
  obtain ⟨⟨f', n, s⟩, hm, rfl⟩ := List.mem_map.1 hf
  obtain ⟨i, hi⟩ := List.getElem?_of_mem hm
  obtain ⟨⟨f2, v1, v2⟩, hx, h1, h2, h3⟩ := h.all.right hi
  simp only at h1 h2 h3
  subst h1
  exact ⟨i, v1, v2, n, s, hx, hi, h2, h3, (h.small _ hm).1, (h.small _ hm).2, find_nodup hn hi⟩
theorem FilesAre.put {arrs0 arrs arrs' : Arrs} {files : List (Nat × Value × Value)} {fs : Fss} {ids : List Nat} (h : FilesAre arrs0 arrs files fs ids) (hs : ∀ x ∈ arrs, x ∈ arrs') {j f : Nat} {v1 v2 : Value} {n s : List UInt8} {y : List UInt8 × List UInt8}
    (hj : fs[j]? = some (f, y)) (h1 : BIn arrs' v1 n) (h2 : BIn arrs' v2 s) (hl : n.length ≤ 1048576 ∧ s.length ≤ 1048576) : FilesAre arrs0 arrs' (files.set j (f, v1, v2)) (fs.set j (f, n, s)) ids where
  all := All2.set (h.all.mono fun x y hxy => ⟨hxy.1, hxy.2.1.mono hs, hxy.2.2.mono hs⟩) j ⟨rfl, h1, h2⟩
  sub x hx := hs x (h.sub x hx)
  ids := by
    rw [← h.ids, List.map_set]
    apply List.ext_getElem?
    intro i
    rw [List.getElem?_set]
    split
    · rename_i e; subst e; rw [List.getElem?_map, hj]
      have : j < (fs.map (·.1)).length := by
        rw [List.length_map]
        rcases Nat.lt_or_ge j fs.length with h | h
        · exact h
        · rw [List.getElem?_eq_none h] at hj; cases hj
      simp [this]
      rcases Nat.lt_or_ge j fs.length with h | h
      · exact h
      · rw [List.getElem?_eq_none h] at hj; cases hj
    · rfl
  small x hx := by
    rcases List.mem_or_eq_of_mem_set hx with h' | rfl
    · exact h.small x h'
    · exact hl
theorem drop_cons {α : Type} {l : List α} {i : Nat} {x : α} (h : l[i]? = some x) : l.drop i = x :: l.drop (i + 1) := by
  have hlt : i < l.length := by
    rcases Nat.lt_or_ge i l.length with h' | h'
    · exact h'
    · rw [List.getElem?_eq_none h'] at h; cases h
  rw [List.drop_eq_getElem_cons hlt]
  rw [List.getElem?_eq_getElem hlt] at h; cases h; rfl
theorem lasts_some {stay : List UInt8} {torn cut : Int} {i : Nat} {ws : List (Nat × Nat × List UInt8)} {fs : Fss} {f a j : Nat} {b c n s : List UInt8} (h : ws[i]? = some (f, a, b)) (hn : (fs.map (·.1)).Nodup) (hj : fs[j]? = some (f, n, s))
    (hk : Ab.kept stay torn cut i b = some c) : Ab.lasts stay torn cut i (ws.drop i) fs = Ab.lasts stay torn cut (i + 1) (ws.drop (i + 1)) (fs.set j (f, n, wroteL s a c)) := by
  rw [drop_cons h]
  simp only [Ab.lasts, hk]
  rw [find_nodup hn hj]
  have := map_one (fun y => (y.1, y.2.1, wroteL s a c)) hn hj
  unfold Ab.updSure
  simp only [Option.map_some, Option.getD_some]
  rw [this]
theorem lasts_none {stay : List UInt8} {torn cut : Int} {i : Nat} {ws : List (Nat × Nat × List UInt8)} {fs : Fss} {f a : Nat} {b : List UInt8} (h : ws[i]? = some (f, a, b))
    (hk : Ab.kept stay torn cut i b = none) : Ab.lasts stay torn cut i (ws.drop i) fs = Ab.lasts stay torn cut (i + 1) (ws.drop (i + 1)) fs := by
  rw [drop_cons h]
  simp only [Ab.lasts, hk]
theorem kept_torn {stay : List UInt8} {torn cut : Int} {i c : Nat} {b : List UInt8} (hi : (i : Int) = torn) (hc : max 0 (min cut b.length) = (c : Int)) : Ab.kept stay torn cut i b = if c = 0 then none else some (b.take c) := by
  unfold Ab.kept
  rw [if_pos hi]
  have e : (max 0 (min cut (b.length : Int))).toNat = c := by omega
  simp only [e]
  have hcb : c ≤ b.length := by omega
  by_cases h0 : c = 0
  · simp [h0]
  · have hlen : (b.take c).length = c := by rw [List.length_take]; omega
    have : b.take c ≠ [] := fun he => by rw [he] at hlen; simp at hlen; omega
    rw [if_neg this, if_neg h0]
theorem kept_else {stay : List UInt8} {torn cut : Int} {i : Nat} {b : List UInt8} (hi : (i : Int) ≠ torn) : Ab.kept stay torn cut i b = if toldAt stay i = true then some b else none := by
  unfold Ab.kept toldAt
  rw [if_neg hi]
  simp only [decide_eq_true_eq]
/-- Files that are reached are as they surely are. -/
def mark (S : List Nat) (fs : Fss) : Fss := fs.map fun x => if x.1 ∈ S then (x.1, x.2.2, x.2.2) else x
theorem mark_nil (fs : Fss) : mark [] fs = fs := by simp [mark]
theorem mark_ext {S S' : List Nat} (fs : Fss) (h : ∀ x, x ∈ S ↔ x ∈ S') : mark S fs = mark S' fs := by
  unfold mark; apply List.map_congr_left; intro x _; simp only [h]
theorem mark_ids (S : List Nat) (fs : Fss) : (mark S fs).map (·.1) = fs.map (·.1) := by
  unfold mark; rw [List.map_map]; apply List.map_congr_left; intro x _; simp only [Function.comp]; split <;> rfl
theorem mark_set {S : List Nat} {fs : Fss} (hn : (fs.map (·.1)).Nodup) {j f : Nat} {n s : List UInt8} (hj : (mark S fs)[j]? = some (f, n, s)) : (mark S fs).set j (f, s, s) = mark (f :: S) fs := by
  have h1 := map_one (fun y => (y.1, y.2.2, y.2.2)) (by rw [mark_ids]; exact hn) hj
  rw [← h1]
  unfold mark
  rw [List.map_map]
  apply List.map_congr_left
  intro x _
  simp only [Function.comp, List.mem_cons]
  by_cases hx : x.1 ∈ S <;> by_cases hf : x.1 = f <;> simp only [hx, hf, if_true, if_false, or_true, true_or, or_false, false_or, if_pos, if_neg, not_false_eq_true] <;> simp_all
theorem lasts_ids {stay : List UInt8} {torn cut : Int} (ws : List (Nat × Nat × List UInt8)) : ∀ (i : Nat) (fs : Fss), (Ab.lasts stay torn cut i ws fs).map (·.1) = fs.map (·.1) := by
  induction ws with
  | nil => intro i fs; rfl
  | cons w ws ih =>
    intro i fs
    unfold Ab.lasts
    cases Ab.kept stay torn cut i w.2.2 with
    | none => exact ih _ _
    | some c =>
      simp only
      rw [ih]
      unfold Ab.updSure
      rw [List.map_map]; apply List.map_congr_left; intro x _; simp only [Function.comp]; split <;> rfl
/-- The disk behind a crash. -/
theorem Rel.crashed {D : Dk} {A : Ab} (h : Rel D A) {last torn cut : Int} {stay : List UInt8} {q b1 b0 : Nat} {nm : List (ByteArray × Nat)} {arrs' : Arrs} {files' : List (Nat × Value × Value)} {w p : Value} (hw : w = .slice none 0 0) (hp : p = .slice none 0 0)
    (hq : max 0 (min last ((A.states.length : Int) - 1)) = q) (hnm : A.states[q]? = some nm) (hb : (b1, ptrs nm) ∈ D.maps)
    (hF : FilesAre D.arrs arrs' files' (mark (Ab.reach (A.states ++ [nm])) (Ab.lasts stay torn cut 0 A.writes A.fs)) (A.fs.map (·.1))) :
    Rel ⟨D.room, b1, .slice (some ⟨b0, 0, none⟩) 1 1, w, p, false, D.maps, arrs', files', [b1], []⟩ (A.crash last stay torn cut) := by
  subst hw hp
  have hst : nm ∈ A.states := List.mem_of_getElem? hnm
  have e : A.crash last stay torn cut = { A with names := nm, states := [nm], writes := [], plan := [], off := false, fs := mark (Ab.reach (A.states ++ [nm])) (Ab.lasts stay torn cut 0 A.writes A.fs) } := by
    have e1 : (max 0 (min last ((A.states.length : Int) - 1))).toNat = q := by omega
    have e2 : A.states.getD (max 0 (min last ((A.states.length : Int) - 1))).toNat [] = nm := by rw [e1, List.getD_eq_getElem?_getD, hnm]; rfl
    simp only [Ab.crash, e2]; rfl
  rw [e]
  have hsub : ∀ st ∈ nm :: [nm], st ∈ A.names :: A.states := fun st hs => by
    simp only [List.mem_cons, List.not_mem_nil, or_false] at hs
    rcases hs with rfl | rfl <;> exact List.mem_cons_of_mem _ hst
  exact
  { room := h.room, off := rfl, names := hb, states := All2.one hb, fs := hF.all, writes := All2.nil, plan := BIn.nil _ _ _
    ids := by simp only; rw [hF.ids]; exact h.ids
    known := fun st hs x hx => by simp only; rw [hF.ids]; exact h.known st (hsub st hs) x hx
    knownW := by simp
    nodup := fun st hs => h.nodup st (hsub st hs)
    smallF := hF.small
    smallW := by simp
    smallN := fun st hs => h.smallN st (hsub st hs)
    smallR := h.smallR, smallP := by simp, full := by simp }
end Go.Proofs.YtpdmbmnhgcnelaaGreat

/- files, part s: Crash. -/
set_option linter.unusedVariables false
set_option linter.unusedSimpArgs false
namespace Go.Proofs.YtpdmbmnhgcnelaaGreat
open Go Go.SL
attribute [local irreducible] J K Ctr Ends pts slc mapR mapI sbRow stock arrS

set_option maxRecDepth 20000 in
theorem Crash_any (bd : Nat) (D : Dk) (A : Ab) (hR : Rel D A) (last torn cut : Int) (X : HP) (bv : Value) (stay : List UInt8) (hv : Vw X bv stay.length (bV stay)) (hsl : stay.length ≤ 9223372036854775807) (hst : A.states.length ≤ 1000000000) (hwl : A.writes.length ≤ 1000000000)
    (h1 : -9223372036854775808 ≤ last ∧ last ≤ 9223372036854775807) (h2 : -9223372036854775808 ≤ torn ∧ torn ≤ 9223372036854775807) (h3 : -9223372036854775808 ≤ cut ∧ cut ≤ 9223372036854775807) :
    Ctr Tryz.prog 11 [ptr bd, .int .i64 last, bv, .int .i64 torn, .int .i64 cut] [disk bd D, X] (fun v H => ∃ D', Rel D' (A.crash last stay torn cut) ∧ H = [disk bd D', X]) := by
  obtain ⟨a0, c0, rfl⟩ := hv.shape
  obtain ⟨room, bm, sts, wrs, pln, off, maps, arrs, files, stb, wl⟩ := D
  have hlen := hR.states.1
  have hwlen := hR.writes.1
  have hfull := hR.full
  have hpos : 0 < A.states.length := List.length_pos_iff.2 hfull
  simp only at hlen hwlen
  refine Ctr.enter Tryz.func11 (by kernel_rfl) rfl Tryz.ntmps11 rfl rfl ?_
  intro G F R hE
  refine K_ent (disk_o _ _ _ _ _ _ _ _ _ _ _ _ _) ?_
  refine K_shape 4 rfl ?_
  rintro sa cs rfl
  refine K_drawA (fun w => Sat G w ([pts bd (cl [.int .i64 room, .map (some bm), .slice sa stb.length cs, wrs, pln, .bool off] 56), slc 52 1 (.slice sa stb.length cs) stb.length (stb.map fun b => .map (some b))])) (.st 0 (.st 1 (.st 2 (.st 3 (.st 4 (.st 5 (.st 6 (.st 7 (.st 8 (.st 9 (.st 10 (.st 11 (.st 12 (.st 13 (.st 14 (.st 15 (.st 16 (.st 17 (.act 18 .nil))))))))))))))))))) rfl (by kernel_rfl) (by kernel_rfl) (by kernel_rfl) (fun w hw => hw.ent (Ent.pickOnly ([0, 4]) rfl)) ?_
  (refine go ?_)
  refine J_slcAt 4 rfl (by omega) ?_
  rintro bs os cs' hs hvs
  simp only [Value.slice.injEq, true_and] at hs
  obtain ⟨rfl, rfl⟩ := hs
  obtain ⟨q, hq⟩ : ∃ q : Nat, max 0 (min last ((stb.length : Int) - 1)) = q := Int.eq_ofNat_of_zero_le (by omega)
  have hqs : q < stb.length := by omega
  refine J_at1 (U := tab) q rfl rfl rfl rfl rfl rfl rfl hq hqs ?_
  obtain ⟨b1, hb1⟩ : ∃ b1, stb[q]? = some b1 := ⟨stb[q], by simp⟩
  refine J_loadAtS (U := tab) 1 q rfl rfl rfl hvs rfl (c := .map (some b1)) (by simp [hb1]) rfl rfl ?_
  (refine go ?_)
  refine J_ent (Ent.pick [5] rfl) ?_
  refine J_shape 0 rfl ?_
  rintro wa wc rfl
  (refine go ?_)
  refine K_loop (fun s : Nat × Arrs × List (Nat × Value × Value) × List (Nat × List UInt8 × List UInt8) => s.1 ≤ wl.length ∧ FilesAre arrs s.2.1 s.2.2.1 s.2.2.2 (A.fs.map (·.1)) ∧ Ab.lasts stay torn cut s.1 (A.writes.drop s.1) s.2.2.2 = Ab.lasts stay torn cut 0 A.writes A.fs) (fun s => wl.length - s.1)
    (fun s => [(0, ptr bd), (2, .slice a0 stay.length c0), (3, .int .i64 torn), (4, .int .i64 cut), (38, .slice wa wl.length wc), (39, .int .i64 wl.length), (40, .int .i64 s.1)])
    (fun s => slc 77 3 (.slice wa wl.length wc) wl.length (wcells wl) :: pts bd (cl [.int .i64 room, .map (some b1), .slice (some ⟨bs, os, none⟩) stb.length cs, .slice wa wl.length wc, pln, .bool off] 56) :: stock mapG maps :: arrS 5 s.2.1 :: stock fileG s.2.2.1 :: slc 52 1 (.slice (some ⟨bs, os, none⟩) stb.length cs) stb.length (stb.map fun b => .map (some b)) :: X :: F)
    (0, arrs, files, A.fs) ⟨by simp, ⟨hR.fs, fun x h => h, rfl, hR.smallF⟩, rfl⟩ rfl (by repeat (first | exact keep_nil | refine keep_cons rfl ?_)) (Ent.refl _) ?_
  rintro ⟨i, arrs1, files1, fs1⟩ ⟨hi, hF, hL⟩ ih
  simp only at hi hF hL
  (refine go ?_)
  refine K_condP rfl rfl ?_ ?_
  · intro hlt
    simp only at hlt
    have hi' : i < wl.length := by omega
    obtain ⟨⟨fx, ax, bx⟩, hx⟩ : ∃ x, wl[i]? = some x := ⟨wl[i], by simp [hi']⟩
    obtain ⟨⟨fy, ay, by_⟩, hy, hxy1, hxy2, hxy3⟩ := hR.writes.left hx
    simp only at hxy1 hxy2 hxy3
    subst hxy1 hxy2
    have hb3 := hxy3.mono hF.sub
    obtain ⟨ba, bc, rfl, hbc⟩ := hxy3.shape
    (refine go ?_)
    refine J_slcVw 0 rfl ?_
    intro hvw
    obtain ⟨bw, ow, cw, hsw⟩ := hvw.some (by rw [← List.length_pos_iff, wcells_eq, chunk_len lateC_len]; omega)
    simp only [Value.slice.injEq, true_and] at hsw
    obtain ⟨rfl, rfl⟩ := hsw
    refine J_at (U := tab) i 3 rfl rfl rfl rfl rfl rfl rfl rfl hi' ?_
    refine J_loadElem (U := tab) (es := lateC (fx, ax, .slice ba by_.length bc)) 0 (i * 3) rfl rfl rfl hvw rfl (fun q v hq => ?_) rfl rfl rfl ?_
    · have hj3 : q < 3 := by
        rcases Nat.lt_or_ge q 3 with h | h
        · exact h
        · rw [List.getElem?_eq_none (by rw [lateC_len]; exact h)] at hq; cases hq
      rw [wcells_eq, chunk_get lateC_len hx q hj3]; exact hq
    refine J_alloc (U := tab) rfl rfl rfl (fun _ _ _ => trivial) ?_
    intro bw1
    (refine go ?_)
    refine J_shr rfl rfl rfl (by omega) ?_
    refine J_slot 46 (.int .i64 ((i / 8 : Nat) : Int)) rfl (congrArg (Value.int .i64) (by show (i : Int) / 8 = ((i / 8 : Nat) : Int); omega)) ?_
    (refine go ?_)
    refine J_gsP rfl rfl rfl rfl ?_ ?_
    case' refine_2 =>
      intro hs1
      (refine go ?_)
      refine K_slot 12 (.bool (toldAt stay i)) rfl (congrArg Value.bool (by
        unfold toldAt
        exact (decide_eq_false (by omega)).symm)) ?_
    case' refine_1 =>
      intro hs1
      obtain ⟨bst, ost, cst, hsst⟩ := hv.some (by rw [← List.length_pos_iff, bV_length]; omega)
      simp only [Value.slice.injEq, true_and] at hsst
      obtain ⟨rfl, rfl⟩ := hsst
      (refine go ?_)
      refine J_shr rfl rfl rfl (by omega) ?_
      refine J_slot 53 (.int .i64 ((i / 8 : Nat) : Int)) rfl (congrArg (Value.int .i64) (by show (i : Int) / 8 = ((i / 8 : Nat) : Int); omega)) ?_
      have hi8 : i / 8 < stay.length := by omega
      (refine go ?_)
      refine J_at1 (U := tab) (i / 8) rfl rfl rfl rfl rfl rfl rfl rfl hi8 ?_
      (refine go ?_)
      obtain ⟨sx, hsx⟩ : ∃ x, stay[i / 8]? = some x := ⟨stay[i / 8]'hi8, by simp⟩
      refine J_loadV (U := tab) 7 rfl rfl rfl (hv.cell (bV_get hsx)) rfl rfl ?_
      (refine go ?_)
      refine J_slot 57 (.int .i64 ((i % 2 ^ 3 : Nat) : Int)) rfl (congrArg (Value.int .i64) (and_mask_i64 i 3 (by omega) (by omega))) ?_
      (refine go ?_)
      refine J_shr rfl rfl rfl (by omega) ?_
      have hsh : (sx.toNat : Int) / 2 ^ (min (((i % 2 ^ 3 : Nat) : Int).toNat) IntKind.u8.bits) = ((sx.toNat / 2 ^ (i % 8) : Nat) : Int) := by
        have e1 : min (((i % 2 ^ 3 : Nat) : Int).toNat) IntKind.u8.bits = i % 8 := by show min (i % 8) 8 = i % 8; omega
        rw [e1]; simp
      refine J_slot 58 (.int .u8 ((sx.toNat / 2 ^ (i % 8) : Nat) : Int)) rfl (congrArg (Value.int .u8) hsh) ?_
      have hsb : sx.toNat / 2 ^ (i % 8) < 256 := Nat.lt_of_le_of_lt (Nat.div_le_self _ _) sx.toNat_lt
      (refine go ?_)
      refine K_slot 12 (.bool (toldAt stay i)) rfl (congrArg Value.bool (by
        have := and_one_u8 _ hsb
        unfold toldAt
        rw [decide_eq_decide, List.getD_eq_getElem?_getD, hsx]
        show IntKind.u8.wrap _ = 1 ↔ _
        rw [this]
        simp only [Option.getD_some]
        omega)) ?_
    all_goals (
      generalize htd : toldAt stay i = told
      clear hs1
      (refine go ?_)
      refine K_condP rfl rfl ?_ ?_
      · intro htorn
        (refine go ?_)
        obtain ⟨c, hc⟩ : ∃ c : Nat, max 0 (min cut (by_.length : Int)) = c := Int.eq_ofNat_of_zero_le (by omega)
        have hcb : c ≤ by_.length := by omega
        refine J_sliceAny (U := tab) (p := 0) (q := max 0 (min cut (by_.length : Int))) rfl rfl rfl rfl rfl rfl rfl (Int.le_refl _) (by omega) (.inr (by omega)) ?_
        refine J_slot 73 (.slice (sliceAt ba bc 0 1) c bc) rfl (by simp only [hc]; rfl) ?_
        (refine go ?_)
        refine K_condP rfl rfl ?_ ?_
        · intro hc0
          have hc0' : c ≠ 0 := by intro e; subst e; simp at hc0
          have hk : Ab.kept stay torn cut i by_ = some (by_.take c) := by rw [kept_torn htorn hc, if_neg hc0']
          have hb' : BIn arrs1 (.slice (sliceAt ba bc 0 1) c bc) (by_.take c) := hb3.cut 0 c (by omega)
          have hbl : (by_.take c).length = c := by rw [List.length_take]; omega
          (obtain ⟨j, v1, v2, n, s, hj, hfj, hb1', hb2', hnl, hsl', hfind⟩ := hF.get hR.ids (hR.knownW _ (List.mem_of_getElem? hy)); have hwb := hR.smallW _ (List.mem_of_getElem? hy); simp only at hwb; have hnd1 : (fs1.map (·.1)).Nodup := (by rw [hF.ids]; exact hR.ids); have hwl2 := wroteL_len s ax (by_.take c); refine K_ent (Ent.pick [5] rfl) ?_; refine K_ent (stock_out fileG hj _) ?_; refine K_drawA (fun w => Sat G w ([pts bw1 (cl [ptr fx, .int .i64 ax, (.slice (sliceAt ba bc 0 1) c bc)] 77), pts fx (cl [v1, v2] 81)])) (.st 0 (.st 1 (.st 2 (.st 3 (.st 4 (.st 5 (.st 6 (.st 7 (.st 8 (.st 9 (.st 10 (.act 11 (.st 12 (.st 13 (.act 14 .nil))))))))))))))) rfl (by kernel_rfl) (by kernel_rfl) (by kernel_rfl) (fun w hw => hw.ent (Ent.pickOnly ([2, 0]) rfl)) ?_; (refine go ?_); refine J_call [6] rfl rfl rfl rfl (wrote_any (arrS 5 arrs1) v2 _ s (by_.take c) ax (hb2'.view _) (hb'.view _) (by omega)) rfl (fun _ _ w hp hw => by obtain ⟨_, _, _, _, rfl⟩ := hp; exact hw.ent (Ent.pickOnly [4, 2] rfl)) ?_; rintro _ _ ⟨bl, cap2, rfl, hcap2, rfl⟩; (refine go ?_); refine K_ent (Ent.pick [2, 3] rfl) ?_; refine K_ent (stock_set fileG (y := (fx, v1, .slice (some ⟨bl, 0, none⟩) (wroteL s ax (by_.take c)).length cap2)) hj _) ?_; refine K_ent (Ent.pick [1, 2] rfl) ?_; refine K_ent (arrS_add 5 bl _ arrs1 _) ?_; have hF2 := hF.put (arrs' := (bl, bV (wroteL s ax (by_.take c))) :: arrs1) (v1 := v1) (v2 := .slice (some ⟨bl, 0, none⟩) (wroteL s ax (by_.take c)).length cap2) (n := n) (s := wroteL s ax (by_.take c)) (fun x h => List.mem_cons_of_mem _ h) hfj (hb1'.mono fun x h => List.mem_cons_of_mem _ h) (BIn.row hcap2) ⟨hnl, by omega⟩; refine K_again ih (i + 1, _, _, _) rfl ⟨hi', hF2, by rw [← hL]; exact (lasts_some hy hnd1 hfj hk).symm⟩ (by show _ - (_ + 1) < _; omega) (by repeat (first | exact keep_nil | refine keep_cons rfl ?_)) (Ent.to [3, 4, 5, 0, 1, 6, 7] 1 rfl rfl rfl))
        · intro hc0
          have hc0' : c = 0 := by rcases Nat.eq_zero_or_pos c with h | h; exact h; exact absurd (by simp; exact h) hc0
          have hk : Ab.kept stay torn cut i by_ = none := by rw [kept_torn htorn hc, if_pos hc0']
          (refine go ?_)
          (refine K_again ih (i + 1, arrs1, files1, fs1) rfl ⟨hi', hF, by rw [← hL]; exact (lasts_none hy hk).symm⟩ (by show _ - (_ + 1) < _; omega) (by repeat (first | exact keep_nil | refine keep_cons rfl ?_)) (Ent.drop _ _))
      · intro htorn
        (refine go ?_)
        have hkk := kept_else (stay := stay) (cut := cut) (b := by_) htorn
        cases told with
        | false => 
          have hk : Ab.kept stay torn cut i by_ = none := by rw [hkk, htd]; rfl
          (refine go ?_)
          (refine K_again ih (i + 1, arrs1, files1, fs1) rfl ⟨hi', hF, by rw [← hL]; exact (lasts_none hy hk).symm⟩ (by show _ - (_ + 1) < _; omega) (by repeat (first | exact keep_nil | refine keep_cons rfl ?_)) (Ent.drop _ _))
        | true =>
          have hk : Ab.kept stay torn cut i by_ = some by_ := by rw [hkk, htd]; rfl
          have hb' : BIn arrs1 (.slice ba by_.length bc) by_ := hb3
          have hbl : by_.length = by_.length := rfl
          have hcb : by_.length ≤ by_.length := Nat.le_refl _
          (refine go ?_)
          (obtain ⟨j, v1, v2, n, s, hj, hfj, hb1', hb2', hnl, hsl', hfind⟩ := hF.get hR.ids (hR.knownW _ (List.mem_of_getElem? hy)); have hwb := hR.smallW _ (List.mem_of_getElem? hy); simp only at hwb; have hnd1 : (fs1.map (·.1)).Nodup := (by rw [hF.ids]; exact hR.ids); have hwl2 := wroteL_len s ax by_; refine K_ent (Ent.pick [5] rfl) ?_; refine K_ent (stock_out fileG hj _) ?_; refine K_drawA (fun w => Sat G w ([pts bw1 (cl [ptr fx, .int .i64 ax, (.slice ba by_.length bc)] 77), pts fx (cl [v1, v2] 81)])) (.st 0 (.st 1 (.st 2 (.st 3 (.st 4 (.st 5 (.st 6 (.st 7 (.st 8 (.st 9 (.st 10 (.act 11 (.st 12 (.st 13 (.act 14 .nil))))))))))))))) rfl (by kernel_rfl) (by kernel_rfl) (by kernel_rfl) (fun w hw => hw.ent (Ent.pickOnly ([2, 0]) rfl)) ?_; (refine go ?_); refine J_call [6] rfl rfl rfl rfl (wrote_any (arrS 5 arrs1) v2 _ s by_ ax (hb2'.view _) (hb'.view _) (by omega)) rfl (fun _ _ w hp hw => by obtain ⟨_, _, _, _, rfl⟩ := hp; exact hw.ent (Ent.pickOnly [4, 2] rfl)) ?_; rintro _ _ ⟨bl, cap2, rfl, hcap2, rfl⟩; (refine go ?_); refine K_ent (Ent.pick [2, 3] rfl) ?_; refine K_ent (stock_set fileG (y := (fx, v1, .slice (some ⟨bl, 0, none⟩) (wroteL s ax by_).length cap2)) hj _) ?_; refine K_ent (Ent.pick [1, 2] rfl) ?_; refine K_ent (arrS_add 5 bl _ arrs1 _) ?_; have hF2 := hF.put (arrs' := (bl, bV (wroteL s ax by_)) :: arrs1) (v1 := v1) (v2 := .slice (some ⟨bl, 0, none⟩) (wroteL s ax by_).length cap2) (n := n) (s := wroteL s ax by_) (fun x h => List.mem_cons_of_mem _ h) hfj (hb1'.mono fun x h => List.mem_cons_of_mem _ h) (BIn.row hcap2) ⟨hnl, by omega⟩; refine K_again ih (i + 1, _, _, _) rfl ⟨hi', hF2, by rw [← hL]; exact (lasts_some hy hnd1 hfj hk).symm⟩ (by show _ - (_ + 1) < _; omega) (by repeat (first | exact keep_nil | refine keep_cons rfl ?_)) (Ent.to [3, 4, 5, 0, 1, 6, 7] 1 rfl rfl rfl)))
  · intro hge
    simp only at hge
    have hiw : i = wl.length := by omega
    subst hiw
    have hfs1 : fs1 = Ab.lasts stay torn cut 0 A.writes A.fs := by rw [← hL, List.drop_of_length_le (by omega)]; rfl
    obtain ⟨nm, hnm, hbm⟩ := hR.states.left hb1
    have hall : All2 (fun b es => (b, ptrs es) ∈ maps) (stb ++ [b1]) (A.states ++ [nm]) := All2.snoc hR.states hbm
    refine K_drawA (fun w => Sat G w ([pts bd (cl [.int .i64 room, .map (some b1), .slice (some ⟨bs, os, none⟩) stb.length cs, .slice wa wl.length wc, pln, .bool off] 56)])) (.st 0 (.st 1 (.st 2 (.st 3 (.st 4 (.st 5 (.st 6 (.st 7 (.st 11 (.act 8 (.act 9 (.st 10 .nil)))))))))))) rfl (by kernel_rfl) (by kernel_rfl) (by kernel_rfl) (fun w hw => hw.ent (Ent.pickOnly ([1]) rfl)) ?_
    (refine go ?_)
    refine J_buildSlice1 (U := tab) rfl rfl rfl rfl rfl rfl rfl rfl rfl (fun _ w hw => hw.ent (Ent.pickOnly ([2]) rfl)) ?_
    intro b0
    refine J_append (U := tab) (mm := 1) (news := [.map (some b1)]) 6 0 rfl rfl rfl rfl rfl rfl rfl rfl rfl rfl rfl rfl (Vw.pts rfl) rfl (by simp [Value.oneCell']) (by omega) (by show _ * 8 ≤ _; omega) (fun _ => rfl) (fun _ w hw => hw.ent (Ent.pickOnly ([2]) rfl)) ?_
    intro v'
    have e1 : (stb.map fun b => Value.map (some b)) ++ [.map (some b1)] = (stb ++ [b1]).map fun b => Value.map (some b) := by simp
    have e2 : stb.length + 1 = (stb ++ [b1]).length := by simp
    have e3 : (stb ++ [b1]).length ≤ 1000000001 := by rw [← e2]; omega
    rw [e1, e2]
    refine J_shape 6 rfl ?_
    rintro av cv rfl
    (refine go ?_)
    refine K_loop (fun s : Nat × List (Nat × Value × Value) × List Nat => s.1 ≤ (stb ++ [b1]).length ∧ FilesAre arrs arrs1 s.2.1 (mark s.2.2 fs1) (A.fs.map (·.1)) ∧ ∀ x, x ∈ s.2.2 ↔ x ∈ Ab.reach ((A.states ++ [nm]).take s.1)) (fun s => (stb ++ [b1]).length - s.1)
      (fun s => [(0, ptr bd), (104, .slice av (stb ++ [b1]).length cv), (105, .int .i64 (stb ++ [b1]).length), (106, .int .i64 s.1)])
      (fun s => slc 52 1 (.slice av (stb ++ [b1]).length cv) (stb ++ [b1]).length ((stb ++ [b1]).map fun b => .map (some b)) :: pts bd (cl [.int .i64 room, .map (some b1), .slice (some ⟨bs, os, none⟩) stb.length cs, .slice wa wl.length wc, pln, .bool off] 56) :: stock mapG maps :: arrS 5 arrs1 :: stock fileG s.2.1 :: X :: F)
      (0, files1, []) ⟨Nat.zero_le _, by rw [mark_nil]; exact hF, by simp [Ab.reach]⟩ rfl (by repeat (first | exact keep_nil | refine keep_cons rfl ?_)) (Ent.to [6, 2, 3, 4, 5, 7] 2 rfl rfl rfl) ?_
    rintro ⟨i, files2, S⟩ ⟨hi2, hF2, hS2⟩ ih2
    simp only at hi2 hF2 hS2
    (refine go ?_)
    refine K_condP rfl rfl ?_ ?_
    · intro hlt
      simp only at hlt
      have hlt' : i < (stb ++ [b1]).length := by omega
      obtain ⟨bi, hbi⟩ : ∃ x, (stb ++ [b1])[i]? = some x := ⟨(stb ++ [b1])[i], by rw [List.getElem?_eq_getElem]⟩
      obtain ⟨es, hes, hm⟩ := hall.left hbi
      have hesm : es ∈ A.names :: A.states := by
        rcases List.mem_append.1 (List.mem_of_getElem? hes) with h | h
        · exact List.mem_cons_of_mem _ h
        · simp only [List.mem_singleton] at h; subst h; exact List.mem_cons_of_mem _ (List.mem_of_getElem? hnm)
      (refine go ?_)
      refine J_slcAt 0 rfl (by omega) ?_
      rintro bn on cn hs3 hvn
      simp only [Value.slice.injEq, true_and] at hs3
      obtain ⟨rfl, rfl⟩ := hs3
      refine J_at1 (U := tab) i rfl rfl rfl rfl rfl rfl rfl rfl hlt' ?_
      refine J_loadAt (U := tab) 0 i rfl rfl rfl hvn rfl (c := .map (some bi)) (by simp only [List.getElem?_map, hbi, Option.map_some]) rfl rfl ?_
      (refine go ?_)
      obtain ⟨jm, hjm⟩ := List.getElem?_of_mem hm
      refine J_ent (Ent.pick [2] rfl) ?_
      refine J_ent (stock_out mapG hjm _) ?_
      refine J_range (kv := Value.string) (es := ptrs es) (U := tab) 0 rfl rfl rfl rfl rfl (fun _ => rfl) (fun _ _ _ => trivial) ?_
      intro it
      (refine go ?_)
      have hndk := hR.nodup _ hesm
      have hkeys : (ptrs es).map (·.1) = es.map (·.1) := by simp [ptrs, Function.comp_def]
      refine K_loop (fun s : List ByteArray × List (Nat × Value × Value) × List Nat => (s.1.Nodup ∧ ∀ x ∈ s.1, x ∈ es.map (·.1)) ∧ FilesAre arrs arrs1 s.2.1 (mark s.2.2 fs1) (A.fs.map (·.1)) ∧ ∀ x, x ∈ s.2.2 ↔ x ∈ S ∨ ∃ k ∈ s.1, (k, x) ∈ es) (fun s => es.length - s.1.length)
        (fun s => [(111, .pointer (some ⟨it, 0, none⟩)), (0, ptr bd), (104, .slice (some ⟨bn, on, none⟩) (stb ++ [b1]).length cv), (105, .int .i64 (stb ++ [b1]).length), (106, .int .i64 i)])
        (fun s => mapI Value.string bi it (ptrs es) s.1 :: stock mapG (maps.eraseIdx jm) :: slc 52 1 (.slice (some ⟨bn, on, none⟩) (stb ++ [b1]).length cv) (stb ++ [b1]).length ((stb ++ [b1]).map fun b => .map (some b)) :: pts bd (cl [.int .i64 room, .map (some b1), .slice (some ⟨bs, os, none⟩) stb.length cs, .slice wa wl.length wc, pln, .bool off] 56) :: arrS 5 arrs1 :: stock fileG s.2.1 :: X :: F)
        ([], files2, S) ⟨⟨List.nodup_nil, by simp⟩, hF2, by simp⟩ rfl (by repeat (first | exact keep_nil | refine keep_cons rfl ?_)) (Ent.refl _) ?_
      rintro ⟨dn, files3, S3⟩ ⟨⟨hdn, hsubk⟩, hF3, hS3⟩ ih3
      simp only at hdn hsubk hF3 hS3
      (refine go ?_)
      refine J_next (kv := Value.string) (es := ptrs es) 0 rfl kStr.inj rfl rfl (fun _ => rfl) (fun _ _ => trivial) (fun _ _ _ => trivial) ?_ ?_
      · intro hallk
        (refine go ?_)
        refine K_ent ((Ent.head (B := [mapG (bi, ptrs es)]) (fun h hs => by obtain ⟨h', s, hm⟩ := mapI_mapR h hs; exact ⟨h', s, Sep_one' hm⟩)).trans (stock_in mapG hjm _)) ?_
        have hS4 : ∀ x, x ∈ S3 ↔ x ∈ Ab.reach ((A.states ++ [nm]).take (i + 1)) := by
          intro x
          rw [hS3 x, hS2 x, List.take_add_one, hes]
          simp only [Ab.reach, Option.toList_some, List.flatMap_append, List.flatMap_cons, List.flatMap_nil, List.append_nil, List.mem_append]
          apply or_congr Iff.rfl
          constructor
          · rintro ⟨k, _, hk⟩; exact List.mem_map.2 ⟨_, hk, rfl⟩
          · intro hx
            obtain ⟨⟨k, x'⟩, hk, rfl⟩ := List.mem_map.1 hx
            exact ⟨k, hallk (k, ptr x') (List.mem_map.2 ⟨_, hk, rfl⟩), hk⟩
        (refine go ?_)
        have ih := ih2
        refine K_again ih (i + 1, files3, S3) rfl ⟨hlt', hF3, hS4⟩ (by show _ - (_ + 1) < _; omega) (by repeat (first | exact keep_nil | refine keep_cons rfl ?_)) (Ent.to [1, 2, 0, 3, 4, 5] 0 rfl rfl rfl)
      · intro key v hmem hnot
        obtain ⟨⟨k', f⟩, hx, hxe⟩ := List.mem_map.1 hmem
        simp only [Prod.mk.injEq] at hxe
        obtain ⟨rfl, rfl⟩ := hxe
        (refine go ?_)
        refine J_entry (kv := Value.string) (es := ptrs es) 0 rfl kStr.inj rfl rfl hmem ?_
        (refine go ?_)
        obtain ⟨j, v1, v2, n, s, hj, hfj, hb1', hb2', hnl, hsl', hfind⟩ := hF3.get hR.ids (hR.known _ hesm _ hx)
        obtain ⟨a2, c2, rfl, _⟩ := hb2'.shape
        refine J_ent (Ent.pick [5] rfl) ?_
        refine J_ent (stock_out fileG hj _) ?_
        (refine go ?_)
        refine K_ent (stock_set fileG (y := (f, .slice a2 s.length c2, .slice a2 s.length c2)) hj _) ?_
        have hF4 := hF3.put (v1 := .slice a2 s.length c2) (v2 := .slice a2 s.length c2) (n := s) (s := s) (fun _ h => h) hfj hb2' hb2' ⟨hsl', hsl'⟩
        rw [mark_set (by rw [hF.ids]; exact hR.ids) hfj] at hF4
        have hmk : k' ∈ es.map (·.1) := List.mem_map.2 ⟨_, hx, rfl⟩
        have hd2 : (k' :: dn).Nodup := List.nodup_cons.2 ⟨hnot, hdn⟩
        have hs2 : ∀ x ∈ k' :: dn, x ∈ es.map (·.1) := fun x hx => by
          rcases List.mem_cons.1 hx with rfl | h
          · exact hmk
          · exact hsubk x h
        have hlen2 := nodup_len hd2 hs2
        rw [List.length_map, List.length_cons] at hlen2
        have hS4 : ∀ x, x ∈ f :: S3 ↔ x ∈ S ∨ ∃ k ∈ k' :: dn, (k, x) ∈ es := by
          intro x
          rw [List.mem_cons, hS3 x]
          constructor
          · rintro (rfl | h | ⟨k, hk, hkx⟩)
            · exact .inr ⟨k', List.mem_cons_self .., hx⟩
            · exact .inl h
            · exact .inr ⟨k, List.mem_cons_of_mem _ hk, hkx⟩
          · rintro (h | ⟨k, hk, hkx⟩)
            · exact .inr (.inl h)
            · rcases List.mem_cons.1 hk with rfl | hk
              · left
                have h1 := lookIn_mem hndk hx
                rw [lookIn_mem hndk hkx] at h1
                simpa using h1
              · exact .inr (.inr ⟨k, hk, hkx⟩)
        have ih := ih3
        refine K_again ih (k' :: dn, _, f :: S3) rfl ⟨⟨hd2, hs2⟩, hF4, hS4⟩ (by simp only [List.length_cons]; omega) (by repeat (first | exact keep_nil | refine keep_cons rfl ?_)) (Ent.to [1, 2, 3, 4, 5, 0, 6] 0 rfl rfl rfl)
    · intro hge2
      simp only at hge2
      have hie : i = (stb ++ [b1]).length := by omega
      subst hie
      rw [hall.1, List.take_length] at hS2
      rw [mark_ext fs1 hS2, hfs1] at hF2
      (refine go ?_)
      refine J_buildSlice1 (U := tab) rfl rfl rfl rfl rfl rfl rfl rfl rfl (fun _ _ _ => trivial) ?_
      intro b2
      (refine go ?_)
      refine K_ent (slc_row 52 1 b2 1 1 [.map (some b1)] [] _ rfl (Nat.le_refl _) (by simp)) ?_
      refine K_ent (slc_lift 77 3 none _) ?_
      refine K_ent (Ent.pick [3, 4, 5, 6, 1, 0, 7] rfl) ?_
      refine K_ent (disk_c bd room b1 (.slice (some ⟨b2, 0, none⟩) 1 1) (.slice none 0 0) (.slice none 0 0) false maps arrs1 files2 [b1] [] _) ?_
      have hR2 := hR.crashed (b0 := b2) rfl rfl (by rw [← hlen]; exact hq) hnm hbm hF2
      refine K_fallEnd hE Tryz.func11 rfl _ rfl ⟨_, hR2, rfl⟩ (Ent.fin [0, 1] 1 rfl rfl)
end Go.Proofs.YtpdmbmnhgcnelaaGreat

/- Engine, part J: bits of a signed number under small masks. Nothing here names a program. -/
set_option linter.unusedVariables false
set_option linter.unusedSimpArgs false
namespace Go.SL
theorem ofInt64 (x : Int) : (BitVec.ofInt IntKind.i64.bits x).toNat = (x % 18446744073709551616).toNat := by
  rw [BitVec.toNat_ofInt]; rfl
theorem and1_i64 (x : Int) : IntKind.i64.wrap ((BitVec.ofInt IntKind.i64.bits x &&& BitVec.ofInt IntKind.i64.bits 1).toNat : Int) = x % 2 := by
  have e2 : (BitVec.ofInt IntKind.i64.bits (1 : Int)).toNat = 2 ^ 1 - 1 := by decide
  rw [BitVec.toNat_and, ofInt64, e2, Nat.and_two_pow_sub_one_eq_mod, wrap_in (by simp only [inK]; omega)]
  omega
theorem and3_i64 (x : Int) : IntKind.i64.wrap ((BitVec.ofInt IntKind.i64.bits x &&& BitVec.ofInt IntKind.i64.bits 3).toNat : Int) = x % 4 := by
  have e2 : (BitVec.ofInt IntKind.i64.bits (3 : Int)).toNat = 2 ^ 2 - 1 := by decide
  rw [BitVec.toNat_and, ofInt64, e2, Nat.and_two_pow_sub_one_eq_mod, wrap_in (by simp only [inK]; omega)]
  omega
theorem and2_i64 (x : Int) : IntKind.i64.wrap ((BitVec.ofInt IntKind.i64.bits x &&& BitVec.ofInt IntKind.i64.bits 2).toNat : Int) = x % 4 - x % 2 := by
  have e2 : (BitVec.ofInt IntKind.i64.bits (2 : Int)).toNat = (2 ^ 2 - 1) &&& 2 := by decide
  have h : ∀ y, y < 4 → y &&& 2 = y - y % 2 := by decide
  rw [BitVec.toNat_and, ofInt64, e2, ← Nat.and_assoc, Nat.and_two_pow_sub_one_eq_mod, h _ (by omega), wrap_in (by simp only [inK]; omega)]
  omega
end Go.SL

/- files, part u: the reference's Wrote. -/
set_option linter.unusedVariables false
set_option linter.unusedSimpArgs false
namespace Go.Proofs.YtpdmbmnhgcnelaaGreat
open Go Go.SL
attribute [local irreducible] J K Ctr Ends pts slc mapR mapI sbRow stock arrS

theorem Wrote_ref (A : HP) (v1 v2 : Value) (old b : List UInt8) (at_ : Nat) (h1 : Vw A v1 old.length (bV old)) (h2 : Vw A v2 b.length (bV b)) (hb : old.length + at_ + b.length ≤ 1000000000) :
    Ctr Tryz.prog 31 [v1, .int .i64 at_, v2] [A] (fun r H => H = [slc 5 1 r (wroteL old at_ b).length (bV (wroteL old at_ b)), A]) := by
  obtain ⟨a1, c1, rfl⟩ := h1.shape
  obtain ⟨a2, c2, rfl⟩ := h2.shape
  refine Ctr.enter Tryz.func31 (by kernel_rfl) rfl Tryz.ntmps31 rfl rfl ?_
  intro G F R hR
  (refine go ?_)
  refine J_buildSlice1 (U := tab) rfl rfl rfl rfl rfl rfl rfl rfl rfl (fun _ _ _ => trivial) ?_
  intro b0
  (refine go ?_)
  refine J_ent (slc_row 5 1 b0 0 0 [] [] _ rfl (Nat.le_refl _) (by simp)) ?_
  refine J_append (U := tab) (mm := old.length) (news := bV old) 0 1 rfl rfl rfl rfl rfl rfl rfl rfl rfl rfl rfl rfl h1 (by show _ = _ * 1; rw [bV_length]; omega) (bV_one old) (by omega) (by show _ * 1 ≤ _; omega) (fun _ => rfl) (fun _ _ _ => trivial) ?_
  intro v'
  have e1 : (0 : Nat) + old.length = old.length := by omega
  rw [e1, List.nil_append]
  refine J_shape 0 rfl ?_
  rintro av cv rfl
  (refine go ?_)
  refine K_loop (fun s : Nat × Option Addr × Nat => s.1 ≤ at_ + b.length - old.length) (fun s => at_ + b.length - old.length - s.1)
    (fun s => [(0, .slice a1 old.length c1), (1, .int .i64 at_), (2, .slice a2 b.length c2), (7, .slice s.2.1 (old ++ List.replicate s.1 0).length s.2.2)])
    (fun s => slc 5 1 (.slice s.2.1 (old ++ List.replicate s.1 0).length s.2.2) (old ++ List.replicate s.1 0).length (bV (old ++ List.replicate s.1 0)) :: A :: F)
    (0, av, cv) (Nat.zero_le _) rfl (by simp only [List.replicate_zero, List.append_nil]; exact (by repeat (first | exact keep_nil | refine keep_cons rfl ?_))) (by simp only [List.replicate_zero, List.append_nil]; exact Ent.refl _) ?_
  rintro ⟨i, a, c⟩ hi ih
  simp only at hi
  have hlen : (old ++ List.replicate i (0 : UInt8)).length = old.length + i := by simp
  (refine go ?_)
  refine K_condP rfl rfl ?_ ?_
  · intro hlt
    simp only [hlen] at hlt
    (refine go ?_)
    refine J_buildSlice1 (U := tab) rfl rfl rfl rfl rfl rfl rfl rfl rfl (fun _ _ _ => trivial) ?_
    intro b1
    refine J_append (U := tab) (mm := 1) (news := bV [0]) 1 0 rfl rfl rfl rfl rfl rfl rfl rfl rfl rfl rfl rfl (Vw.pts rfl) rfl (bV_one [0]) (by rw [hlen]; omega) (by show _ * 1 ≤ _; rw [hlen]; omega) (fun _ => rfl) (fun _ _ _ => trivial) ?_
    intro v'
    have e1 : bV (old ++ List.replicate i 0) ++ bV [0] = bV (old ++ List.replicate (i + 1) 0) := by simp [bV, List.replicate_succ']
    have e2 : (old ++ List.replicate i (0 : UInt8)).length + 1 = (old ++ List.replicate (i + 1) (0 : UInt8)).length := by simp; omega
    rw [e1, e2]
    refine J_shape 1 rfl ?_
    rintro a' c' rfl
    (refine go ?_)
    refine K_again ih (i + 1, a', c') rfl (by show i + 1 ≤ _; omega) (by simp only; omega) (by repeat (first | exact keep_nil | refine keep_cons rfl ?_)) (Ent.drop _ _)
  · intro hge
    simp only [hlen] at hge
    have hie : i = at_ + b.length - old.length := by omega
    subst hie
    have hle : at_ + b.length ≤ (old ++ List.replicate (at_ + b.length - old.length) (0 : UInt8)).length := by rw [hlen]; omega
    have hw : wroteL old at_ b = (old ++ List.replicate (at_ + b.length - old.length) 0).take at_ ++ b ++ (old ++ List.replicate (at_ + b.length - old.length) 0).drop (at_ + b.length) := rfl
    generalize (old ++ List.replicate (at_ + b.length - old.length) (0 : UInt8)) = o at hle hw hlen ⊢
    (refine go ?_)
    refine K_loop (fun i : Nat => i ≤ b.length) (fun i => b.length - i)
      (fun i => [(0, .slice a1 old.length c1), (1, .int .i64 at_), (2, .slice a2 b.length c2), (7, .slice a o.length c), (8, .int .i64 i)])
      (fun i => slc 5 1 (.slice a o.length c) o.length (bV (o.take at_ ++ b.take i ++ o.drop (at_ + i))) :: A :: F)
      0 (Nat.zero_le _) rfl (by repeat (first | exact keep_nil | refine keep_cons rfl ?_)) (by simp only [List.take_zero, List.append_nil, Nat.add_zero, List.take_append_drop]; exact Ent.refl _) ?_
    intro i hi ih
    (refine go ?_)
    refine K_condP rfl rfl ?_ ?_
    · intro hlt
      obtain ⟨x, hx⟩ : ∃ x, b[i]? = some x := ⟨b[i]'(by omega), by simp⟩
      obtain ⟨ob, oo, oc, hsb⟩ := h2.some (by rw [← List.length_pos_iff, bV_length]; omega)
      simp only [Value.slice.injEq, true_and] at hsb
      obtain ⟨rfl, rfl⟩ := hsb
      (refine go ?_)
      refine J_at1 (U := tab) i rfl rfl rfl rfl rfl rfl rfl rfl (by omega) ?_
      refine J_loadV (U := tab) 1 rfl rfl rfl (h2.cell (bV_get hx)) rfl rfl ?_
      (refine go ?_)
      refine J_slcAt 0 rfl (by omega) ?_
      rintro bo oo' co hs hvo
      simp only [Value.slice.injEq, true_and] at hs
      obtain ⟨rfl, rfl⟩ := hs
      refine J_at1 (U := tab) (at_ + i) rfl rfl rfl rfl rfl rfl rfl (by omega) (by omega) ?_
      (refine go ?_)
      refine J_storeSlc (U := tab) (q := at_ + i) 0 (fun _ _ => trivial) rfl rfl rfl rfl rfl rfl rfl (by omega) rfl ?_
      rw [bV_set]
      have e : (o.take at_ ++ b.take i ++ o.drop (at_ + i)).set (at_ + i) x = o.take at_ ++ b.take (i + 1) ++ o.drop (at_ + (i + 1)) := by
        have hl1 : (o.take at_ ++ b.take i).length = at_ + i := by simp; omega
        rw [List.set_append_right _ _ (by omega), hl1, Nat.sub_self, List.drop_eq_getElem_cons (by omega : at_ + i < o.length), List.set_cons_zero, List.take_add_one, hx]
        simp [Nat.add_assoc]
      rw [e]
      (refine go ?_)
      refine K_again ih (i + 1) rfl (by show i + 1 ≤ _; omega) (by show _ - (_ + 1) < _; omega) (by repeat (first | exact keep_nil | refine keep_cons rfl ?_)) (Ent.refl _)
    · intro hge2
      have hie : i = b.length := by omega
      subst hie
      rw [List.take_length, ← hw]
      have hlw : (wroteL old at_ b).length = o.length := by rw [hw]; simp; omega
      rw [← hlw]
      (refine go ?_)
      refine K_return hR Tryz.func31 rfl _ rfl rfl (Ent.fin [0, 1] 0 rfl rfl)
end Go.Proofs.YtpdmbmnhgcnelaaGreat

/- Engine, part K: rows of any cells that nobody writes any more. Nothing here names a program. -/
set_option linter.unusedVariables false
set_option linter.unusedSimpArgs false
namespace Go.SL
/-- The slice v holds the cells cs, n elements of s cells, in one of these rows. -/
def RIn (M : Arrs) (s : Nat) (v : Value) (n : Nat) (cs : List Value) : Prop :=
  cs.length = n * s ∧ ∃ a cap, v = .slice a n cap ∧ n ≤ cap ∧ (n = 0 ∨ ∃ b o row, a = Option.some ⟨b, o, none⟩ ∧ (b, row) ∈ M ∧ (row.drop o).take cs.length = cs)
theorem RIn.mono {M M' : Arrs} {s n : Nat} {v : Value} {cs : List Value} (h : RIn M s v n cs) (hs : ∀ x ∈ M, x ∈ M') : RIn M' s v n cs := by
  obtain ⟨hl, a, cap, hv, hc, h0 | ⟨b, o, row, ha, hm, ht⟩⟩ := h
  · exact ⟨hl, a, cap, hv, hc, .inl h0⟩
  · exact ⟨hl, a, cap, hv, hc, .inr ⟨b, o, row, ha, hs _ hm, ht⟩⟩
theorem RIn.nil (M : Arrs) (s : Nat) (a : Option Addr) (cap : Nat) : RIn M s (.slice a 0 cap) 0 [] := ⟨by simp, a, cap, rfl, Nat.zero_le _, .inl rfl⟩
theorem RIn.shape {M : Arrs} {s n : Nat} {v : Value} {cs : List Value} (h : RIn M s v n cs) : ∃ a cap, v = .slice a n cap ∧ n ≤ cap := by
  obtain ⟨_, a, cap, hv, hc, _⟩ := h; exact ⟨a, cap, hv, hc⟩
theorem RIn.view {M : Arrs} {s n : Nat} {v : Value} {cs : List Value} (h : RIn M s v n cs) (e : TypeId) : Vw (arrS e M) v n cs := by
  obtain ⟨hl, a, cap, rfl, hc, h0 | ⟨b, o, row, ha, hm, ht⟩⟩ := h
  · have : cs = [] := List.eq_nil_of_length_eq_zero (by rw [hl, h0, Nat.zero_mul])
    subst h0 this; exact ⟨a, cap, rfl, .inl rfl⟩
  · have h1 : Vw (pts b (cl row e)) (.slice a n cap) n cs := by rw [ha]; exact Vw.pts ht
    exact h1.mono fun h hs => Sep_mem (List.mem_map.2 ⟨(b, row), hm, rfl⟩) hs
/-- A slice of its own becomes one of these. -/
theorem row_slcO (e : TypeId) (s n : Nat) (v : Value) (cs : List Value) (M : Arrs) : ∀ h, star (slc e s v n cs) (arrS e M) h → ∃ M', (RIn M' s v n cs ∧ ∀ x ∈ M, x ∈ M') ∧ Sep [arrS e M'] h := by
  rintro h ⟨h1, h2, ⟨hl, ⟨a, rfl, hn, he⟩ | ⟨b, o, cap, pre, junk, rfl, hp, hn, hc, hpt⟩⟩, hM, hd, hj⟩
  · have : cs = [] := List.eq_nil_of_length_eq_zero (by rw [hl, hn, Nat.zero_mul])
    subst hn this
    exact ⟨M, ⟨RIn.nil M s a 0, fun _ h => h⟩, Sep_one' (emp_star ⟨h1, h2, he, hM, hd, hj⟩)⟩
  · refine ⟨(b, pre ++ cs ++ junk) :: M, ⟨⟨hl, _, cap, rfl, hn, .inr ⟨b, o, pre ++ cs ++ junk, rfl, by simp, ?_⟩⟩, fun x hx => by simp [hx]⟩, Sep_one' ⟨h1, h2, hpt, hM, hd, hj⟩⟩
    subst hp
    rw [List.append_assoc, List.drop_left, List.take_left]
/-- A contract over heaps that say the same. -/
theorem Ctr.conv {P : Program} {f : FuncId} {args : List Value} {Pre Pre' : List HP} {Post Post' : Value → List HP → Prop} (c : Ctr P f args Pre Post) (h : Ent Pre' Pre) (hp : ∀ v H, Post v H → ∃ H', Post' v H' ∧ Ent H H') : Ctr P f args Pre' Post' :=
  ⟨c.1, fun G w F hw => (c.2 G w F (hw.ent (Ent.append F h))).mono fun e w' h' => let ⟨v, H, he, hpo, hs⟩ := h'; let ⟨H', hq, hE⟩ := hp v H hpo; ⟨v, H', he, hq, hs.ent (Ent.append F hE)⟩⟩
theorem Ctr.frame {P : Program} {f : FuncId} {args : List Value} {Pre : List HP} {Post : Value → List HP → Prop} (X : List HP) (c : Ctr P f args Pre Post) : Ctr P f args (Pre ++ X) (fun v H => ∃ H', Post v H' ∧ H = H' ++ X) :=
  ⟨c.1, fun G w F hw => (c.2 G w (X ++ F) (by rw [List.append_assoc] at hw; exact hw)).mono fun e w' h' => let ⟨v, H, he, hpo, hs⟩ := h'; ⟨v, H ++ X, he, ⟨H, hpo, rfl⟩, by rw [List.append_assoc]; exact hs⟩⟩
theorem Ctr.frame1 {P : Program} {f : FuncId} {args : List Value} {v : Value} (X : HP) (c : Ctr P f args [] (fun r H => r = v ∧ H = [])) : Ctr P f args [X] (fun r H => r = v ∧ H = [X]) :=
  Ctr.post (Ctr.frame [X] c) (by rintro r H ⟨H', ⟨rfl, rfl⟩, rfl⟩; exact ⟨rfl, rfl⟩)
end Go.SL

