/- Texts of one claim, joined: Fg, Fj, Fp, Fq, Fs0, Fs, Fr, EngK, Dk0, Gg0, Bs, EngL. -/
import Derived.Test.YtpecmnaikjbanaaGreatDoorQBL3
import Derived.Test.YtpecmnaikjbanaaGreatDoorQBL4
import Derived.Test.YtpecmnaikjbanaaGreatDoorQBL5
/- files, part g: Write. -/
set_option linter.unusedVariables false
set_option linter.unusedSimpArgs false
namespace Go.Proofs.YtpecmnaikjbanaaGreatDoor
open Go Go.SL
attribute [local irreducible] J K Ctr Ends pts slc mapR mapI sbRow stock arrS
def mayW (name : ByteArray) (at_ : Int) (b : List UInt8) : Bool := isName name && decide (0 ≤ at_) && decide (at_ ≤ 1048576) && decide ((b.length : Int) ≤ 1048576 - at_)
theorem find_bad (A : Ab) (name : ByteArray) : A.find name false = (1, none, A) := by simp [Ab.find, Ab.meet]
theorem write_bad (A : Ab) (name : ByteArray) (at_ : Nat) (b : List UInt8) : A.write false name at_ b = (1, A) := by simp [Ab.write, find_bad]
theorem upd_set {fs : List (Nat × List UInt8 × List UInt8)} (hn : (fs.map (·.1)).Nodup) {i f : Nat} {x : List UInt8 × List UInt8} (hi : fs[i]? = some (f, x)) (n : List UInt8) : Ab.upd fs f n = fs.set i (f, n, x.2) := by
 induction fs generalizing i with
 | nil => simp at hi
 | cons y l ih =>
  simp only [List.map_cons, List.nodup_cons] at hn
  cases i with
  | zero =>
   simp at hi
   subst hi
   simp only [Ab.upd, List.map_cons, if_true, List.set_cons_zero, List.cons.injEq, true_and]
   rw [List.map_congr_left (g := id) (fun z hz => ?_), List.map_id]
   have : z.1 ≠ f := fun e => hn.1 (List.mem_map.2 ⟨z, hz, e⟩)
   simp [this]
  | succ i =>
   simp at hi
   have hne : y.1 ≠ f := fun e => hn.1 (List.mem_map.2 ⟨_, List.mem_of_getElem? hi, e.symm⟩)
   have := ih hn.2 hi
   simp only [Ab.upd] at this
   simp only [Ab.upd, List.map_cons, hne, if_false, List.set_cons_succ, this]
theorem upd_ids (fs : List (Nat × List UInt8 × List UInt8)) (f : Nat) (n : List UInt8) : (Ab.upd fs f n).map (·.1) = fs.map (·.1) := by
 simp only [Ab.upd, List.map_map]
 apply List.map_congr_left
 intro x _
 simp only [Function.comp]
 split <;> rfl
theorem Rel.wrote {D : Dk} {A : Ab} (h : Rel D A) {i f at_ : Nat} {v1 v2 v3 v4 : Value} {n b : List UInt8} {arrs' : Arrs} {w : Value} (hi : D.files[i]? = some (f, v1, v2)) (ha : A.fs[i]? = some (f, A.now f, A.sure f))
  (hsub : ∀ x ∈ D.arrs, x ∈ arrs') (hn : BIn arrs' v3 n) (hb : BIn arrs' v4 b) (hnl : n.length ≤ 1048576) (hbl : at_ + b.length ≤ 1048576) :
  Rel { D with files := D.files.set i (f, v3, v2), arrs := arrs', wrs := w, wl := D.wl ++ [(f, at_, v4)] } { A with fs := Ab.upd A.fs f n, writes := A.writes ++ [(f, at_, b)] } where
 room := h.room
 off := h.off
 names := h.names
 states := h.states
 fs := by
  rw [upd_set h.ids ha]
  have h2 := h.fs.2 i _ _ hi ha
  exact All2.set (h.fs.mono fun x y hxy => ⟨hxy.1, hxy.2.1.mono hsub, hxy.2.2.mono hsub⟩) i ⟨rfl, hn, h2.2.2.mono hsub⟩
 writes := All2.snoc (h.writes.mono fun x y hxy => ⟨hxy.1, hxy.2.1, hxy.2.2.mono hsub⟩) ⟨rfl, rfl, hb⟩
 plan := h.plan.mono hsub
 ids := by simp only [upd_ids]; exact h.ids
 known := by simp only [upd_ids]; exact h.known
 knownW := by
  simp only [upd_ids]
  intro x hx
  rcases List.mem_append.1 hx with hx | hx
  ·exact h.knownW x hx
  ·simp only [List.mem_singleton] at hx; subst hx; exact List.mem_map.2 ⟨_, List.mem_of_getElem? ha, rfl⟩
 nodup := h.nodup
 smallF := by
  intro x hx
  simp only [Ab.upd, List.mem_map] at hx
  obtain ⟨y, hy, rfl⟩ := hx
  have := h.smallF y hy
  split
  ·exact ⟨hnl, this.2⟩
  ·exact this
 smallW := by
  intro x hx
  rcases List.mem_append.1 hx with hx | hx
  ·exact h.smallW x hx
  ·simp only [List.mem_singleton] at hx; subst hx; exact hbl
 smallN := h.smallN
 smallR := h.smallR
 smallP := h.smallP
 full := h.full
theorem wroteL_len (old : List UInt8) (at_ : Nat) (b : List UInt8) : (wroteL old at_ b).length = max old.length (at_ + b.length) := by
 unfold wroteL; simp; omega
theorem find_same (A : Ab) (name : ByteArray) (ok : Bool) : (A.find name ok).2.2.fs = A.fs ∧ (A.find name ok).2.2.names = A.names ∧ (A.find name ok).2.2.states = A.states ∧ (A.find name ok).2.2.writes = A.writes ∧ (A.find name ok).2.2.room = A.room := by
 have := meet_fs A ok
 unfold Ab.find
 split
 ·cases (A.meet ok).2.look name <;> exact this
 ·exact this
theorem Rel.used_le {D : Dk} {A : Ab} (h : Rel D A) : A.used ≤ 209715200 := by
 rw [← sumOf_used (h.nodup _ (List.mem_cons_self ..))]
 have := sumOf_le (fun f => (h.small f).1) (A.names.map (·.1))
 have h2 := h.smallN _ (List.mem_cons_self ..)
 rw [List.length_map] at this
 omega
theorem arrS_slcO (e : TypeId) (v : Value) (bs : List UInt8) (M : Arrs) : ∀ h, star (slc e 1 v bs.length (bV bs)) (arrS e M) h → ∃ M', (BIn M' v bs ∧ ∀ x ∈ M, x ∈ M') ∧ Sep [arrS e M'] h := fun h hs => by
 obtain ⟨M', h1, h2, h3⟩ := arrS_slc e v bs M h hs
 exact ⟨M', ⟨h1, h2⟩, Sep_one' h3⟩
theorem find_parts {A : Ab} {name : ByteArray} {ok : Bool} (h : (A.find name ok).1 = 0) : ok = true ∧ ∃ fl, (A.find name ok).2.1 = some fl ∧ (name, fl) ∈ (A.find name ok).2.2.names := by
 unfold Ab.find at h ⊢
 split
 ·rename_i h0
  rw [if_pos h0] at h
  cases hl : (A.meet ok).2.look name with
  | none => rw [hl] at h; cases h
  | some f =>
   refine ⟨?_, f, rfl, lookIn_some hl⟩
   cases ok with
   | true => rfl
   | false => simp [Ab.meet] at h0
 ·rename_i h0
  rw [if_neg h0] at h
  exact absurd h h0
theorem Write_any (bd : Nat) (D : Dk) (A : Ab) (hR : Rel D A) (name : ByteArray) (at_ : Int) (X : HP) (bv : Value) (b : List UInt8) (hv : Vw X bv b.length (bV b)) (hwl : A.writes.length ≤ 1000000000) (hbl : b.length ≤ 1000000000) (hat : -9223372036854775808 ≤ at_ ∧ at_ ≤ 9223372036854775807) :
  Ctr Tryz.prog 62 [ptr bd, .string name, .int .i64 at_, bv] [disk bd D, X]
   (fun v H => ∃ D', Rel D' (A.write (mayW name at_ b) name at_.toNat b).2 ∧ H = [disk bd D', X] ∧ v = .int .i64 (A.write (mayW name at_ b) name at_.toNat b).1) := by
 obtain ⟨a0, c0, rfl⟩ := hv.shape
 refine Ctr.enter Tryz.func62 (by kernel_rfl) rfl Tryz.ntmps62 rfl rfl ?_
 intro G F R hE
 refine go ?_
 refine J_buildSlice1 (U := tab) rfl rfl rfl rfl rfl rfl rfl rfl rfl (fun _ _ _ => trivial) ?_
 intro b0
 refine go ?_
 refine J_call [0] rfl rfl rfl rfl (right_any _ _ [name] (Vw.pts rfl) (by simp)) rfl (fun _ _ _ _ _ => trivial) ?_
 rintro _ _ ⟨rfl, rfl⟩
 have e1 : [name].all isName = isName name := by simp
 rw [e1]
 cases hnm : isName name with
 | false =>
  have hm : mayW name at_ b = false := by simp [mayW, hnm]
  rw [hm, write_bad] at hE
  refine go ?_
  refine J_call [1] rfl rfl rfl rfl (find_any bd D A hR name false) rfl (fun _ _ _ _ _ => trivial) ?_
  rw [find_bad]
  rintro _ _ ⟨D', hR', rfl, rfl⟩
  refine go ?_
  refine K_return hE Tryz.func62 rfl _ rfl ⟨D', hR', rfl, rfl⟩ (Ent.fin [0, 2] 1 rfl rfl)
 | true =>
  repeat' (first | (with_reducible intro _hh) | refine go1 ?_ | refine J_fork ?_ ?_ | refine J_gsP rfl rfl rfl rfl ?_ ?_ | refine K_condP rfl rfl ?_ ?_)
  any_goals (
   have hm : mayW name at_ b = false := by simp [mayW, hnm, *]
   rw [hm, write_bad] at hE
   refine J_call [1] rfl rfl rfl rfl (find_any bd D A hR name false) rfl (fun _ _ _ _ _ => trivial) ?_
   rw [find_bad]
   rintro _ _ ⟨D', hR', rfl, rfl⟩
   refine go ?_
   refine K_return hE Tryz.func62 rfl _ rfl ⟨D', hR', rfl, rfl⟩ (Ent.fin [0, 2] 1 rfl rfl))
  rename_i h2
  obtain ⟨at_, rfl⟩ := Int.eq_ofNat_of_zero_le h2
  simp only [Int.toNat_natCast] at hE
  have hm : mayW name at_ b = decide ((b.length : Int) ≤ 1048576 - at_) := by simp [mayW, hnm, *]
  refine J_slot 31 (.bool (mayW name at_ b)) rfl (congrArg Value.bool hm.symm) ?_
  refine J_call [1] rfl rfl rfl rfl (find_any bd D A hR name (mayW name at_ b)) rfl (fun _ _ _ _ _ => trivial) ?_
  generalize hok : mayW name at_ b = ok at hE hm ⊢
  rintro _ _ ⟨D', hR', rfl, rfl⟩
  refine go ?_
  refine K_condA rfl rfl ?_ ?_
  ·intro h0
   have h0' : ¬ (A.find name ok).1 = 0 := by have := of_decide_eq_true h0; omega
   have hw : A.write ok name at_ b = ((A.find name ok).1, (A.find name ok).2.2) := by simp [Ab.write, h0']
   rw [hw] at hE
   refine go ?_
   refine K_return hE Tryz.func62 rfl _ rfl ⟨D', hR', rfl, rfl⟩ (Ent.fin [0, 2] 1 rfl rfl)
  ·intro h0
   have h0' : (A.find name ok).1 = 0 := by have := of_decide_eq_false h0; omega
   obtain ⟨hokt, fl, hfl, hmem⟩ := find_parts h0'
   rw [hokt] at hm
   have hlen := of_decide_eq_true hm.symm
   have hw : A.write ok name at_ b = if (A.find name ok).2.2.room < (A.find name ok).2.2.used + (at_ + b.length - ((A.find name ok).2.2.now fl).length) then (3, (A.find name ok).2.2)
    else (0, { (A.find name ok).2.2 with fs := Ab.upd (A.find name ok).2.2.fs fl (wroteL ((A.find name ok).2.2.now fl) at_ b), writes := (A.find name ok).2.2.writes ++ [(fl, at_, b)] }) := by simp [Ab.write, h0', hfl]
   rw [hfl]
   have hwl' : (A.find name ok).2.2.writes.length ≤ 1000000000 := by rw [(find_same A name ok).2.2.2.1]; exact hwl
   generalize (A.find name ok).2.2 = A1 at *
   obtain ⟨room, bm, sts, wrs, pln, off, maps, arrs, files, stb, wl⟩ := D'
   obtain ⟨i, v1, v2, hi, hfs, hv1, hv2⟩ := hR'.file (f := fl) (hR'.known _ (List.mem_cons_self ..) _ hmem)
   obtain ⟨a, cap, rfl, hcap⟩ := hv1.shape
   have hsm := (hR'.small fl).1
   have hroom := hR'.room
   have hrs := hR'.smallR
   simp only at hroom
   refine K_ent (disk_o _ _ _ _ _ _ _ _ _ _ _ _ _) ?_
   refine K_drawA (fun w => Sat G w ([pts bd (cl [.int .i64 room, .map (some bm), sts, wrs, pln, .bool off] 85), stock fileG files])) (.st 0 (.st 2 (.st 3 (.st 4 (.st 5 (.st 6 (.st 7 (.st 8 (.st 9 (.st 10 (.st 11 (.st 12 (.st 14 (.st 15 (.st 16 (.st 17 (.act 1 (.st 13 (.st 18 .nil))))))))))))))))))) rfl (by kernel_rfl) (by kernel_rfl) (by kernel_rfl) (fun w hw => hw.ent (Ent.pickOnly ([0, 3]) rfl)) ?_
   refine go ?_
   refine J_loadS (U := tab) rfl rfl (fun w hw => file_now (i := 1) hw rfl hi) rfl rfl ?_
   refine go ?_
   refine J_ent ((Ent.pick [0, 1, 2, 3, 4, 5] rfl).trans (disk_c _ _ _ _ _ _ _ _ _ _ _ _ _)) ?_
   have hul := hR'.used_le
   refine J_call [0] rfl rfl rfl rfl (Used_any bd _ A1 hR') rfl (fun _ _ w hp hw => by obtain ⟨rfl, _⟩ := hp; exact hw.ent ((disk_o _ _ _ _ _ _ _ _ _ _ _ _ _).trans (Ent.pickOnly [0, 3] rfl))) ?_
   rintro _ _ ⟨rfl, rfl⟩
   refine go ?_
   refine K_condP rfl rfl ?_ ?_
   ·intro hfull
    rw [if_pos (by omega)] at hw
    rw [hw] at hE
    refine go ?_
    refine K_return hE Tryz.func62 rfl _ rfl ⟨_, hR', rfl, rfl⟩ (Ent.fin [0, 2] 1 rfl rfl)
   ·intro hfull
    rw [if_neg (by omega)] at hw
    rw [hw] at hE
    refine go ?_
    refine J_ent (disk_o _ _ _ _ _ _ _ _ _ _ _ _ _) ?_
    refine go ?_
    refine J_ent (Ent.pick [3] rfl) ?_
    refine J_ent (stock_out fileG hi _) ?_
    refine go ?_
    refine J_ent (Ent.pick [4, 8] rfl) ?_
    refine J_ent (Ent.join _ _ _) ?_
    refine J_call [0] rfl rfl rfl rfl (wrote_any (star (arrS 5 arrs) X) _ _ (A1.now fl) b at_ (hv1.view _).left hv.right (by omega)) rfl (fun _ _ _ _ _ => trivial) ?_
    rintro _ _ ⟨bl, cap2, rfl, hcap2, rfl⟩
    refine J_ent (Ent.pick [1] rfl) ?_
    refine J_ent (Ent.part _ _ _) ?_
    refine J_ent (Ent.pick [2, 0] rfl) ?_
    refine J_ent (arrS_add 5 bl _ arrs _) ?_
    refine go ?_
    refine K_ent (Ent.pick [2, 3] rfl) ?_
    refine K_ent (stock_set fileG (y := (fl, .slice (some ⟨bl, 0, none⟩) (wroteL (A1.now fl) at_ b).length cap2, v2)) hi _) ?_
    refine K_drawA (fun w => Sat G w ([pts bd (cl [.int .i64 room, .map (some bm), sts, wrs, pln, .bool off] 85)])) (.st 0 (.st 1 (.st 2 (.st 3 (.st 4 (.st 5 (.st 6 (.st 7 (.act 8 (.st 9 (.act 10 (.act 11 (.st 12 (.st 13 (.act 14 .nil))))))))))))))) rfl (by kernel_rfl) (by kernel_rfl) (by kernel_rfl) (fun w hw => hw.ent (Ent.pickOnly ([3]) rfl)) ?_
    refine go ?_
    refine J_call [2] rfl rfl rfl rfl (Clone_bytes X _ b hv hbl) rfl (fun _ _ w hp hw => by subst hp; exact hw.ent (Ent.pickOnly [4] rfl)) ?_
    rintro r _ rfl
    refine J_shape 0 rfl ?_
    rintro ar cr rfl
    refine go ?_
    refine J_buildSlice1 (U := tab) rfl rfl rfl rfl rfl rfl rfl rfl rfl (fun _ w hw => hw.ent (Ent.pickOnly ([5]) rfl)) ?_
    intro b1
    refine J_append (U := tab) (mm := 1) (news := [ptr fl, .int .i64 at_, .slice ar b.length cr]) 8 0 rfl rfl rfl rfl rfl rfl rfl rfl rfl rfl rfl rfl (Vw.pts rfl) rfl (by simp [Value.oneCell', ptr]) (by have := hR'.writes.1; simp only at this; omega) (by have := hR'.writes.1; simp only at this; show _ * 40 ≤ _; omega) (fun _ => rfl) (fun _ w hw => hw.ent (Ent.pickOnly ([5]) rfl)) ?_
    intro v'
    have e2 : wcells wl ++ [ptr fl, .int .i64 at_, .slice ar b.length cr] = wcells (wl ++ [(fl, at_, .slice ar b.length cr)]) := by simp [wcells]
    have e3 : wl.length + 1 = (wl ++ [(fl, at_, Value.slice ar b.length cr)]).length := by simp
    rw [e2, e3]
    refine J_shape 8 rfl ?_
    rintro av cv rfl
    refine go ?_
    refine J_isStore ?_; refine J_store (U := tab) 5 (fun _ _ => trivial) rfl rfl rfl rfl rfl rfl rfl rfl rfl ?_
    refine go ?_
    refine K_ent (Ent.pick [1, 4] rfl) ?_
    refine K_ent (Ent.join _ _ _) ?_
    refine K_open (arrS_slcO 5 _ b _) ?_
    rintro arrs' ⟨hb', hsub⟩
    have hR2 := hR'.wrote (w := .slice av (wl ++ [(fl, at_, Value.slice ar b.length cr)]).length cv) hi hfs (fun x hx => hsub x (List.mem_cons_of_mem _ hx)) ((BIn.row (cap := cap2) hcap2).mono hsub) hb' (by rw [wroteL_len]; omega) (by omega : at_ + b.length ≤ 1048576)
    refine K_ent (Ent.pick [4, 5, 0, 3, 6, 7] rfl) ?_
    refine K_ent (disk_c bd room bm sts _ pln off maps arrs' _ stb _ _) ?_
    refine K_return hE Tryz.func62 rfl _ rfl ⟨_, hR2, rfl, rfl⟩ (Ent.fin [0, 2] 2 rfl rfl)
end Go.Proofs.YtpecmnaikjbanaaGreatDoor
/- files, part j: Remove, Rename, SyncNames. -/
namespace Go.Proofs.YtpecmnaikjbanaaGreatDoor
open Go Go.SL
attribute [local irreducible] J K Ctr Ends pts slc mapR mapI sbRow stock arrS
theorem delN_sub {l : List (ByteArray × Nat)} {k : ByteArray} {x : ByteArray × Nat} (h : x ∈ Ab.delN l k) : x ∈ l ∧ x.1 ≠ k := by
 simpa [Ab.delN] using h
theorem delN_len (l : List (ByteArray × Nat)) (k : ByteArray) : (Ab.delN l k).length ≤ l.length := List.length_filter_le _ _
theorem delN_nodup {l : List (ByteArray × Nat)} (h : (l.map (·.1)).Nodup) (k : ByteArray) : ((Ab.delN l k).map (·.1)).Nodup := (List.filter_sublist.map _).nodup h
theorem delN_lt {l : List (ByteArray × Nat)} {k : ByteArray} {f : Nat} (h : (k, f) ∈ l) : (Ab.delN l k).length + 1 ≤ l.length := by
 have : (Ab.delN l k).length < l.length := by
  unfold Ab.delN
  rw [List.length_filter_lt_length_iff_exists]
  exact ⟨_, h, by simp⟩
 omega
theorem setN_len (l : List (ByteArray × Nat)) (k : ByteArray) (f : Nat) : (Ab.setN l k f).length ≤ l.length + 1 := by
 unfold Ab.setN
 split <;> simp
theorem setN_mem {l : List (ByteArray × Nat)} {k : ByteArray} {f : Nat} {x : ByteArray × Nat} (h : x ∈ Ab.setN l k f) : x = (k, f) ∨ x ∈ l := by
 unfold Ab.setN at h
 split at h
 ·obtain ⟨y, hy, rfl⟩ := List.mem_map.1 h
  split
  ·exact .inl rfl
  ·exact .inr hy
 ·rcases List.mem_append.1 h with h | h
  ·exact .inr h
  ·exact .inl (by simpa using h)
theorem setN_nodup {l : List (ByteArray × Nat)} (h : (l.map (·.1)).Nodup) (k : ByteArray) (f : Nat) : ((Ab.setN l k f).map (·.1)).Nodup := by
 unfold Ab.setN
 split
 ·have : (l.map fun x => if x.1 = k then (k, f) else x).map (·.1) = l.map (·.1) := by
   rw [List.map_map]
   apply List.map_congr_left
   intro x _
   simp only [Function.comp]
   split
   ·rename_i e; exact e.symm
   ·rfl
  rw [this]; exact h
 ·rename_i hk
  rw [List.map_append, List.nodup_append]
  exact ⟨h, by simp, fun a ha b hb => by simp at hb; subst hb; rintro rfl; exact hk (lookIn_key.2 ha)⟩
theorem Remove_any (bd : Nat) (D : Dk) (A : Ab) (hR : Rel D A) (name : ByteArray) (hst : A.states.length ≤ 1000000000) :
  Ctr Tryz.prog 69 [ptr bd, .string name] [disk bd D]
   (fun v H => ∃ D', Rel D' (A.remove (isName name) name).2 ∧ H = [disk bd D'] ∧ v = .int .i64 (A.remove (isName name) name).1) := by
 refine Ctr.enter Tryz.func69 (by kernel_rfl) rfl Tryz.ntmps69 rfl rfl ?_
 intro G F R hE
 refine go ?_
 refine J_box rfl rfl (fun _ _ _ => trivial) ?_
 intro box
 refine go ?_
 refine K_drawA (fun w => Sat G w ([pts box (cl [.string name] 9)])) (.st 0 (.st 1 (.st 2 (.act 3 (.act 4 (.act 5 (.st 6 (.st 7 (.st 8 (.st 9 (.st 10 .nil))))))))))) rfl (by kernel_rfl) (by kernel_rfl) (by kernel_rfl) (fun w hw => hw.ent (Ent.pickOnly ([0]) rfl)) ?_
 refine go ?_
 refine J_buildSlice1 (U := tab) rfl rfl rfl rfl rfl rfl rfl rfl rfl (fun _ w hw => hw.ent (Ent.pickOnly ([1]) rfl)) ?_
 intro b0
 refine J_call [0] rfl rfl rfl rfl (right_any _ _ [name] (Vw.pts rfl) (by simp)) rfl (fun _ _ w hp hw => by obtain ⟨_, rfl⟩ := hp; exact hw.ent (Ent.pickOnly [1] rfl)) ?_
 rintro _ _ ⟨rfl, rfl⟩
 have e1 : [name].all isName = isName name := by simp
 rw [e1]
 refine J_call [2] rfl rfl rfl rfl (find_any bd D A hR name (isName name)) rfl (fun _ _ w hp hw => by obtain ⟨_, _, rfl, _⟩ := hp; exact hw.ent (Ent.pickOnly [2] rfl)) ?_
 generalize hok : isName name = ok at hE ⊢
 rintro _ _ ⟨D', hR', rfl, rfl⟩
 refine go ?_
 refine K_condA rfl rfl ?_ ?_
 ·intro h0
  have h0' : ¬ (A.find name ok).1 = 0 := by have := of_decide_eq_true h0; omega
  have hw : A.remove ok name = ((A.find name ok).1, (A.find name ok).2.2) := by
   unfold Ab.remove
   generalize A.find name ok = z at h0' ⊢
   obtain ⟨e, fo, A1⟩ := z
   cases fo with
   | none => cases e <;> rfl
   | some fl => cases e with
    | zero => exact absurd rfl h0'
    | succ e => rfl
  rw [hw] at hE
  refine go ?_
  refine K_return hE Tryz.func69 rfl _ rfl ⟨D', hR', rfl, rfl⟩ (Ent.fin [0] 2 rfl rfl)
 ·intro h0
  have h0' : (A.find name ok).1 = 0 := by have := of_decide_eq_false h0; omega
  obtain ⟨hokt, fl, hfl, hmem⟩ := find_parts h0'
  have hw : A.remove ok name = (0, (A.find name ok).2.2.chg (Ab.delN (A.find name ok).2.2.names name)) := by
   unfold Ab.remove
   generalize A.find name ok = z at h0' hfl ⊢
   obtain ⟨e, fo, A1⟩ := z
   simp only at h0' hfl
   subst h0' hfl
   rfl
  have hst' : (A.find name ok).2.2.states.length ≤ 1000000000 := by rw [(find_same A name ok).2.2.1]; exact hst
  rw [hw] at hE
  generalize (A.find name ok).2.2 = A1 at *
  have hst2 : D'.stb.length ≤ 1000000000 := by rw [hR'.states.1]; exact hst'
  refine go ?_
  refine J_call [0, 2] rfl rfl rfl rfl (change_any (α := Unit) bd D' A1.names hR'.names 112 #[ptr box] (pts box (cl [.string name] 9)) (fun _ => Ab.delN A1.names name) (fun _ => pts box (cl [.string name] 9)) (fun _ => True) (fun b' => Ctr.post (Remove1_any b' box A1.names name) (fun v H h => ⟨(), trivial, h⟩)) hst2) rfl (fun _ _ _ _ _ => trivial) ?_
  rintro _ _ ⟨_, b', v, _, rfl⟩
  have hR2 := hR'.chg (b' := b') (v := v) (nm := Ab.delN A1.names name) (fun x hx => hR'.known _ (List.mem_cons_self ..) x (delN_sub hx).1) (delN_nodup (hR'.nodup _ (List.mem_cons_self ..)) name) (Nat.le_trans (delN_len _ _) (hR'.smallN _ (List.mem_cons_self ..)))
  refine go ?_
  refine K_return hE Tryz.func69 rfl _ rfl ⟨_, hR2, rfl, rfl⟩ (Ent.fin [0] 2 rfl rfl)
end Go.Proofs.YtpecmnaikjbanaaGreatDoor
/- files, part p: SyncNames, the closures and slices' functions of Sync. -/
namespace Go.Proofs.YtpecmnaikjbanaaGreatDoor
open Go Go.SL
attribute [local irreducible] J K Ctr Ends pts slc mapR mapI sbRow stock arrS
abbrev Late := Nat × Nat × Value
def lateC (x : Late) : List Value := [ptr x.1, .int .i64 x.2.1, x.2.2]
theorem wcells_eq (l : List Late) : wcells l = l.flatMap lateC := rfl
theorem lateC_len (x : Late) : (lateC x).length = 3 := rfl
theorem IndexFunc_late (A X : HP) (v : Value) (l : List Late) (hv : Vw A v l.length (wcells l)) (hlen : l.length ≤ 1000000000) (g : FuncId) (cap : List Value) (p : Late → Bool)
  (hf : ∀ x ∈ l, Ctr Tryz.prog g (.agg #[ptr x.1, .int .i64 x.2.1, x.2.2] :: cap) [X] (fun v H => v = .bool (p x) ∧ H = [X])) :
  Ctr Tryz.prog 164 [v, .func (.func g) #[] cap.toArray] [A, X] (fun r H => r = .int .i64 (idxI p l) ∧ H = [A, X]) := by
 obtain ⟨a, c0, rfl⟩ := hv.shape
 refine Ctr.enter Tryz.func164 (by kernel_rfl) rfl Tryz.ntmps164 rfl rfl ?_
 intro G F R hR
 refine go ?_
 refine K_loop (fun i : Nat => i ≤ l.length ∧ ∀ y ∈ l.take i, p y = false) (fun i => l.length - i) (fun i => [(0, .slice a l.length c0), (1, .func (.func g) #[] cap.toArray), (7, .int .i64 l.length), (8, .int .i64 i)]) (fun _ => [A, X] ++ F) 0 ⟨by simp, by simp⟩ rfl (by repeat (first | exact keep_nil | refine keep_cons rfl ?_)) (Ent.refl _) ?_
 rintro i ⟨hi, hb⟩ ih
 refine go ?_
 refine K_condP rfl rfl ?_ ?_
 ·intro hlt
  refine go ?_
  have hi' : i < l.length := by omega
  have hx : l[i]? = some l[i] := by simp [hi']
  generalize hxx : l[i] = x at hx
  obtain ⟨b, o, cap', hsl⟩ := hv.some (by rw [← List.length_pos_iff, wcells_eq, chunk_len lateC_len]; omega)
  simp only [Value.slice.injEq] at hsl
  obtain ⟨rfl, _, rfl⟩ := hsl
  refine J_at (U := tab) i 3 rfl rfl rfl rfl rfl rfl rfl rfl hi' ?_
  refine J_loadElem (U := tab) (es := lateC x) 0 (i * 3) rfl rfl rfl hv rfl (fun j v hj => ?_) rfl rfl rfl ?_
  ·have hj3 : j < 3 := by
    rcases Nat.lt_or_ge j 3 with h | h
    ·exact h
    ·rw [List.getElem?_eq_none (by rw [lateC_len]; exact h)] at hj; cases hj
   rw [wcells_eq, chunk_get lateC_len hx j hj3]; exact hj
  refine J_call [1] rfl rfl rfl rfl (hf x (List.mem_of_getElem? hx)) rfl (fun _ _ _ _ _ => trivial) ?_
  rintro _ _ ⟨rfl, rfl⟩
  refine go ?_
  refine K_condA rfl rfl ?_ ?_
  ·intro hp
   refine go ?_
   refine K_return hR Tryz.func164 rfl _ rfl ⟨by rw [idxI_some hx hp hb]; rfl, rfl⟩ (Ent.fin [1, 0] 0 rfl rfl)
  ·intro hp
   refine go ?_
   refine K_again ih (i + 1) rfl ⟨by omega, allTake hb hx hp⟩ (by omega) (by repeat (first | exact keep_nil | refine keep_cons rfl ?_)) (Ent.pick [1, 0] rfl)
 ·intro hge
  refine go ?_
  have : i = l.length := by omega
  subst this
  refine K_return hR Tryz.func164 rfl _ rfl ⟨by rw [idxI_none (fun x hx => hb x (by simpa using hx))]; rfl, rfl⟩ (Ent.fin [0, 1] 0 rfl rfl)
theorem Sync1_any (c5 f g at_ : Nat) (bv : Value) (files : List (Nat × Value × Value)) (hf : f ∈ files.map (·.1)) (hg : g ∈ files.map (·.1)) (hone : bv.oneCell' = true) :
  Ctr Tryz.prog 146 [.agg #[ptr g, .int .i64 at_, bv], ptr c5] [star (pts c5 (cl [ptr f] 117)) (stock fileG files)] (fun v H => v = .bool (decide (g = f)) ∧ H = [star (pts c5 (cl [ptr f] 117)) (stock fileG files)]) := by
 have row : ∀ {G : Glob} {w : World} {H : List HP} {i y : Nat}, Sat G w H → getL H i = some (stock fileG files) → y ∈ files.map (·.1) → Row w y := by
  intro G w H i y hs hi hy
  obtain ⟨⟨y', v1, v2⟩, hm, rfl⟩ := List.mem_map.1 hy
  obtain ⟨j, hj⟩ := List.getElem?_of_mem hm
  exact ⟨_, _, file_cells hs hi hj⟩
 refine Ctr.enter Tryz.func146 (by kernel_rfl) rfl Tryz.ntmps146 rfl rfl ?_
 intro G F R hE
 refine K_ent (Ent.part _ _ _) ?_
 refine go ?_
 refine J_box rfl rfl (fun _ _ _ => trivial) ?_
 intro bx
 refine go ?_
 refine J_eqPtr (U := tab) rfl rfl rfl rfl rfl rfl rfl (fun w hw => row (i := 2) hw rfl hg) (fun w hw => row (i := 2) hw rfl hf) ?_
 refine go ?_
 refine K_ent (Ent.pick [1, 2] rfl) ?_
 refine K_ent (Ent.join _ _ _) ?_
 refine K_return hE Tryz.func146 rfl _ rfl ⟨congrArg Value.bool (by simp), rfl⟩ (Ent.fin [0] 1 rfl rfl)
theorem DeleteFunc_late (v : Value) (l : List Late) (X : HP) (g : FuncId) (cap : List Value) (p : Late → Bool) (hlen : l.length ≤ 1000000000) (hsl : ∀ x ∈ l, ∃ a n c, x.2.2 = .slice a n c)
  (hf : ∀ x ∈ l, Ctr Tryz.prog g (.agg #[ptr x.1, .int .i64 x.2.1, x.2.2] :: cap) [X] (fun v H => v = .bool (p x) ∧ H = [X])) :
  Ctr Tryz.prog 145 [v, .func (.func g) #[] cap.toArray] [slc 119 3 v l.length (wcells l), X]
   (fun r H => H = [slc 119 3 r (l.filter fun x => !p x).length (wcells (l.filter fun x => !p x)), X]) := by
 refine Ctr.enter Tryz.func145 (by kernel_rfl) rfl Tryz.ntmps145 rfl rfl ?_
 intro G F R hE
 refine K_shape 0 rfl ?_
 rintro a0 c rfl
 refine go ?_
 refine J_slcVw 0 rfl ?_
 intro hv
 refine J_call [0, 1] rfl rfl rfl rfl (IndexFunc_late _ X _ l hv hlen g cap p hf) rfl (fun _ _ _ _ _ => trivial) ?_
 rintro _ _ ⟨rfl, rfl⟩
 refine go ?_
 refine K_condP rfl rfl ?_ ?_
 ·intro h0
  have hany : l.any p = false := idxI_neg.1 (by omega)
  have hfl : (l.filter fun x => !p x) = l := List.filter_eq_self.2 fun x hx => by
   have := List.any_eq_false.1 hany x hx
   simpa using this
  rw [hfl] at hE
  refine go ?_
  refine K_return hE Tryz.func145 rfl _ rfl rfl (Ent.fin [0, 1] 0 rfl rfl)
 ·intro h0
  obtain ⟨i0, x0, hi0, hx0, hp0, hb0⟩ := idxI_first h0
  have hi0l : i0 < l.length := by
   rcases Nat.lt_or_ge i0 l.length with h | h
   ·exact h
   ·rw [List.getElem?_eq_none h] at hx0; cases hx0
  rw [hi0]
  refine go ?_
  refine K_slcCases (fun a hv0 hn _ => by omega) ?_
  rintro b o c' pre junk hvv hpre hnc hcap hcl
  simp only [Value.slice.injEq, true_and] at hvv
  obtain ⟨rfl, rfl⟩ := hvv
  have h1 : l.take (i0 + 1) = l.take i0 ++ [x0] := by rw [List.take_add_one, hx0]; rfl
  have hft : (l.take i0).filter (fun x => !p x) = l.take i0 := List.filter_eq_self.2 fun x hx => by simp [hb0 x hx]
  refine K_loop (fun s : Nat × Nat × List Late => s.1 < s.2.1 ∧ s.2.1 ≤ l.length ∧ s.2.2.length = l.length ∧ s.2.2.take s.1 = (l.take s.2.1).filter (fun x => !p x) ∧ s.2.2.drop s.2.1 = l.drop s.2.1) (fun s => l.length - s.2.1)
   (fun s => [(0, .slice (some ⟨b, o, none⟩) l.length c), (1, .func (.func g) #[] cap.toArray), (5, .int .i64 s.1), (6, .int .i64 s.2.1)])
   (fun s => pts b (cl (pre ++ wcells s.2.2 ++ junk) 119) :: X :: F) (i0, i0 + 1, l) ⟨by simp, by simp only; omega, rfl, by simp only [h1, List.filter_append, hft]; simp [hp0], rfl⟩ rfl (by repeat (first | exact keep_nil | refine keep_cons rfl ?_)) (Ent.refl _) ?_
  rintro ⟨i, j, E⟩ ⟨hij, hjl, hEl, hEt, hEd⟩ ih
  simp only at hij hjl hEl hEt hEd
  have hwl : (wcells E).length = l.length * 3 := by rw [wcells_eq, chunk_len lateC_len, hEl]
  have hvE : Vw (pts b (cl (pre ++ wcells E ++ junk) 119)) (.slice (some ⟨b, o, none⟩) l.length c) l.length (wcells E) := Vw.pts (by rw [List.append_assoc, ← hpre, List.drop_left, List.take_left])
  refine go ?_
  refine K_condP rfl rfl ?_ ?_
  ·intro hlt
   simp only at hlt
   have hj' : j < l.length := by omega
   obtain ⟨⟨fx, ax, bx⟩, hx⟩ : ∃ x, l[j]? = some x := ⟨l[j], by simp [hj']⟩
   have hEx : E[j]? = some (fx, ax, bx) := by
    have := congrArg (·[0]?) hEd
    simp only [List.getElem?_drop, Nat.add_zero] at this
    rw [this]; exact hx
   have hmem := List.mem_of_getElem? hx
   obtain ⟨ab, nb, cb, hbx⟩ := hsl _ hmem
   simp only at hbx
   subst hbx
   have hfx := hf _ hmem
   refine go ?_
   refine J_at (U := tab) j 3 rfl rfl rfl rfl rfl rfl rfl rfl hj' ?_
   refine J_loadElem (U := tab) (es := lateC (fx, ax, .slice ab nb cb)) 0 (j * 3) rfl rfl rfl hvE rfl (fun q v hq => ?_) rfl rfl rfl ?_
   ·have hj3 : q < 3 := by
     rcases Nat.lt_or_ge q 3 with h | h
     ·exact h
     ·rw [List.getElem?_eq_none (by rw [lateC_len]; exact h)] at hq; cases hq
    rw [wcells_eq, chunk_get lateC_len hEx q hj3]; exact hq
   refine J_alloc (U := tab) rfl rfl rfl (fun _ _ _ => trivial) ?_
   intro bv
   refine go ?_
   refine J_loadAgg (U := tab) 0 rfl rfl rfl rfl rfl rfl ?_
   refine J_call [2] rfl rfl rfl rfl (hfx) rfl (fun _ _ _ _ _ => trivial) ?_
   rintro _ _ ⟨rfl, rfl⟩
   refine go ?_
   refine K_condA rfl rfl ?_ ?_
   ·intro hp
    have hp' : p (fx, ax, .slice ab nb cb) = false := by simpa using hp
    refine go ?_
    refine J_loadAgg (U := tab) 1 rfl rfl rfl rfl rfl rfl ?_
    refine go ?_
    refine J_at (U := tab) i 3 rfl rfl rfl rfl rfl rfl rfl rfl (by omega) ?_
    refine J_storeRow (U := tab) (l' := pre ++ wcells (E.set i (fx, ax, .slice ab nb cb)) ++ junk) 2 (fun _ _ => trivial) rfl rfl rfl rfl rfl rfl rfl ?_ ?_ rfl ?_
    ·show o + i * 3 + 3 ≤ _
     rw [List.length_append, List.length_append, hwl]; omega
    ·show _ = List.take (o + i * 3) (pre ++ wcells E ++ junk) ++ lateC (fx, ax, .slice ab nb cb) ++ List.drop (o + i * 3 + (lateC (fx, ax, .slice ab nb cb)).length) (pre ++ wcells E ++ junk)
     rw [← hpre, splice_mid _ _ _ _ _ (by rw [lateC_len, hwl]; omega), wcells_eq, chunk_set lateC_len (by omega)]
     rfl
    refine go ?_
    refine K_again ih (i + 1, j + 1, E.set i (fx, ax, .slice ab nb cb)) rfl ⟨by simp only; omega, by simp only; omega, by simp only [List.length_set]; exact hEl, ?_, ?_⟩ (by simp only; omega) (by repeat (first | exact keep_nil | refine keep_cons rfl ?_)) (Ent.to [2, 0] 1 rfl rfl rfl)
    ·simp only
     rw [List.take_add_one, List.take_set_of_le (Nat.le_refl i), hEt, List.take_add_one (l := l), hx, List.getElem?_set_self (by omega)]
     simp [List.filter_append, hp']
    ·simp only
     rw [List.drop_set_of_lt (by omega), ← List.drop_drop, hEd, List.drop_drop]
   ·intro hp
    have hp' : p (fx, ax, .slice ab nb cb) = true := by simpa using hp
    refine go ?_
    refine K_again ih (i, j + 1, E) rfl ⟨by simp only; omega, by simp only; omega, hEl, by simp only; rw [hEt, List.take_add_one, hx]; simp [List.filter_append, hp'], by simp only; rw [← List.drop_drop, hEd, List.drop_drop]⟩ (by simp only; omega) (by repeat (first | exact keep_nil | refine keep_cons rfl ?_)) (Ent.to [2, 0] 1 rfl rfl rfl)
  ·intro hge
   refine go ?_
   simp only at hge
   have hjn : j = l.length := by omega
   subst hjn
   rw [List.take_length] at hEt
   have hlen2 : (l.filter fun x => !p x).length = i := by rw [← hEt, List.length_take]; omega
   refine J_slice (U := tab) rfl rfl rfl rfl rfl rfl rfl (by omega) (by omega) (.inl rfl) ?_
   intro o1 ho1 ho2
   simp only [Int.toNat_natCast] at ho1 ho2
   have ho1' : i ≠ c → o1 = o + i * 3 := ho1
   have hL : (pre ++ wcells E ++ junk).length = o + l.length * 3 + junk.length := by rw [List.length_append, List.length_append, hwl, hpre]
   obtain ⟨junk', hjunk, hjl'⟩ : ∃ junk', (pre ++ wcells E ++ junk).take o1 ++ (List.replicate (((l.length : Int).toNat - (i : Int).toNat)) [Value.pointer none, .int .i64 0, .slice none 0 0]).flatten ++ (pre ++ wcells E ++ junk).drop (o1 + ((l.length : Int).toNat - (i : Int).toNat) * 3) = pre ++ wcells (E.take i) ++ junk' ∧ c * 3 ≤ i * 3 + junk'.length := by
    have hic : i ≠ c := by omega
    rw [ho1' hic, ← hpre, List.append_assoc pre, List.take_length_add_append, List.take_append_of_le_length (by rw [hwl]; omega), wcells_eq, wcells_eq, chunk_take lateC_len E i (by omega)]
    refine ⟨_, by rw [List.append_assoc], ?_⟩
    rw [List.length_append, List.length_drop, flat_replicate]
    simp only [List.length_append, List.length_cons, List.length_nil, chunk_len lateC_len, hEl, Int.toNat_natCast]
    have := hcl
    omega
   refine J_clear (U := tab) (l' := pre ++ wcells (E.take i) ++ junk') 0 (fun _ _ => trivial) rfl rfl rfl rfl rfl rfl rfl rfl ?_ ?_ rfl ?_
   ·have hic : i ≠ c := by omega
    show o1 + ((l.length : Int).toNat - (i : Int).toNat) * 3 ≤ _
    rw [ho1' hic, hL]; omega
   ·rw [← hjunk]; rfl
   refine go ?_
   refine J_slice (U := tab) rfl rfl rfl rfl rfl rfl rfl (by omega) (by omega) (.inr (by omega)) ?_
   intro o2 ho3 ho4
   have ho2' : o2 = o := by
    by_cases hc0 : (0 : Int).toNat = c
    ·exact ho4 hc0
    ·have := ho3 hc0; rw [this]; simp
   subst ho2'
   refine go ?_
   refine K_ent (slc_closeN (sz := 3) (nn := i) (c := c) hpre (by omega) (by rw [wcells_eq, chunk_len lateC_len, List.length_take]; omega) (by rw [wcells_eq, chunk_len lateC_len, List.length_take]; omega) _) ?_
   rw [← hEt, hEt, hlen2, ← hEt] at hE
   refine K_return hE Tryz.func145 rfl _ rfl rfl (Ent.fin [0, 1] 0 rfl rfl)
end Go.Proofs.YtpecmnaikjbanaaGreatDoor
/- files, part q: SyncNames, Sync. -/
namespace Go.Proofs.YtpecmnaikjbanaaGreatDoor
open Go Go.SL
attribute [local irreducible] J K Ctr Ends pts slc mapR mapI sbRow stock arrS
theorem SyncNames_any (bd : Nat) (D : Dk) (A : Ab) (hR : Rel D A) :
    Ctr Tryz.prog 51 [ptr bd] [disk bd D] (fun v H => ∃ D', Rel D' A.syncNames.2 ∧ H = [disk bd D'] ∧ v = .int .i64 A.syncNames.1) := by
  refine Ctr.enter Tryz.func51 (by kernel_rfl) rfl Tryz.ntmps51 rfl rfl ?_
  intro G F R hE
  refine go ?_
  refine J_call [0] rfl rfl rfl rfl (meet_any bd D A hR true) rfl (fun _ _ _ _ _ => trivial) ?_
  rintro _ _ ⟨D', hR', rfl, rfl⟩
  refine go ?_
  refine K_condA rfl rfl ?_ ?_
  · intro h0
    have h0' : ¬ (A.meet true).1 = 0 := by have := of_decide_eq_true h0; omega
    have hf : A.syncNames = ((A.meet true).1, (A.meet true).2) := by simp [Ab.syncNames, h0']
    rw [hf] at hE
    refine go ?_
    refine K_return hE Tryz.func51 rfl _ rfl ⟨D', hR', rfl, rfl⟩ (Ent.fin [0] 0 rfl rfl)
  · intro h0
    have h0' : (A.meet true).1 = 0 := by have := of_decide_eq_false h0; omega
    have hf : A.syncNames = (0, { (A.meet true).2 with states := [(A.meet true).2.names] }) := by simp [Ab.syncNames, h0']
    rw [hf] at hE
    obtain ⟨room, bm, sts, wrs, pln, off, maps, arrs, files, stb, wl⟩ := D'
    refine K_ent (disk_o _ _ _ _ _ _ _ _ _ _ _ _ _) ?_
    refine go ?_
    refine J_buildSlice1 (U := tab) rfl rfl rfl rfl rfl rfl rfl rfl rfl (fun _ _ _ => trivial) ?_
    intro b0
    refine go ?_
    refine K_ent (slc_row 81 1 b0 1 1 [.map (some bm)] [] _ rfl (Nat.le_refl _) (by simp)) ?_
    refine K_ent (Ent.pick [1, 2, 3, 4, 0, 6] rfl) ?_
    refine K_ent (disk_c bd room bm _ wrs pln off maps arrs files [bm] wl _) ?_
    have hR2 : Rel ⟨room, bm, .slice (some ⟨b0, 0, none⟩) 1 1, wrs, pln, off, maps, arrs, files, [bm], wl⟩ { (A.meet true).2 with states := [(A.meet true).2.names] } :=
      { room := hR'.room, off := hR'.off, names := hR'.names, states := All2.one hR'.names, fs := hR'.fs, writes := hR'.writes, plan := hR'.plan, ids := hR'.ids
        known := fun st hst => hR'.known st (by simp only [List.mem_cons, List.not_mem_nil, or_false] at hst; rcases hst with rfl | rfl <;> exact List.mem_cons_self ..)
        knownW := hR'.knownW
        nodup := fun st hst => hR'.nodup st (by simp only [List.mem_cons, List.not_mem_nil, or_false] at hst; rcases hst with rfl | rfl <;> exact List.mem_cons_self ..)
        smallF := hR'.smallF, smallW := hR'.smallW
        smallN := fun st hst => hR'.smallN st (by simp only [List.mem_cons, List.not_mem_nil, or_false] at hst; rcases hst with rfl | rfl <;> exact List.mem_cons_self ..)
        smallR := hR'.smallR, smallP := hR'.smallP, full := by simp }
    refine K_return hE Tryz.func51 rfl _ rfl ⟨_, hR2, rfl, rfl⟩ (Ent.fin [0] 1 rfl rfl)
theorem All2.filter {α β : Type} {q : α → β → Prop} {l : List α} {r : List β} (h : All2 q l r) {p1 : α → Bool} {p2 : β → Bool} (hp : ∀ x y, q x y → p1 x = p2 y) : All2 q (l.filter p1) (r.filter p2) := by
 induction l generalizing r with
 | nil =>
  have : r = [] := List.eq_nil_of_length_eq_zero h.1.symm
  subst this; exact All2.nil
 | cons x l ih =>
  cases r with
  | nil => exact absurd h.1 (by simp)
  | cons y r =>
   have h0 := h.2 0 x y rfl rfl
   have ht : All2 q l r := ⟨by have := h.1; simpa using this, fun i a b ha hb => h.2 (i + 1) a b (by simpa using ha) (by simpa using hb)⟩
   rw [List.filter_cons, List.filter_cons, hp x y h0]
   split
   ·exact (ih ht).cons h0
   ·exact ih ht
theorem updS_set {fs : List (Nat × List UInt8 × List UInt8)} (hn : (fs.map (·.1)).Nodup) {i f : Nat} {x : List UInt8 × List UInt8} (hi : fs[i]? = some (f, x)) : Ab.updS fs f = fs.set i (f, x.1, x.1) := by
 induction fs generalizing i with
 | nil => simp at hi
 | cons y l ih =>
  simp only [List.map_cons, List.nodup_cons] at hn
  cases i with
  | zero =>
   simp at hi
   subst hi
   simp only [Ab.updS, List.map_cons, if_true, List.set_cons_zero, List.cons.injEq, true_and]
   rw [List.map_congr_left (g := id) (fun z hz => ?_), List.map_id]
   have : z.1 ≠ f := fun e => hn.1 (List.mem_map.2 ⟨z, hz, e⟩)
   simp [this]
  | succ i =>
   simp at hi
   have hne : y.1 ≠ f := fun e => hn.1 (List.mem_map.2 ⟨_, List.mem_of_getElem? hi, e.symm⟩)
   have := ih hn.2 hi
   simp only [Ab.updS] at this
   simp only [Ab.updS, List.map_cons, hne, if_false, List.set_cons_succ, this]
theorem updS_ids (fs : List (Nat × List UInt8 × List UInt8)) (f : Nat) : (Ab.updS fs f).map (·.1) = fs.map (·.1) := by
 simp only [Ab.updS, List.map_map]
 apply List.map_congr_left
 intro x _
 simp only [Function.comp]
 split <;> rfl
theorem Rel.synced {D : Dk} {A : Ab} (h : Rel D A) {i f : Nat} {v1 v2 w : Value} (hi : D.files[i]? = some (f, v1, v2)) (ha : A.fs[i]? = some (f, A.now f, A.sure f)) :
  Rel { D with files := D.files.set i (f, v1, v1), wrs := w, wl := D.wl.filter fun x => !decide (x.1 = f) } { A with fs := Ab.updS A.fs f, writes := A.writes.filter fun x => !decide (x.1 = f) } where
 room := h.room
 off := h.off
 names := h.names
 states := h.states
 fs := by
  rw [updS_set h.ids ha]
  have h2 := h.fs.2 i _ _ hi ha
  exact All2.set h.fs i ⟨rfl, h2.2.1, h2.2.1⟩
 writes := All2.filter h.writes (fun x y hxy => by rw [hxy.1])
 plan := h.plan
 ids := by simp only [updS_ids]; exact h.ids
 known := by simp only [updS_ids]; exact h.known
 knownW := by
  simp only [updS_ids]
  exact fun x hx => h.knownW x (List.mem_filter.1 hx).1
 nodup := h.nodup
 smallF := by
  intro x hx
  simp only [Ab.updS, List.mem_map] at hx
  obtain ⟨y, hy, rfl⟩ := hx
  have := h.smallF y hy
  split
  ·exact ⟨this.1, this.1⟩
  ·exact this
 smallW := fun x hx => h.smallW x (List.mem_filter.1 hx).1
 smallN := h.smallN
 smallR := h.smallR
 smallP := h.smallP
 full := h.full
theorem Sync_any (bd : Nat) (D : Dk) (A : Ab) (hR : Rel D A) (name : ByteArray) (hwl : A.writes.length ≤ 1000000000) :
  Ctr Tryz.prog 108 [ptr bd, .string name] [disk bd D]
   (fun v H => ∃ D', Rel D' (A.sync (isName name) name).2 ∧ H = [disk bd D'] ∧ v = .int .i64 (A.sync (isName name) name).1) := by
 refine Ctr.enter Tryz.func108 (by kernel_rfl) rfl Tryz.ntmps108 rfl rfl ?_
 intro G F R hE
 refine go ?_
 refine J_buildSlice1 (U := tab) rfl rfl rfl rfl rfl rfl rfl rfl rfl (fun _ _ _ => trivial) ?_
 intro b0
 refine go ?_
 refine J_call [0] rfl rfl rfl rfl (right_any _ _ [name] (Vw.pts rfl) (by simp)) rfl (fun _ _ _ _ _ => trivial) ?_
 rintro _ _ ⟨rfl, rfl⟩
 have e1 : [name].all isName = isName name := by simp
 rw [e1]
 refine go ?_
 refine J_call [1] rfl rfl rfl rfl (find_any bd D A hR name (isName name)) rfl (fun _ _ _ _ _ => trivial) ?_
 generalize hok : isName name = ok at hE ⊢
 rintro _ _ ⟨D', hR', rfl, rfl⟩
 by_cases h0' : (A.find name ok).1 = 0
 ·obtain ⟨hokt, fl, hfl, hmem⟩ := find_parts h0'
  have hw : A.sync ok name = (0, { (A.find name ok).2.2 with fs := Ab.updS (A.find name ok).2.2.fs fl, writes := (A.find name ok).2.2.writes.filter fun x => !decide (x.1 = fl) }) := by simp [Ab.sync, h0', hfl]
  rw [hw] at hE
  rw [hfl, h0']
  have hwl' : (A.find name ok).2.2.writes.length ≤ 1000000000 := by rw [(find_same A name ok).2.2.2.1]; exact hwl
  generalize (A.find name ok).2.2 = A1 at *
  obtain ⟨room, bm, sts, wrs, pln, off, maps, arrs, files, stb, wl⟩ := D'
  obtain ⟨i, v1, v2, hi, hfs, hv1, hv2⟩ := hR'.file (f := fl) (hR'.known _ (List.mem_cons_self ..) _ hmem)
  obtain ⟨a, cap, rfl, hcap⟩ := hv1.shape
  refine go ?_
  refine J_alloc (U := tab) rfl rfl rfl (fun _ _ _ => trivial) ?_
  intro c5
  refine go ?_
  refine K_ent (Ent.pick [1] rfl) ?_
  refine K_ent (disk_o _ _ _ _ _ _ _ _ _ _ _ _ _) ?_
  refine K_ent (Ent.pick [3] rfl) ?_
  refine K_ent (stock_out fileG hi _) ?_
  refine K_drawA (fun w => Sat G w ([pts c5 (cl [ptr fl] 117), pts fl (cl [.slice a (A1.now fl).length cap, v2] 123)])) (.st 0 (.st 1 (.st 2 (.st 3 (.st 4 (.st 5 (.st 6 (.act 7 .nil)))))))) rfl (by kernel_rfl) (by kernel_rfl) (by kernel_rfl) (fun w hw => hw.ent (Ent.pickOnly ([7, 0]) rfl)) ?_
  refine go ?_
  refine J_ent (stock_set fileG (y := (fl, .slice a (A1.now fl).length cap, .slice a (A1.now fl).length cap)) hi _) ?_
  refine J_ent (Ent.pick [6, 0] rfl) ?_
  refine J_ent (Ent.join _ _ _) ?_
  have hids : (files.set i (fl, .slice a (A1.now fl).length cap, .slice a (A1.now fl).length cap)).map (·.1) = files.map (·.1) := by
   rw [List.map_set]
   apply List.ext_getElem?
   intro j
   rw [List.getElem?_set]
   split
   ·rename_i hij
    subst hij
    simp only [List.getElem?_map, hi, Option.map_some, List.length_map]
    rw [if_pos (by
     rcases Nat.lt_or_ge i files.length with h | h
     ·exact h
     ·rw [List.getElem?_eq_none h] at hi; cases hi)]
   ·rfl
  have hfi := hR'.fids
  simp only at hfi
  have hwx : ∀ x ∈ wl, (∃ a n c, x.2.2 = .slice a n c) ∧ x.1 ∈ files.map (·.1) := fun x hx => by
   obtain ⟨j, hj⟩ := List.getElem?_of_mem hx
   obtain ⟨y, hy, h1, _, h3⟩ := hR'.writes.left hj
   obtain ⟨a, c, h4, _⟩ := h3.shape
   refine ⟨⟨_, _, _, h4⟩, ?_⟩
   rw [hfi, h1]
   exact hR'.knownW y (List.mem_of_getElem? hy)
  refine J_call [5, 0] rfl rfl rfl rfl (DeleteFunc_late wrs wl (star (pts c5 (cl [ptr fl] 117)) (stock fileG (files.set i (fl, .slice a (A1.now fl).length cap, .slice a (A1.now fl).length cap)))) 146 [ptr c5] (fun x => decide (x.1 = fl)) (by have := hR'.writes.1; simp only at this; omega) (fun x hx => (hwx x hx).1)
   (fun x hx => Sync1_any c5 fl x.1 x.2.1 x.2.2 _ (by rw [hids, hfi]; exact List.mem_map.2 ⟨_, List.mem_of_getElem? hfs, rfl⟩) (by rw [hids]; exact (hwx x hx).2) (by obtain ⟨⟨a, n, c, h⟩, _⟩ := hwx x hx; rw [h]; rfl))) rfl (fun _ _ _ _ _ => trivial) ?_
  rintro r _ rfl
  refine J_shape 0 rfl ?_
  rintro ar cr rfl
  refine go ?_
  refine K_ent (Ent.pick [1] rfl) ?_
  refine K_ent (Ent.part _ _ _) ?_
  refine K_ent (Ent.pick [3, 4, 5, 1, 6, 2] rfl) ?_
  refine K_ent (disk_c bd room bm sts _ pln off maps arrs _ stb _ _) ?_
  refine K_return hE Tryz.func108 rfl _ rfl ⟨_, hR'.synced hi hfs, rfl, rfl⟩ (Ent.fin [0] 2 rfl rfl)
 ·have hw : A.sync ok name = ((A.find name ok).1, (A.find name ok).2.2) := by simp [Ab.sync, h0']
  rw [hw] at hE
  cases hfo : (A.find name ok).2.1 with
  | none =>
   refine go ?_
   refine J_alloc (U := tab) rfl rfl rfl (fun _ _ _ => trivial) ?_
   intro c5
   refine go ?_
   refine K_condA rfl rfl ?_ ?_
   ·intro _
    refine go ?_
    refine K_return hE Tryz.func108 rfl _ rfl ⟨D', hR', rfl, rfl⟩ (Ent.fin [1] 2 rfl rfl)
   ·intro h; exfalso; have := of_decide_eq_false h; omega
  | some fl =>
   refine go ?_
   refine J_alloc (U := tab) rfl rfl rfl (fun _ _ _ => trivial) ?_
   intro c5
   refine go ?_
   refine K_condA rfl rfl ?_ ?_
   ·intro _
    refine go ?_
    refine K_return hE Tryz.func108 rfl _ rfl ⟨D', hR', rfl, rfl⟩ (Ent.fin [1] 2 rfl rfl)
   ·intro h; exfalso; have := of_decide_eq_false h; omega
end Go.Proofs.YtpecmnaikjbanaaGreatDoor
/- files, part s0: plain laws for Crash. -/
namespace Go.Proofs.YtpecmnaikjbanaaGreatDoor
open Go Go.SL
attribute [local irreducible] J K Ctr Ends pts slc mapR mapI sbRow stock arrS
abbrev Fss := List (Nat × List UInt8 × List UInt8)
structure FilesAre (arrs0 arrs : Arrs) (files : List (Nat × Value × Value)) (fs : Fss) (ids : List Nat) : Prop where
 all : All2 (fun x y => x.1 = y.1 ∧ BIn arrs x.2.1 y.2.1 ∧ BIn arrs x.2.2 y.2.2) files fs
 sub : ∀ x ∈ arrs0, x ∈ arrs
 ids : fs.map (·.1) = ids
 small : ∀ x ∈ fs, x.2.1.length ≤ 1048576 ∧ x.2.2.length ≤ 1048576
def toldAt (stay : List UInt8) (i : Nat) : Bool := decide (i / 8 < stay.length ∧ ((stay.getD (i / 8) 0).toNat / 2 ^ (i % 8)) % 2 = 1)
theorem map_one (g : Nat × List UInt8 × List UInt8 → Nat × List UInt8 × List UInt8) {fs : Fss} (hn : (fs.map (·.1)).Nodup) {i f : Nat} {x : List UInt8 × List UInt8} (hi : fs[i]? = some (f, x)) : (fs.map fun y => if y.1 = f then g y else y) = fs.set i (g (f, x)) := by
 induction fs generalizing i with
 | nil => simp at hi
 | cons y l ih =>
  simp only [List.map_cons, List.nodup_cons] at hn
  cases i with
  | zero =>
   simp at hi
   subst hi
   simp only [List.map_cons, if_true, List.set_cons_zero, List.cons.injEq, true_and]
   rw [List.map_congr_left (g := id) (fun z hz => ?_), List.map_id]
   have : z.1 ≠ f := fun e => hn.1 (List.mem_map.2 ⟨z, hz, e⟩)
   simp [this]
  | succ i =>
   simp at hi
   have hne : y.1 ≠ f := fun e => hn.1 (List.mem_map.2 ⟨_, List.mem_of_getElem? hi, e.symm⟩)
   have := ih hn.2 hi
   simp only [List.map_cons, hne, if_false, List.set_cons_succ, this]
theorem FilesAre.get {arrs0 arrs : Arrs} {files : List (Nat × Value × Value)} {fs : Fss} {ids : List Nat} (h : FilesAre arrs0 arrs files fs ids) (hn : ids.Nodup) {f : Nat} (hf : f ∈ ids) :
  ∃ (j : Nat) (v1 v2 : Value) (n s : List UInt8), files[j]? = some (f, v1, v2) ∧ fs[j]? = some (f, n, s) ∧ BIn arrs v1 n ∧ BIn arrs v2 s ∧ n.length ≤ 1048576 ∧ s.length ≤ 1048576 ∧ (fs.find? fun x => decide (x.1 = f)) = some (f, n, s) := by
 rw [← h.ids] at hf hn
 obtain ⟨⟨f', n, s⟩, hm, rfl⟩ := List.mem_map.1 hf
 obtain ⟨i, hi⟩ := List.getElem?_of_mem hm
 obtain ⟨⟨f2, v1, v2⟩, hx, h1, h2, h3⟩ := h.all.right hi
 simp only at h1 h2 h3
 subst h1
 exact ⟨i, v1, v2, n, s, hx, hi, h2, h3, (h.small _ hm).1, (h.small _ hm).2, find_nodup hn hi⟩
theorem FilesAre.put {arrs0 arrs arrs' : Arrs} {files : List (Nat × Value × Value)} {fs : Fss} {ids : List Nat} (h : FilesAre arrs0 arrs files fs ids) (hs : ∀ x ∈ arrs, x ∈ arrs') {j f : Nat} {v1 v2 : Value} {n s : List UInt8} {y : List UInt8 × List UInt8}
  (hj : fs[j]? = some (f, y)) (h1 : BIn arrs' v1 n) (h2 : BIn arrs' v2 s) (hl : n.length ≤ 1048576 ∧ s.length ≤ 1048576) : FilesAre arrs0 arrs' (files.set j (f, v1, v2)) (fs.set j (f, n, s)) ids where
 all := All2.set (h.all.mono fun x y hxy => ⟨hxy.1, hxy.2.1.mono hs, hxy.2.2.mono hs⟩) j ⟨rfl, h1, h2⟩
 sub x hx := hs x (h.sub x hx)
 ids := by
  rw [← h.ids, List.map_set]
  apply List.ext_getElem?
  intro i
  rw [List.getElem?_set]
  split
  ·rename_i e; subst e; rw [List.getElem?_map, hj]
   have : j < (fs.map (·.1)).length := by
    rw [List.length_map]
    rcases Nat.lt_or_ge j fs.length with h | h
    ·exact h
    ·rw [List.getElem?_eq_none h] at hj; cases hj
   simp [this]
   rcases Nat.lt_or_ge j fs.length with h | h
   ·exact h
   ·rw [List.getElem?_eq_none h] at hj; cases hj
  ·rfl
 small x hx := by
  rcases List.mem_or_eq_of_mem_set hx with h' | rfl
  ·exact h.small x h'
  ·exact hl
theorem drop_cons {α : Type} {l : List α} {i : Nat} {x : α} (h : l[i]? = some x) : l.drop i = x :: l.drop (i + 1) := by
 have hlt : i < l.length := by
  rcases Nat.lt_or_ge i l.length with h' | h'
  ·exact h'
  ·rw [List.getElem?_eq_none h'] at h; cases h
 rw [List.drop_eq_getElem_cons hlt]
 rw [List.getElem?_eq_getElem hlt] at h; cases h; rfl
theorem lasts_some {stay : List UInt8} {torn cut : Int} {i : Nat} {ws : List (Nat × Nat × List UInt8)} {fs : Fss} {f a j : Nat} {b c n s : List UInt8} (h : ws[i]? = some (f, a, b)) (hn : (fs.map (·.1)).Nodup) (hj : fs[j]? = some (f, n, s))
  (hk : Ab.kept stay torn cut i b = some c) : Ab.lasts stay torn cut i (ws.drop i) fs = Ab.lasts stay torn cut (i + 1) (ws.drop (i + 1)) (fs.set j (f, n, wroteL s a c)) := by
 rw [drop_cons h]
 simp only [Ab.lasts, hk]
 rw [find_nodup hn hj]
 have := map_one (fun y => (y.1, y.2.1, wroteL s a c)) hn hj
 unfold Ab.updSure
 simp only [Option.map_some, Option.getD_some]
 rw [this]
theorem lasts_none {stay : List UInt8} {torn cut : Int} {i : Nat} {ws : List (Nat × Nat × List UInt8)} {fs : Fss} {f a : Nat} {b : List UInt8} (h : ws[i]? = some (f, a, b))
  (hk : Ab.kept stay torn cut i b = none) : Ab.lasts stay torn cut i (ws.drop i) fs = Ab.lasts stay torn cut (i + 1) (ws.drop (i + 1)) fs := by
 rw [drop_cons h]
 simp only [Ab.lasts, hk]
theorem kept_torn {stay : List UInt8} {torn cut : Int} {i c : Nat} {b : List UInt8} (hi : (i : Int) = torn) (hc : max 0 (min cut b.length) = (c : Int)) : Ab.kept stay torn cut i b = if c = 0 then none else some (b.take c) := by
 unfold Ab.kept
 rw [if_pos hi]
 have e : (max 0 (min cut (b.length : Int))).toNat = c := by omega
 simp only [e]
 have hcb : c ≤ b.length := by omega
 by_cases h0 : c = 0
 ·simp [h0]
 ·have hlen : (b.take c).length = c := by rw [List.length_take]; omega
  have : b.take c ≠ [] := fun he => by rw [he] at hlen; simp at hlen; omega
  rw [if_neg this, if_neg h0]
theorem kept_else {stay : List UInt8} {torn cut : Int} {i : Nat} {b : List UInt8} (hi : (i : Int) ≠ torn) : Ab.kept stay torn cut i b = if toldAt stay i = true then some b else none := by
 unfold Ab.kept toldAt
 rw [if_neg hi]
 simp only [decide_eq_true_eq]
def mark (S : List Nat) (fs : Fss) : Fss := fs.map fun x => if x.1 ∈ S then (x.1, x.2.2, x.2.2) else x
theorem mark_nil (fs : Fss) : mark [] fs = fs := by simp [mark]
theorem mark_ext {S S' : List Nat} (fs : Fss) (h : ∀ x, x ∈ S ↔ x ∈ S') : mark S fs = mark S' fs := by
 unfold mark; apply List.map_congr_left; intro x _; simp only [h]
theorem mark_ids (S : List Nat) (fs : Fss) : (mark S fs).map (·.1) = fs.map (·.1) := by
 unfold mark; rw [List.map_map]; apply List.map_congr_left; intro x _; simp only [Function.comp]; split <;> rfl
theorem mark_set {S : List Nat} {fs : Fss} (hn : (fs.map (·.1)).Nodup) {j f : Nat} {n s : List UInt8} (hj : (mark S fs)[j]? = some (f, n, s)) : (mark S fs).set j (f, s, s) = mark (f :: S) fs := by
 have h1 := map_one (fun y => (y.1, y.2.2, y.2.2)) (by rw [mark_ids]; exact hn) hj
 rw [← h1]
 unfold mark
 rw [List.map_map]
 apply List.map_congr_left
 intro x _
 simp only [Function.comp, List.mem_cons]
 by_cases hx : x.1 ∈ S <;> by_cases hf : x.1 = f <;> simp only [hx, hf, if_true, if_false, or_true, true_or, or_false, false_or, if_pos, if_neg, not_false_eq_true] <;> simp_all
theorem Rel.crashed {D : Dk} {A : Ab} (h : Rel D A) {last torn cut : Int} {stay : List UInt8} {q b1 b0 : Nat} {nm : List (ByteArray × Nat)} {arrs' : Arrs} {files' : List (Nat × Value × Value)} {w p : Value} (hw : w = .slice none 0 0) (hp : p = .slice none 0 0)
    (hq : max 0 (min last ((A.states.length : Int) - 1)) = q) (hnm : A.states[q]? = some nm) (hb : (b1, ptrs nm) ∈ D.maps)
    (hF : FilesAre D.arrs arrs' files' (mark (Ab.reach (A.states ++ [nm])) (Ab.lasts stay torn cut 0 A.writes A.fs)) (A.fs.map (·.1))) :
    Rel ⟨D.room, b1, .slice (some ⟨b0, 0, none⟩) 1 1, w, p, false, D.maps, arrs', files', [b1], []⟩ (A.crash last stay torn cut) := by
  subst hw hp
  have hst : nm ∈ A.states := List.mem_of_getElem? hnm
  have e : A.crash last stay torn cut = { A with names := nm, states := [nm], writes := [], plan := [], off := false, fs := mark (Ab.reach (A.states ++ [nm])) (Ab.lasts stay torn cut 0 A.writes A.fs) } := by
    have e1 : (max 0 (min last ((A.states.length : Int) - 1))).toNat = q := by omega
    have e2 : A.states.getD (max 0 (min last ((A.states.length : Int) - 1))).toNat [] = nm := by rw [e1, List.getD_eq_getElem?_getD, hnm]; rfl
    simp only [Ab.crash, e2]; rfl
  rw [e]
  have hsub : ∀ st ∈ nm :: [nm], st ∈ A.names :: A.states := fun st hs => by
    simp only [List.mem_cons, List.not_mem_nil, or_false] at hs
    rcases hs with rfl | rfl <;> exact List.mem_cons_of_mem _ hst
  exact
  { room := h.room, off := rfl, names := hb, states := All2.one hb, fs := hF.all, writes := All2.nil, plan := BIn.nil _ _ _
    ids := by simp only; rw [hF.ids]; exact h.ids
    known := fun st hs x hx => by simp only; rw [hF.ids]; exact h.known st (hsub st hs) x hx
    knownW := by simp
    nodup := fun st hs => h.nodup st (hsub st hs)
    smallF := hF.small
    smallW := by simp
    smallN := fun st hs => h.smallN st (hsub st hs)
    smallR := h.smallR, smallP := by simp, full := by simp }
end Go.Proofs.YtpecmnaikjbanaaGreatDoor
/- files, part s: Crash. -/
namespace Go.Proofs.YtpecmnaikjbanaaGreatDoor
open Go Go.SL
attribute [local irreducible] J K Ctr Ends pts slc mapR mapI sbRow stock arrS
set_option maxRecDepth 20000 in
theorem Crash_any (bd : Nat) (D : Dk) (A : Ab) (hR : Rel D A) (last torn cut : Int) (X : HP) (bv : Value) (stay : List UInt8) (hv : Vw X bv stay.length (bV stay)) (hsl : stay.length ≤ 9223372036854775807) (hst : A.states.length ≤ 1000000000) (hwl : A.writes.length ≤ 1000000000)
  (h1 : -9223372036854775808 ≤ last ∧ last ≤ 9223372036854775807) (h2 : -9223372036854775808 ≤ torn ∧ torn ≤ 9223372036854775807) (h3 : -9223372036854775808 ≤ cut ∧ cut ≤ 9223372036854775807) :
  Ctr Tryz.prog 33 [ptr bd, .int .i64 last, bv, .int .i64 torn, .int .i64 cut] [disk bd D, X] (fun v H => ∃ D', Rel D' (A.crash last stay torn cut) ∧ H = [disk bd D', X]) := by
 obtain ⟨a0, c0, rfl⟩ := hv.shape
 obtain ⟨room, bm, sts, wrs, pln, off, maps, arrs, files, stb, wl⟩ := D
 have hlen := hR.states.1
 have hwlen := hR.writes.1
 have hfull := hR.full
 have hpos : 0 < A.states.length := List.length_pos_iff.2 hfull
 simp only at hlen hwlen
 refine Ctr.enter Tryz.func33 (by kernel_rfl) rfl Tryz.ntmps33 rfl rfl ?_
 intro G F R hE
 refine K_ent (disk_o _ _ _ _ _ _ _ _ _ _ _ _ _) ?_
 refine K_shape 4 rfl ?_
 rintro sa cs rfl
 refine K_drawA (fun w => Sat G w ([pts bd (cl [.int .i64 room, .map (some bm), .slice sa stb.length cs, wrs, pln, .bool off] 85), slc 81 1 (.slice sa stb.length cs) stb.length (stb.map fun b => .map (some b))])) (.st 0 (.st 1 (.st 2 (.st 3 (.st 4 (.st 5 (.st 6 (.st 7 (.st 8 (.st 9 (.st 10 (.st 11 (.st 12 (.st 13 (.st 14 (.st 15 (.st 16 (.st 17 (.act 18 .nil))))))))))))))))))) rfl (by kernel_rfl) (by kernel_rfl) (by kernel_rfl) (fun w hw => hw.ent (Ent.pickOnly ([0, 4]) rfl)) ?_
 refine go ?_
 refine J_slcAt 4 rfl (by omega) ?_
 rintro bs os cs' hs hvs
 simp only [Value.slice.injEq, true_and] at hs
 obtain ⟨rfl, rfl⟩ := hs
 obtain ⟨q, hq⟩ : ∃ q : Nat, max 0 (min last ((stb.length : Int) - 1)) = q := Int.eq_ofNat_of_zero_le (by omega)
 have hqs : q < stb.length := by omega
 refine J_at1 (U := tab) q rfl rfl rfl rfl rfl rfl rfl hq hqs ?_
 obtain ⟨b1, hb1⟩ : ∃ b1, stb[q]? = some b1 := ⟨stb[q], by simp⟩
 refine J_loadAtS (U := tab) 1 q rfl rfl rfl hvs rfl (c := .map (some b1)) (by simp [hb1]) rfl rfl ?_
 refine go ?_
 refine J_ent (Ent.pick [5] rfl) ?_
 refine J_shape 0 rfl ?_
 rintro wa wc rfl
 refine go ?_
 refine K_loop (fun s : Nat × Arrs × List (Nat × Value × Value) × List (Nat × List UInt8 × List UInt8) => s.1 ≤ wl.length ∧ FilesAre arrs s.2.1 s.2.2.1 s.2.2.2 (A.fs.map (·.1)) ∧ Ab.lasts stay torn cut s.1 (A.writes.drop s.1) s.2.2.2 = Ab.lasts stay torn cut 0 A.writes A.fs) (fun s => wl.length - s.1)
  (fun s => [(0, ptr bd), (2, .slice a0 stay.length c0), (3, .int .i64 torn), (4, .int .i64 cut), (38, .slice wa wl.length wc), (39, .int .i64 wl.length), (40, .int .i64 s.1)])
  (fun s => slc 119 3 (.slice wa wl.length wc) wl.length (wcells wl) :: pts bd (cl [.int .i64 room, .map (some b1), .slice (some ⟨bs, os, none⟩) stb.length cs, .slice wa wl.length wc, pln, .bool off] 85) :: stock mapG maps :: arrS 5 s.2.1 :: stock fileG s.2.2.1 :: slc 81 1 (.slice (some ⟨bs, os, none⟩) stb.length cs) stb.length (stb.map fun b => .map (some b)) :: X :: F)
  (0, arrs, files, A.fs) ⟨by simp, ⟨hR.fs, fun x h => h, rfl, hR.smallF⟩, rfl⟩ rfl (by repeat (first | exact keep_nil | refine keep_cons rfl ?_)) (Ent.refl _) ?_
 rintro ⟨i, arrs1, files1, fs1⟩ ⟨hi, hF, hL⟩ ih
 simp only at hi hF hL
 refine go ?_
 refine K_condP rfl rfl ?_ ?_
 ·intro hlt
  simp only at hlt
  have hi' : i < wl.length := by omega
  obtain ⟨⟨fx, ax, bx⟩, hx⟩ : ∃ x, wl[i]? = some x := ⟨wl[i], by simp [hi']⟩
  obtain ⟨⟨fy, ay, by_⟩, hy, hxy1, hxy2, hxy3⟩ := hR.writes.left hx
  simp only at hxy1 hxy2 hxy3
  subst hxy1 hxy2
  have hb3 := hxy3.mono hF.sub
  obtain ⟨ba, bc, rfl, hbc⟩ := hxy3.shape
  refine go ?_
  refine J_slcVw 0 rfl ?_
  intro hvw
  obtain ⟨bw, ow, cw, hsw⟩ := hvw.some (by rw [← List.length_pos_iff, wcells_eq, chunk_len lateC_len]; omega)
  simp only [Value.slice.injEq, true_and] at hsw
  obtain ⟨rfl, rfl⟩ := hsw
  refine J_at (U := tab) i 3 rfl rfl rfl rfl rfl rfl rfl rfl hi' ?_
  refine J_loadElem (U := tab) (es := lateC (fx, ax, .slice ba by_.length bc)) 0 (i * 3) rfl rfl rfl hvw rfl (fun q v hq => ?_) rfl rfl rfl ?_
  ·have hj3 : q < 3 := by
    rcases Nat.lt_or_ge q 3 with h | h
    ·exact h
    ·rw [List.getElem?_eq_none (by rw [lateC_len]; exact h)] at hq; cases hq
   rw [wcells_eq, chunk_get lateC_len hx q hj3]; exact hq
  refine J_alloc (U := tab) rfl rfl rfl (fun _ _ _ => trivial) ?_
  intro bw1
  refine go ?_
  refine J_shr rfl rfl rfl (by omega) ?_
  refine J_slot 46 (.int .i64 ((i / 8 : Nat) : Int)) rfl (congrArg (Value.int .i64) (by show (i : Int) / 8 = ((i / 8 : Nat) : Int); omega)) ?_
  refine go ?_
  refine J_gsP rfl rfl rfl rfl ?_ ?_
  case' refine_2 =>
   intro hs1
   refine go ?_
   refine K_slot 12 (.bool (toldAt stay i)) rfl (congrArg Value.bool (by
    unfold toldAt
    exact (decide_eq_false (by omega)).symm)) ?_
  case' refine_1 =>
   intro hs1
   obtain ⟨bst, ost, cst, hsst⟩ := hv.some (by rw [← List.length_pos_iff, bV_length]; omega)
   simp only [Value.slice.injEq, true_and] at hsst
   obtain ⟨rfl, rfl⟩ := hsst
   refine go ?_
   refine J_shr rfl rfl rfl (by omega) ?_
   refine J_slot 53 (.int .i64 ((i / 8 : Nat) : Int)) rfl (congrArg (Value.int .i64) (by show (i : Int) / 8 = ((i / 8 : Nat) : Int); omega)) ?_
   have hi8 : i / 8 < stay.length := by omega
   refine go ?_
   refine J_at1 (U := tab) (i / 8) rfl rfl rfl rfl rfl rfl rfl rfl hi8 ?_
   refine go ?_
   obtain ⟨sx, hsx⟩ : ∃ x, stay[i / 8]? = some x := ⟨stay[i / 8]'hi8, by simp⟩
   refine J_loadV (U := tab) 7 rfl rfl rfl (hv.cell (bV_get hsx)) rfl rfl ?_
   refine go ?_
   refine J_slot 57 (.int .i64 ((i % 2 ^ 3 : Nat) : Int)) rfl (congrArg (Value.int .i64) (and_mask_i64 i 3 (by omega) (by omega))) ?_
   refine go ?_
   refine J_shr rfl rfl rfl (by omega) ?_
   have hsh : (sx.toNat : Int) / 2 ^ (min (((i % 2 ^ 3 : Nat) : Int).toNat) IntKind.u8.bits) = ((sx.toNat / 2 ^ (i % 8) : Nat) : Int) := by
    have e1 : min (((i % 2 ^ 3 : Nat) : Int).toNat) IntKind.u8.bits = i % 8 := by show min (i % 8) 8 = i % 8; omega
    rw [e1]; simp
   refine J_slot 58 (.int .u8 ((sx.toNat / 2 ^ (i % 8) : Nat) : Int)) rfl (congrArg (Value.int .u8) hsh) ?_
   have hsb : sx.toNat / 2 ^ (i % 8) < 256 := Nat.lt_of_le_of_lt (Nat.div_le_self _ _) sx.toNat_lt
   refine go ?_
   refine K_slot 12 (.bool (toldAt stay i)) rfl (congrArg Value.bool (by
    have := and_one_u8 _ hsb
    unfold toldAt
    rw [decide_eq_decide, List.getD_eq_getElem?_getD, hsx]
    show IntKind.u8.wrap _ = 1 ↔ _
    rw [this]
    simp only [Option.getD_some]
    omega)) ?_
  all_goals (
   generalize htd : toldAt stay i = told
   clear hs1
   refine go ?_
   refine K_condP rfl rfl ?_ ?_
   ·intro htorn
    refine go ?_
    obtain ⟨c, hc⟩ : ∃ c : Nat, max 0 (min cut (by_.length : Int)) = c := Int.eq_ofNat_of_zero_le (by omega)
    have hcb : c ≤ by_.length := by omega
    refine J_sliceAny (U := tab) (p := 0) (q := max 0 (min cut (by_.length : Int))) rfl rfl rfl rfl rfl rfl rfl (Int.le_refl _) (by omega) (.inr (by omega)) ?_
    refine J_slot 73 (.slice (sliceAt ba bc 0 1) c bc) rfl (by simp only [hc]; rfl) ?_
    refine go ?_
    refine K_condP rfl rfl ?_ ?_
    ·intro hc0
     have hc0' : c ≠ 0 := by intro e; subst e; simp at hc0
     have hk : Ab.kept stay torn cut i by_ = some (by_.take c) := by rw [kept_torn htorn hc, if_neg hc0']
     have hb' : BIn arrs1 (.slice (sliceAt ba bc 0 1) c bc) (by_.take c) := hb3.cut 0 c (by omega)
     have hbl : (by_.take c).length = c := by rw [List.length_take]; omega
     (obtain ⟨j, v1, v2, n, s, hj, hfj, hb1', hb2', hnl, hsl', hfind⟩ := hF.get hR.ids (hR.knownW _ (List.mem_of_getElem? hy)); have hwb := hR.smallW _ (List.mem_of_getElem? hy); simp only at hwb; have hnd1 : (fs1.map (·.1)).Nodup := (by rw [hF.ids]; exact hR.ids); have hwl2 := wroteL_len s ax (by_.take c); refine K_ent (Ent.pick [5] rfl) ?_; refine K_ent (stock_out fileG hj _) ?_; refine K_drawA (fun w => Sat G w ([pts bw1 (cl [ptr fx, .int .i64 ax, (.slice (sliceAt ba bc 0 1) c bc)] 119), pts fx (cl [v1, v2] 123)])) (.st 0 (.st 1 (.st 2 (.st 3 (.st 4 (.st 5 (.st 6 (.st 7 (.st 8 (.st 9 (.st 10 (.act 11 (.st 12 (.st 13 (.act 14 .nil))))))))))))))) rfl (by kernel_rfl) (by kernel_rfl) (by kernel_rfl) (fun w hw => hw.ent (Ent.pickOnly ([2, 0]) rfl)) ?_; refine go ?_; refine J_call [6] rfl rfl rfl rfl (wrote_any (arrS 5 arrs1) v2 _ s (by_.take c) ax (hb2'.view _) (hb'.view _) (by omega)) rfl (fun _ _ w hp hw => by obtain ⟨_, _, _, _, rfl⟩ := hp; exact hw.ent (Ent.pickOnly [4, 2] rfl)) ?_; rintro _ _ ⟨bl, cap2, rfl, hcap2, rfl⟩; refine go ?_; refine K_ent (Ent.pick [2, 3] rfl) ?_; refine K_ent (stock_set fileG (y := (fx, v1, .slice (some ⟨bl, 0, none⟩) (wroteL s ax (by_.take c)).length cap2)) hj _) ?_; refine K_ent (Ent.pick [1, 2] rfl) ?_; refine K_ent (arrS_add 5 bl _ arrs1 _) ?_; have hF2 := hF.put (arrs' := (bl, bV (wroteL s ax (by_.take c))) :: arrs1) (v1 := v1) (v2 := .slice (some ⟨bl, 0, none⟩) (wroteL s ax (by_.take c)).length cap2) (n := n) (s := wroteL s ax (by_.take c)) (fun x h => List.mem_cons_of_mem _ h) hfj (hb1'.mono fun x h => List.mem_cons_of_mem _ h) (BIn.row hcap2) ⟨hnl, by omega⟩; refine K_again ih (i + 1, _, _, _) rfl ⟨hi', hF2, by rw [← hL]; exact (lasts_some hy hnd1 hfj hk).symm⟩ (by show _ - (_ + 1) < _; omega) (by repeat (first | exact keep_nil | refine keep_cons rfl ?_)) (Ent.to [3, 4, 5, 0, 1, 6, 7] 1 rfl rfl rfl))
    ·intro hc0
     have hc0' : c = 0 := by rcases Nat.eq_zero_or_pos c with h | h; exact h; exact absurd (by simp; exact h) hc0
     have hk : Ab.kept stay torn cut i by_ = none := by rw [kept_torn htorn hc, if_pos hc0']
     refine go ?_
     (refine K_again ih (i + 1, arrs1, files1, fs1) rfl ⟨hi', hF, by rw [← hL]; exact (lasts_none hy hk).symm⟩ (by show _ - (_ + 1) < _; omega) (by repeat (first | exact keep_nil | refine keep_cons rfl ?_)) (Ent.drop _ _))
   ·intro htorn
    refine go ?_
    have hkk := kept_else (stay := stay) (cut := cut) (b := by_) htorn
    cases told with
    | false => 
     have hk : Ab.kept stay torn cut i by_ = none := by rw [hkk, htd]; rfl
     refine go ?_
     (refine K_again ih (i + 1, arrs1, files1, fs1) rfl ⟨hi', hF, by rw [← hL]; exact (lasts_none hy hk).symm⟩ (by show _ - (_ + 1) < _; omega) (by repeat (first | exact keep_nil | refine keep_cons rfl ?_)) (Ent.drop _ _))
    | true =>
     have hk : Ab.kept stay torn cut i by_ = some by_ := by rw [hkk, htd]; rfl
     have hb' : BIn arrs1 (.slice ba by_.length bc) by_ := hb3
     have hbl : by_.length = by_.length := rfl
     have hcb : by_.length ≤ by_.length := Nat.le_refl _
     refine go ?_
     (obtain ⟨j, v1, v2, n, s, hj, hfj, hb1', hb2', hnl, hsl', hfind⟩ := hF.get hR.ids (hR.knownW _ (List.mem_of_getElem? hy)); have hwb := hR.smallW _ (List.mem_of_getElem? hy); simp only at hwb; have hnd1 : (fs1.map (·.1)).Nodup := (by rw [hF.ids]; exact hR.ids); have hwl2 := wroteL_len s ax by_; refine K_ent (Ent.pick [5] rfl) ?_; refine K_ent (stock_out fileG hj _) ?_; refine K_drawA (fun w => Sat G w ([pts bw1 (cl [ptr fx, .int .i64 ax, (.slice ba by_.length bc)] 119), pts fx (cl [v1, v2] 123)])) (.st 0 (.st 1 (.st 2 (.st 3 (.st 4 (.st 5 (.st 6 (.st 7 (.st 8 (.st 9 (.st 10 (.act 11 (.st 12 (.st 13 (.act 14 .nil))))))))))))))) rfl (by kernel_rfl) (by kernel_rfl) (by kernel_rfl) (fun w hw => hw.ent (Ent.pickOnly ([2, 0]) rfl)) ?_; refine go ?_; refine J_call [6] rfl rfl rfl rfl (wrote_any (arrS 5 arrs1) v2 _ s by_ ax (hb2'.view _) (hb'.view _) (by omega)) rfl (fun _ _ w hp hw => by obtain ⟨_, _, _, _, rfl⟩ := hp; exact hw.ent (Ent.pickOnly [4, 2] rfl)) ?_; rintro _ _ ⟨bl, cap2, rfl, hcap2, rfl⟩; refine go ?_; refine K_ent (Ent.pick [2, 3] rfl) ?_; refine K_ent (stock_set fileG (y := (fx, v1, .slice (some ⟨bl, 0, none⟩) (wroteL s ax by_).length cap2)) hj _) ?_; refine K_ent (Ent.pick [1, 2] rfl) ?_; refine K_ent (arrS_add 5 bl _ arrs1 _) ?_; have hF2 := hF.put (arrs' := (bl, bV (wroteL s ax by_)) :: arrs1) (v1 := v1) (v2 := .slice (some ⟨bl, 0, none⟩) (wroteL s ax by_).length cap2) (n := n) (s := wroteL s ax by_) (fun x h => List.mem_cons_of_mem _ h) hfj (hb1'.mono fun x h => List.mem_cons_of_mem _ h) (BIn.row hcap2) ⟨hnl, by omega⟩; refine K_again ih (i + 1, _, _, _) rfl ⟨hi', hF2, by rw [← hL]; exact (lasts_some hy hnd1 hfj hk).symm⟩ (by show _ - (_ + 1) < _; omega) (by repeat (first | exact keep_nil | refine keep_cons rfl ?_)) (Ent.to [3, 4, 5, 0, 1, 6, 7] 1 rfl rfl rfl)))
 ·intro hge
  simp only at hge
  have hiw : i = wl.length := by omega
  subst hiw
  have hfs1 : fs1 = Ab.lasts stay torn cut 0 A.writes A.fs := by rw [← hL, List.drop_of_length_le (by omega)]; rfl
  obtain ⟨nm, hnm, hbm⟩ := hR.states.left hb1
  have hall : All2 (fun b es => (b, ptrs es) ∈ maps) (stb ++ [b1]) (A.states ++ [nm]) := All2.snoc hR.states hbm
  refine K_drawA (fun w => Sat G w ([pts bd (cl [.int .i64 room, .map (some b1), .slice (some ⟨bs, os, none⟩) stb.length cs, .slice wa wl.length wc, pln, .bool off] 85)])) (.st 0 (.st 1 (.st 2 (.st 3 (.st 4 (.st 5 (.st 6 (.st 7 (.st 11 (.act 8 (.act 9 (.st 10 .nil)))))))))))) rfl (by kernel_rfl) (by kernel_rfl) (by kernel_rfl) (fun w hw => hw.ent (Ent.pickOnly ([1]) rfl)) ?_
  refine go ?_
  refine J_buildSlice1 (U := tab) rfl rfl rfl rfl rfl rfl rfl rfl rfl (fun _ w hw => hw.ent (Ent.pickOnly ([2]) rfl)) ?_
  intro b0
  refine J_append (U := tab) (mm := 1) (news := [.map (some b1)]) 6 0 rfl rfl rfl rfl rfl rfl rfl rfl rfl rfl rfl rfl (Vw.pts rfl) rfl (by simp [Value.oneCell']) (by omega) (by show _ * 8 ≤ _; omega) (fun _ => rfl) (fun _ w hw => hw.ent (Ent.pickOnly ([2]) rfl)) ?_
  intro v'
  have e1 : (stb.map fun b => Value.map (some b)) ++ [.map (some b1)] = (stb ++ [b1]).map fun b => Value.map (some b) := by simp
  have e2 : stb.length + 1 = (stb ++ [b1]).length := by simp
  have e3 : (stb ++ [b1]).length ≤ 1000000001 := by rw [← e2]; omega
  rw [e1, e2]
  refine J_shape 6 rfl ?_
  rintro av cv rfl
  refine go ?_
  refine K_loop (fun s : Nat × List (Nat × Value × Value) × List Nat => s.1 ≤ (stb ++ [b1]).length ∧ FilesAre arrs arrs1 s.2.1 (mark s.2.2 fs1) (A.fs.map (·.1)) ∧ ∀ x, x ∈ s.2.2 ↔ x ∈ Ab.reach ((A.states ++ [nm]).take s.1)) (fun s => (stb ++ [b1]).length - s.1)
   (fun s => [(0, ptr bd), (104, .slice av (stb ++ [b1]).length cv), (105, .int .i64 (stb ++ [b1]).length), (106, .int .i64 s.1)])
   (fun s => slc 81 1 (.slice av (stb ++ [b1]).length cv) (stb ++ [b1]).length ((stb ++ [b1]).map fun b => .map (some b)) :: pts bd (cl [.int .i64 room, .map (some b1), .slice (some ⟨bs, os, none⟩) stb.length cs, .slice wa wl.length wc, pln, .bool off] 85) :: stock mapG maps :: arrS 5 arrs1 :: stock fileG s.2.1 :: X :: F)
   (0, files1, []) ⟨Nat.zero_le _, by rw [mark_nil]; exact hF, by simp [Ab.reach]⟩ rfl (by repeat (first | exact keep_nil | refine keep_cons rfl ?_)) (Ent.to [6, 2, 3, 4, 5, 7] 2 rfl rfl rfl) ?_
  rintro ⟨i, files2, S⟩ ⟨hi2, hF2, hS2⟩ ih2
  simp only at hi2 hF2 hS2
  refine go ?_
  refine K_condP rfl rfl ?_ ?_
  ·intro hlt
   simp only at hlt
   have hlt' : i < (stb ++ [b1]).length := by omega
   obtain ⟨bi, hbi⟩ : ∃ x, (stb ++ [b1])[i]? = some x := ⟨(stb ++ [b1])[i], by rw [List.getElem?_eq_getElem]⟩
   obtain ⟨es, hes, hm⟩ := hall.left hbi
   have hesm : es ∈ A.names :: A.states := by
    rcases List.mem_append.1 (List.mem_of_getElem? hes) with h | h
    ·exact List.mem_cons_of_mem _ h
    ·simp only [List.mem_singleton] at h; subst h; exact List.mem_cons_of_mem _ (List.mem_of_getElem? hnm)
   refine go ?_
   refine J_slcAt 0 rfl (by omega) ?_
   rintro bn on cn hs3 hvn
   simp only [Value.slice.injEq, true_and] at hs3
   obtain ⟨rfl, rfl⟩ := hs3
   refine J_at1 (U := tab) i rfl rfl rfl rfl rfl rfl rfl rfl hlt' ?_
   refine J_loadAt (U := tab) 0 i rfl rfl rfl hvn rfl (c := .map (some bi)) (by simp only [List.getElem?_map, hbi, Option.map_some]) rfl rfl ?_
   refine go ?_
   obtain ⟨jm, hjm⟩ := List.getElem?_of_mem hm
   refine J_ent (Ent.pick [2] rfl) ?_
   refine J_ent (stock_out mapG hjm _) ?_
   refine J_range (kv := Value.string) (es := ptrs es) (U := tab) 0 rfl rfl rfl rfl rfl (fun _ => rfl) (fun _ _ _ => trivial) ?_
   intro it
   refine go ?_
   have hndk := hR.nodup _ hesm
   have hkeys : (ptrs es).map (·.1) = es.map (·.1) := by simp [ptrs, Function.comp_def]
   refine K_loop (fun s : List ByteArray × List (Nat × Value × Value) × List Nat => (s.1.Nodup ∧ ∀ x ∈ s.1, x ∈ es.map (·.1)) ∧ FilesAre arrs arrs1 s.2.1 (mark s.2.2 fs1) (A.fs.map (·.1)) ∧ ∀ x, x ∈ s.2.2 ↔ x ∈ S ∨ ∃ k ∈ s.1, (k, x) ∈ es) (fun s => es.length - s.1.length)
    (fun s => [(111, .pointer (some ⟨it, 0, none⟩)), (0, ptr bd), (104, .slice (some ⟨bn, on, none⟩) (stb ++ [b1]).length cv), (105, .int .i64 (stb ++ [b1]).length), (106, .int .i64 i)])
    (fun s => mapI Value.string bi it (ptrs es) s.1 :: stock mapG (maps.eraseIdx jm) :: slc 81 1 (.slice (some ⟨bn, on, none⟩) (stb ++ [b1]).length cv) (stb ++ [b1]).length ((stb ++ [b1]).map fun b => .map (some b)) :: pts bd (cl [.int .i64 room, .map (some b1), .slice (some ⟨bs, os, none⟩) stb.length cs, .slice wa wl.length wc, pln, .bool off] 85) :: arrS 5 arrs1 :: stock fileG s.2.1 :: X :: F)
    ([], files2, S) ⟨⟨List.nodup_nil, by simp⟩, hF2, by simp⟩ rfl (by repeat (first | exact keep_nil | refine keep_cons rfl ?_)) (Ent.refl _) ?_
   rintro ⟨dn, files3, S3⟩ ⟨⟨hdn, hsubk⟩, hF3, hS3⟩ ih3
   simp only at hdn hsubk hF3 hS3
   refine go ?_
   refine J_next (kv := Value.string) (es := ptrs es) 0 rfl kStr.inj rfl rfl (fun _ => rfl) (fun _ _ => trivial) (fun _ _ _ => trivial) ?_ ?_
   ·intro hallk
    refine go ?_
    refine K_ent ((Ent.head (B := [mapG (bi, ptrs es)]) (fun h hs => by obtain ⟨h', s, hm⟩ := mapI_mapR h hs; exact ⟨h', s, Sep_one' hm⟩)).trans (stock_in mapG hjm _)) ?_
    have hS4 : ∀ x, x ∈ S3 ↔ x ∈ Ab.reach ((A.states ++ [nm]).take (i + 1)) := by
     intro x
     rw [hS3 x, hS2 x, List.take_add_one, hes]
     simp only [Ab.reach, Option.toList_some, List.flatMap_append, List.flatMap_cons, List.flatMap_nil, List.append_nil, List.mem_append]
     apply or_congr Iff.rfl
     constructor
     ·rintro ⟨k, _, hk⟩; exact List.mem_map.2 ⟨_, hk, rfl⟩
     ·intro hx
      obtain ⟨⟨k, x'⟩, hk, rfl⟩ := List.mem_map.1 hx
      exact ⟨k, hallk (k, ptr x') (List.mem_map.2 ⟨_, hk, rfl⟩), hk⟩
    refine go ?_
    have ih := ih2
    refine K_again ih (i + 1, files3, S3) rfl ⟨hlt', hF3, hS4⟩ (by show _ - (_ + 1) < _; omega) (by repeat (first | exact keep_nil | refine keep_cons rfl ?_)) (Ent.to [1, 2, 0, 3, 4, 5] 0 rfl rfl rfl)
   ·intro key v hmem hnot
    obtain ⟨⟨k', f⟩, hx, hxe⟩ := List.mem_map.1 hmem
    simp only [Prod.mk.injEq] at hxe
    obtain ⟨rfl, rfl⟩ := hxe
    refine go ?_
    refine J_entry (kv := Value.string) (es := ptrs es) 0 rfl kStr.inj rfl rfl hmem ?_
    refine go ?_
    obtain ⟨j, v1, v2, n, s, hj, hfj, hb1', hb2', hnl, hsl', hfind⟩ := hF3.get hR.ids (hR.known _ hesm _ hx)
    obtain ⟨a2, c2, rfl, _⟩ := hb2'.shape
    refine J_ent (Ent.pick [5] rfl) ?_
    refine J_ent (stock_out fileG hj _) ?_
    refine go ?_
    refine K_ent (stock_set fileG (y := (f, .slice a2 s.length c2, .slice a2 s.length c2)) hj _) ?_
    have hF4 := hF3.put (v1 := .slice a2 s.length c2) (v2 := .slice a2 s.length c2) (n := s) (s := s) (fun _ h => h) hfj hb2' hb2' ⟨hsl', hsl'⟩
    rw [mark_set (by rw [hF.ids]; exact hR.ids) hfj] at hF4
    have hmk : k' ∈ es.map (·.1) := List.mem_map.2 ⟨_, hx, rfl⟩
    have hd2 : (k' :: dn).Nodup := List.nodup_cons.2 ⟨hnot, hdn⟩
    have hs2 : ∀ x ∈ k' :: dn, x ∈ es.map (·.1) := fun x hx => by
     rcases List.mem_cons.1 hx with rfl | h
     ·exact hmk
     ·exact hsubk x h
    have hlen2 := nodup_len hd2 hs2
    rw [List.length_map, List.length_cons] at hlen2
    have hS4 : ∀ x, x ∈ f :: S3 ↔ x ∈ S ∨ ∃ k ∈ k' :: dn, (k, x) ∈ es := by
     intro x
     rw [List.mem_cons, hS3 x]
     constructor
     ·rintro (rfl | h | ⟨k, hk, hkx⟩)
      ·exact .inr ⟨k', List.mem_cons_self .., hx⟩
      ·exact .inl h
      ·exact .inr ⟨k, List.mem_cons_of_mem _ hk, hkx⟩
     ·rintro (h | ⟨k, hk, hkx⟩)
      ·exact .inr (.inl h)
      ·rcases List.mem_cons.1 hk with rfl | hk
       ·left
        have h1 := lookIn_mem hndk hx
        rw [lookIn_mem hndk hkx] at h1
        simpa using h1
       ·exact .inr (.inr ⟨k, hk, hkx⟩)
    have ih := ih3
    refine K_again ih (k' :: dn, _, f :: S3) rfl ⟨⟨hd2, hs2⟩, hF4, hS4⟩ (by simp only [List.length_cons]; omega) (by repeat (first | exact keep_nil | refine keep_cons rfl ?_)) (Ent.to [1, 2, 3, 4, 5, 0, 6] 0 rfl rfl rfl)
  ·intro hge2
   simp only at hge2
   have hie : i = (stb ++ [b1]).length := by omega
   subst hie
   rw [hall.1, List.take_length] at hS2
   rw [mark_ext fs1 hS2, hfs1] at hF2
   refine go ?_
   refine J_buildSlice1 (U := tab) rfl rfl rfl rfl rfl rfl rfl rfl rfl (fun _ _ _ => trivial) ?_
   intro b2
   refine go ?_
   refine K_ent (slc_row 81 1 b2 1 1 [.map (some b1)] [] _ rfl (Nat.le_refl _) (by simp)) ?_
   refine K_ent (slc_lift 119 3 none _) ?_
   refine K_ent (Ent.pick [3, 4, 5, 6, 1, 0, 7] rfl) ?_
   refine K_ent (disk_c bd room b1 (.slice (some ⟨b2, 0, none⟩) 1 1) (.slice none 0 0) (.slice none 0 0) false maps arrs1 files2 [b1] [] _) ?_
   have hR2 := hR.crashed (b0 := b2) rfl rfl (by rw [← hlen]; exact hq) hnm hbm hF2
   refine K_fallEnd hE Tryz.func33 rfl _ rfl ⟨_, hR2, rfl⟩ (Ent.fin [0, 1] 1 rfl rfl)
end Go.Proofs.YtpecmnaikjbanaaGreatDoor
/- files, part r: Rename. -/
namespace Go.Proofs.YtpecmnaikjbanaaGreatDoor
open Go Go.SL
attribute [local irreducible] J K Ctr Ends pts slc mapR mapI sbRow stock arrS
theorem Rename_any (bd : Nat) (D : Dk) (A : Ab) (hR : Rel D A) (old name : ByteArray) (hst : A.states.length ≤ 1000000000) :
  Ctr Tryz.prog 110 [ptr bd, .string old, .string name] [disk bd D]
   (fun v H => ∃ D', Rel D' (A.rename ([old, name].all isName) old name).2 ∧ H = [disk bd D'] ∧ v = .int .i64 (A.rename ([old, name].all isName) old name).1) := by
 refine Ctr.enter Tryz.func110 (by kernel_rfl) rfl Tryz.ntmps110 rfl rfl ?_
 intro G F R hE
 refine go ?_
 refine J_box rfl rfl (fun _ _ _ => trivial) ?_
 intro box1
 refine J_box rfl rfl (fun _ _ _ => trivial) ?_
 intro box2
 refine go ?_
 cases hfo : (A.find old ([old, name].all isName)).2.1 with
 | none =>
  refine K_drawA (fun w => Sat G w ([pts box2 (cl [.string name] 9), pts box1 (cl [.string old] 9)])) (.st 0 (.st 1 (.st 2 (.st 3 (.fork (.act 4 (.fork (.act 5 (.fork (.act 6 (.st 7 (.st 8 (.st 9 (.act 10 (.act 11 (.st 12 .nil))))))) (.act 10 (.act 6 (.st 7 (.st 8 (.st 9 (.act 11 (.st 12 .nil))))))))) (.act 10 (.act 5 (.act 6 (.st 7 (.st 8 (.st 9 (.act 11 (.st 12 .nil)))))))))) (.act 10 (.act 4 (.act 5 (.act 6 (.st 7 (.st 8 (.st 9 (.act 11 (.st 12 .nil)))))))))))))) rfl (by kernel_rfl) (by kernel_rfl) (by kernel_rfl) (fun w hw => hw.ent (Ent.pickOnly ([0, 1]) rfl)) ?_
  repeat' (first | (with_reducible intro _hh) | refine go1 ?_ | refine J_fork ?_ ?_ | refine J_gsP rfl rfl rfl rfl ?_ ?_ | refine K_condP rfl rfl ?_ ?_ | (refine J_buildSlice1 (U := tab) rfl rfl rfl rfl rfl rfl rfl rfl rfl (fun _ w hw => hw.ent (by first | exact Ent.pickOnly [0, 1] rfl | exact Ent.pickOnly [1, 2] rfl | exact Ent.pickOnly [2, 3] rfl | exact Ent.pickOnly [3, 4] rfl)) ?_; intro _) | (refine J_alloc (U := tab) rfl rfl rfl (fun _ w hw => hw.ent (by first | exact Ent.pickOnly [0, 1] rfl | exact Ent.pickOnly [1, 2] rfl | exact Ent.pickOnly [2, 3] rfl | exact Ent.pickOnly [3, 4] rfl)) ?_; intro _) | (refine J_call [0] rfl rfl rfl rfl (right_any _ _ [old, name] (Vw.pts rfl) (by simp)) rfl (fun _ _ w hp hw => by obtain ⟨_, rfl⟩ := hp; exact (fun _ w hw => hw.ent (by first | exact Ent.pickOnly [0, 1] rfl | exact Ent.pickOnly [1, 2] rfl | exact Ent.pickOnly [2, 3] rfl | exact Ent.pickOnly [3, 4] rfl)) 0 w hw) ?_; rintro _ _ ⟨rfl, rfl⟩) | (refine J_call [1] rfl rfl rfl rfl (right_any _ _ [old, name] (Vw.pts rfl) (by simp)) rfl (fun _ _ w hp hw => by obtain ⟨_, rfl⟩ := hp; exact (fun _ w hw => hw.ent (by first | exact Ent.pickOnly [0, 1] rfl | exact Ent.pickOnly [1, 2] rfl | exact Ent.pickOnly [2, 3] rfl | exact Ent.pickOnly [3, 4] rfl)) 0 w hw) ?_; rintro _ _ ⟨rfl, rfl⟩) | (refine J_call [3] rfl rfl rfl rfl (find_any bd D A hR old ([old, name].all isName)) rfl (fun _ _ w hp hw => by obtain ⟨_, _, rfl, _⟩ := hp; exact (fun _ w hw => hw.ent (by first | exact Ent.pickOnly [0, 1] rfl | exact Ent.pickOnly [1, 2] rfl | exact Ent.pickOnly [2, 3] rfl | exact Ent.pickOnly [3, 4] rfl)) 0 w hw) ?_; rintro _ _ ⟨D', hR', rfl, rfl⟩; rw [hfo]) | (refine J_call [4] rfl rfl rfl rfl (find_any bd D A hR old ([old, name].all isName)) rfl (fun _ _ w hp hw => by obtain ⟨_, _, rfl, _⟩ := hp; exact (fun _ w hw => hw.ent (by first | exact Ent.pickOnly [0, 1] rfl | exact Ent.pickOnly [1, 2] rfl | exact Ent.pickOnly [2, 3] rfl | exact Ent.pickOnly [3, 4] rfl)) 0 w hw) ?_; rintro _ _ ⟨D', hR', rfl, rfl⟩; rw [hfo]) | (refine J_isStore ?_; first | refine J_store (U := tab) 0 (fun w hw => (fun _ w hw => hw.ent (by first | exact Ent.pickOnly [0, 1] rfl | exact Ent.pickOnly [1, 2] rfl | exact Ent.pickOnly [2, 3] rfl | exact Ent.pickOnly [3, 4] rfl)) 0 w hw) rfl rfl rfl rfl rfl rfl rfl rfl rfl ?_ | refine J_store (U := tab) 1 (fun w hw => (fun _ w hw => hw.ent (by first | exact Ent.pickOnly [0, 1] rfl | exact Ent.pickOnly [1, 2] rfl | exact Ent.pickOnly [2, 3] rfl | exact Ent.pickOnly [3, 4] rfl)) 0 w hw) rfl rfl rfl rfl rfl rfl rfl rfl rfl ?_ | refine J_store (U := tab) 2 (fun w hw => (fun _ w hw => hw.ent (by first | exact Ent.pickOnly [0, 1] rfl | exact Ent.pickOnly [1, 2] rfl | exact Ent.pickOnly [2, 3] rfl | exact Ent.pickOnly [3, 4] rfl)) 0 w hw) rfl rfl rfl rfl rfl rfl rfl rfl rfl ?_))
  all_goals (
   have h0' : ¬ (A.find old ([old, name].all isName)).1 = 0 := fun h => by obtain ⟨_, fl, h1, _⟩ := find_parts h; rw [hfo] at h1; cases h1
   have hw : A.rename ([old, name].all isName) old name = ((A.find old ([old, name].all isName)).1, (A.find old ([old, name].all isName)).2.2) := by
    unfold Ab.rename
    generalize A.find old ([old, name].all isName) = z at h0' hfo ⊢
    obtain ⟨e, fo, A1⟩ := z
    simp only at hfo
    subst hfo
    cases e <;> rfl
   rw [hw] at hE
   first
   | (exfalso; omega)
   | refine K_return hE Tryz.func110 rfl _ rfl ⟨D', hR', rfl, rfl⟩ (Ent.fin [0] 4 rfl rfl)
   | refine K_return hE Tryz.func110 rfl _ rfl ⟨D', hR', rfl, rfl⟩ (Ent.fin [1] 4 rfl rfl))
 | some fl =>
  refine K_drawA (fun w => Sat G w ([pts box2 (cl [.string name] 9), pts box1 (cl [.string old] 9)])) (.st 0 (.st 1 (.st 2 (.st 3 (.fork (.act 4 (.fork (.act 5 (.fork (.act 6 (.st 7 (.st 8 (.st 9 (.act 10 (.act 11 (.st 12 .nil))))))) (.act 10 (.act 6 (.st 7 (.st 8 (.st 9 (.act 11 (.st 12 .nil))))))))) (.act 10 (.act 5 (.act 6 (.st 7 (.st 8 (.st 9 (.act 11 (.st 12 .nil)))))))))) (.act 10 (.act 4 (.act 5 (.act 6 (.st 7 (.st 8 (.st 9 (.act 11 (.st 12 .nil)))))))))))))) rfl (by kernel_rfl) (by kernel_rfl) (by kernel_rfl) (fun w hw => hw.ent (Ent.pickOnly ([0, 1]) rfl)) ?_
  repeat' (first | (with_reducible intro _hh) | refine go1 ?_ | refine J_fork ?_ ?_ | refine J_gsP rfl rfl rfl rfl ?_ ?_ | refine K_condP rfl rfl ?_ ?_ | (refine J_buildSlice1 (U := tab) rfl rfl rfl rfl rfl rfl rfl rfl rfl (fun _ w hw => hw.ent (by first | exact Ent.pickOnly [0, 1] rfl | exact Ent.pickOnly [1, 2] rfl | exact Ent.pickOnly [2, 3] rfl | exact Ent.pickOnly [3, 4] rfl)) ?_; intro _) | (refine J_alloc (U := tab) rfl rfl rfl (fun _ w hw => hw.ent (by first | exact Ent.pickOnly [0, 1] rfl | exact Ent.pickOnly [1, 2] rfl | exact Ent.pickOnly [2, 3] rfl | exact Ent.pickOnly [3, 4] rfl)) ?_; intro _) | (refine J_call [0] rfl rfl rfl rfl (right_any _ _ [old, name] (Vw.pts rfl) (by simp)) rfl (fun _ _ w hp hw => by obtain ⟨_, rfl⟩ := hp; exact (fun _ w hw => hw.ent (by first | exact Ent.pickOnly [0, 1] rfl | exact Ent.pickOnly [1, 2] rfl | exact Ent.pickOnly [2, 3] rfl | exact Ent.pickOnly [3, 4] rfl)) 0 w hw) ?_; rintro _ _ ⟨rfl, rfl⟩) | (refine J_call [1] rfl rfl rfl rfl (right_any _ _ [old, name] (Vw.pts rfl) (by simp)) rfl (fun _ _ w hp hw => by obtain ⟨_, rfl⟩ := hp; exact (fun _ w hw => hw.ent (by first | exact Ent.pickOnly [0, 1] rfl | exact Ent.pickOnly [1, 2] rfl | exact Ent.pickOnly [2, 3] rfl | exact Ent.pickOnly [3, 4] rfl)) 0 w hw) ?_; rintro _ _ ⟨rfl, rfl⟩) | (refine J_call [3] rfl rfl rfl rfl (find_any bd D A hR old ([old, name].all isName)) rfl (fun _ _ w hp hw => by obtain ⟨_, _, rfl, _⟩ := hp; exact (fun _ w hw => hw.ent (by first | exact Ent.pickOnly [0, 1] rfl | exact Ent.pickOnly [1, 2] rfl | exact Ent.pickOnly [2, 3] rfl | exact Ent.pickOnly [3, 4] rfl)) 0 w hw) ?_; rintro _ _ ⟨D', hR', rfl, rfl⟩; rw [hfo]) | (refine J_call [4] rfl rfl rfl rfl (find_any bd D A hR old ([old, name].all isName)) rfl (fun _ _ w hp hw => by obtain ⟨_, _, rfl, _⟩ := hp; exact (fun _ w hw => hw.ent (by first | exact Ent.pickOnly [0, 1] rfl | exact Ent.pickOnly [1, 2] rfl | exact Ent.pickOnly [2, 3] rfl | exact Ent.pickOnly [3, 4] rfl)) 0 w hw) ?_; rintro _ _ ⟨D', hR', rfl, rfl⟩; rw [hfo]) | (refine J_isStore ?_; first | refine J_store (U := tab) 0 (fun w hw => (fun _ w hw => hw.ent (by first | exact Ent.pickOnly [0, 1] rfl | exact Ent.pickOnly [1, 2] rfl | exact Ent.pickOnly [2, 3] rfl | exact Ent.pickOnly [3, 4] rfl)) 0 w hw) rfl rfl rfl rfl rfl rfl rfl rfl rfl ?_ | refine J_store (U := tab) 1 (fun w hw => (fun _ w hw => hw.ent (by first | exact Ent.pickOnly [0, 1] rfl | exact Ent.pickOnly [1, 2] rfl | exact Ent.pickOnly [2, 3] rfl | exact Ent.pickOnly [3, 4] rfl)) 0 w hw) rfl rfl rfl rfl rfl rfl rfl rfl rfl ?_ | refine J_store (U := tab) 2 (fun w hw => (fun _ w hw => hw.ent (by first | exact Ent.pickOnly [0, 1] rfl | exact Ent.pickOnly [1, 2] rfl | exact Ent.pickOnly [2, 3] rfl | exact Ent.pickOnly [3, 4] rfl)) 0 w hw) rfl rfl rfl rfl rfl rfl rfl rfl rfl ?_))
  all_goals (
   have h0' : (A.find old ([old, name].all isName)).1 = 0 := by
    rcases Nat.eq_zero_or_pos (A.find old ([old, name].all isName)).1 with h | h
    ·exact h
    ·exfalso
     unfold Ab.find at hfo h
     split at hfo
     ·rename_i h1
      rw [if_pos h1] at h
      cases hl : (A.meet ([old, name].all isName)).2.look old with
      | none => rw [hl] at hfo; cases hfo
      | some f => rw [hl] at h; simp at h
     ·cases hfo)
  any_goals (exfalso; omega)
  all_goals (
   obtain ⟨_, fl', hfl', hmem⟩ := find_parts h0'
   rw [hfo] at hfl'
   cases hfl'
   have hw : A.rename ([old, name].all isName) old name = (0, (A.find old ([old, name].all isName)).2.2.chg (Ab.setN (Ab.delN (A.find old ([old, name].all isName)).2.2.names old) name fl)) := by
    unfold Ab.rename
    generalize A.find old ([old, name].all isName) = z at h0' hfo ⊢
    obtain ⟨e, fo, A1⟩ := z
    simp only at h0' hfo
    subst h0' hfo
    rfl
   rw [hw] at hE
   have hst' : (A.find old ([old, name].all isName)).2.2.states.length ≤ 1000000000 := by rw [(find_same A old _).2.2.1]; exact hst
   generalize (A.find old ([old, name].all isName)).2.2 = A1 at *
   have hst2 : D'.stb.length ≤ 1000000000 := by rw [hR'.states.1]; exact hst'
   have hN := hR'.smallN _ (List.mem_cons_self ..)
   have hlt := delN_lt hmem
   have hln := setN_len (Ab.delN A1.names old) name fl
   have hchg : ∀ b' v, Rel { D' with bm := b', maps := (b', ptrs (Ab.setN (Ab.delN A1.names old) name fl)) :: D'.maps, sts := v, stb := D'.stb ++ [b'] } (A1.chg (Ab.setN (Ab.delN A1.names old) name fl)) := fun b' v => hR'.chg
    (fun x hx => by
     rcases setN_mem hx with rfl | hx
     ·have := hR'.known _ (List.mem_cons_self ..) _ hmem; exact this
     ·exact hR'.known _ (List.mem_cons_self ..) _ (delN_sub hx).1)
    (setN_nodup (delN_nodup (hR'.nodup _ (List.mem_cons_self ..)) old) name fl) (by omega)
   first
   | (refine J_ent (Ent.pick ([4, 0, 3, 1]) rfl) ?_; refine J_ent (Ent.resep [_, _, _] _) ?_; refine J_call [1, 0] rfl rfl rfl rfl (change_any (α := Unit) bd D' A1.names hR'.names 147 #[ptr box1, ptr _, ptr box2] _ (fun _ => Ab.setN (Ab.delN A1.names old) name fl) (fun _ => emp) (fun _ => True) (fun b' => Ctr.post (Rename1_any b' box1 _ box2 fl A1.names old name) (fun v H h => ⟨(), trivial, h⟩)) hst2) rfl (fun _ _ _ _ _ => trivial) ?_; rintro _ _ ⟨_, b', v, _, rfl⟩; refine go ?_; refine K_return hE Tryz.func110 rfl _ rfl ⟨_, hchg b' v, rfl, rfl⟩ (Ent.fin [0] 2 rfl rfl))
   | (refine J_ent (Ent.pick ([4, 1, 3, 0]) rfl) ?_; refine J_ent (Ent.resep [_, _, _] _) ?_; refine J_call [1, 0] rfl rfl rfl rfl (change_any (α := Unit) bd D' A1.names hR'.names 147 #[ptr box1, ptr _, ptr box2] _ (fun _ => Ab.setN (Ab.delN A1.names old) name fl) (fun _ => emp) (fun _ => True) (fun b' => Ctr.post (Rename1_any b' box1 _ box2 fl A1.names old name) (fun v H h => ⟨(), trivial, h⟩)) hst2) rfl (fun _ _ _ _ _ => trivial) ?_; rintro _ _ ⟨_, b', v, _, rfl⟩; refine go ?_; refine K_return hE Tryz.func110 rfl _ rfl ⟨_, hchg b' v, rfl, rfl⟩ (Ent.fin [0] 2 rfl rfl))
   | (refine J_ent (Ent.pick ([4, 2, 3, 0]) rfl) ?_; refine J_ent (Ent.resep [_, _, _] _) ?_; refine J_call [1, 0] rfl rfl rfl rfl (change_any (α := Unit) bd D' A1.names hR'.names 147 #[ptr box1, ptr _, ptr box2] _ (fun _ => Ab.setN (Ab.delN A1.names old) name fl) (fun _ => emp) (fun _ => True) (fun b' => Ctr.post (Rename1_any b' box1 _ box2 fl A1.names old name) (fun v H h => ⟨(), trivial, h⟩)) hst2) rfl (fun _ _ _ _ _ => trivial) ?_; rintro _ _ ⟨_, b', v, _, rfl⟩; refine go ?_; refine K_return hE Tryz.func110 rfl _ rfl ⟨_, hchg b' v, rfl, rfl⟩ (Ent.fin [0] 2 rfl rfl)))
end Go.Proofs.YtpecmnaikjbanaaGreatDoor
/- Engine, part K: rows of any cells that nobody writes any more. Nothing here names a program. -/
namespace Go.SL
theorem Ctr.conv {P : Program} {f : FuncId} {args : List Value} {Pre Pre' : List HP} {Post Post' : Value → List HP → Prop} (c : Ctr P f args Pre Post) (h : Ent Pre' Pre) (hp : ∀ v H, Post v H → ∃ H', Post' v H' ∧ Ent H H') : Ctr P f args Pre' Post' :=
 ⟨c.1, fun G w F hw => (c.2 G w F (hw.ent (Ent.append F h))).mono fun e w' h' => let ⟨v, H, he, hpo, hs⟩ := h'; let ⟨H', hq, hE⟩ := hp v H hpo; ⟨v, H', he, hq, hs.ent (Ent.append F hE)⟩⟩
theorem Ctr.frame {P : Program} {f : FuncId} {args : List Value} {Pre : List HP} {Post : Value → List HP → Prop} (X : List HP) (c : Ctr P f args Pre Post) : Ctr P f args (Pre ++ X) (fun v H => ∃ H', Post v H' ∧ H = H' ++ X) :=
 ⟨c.1, fun G w F hw => (c.2 G w (X ++ F) (by rw [List.append_assoc] at hw; exact hw)).mono fun e w' h' => let ⟨v, H, he, hpo, hs⟩ := h'; ⟨v, H ++ X, he, ⟨H, hpo, rfl⟩, by rw [List.append_assoc]; exact hs⟩⟩
end Go.SL
/- the disk as it is known, without its inner parts; steps; how a disk's lists grow. -/
namespace Go.Proofs.YtpecmnaikjbanaaGreatDoor
open Go Go.SL
def Runs {σ : Type} : List (σ → Nat → σ → Prop) → σ → Nat → σ → Prop
 | [], x, e, y => e = 0 ∧ y = x
 | s :: ss, x, e, y => ∃ e1 x1, s x e1 x1 ∧ ((e1 ≠ 0 ∧ e = e1 ∧ y = x1) ∨ (e1 = 0 ∧ Runs ss x1 e y))
end Go.Proofs.YtpecmnaikjbanaaGreatDoor
namespace Go.Proofs.YtpecmnaikjbanaaGreatDoor
open Go Go.SL
attribute [local irreducible] J K Ctr Ends pts slc mapR mapI sbRow stock arrS
def diskA (bd : Nat) (A : Ab) : HP := fun h => ∃ D, Rel D A ∧ disk bd D h
theorem diskA_in {bd : Nat} {D : Dk} {A : Ab} (h : Rel D A) (H : List HP) : Ent (disk bd D :: H) (diskA bd A :: H) := Ent.fold (B := [_]) fun h' hs => ⟨h', sub.refl h', D, h, Sep_one hs⟩
theorem sat_diskA {G : Glob} {w : World} {bd : Nat} {A : Ab} {H : List HP} (hs : Sat G w (diskA bd A :: H)) : ∃ D, Rel D A ∧ Sat G w (disk bd D :: H) := by
 obtain ⟨t, o, u, hp, hpw, h1, h2, ⟨D, hR, hA⟩, hH, hd, he⟩ := hs
 exact ⟨D, hR, t, o, u, hp, hpw, h1, h2, hA, hH, hd, he⟩
end Go.Proofs.YtpecmnaikjbanaaGreatDoor
namespace Go.Proofs.YtpecmnaikjbanaaGreatDoor
open Go Go.SL
theorem ctr_disk {P : Program} {f : FuncId} {args : List Value} {bd : Nat} {A : Ab} {Pre : List HP} {Post Post' : Value → List HP → Prop} (hc : P.funcs[f]?.map callable = some true)
    (h : ∀ D, Rel D A → Ctr P f args (disk bd D :: Pre) Post) (hp : ∀ v H, Post v H → ∃ H', Post' v H' ∧ Ent H H') : Ctr P f args (diskA bd A :: Pre) Post' :=
  ⟨hc, fun G w F hw => by
    obtain ⟨D, hR, hw1⟩ := sat_diskA hw
    exact ((h D hR).2 G w F hw1).mono fun e w' h' => let ⟨v, H, he, hpo, hs⟩ := h'; let ⟨H', hq, hE⟩ := hp v H hpo; ⟨v, H', he, hq, hs.ent (Ent.append F hE)⟩⟩
attribute [local irreducible] J K Ctr Ends pts slc mapR mapI sbRow stock arrS
theorem Off_dA (bd : Nat) (A : Ab) : Ctr Tryz.prog 37 [ptr bd] [diskA bd A] (fun v H => v = .bool A.off ∧ H = [diskA bd A]) := by
 refine ctr_disk (by kernel_rfl) (Post := fun v H => v = .bool A.off ∧ H = [diskA bd A]) (fun D hR => ?_) (fun v H h => ⟨H, h, Ent.refl _⟩)
 obtain ⟨room, bm, sts, wrs, pln, off, maps, arrs, files, stb, wl⟩ := D
 have hoff := hR.off
 simp only at hoff
 subst hoff
 refine Ctr.enter Tryz.func37 (by kernel_rfl) rfl Tryz.ntmps37 rfl rfl ?_
 intro G F R hE
 refine K_ent (disk_o _ _ _ _ _ _ _ _ _ _ _ _ _) ?_
 refine go ?_
 refine K_ent ((Ent.pick [0, 1, 2, 3, 4, 5] rfl).trans (disk_c _ _ _ _ _ _ _ _ _ _ _ _ _)) ?_
 refine K_ent (diskA_in hR _) ?_
 (first | refine K_return hE Tryz.func37 rfl _ rfl ⟨rfl, rfl⟩ entA | refine K_fallEnd hE Tryz.func37 rfl _ rfl ⟨rfl, rfl⟩ entA)
theorem New_dA (room : Nat) (h1 : 1 ≤ room) (h2 : room ≤ 1073741824) : Ctr Tryz.prog 11 [.int .i64 room] [] (fun v H => ∃ bd, v = .tuple #[ptr bd, .int .i64 0] ∧ H = [diskA bd (Ab.new room)]) :=
 (New_good room h1 h2).conv (Ent.refl _) (by rintro v H ⟨bd, D, hR, rfl, rfl⟩; exact ⟨_, ⟨bd, rfl, rfl⟩, diskA_in hR _⟩)
theorem Size_dA (bd : Nat) (A : Ab) (name : ByteArray) : Ctr Tryz.prog 67 [ptr bd, .string name] [diskA bd A] (fun v H => H = [diskA bd A] ∧ v = .tuple #[.int .i64 (A.size name).1, .int .i64 (A.size name).2]) :=
 ctr_disk (by kernel_rfl) (Post := fun v H => ∃ D, Rel D A ∧ H = [disk bd D] ∧ v = .tuple #[.int .i64 (A.size name).1, .int .i64 (A.size name).2]) (fun D hR => (Size_any bd D A hR name).conv (Ent.refl _) (by rintro v H ⟨rfl, rfl⟩; exact ⟨_, ⟨D, hR, rfl, rfl⟩, Ent.refl _⟩)) (by rintro v H ⟨D, hR, rfl, rfl⟩; exact ⟨_, ⟨rfl, rfl⟩, diskA_in hR _⟩)
theorem Read_dA (bd : Nat) (A : Ab) (name : ByteArray) (at_ n : Int) : Ctr Tryz.prog 78 [ptr bd, .string name, .int .i64 at_, .int .i64 n] [diskA bd A]
  (fun v H => ∃ r, H = [diskA bd A, slc 5 1 r (A.read name at_ n).1.length (bV (A.read name at_ n).1)] ∧ v = .tuple #[r, .int .i64 (A.read name at_ n).2]) :=
 ctr_disk (by kernel_rfl) (Post := fun v H => ∃ D r, Rel D A ∧ H = [slc 5 1 r (A.read name at_ n).1.length (bV (A.read name at_ n).1), disk bd D] ∧ v = .tuple #[r, .int .i64 (A.read name at_ n).2])
  (fun D hR => (Read_any bd D A hR name at_ n).conv (Ent.refl _) (by rintro v H ⟨r, rfl, rfl⟩; exact ⟨_, ⟨D, r, hR, rfl, rfl⟩, Ent.refl _⟩)) (by rintro v H ⟨D, r, hR, rfl, rfl⟩; exact ⟨_, ⟨r, rfl, rfl⟩, (Ent.pick [1, 0] rfl).trans (diskA_in hR _)⟩)
theorem Create_dA (bd : Nat) (A : Ab) (name : ByteArray) (hst : A.states.length ≤ 1000000000) : Ctr Tryz.prog 57 [ptr bd, .string name] [diskA bd A]
  (fun v H => ∃ f, f ∉ A.fs.map (·.1) ∧ H = [diskA bd (A.create (isName name) name f).2] ∧ v = .int .i64 (A.create (isName name) name f).1) :=
 ctr_disk (by kernel_rfl) (fun D hR => Create_any bd D A hR name hst) (by rintro v H ⟨f, D', hf, hR, rfl, rfl⟩; exact ⟨_, ⟨f, hf, rfl, rfl⟩, diskA_in hR _⟩)
theorem Remove_dA (bd : Nat) (A : Ab) (name : ByteArray) (hst : A.states.length ≤ 1000000000) : Ctr Tryz.prog 69 [ptr bd, .string name] [diskA bd A]
  (fun v H => H = [diskA bd (A.remove (isName name) name).2] ∧ v = .int .i64 (A.remove (isName name) name).1) :=
 ctr_disk (by kernel_rfl) (fun D hR => Remove_any bd D A hR name hst) (by rintro v H ⟨D', hR, rfl, rfl⟩; exact ⟨_, ⟨rfl, rfl⟩, diskA_in hR _⟩)
theorem Write_dA (bd : Nat) (A : Ab) (name : ByteArray) (at_ : Int) (X : HP) (bv : Value) (b : List UInt8) (hv : Vw X bv b.length (bV b)) (hwl : A.writes.length ≤ 1000000000) (hbl : b.length ≤ 1000000000) (hat : -9223372036854775808 ≤ at_ ∧ at_ ≤ 9223372036854775807) :
  Ctr Tryz.prog 62 [ptr bd, .string name, .int .i64 at_, bv] [diskA bd A, X]
   (fun v H => H = [diskA bd (A.write (mayW name at_ b) name at_.toNat b).2, X] ∧ v = .int .i64 (A.write (mayW name at_ b) name at_.toNat b).1) :=
 ctr_disk (by kernel_rfl) (fun D hR => Write_any bd D A hR name at_ X bv b hv hwl hbl hat) (by rintro v H ⟨D', hR, rfl, rfl⟩; exact ⟨_, ⟨rfl, rfl⟩, diskA_in hR _⟩)
theorem Sync_dA (bd : Nat) (A : Ab) (name : ByteArray) (hwl : A.writes.length ≤ 1000000000) : Ctr Tryz.prog 108 [ptr bd, .string name] [diskA bd A]
  (fun v H => H = [diskA bd (A.sync (isName name) name).2] ∧ v = .int .i64 (A.sync (isName name) name).1) :=
 ctr_disk (by kernel_rfl) (fun D hR => Sync_any bd D A hR name hwl) (by rintro v H ⟨D', hR, rfl, rfl⟩; exact ⟨_, ⟨rfl, rfl⟩, diskA_in hR _⟩)
theorem SyncNames_dA (bd : Nat) (A : Ab) : Ctr Tryz.prog 51 [ptr bd] [diskA bd A]
  (fun v H => H = [diskA bd A.syncNames.2] ∧ v = .int .i64 A.syncNames.1) :=
 ctr_disk (by kernel_rfl) (fun D hR => SyncNames_any bd D A hR) (by rintro v H ⟨D', hR, rfl, rfl⟩; exact ⟨_, ⟨rfl, rfl⟩, diskA_in hR _⟩)
theorem Rename_dA (bd : Nat) (A : Ab) (old name : ByteArray) (hst : A.states.length ≤ 1000000000) : Ctr Tryz.prog 110 [ptr bd, .string old, .string name] [diskA bd A]
  (fun v H => H = [diskA bd (A.rename ([old, name].all isName) old name).2] ∧ v = .int .i64 (A.rename ([old, name].all isName) old name).1) :=
 ctr_disk (by kernel_rfl) (fun D hR => Rename_any bd D A hR old name hst) (by rintro v H ⟨D', hR, rfl, rfl⟩; exact ⟨_, ⟨rfl, rfl⟩, diskA_in hR _⟩)
theorem Crash_dA (bd : Nat) (A : Ab) (last torn cut : Int) (X : HP) (bv : Value) (stay : List UInt8) (hv : Vw X bv stay.length (bV stay)) (hsl : stay.length ≤ 9223372036854775807) (hst : A.states.length ≤ 1000000000) (hwl : A.writes.length ≤ 1000000000)
  (h1 : -9223372036854775808 ≤ last ∧ last ≤ 9223372036854775807) (h2 : -9223372036854775808 ≤ torn ∧ torn ≤ 9223372036854775807) (h3 : -9223372036854775808 ≤ cut ∧ cut ≤ 9223372036854775807) :
  Ctr Tryz.prog 33 [ptr bd, .int .i64 last, bv, .int .i64 torn, .int .i64 cut] [diskA bd A, X] (fun v H => H = [diskA bd (A.crash last stay torn cut), X]) :=
 ctr_disk (by kernel_rfl) (fun D hR => Crash_any bd D A hR last torn cut X bv stay hv hsl hst hwl h1 h2 h3) (by rintro v H ⟨D', hR, rfl⟩; exact ⟨_, rfl, diskA_in hR _⟩)
end Go.Proofs.YtpecmnaikjbanaaGreatDoor
namespace Go.Proofs.YtpecmnaikjbanaaGreatDoor
open Go Go.SL
def Grow1 (A B : Ab) : Prop := B.states.length ≤ A.states.length + 1 ∧ B.writes.length ≤ A.writes.length + 1
theorem grow_find (A : Ab) (n : ByteArray) (ok : Bool) : (A.find n ok).2.2.states.length = A.states.length ∧ (A.find n ok).2.2.writes.length = A.writes.length := by
 have h := find_same A n ok
 rw [h.2.2.1, h.2.2.2.1]; exact ⟨rfl, rfl⟩
theorem grow_meet (A : Ab) (ok : Bool) : (A.meet ok).2.states.length = A.states.length ∧ (A.meet ok).2.writes.length = A.writes.length := by
 unfold Ab.meet
 split
 ·exact ⟨rfl, rfl⟩
 split
 ·exact ⟨rfl, rfl⟩
 split
 ·exact ⟨rfl, rfl⟩
 ·split
  ·exact ⟨rfl, rfl⟩
  split <;> exact ⟨rfl, rfl⟩
theorem grow_remove (A : Ab) (ok : Bool) (n : ByteArray) : Grow1 A (A.remove ok n).2 := by
 have h := grow_find A n ok
 unfold Ab.remove
 split
 ·rename_i f A1 he
  rw [he] at h
  simp only at h
  constructor <;> simp [Ab.chg] <;> omega
 ·rename_i e o A1 _ he
  rw [he] at h
  simp only at h
  constructor <;> simp only <;> omega
theorem grow_rename (A : Ab) (ok : Bool) (o n : ByteArray) : Grow1 A (A.rename ok o n).2 := by
 have h := grow_find A o ok
 unfold Ab.rename
 split
 ·rename_i f A1 he
  rw [he] at h
  simp only at h
  constructor <;> simp [Ab.chg] <;> omega
 ·rename_i e o A1 _ he
  rw [he] at h
  simp only at h
  constructor <;> simp only <;> omega
theorem grow_create (A : Ab) (ok : Bool) (n : ByteArray) (f : Nat) : Grow1 A (A.create ok n f).2 := by
 have h := grow_meet A ok
 unfold Ab.create
 split
 ·split
  ·constructor <;> simp only <;> omega
  split
  ·constructor <;> simp only <;> omega
  ·constructor <;> simp [Ab.chg] <;> omega
 ·constructor <;> simp only <;> omega
theorem grow_write (A : Ab) (ok : Bool) (n : ByteArray) (at_ : Nat) (b : List UInt8) : Grow1 A (A.write ok n at_ b).2 := by
 have h := grow_find A n ok
 unfold Ab.write
 split
 ·split
  ·split
   ·constructor <;> simp only <;> omega
   ·constructor <;> simp <;> omega
  ·constructor <;> simp only <;> omega
 ·constructor <;> simp only <;> omega
theorem grow_sync (A : Ab) (ok : Bool) (n : ByteArray) : Grow1 A (A.sync ok n).2 := by
 have h := grow_find A n ok
 unfold Ab.sync
 split
 ·split
  ·constructor
   ·simp only; omega
   ·simp only
    refine Nat.le_trans (List.length_filter_le _ _) ?_
    omega
  ·constructor <;> simp only <;> omega
 ·constructor <;> simp only <;> omega
theorem grow_syncNames (A : Ab) : Grow1 A A.syncNames.2 := by
 have h := grow_meet A true
 unfold Ab.syncNames
 split
 ·constructor <;> simp only [List.length_singleton] <;> omega
 ·constructor <;> simp only <;> omega
end Go.Proofs.YtpecmnaikjbanaaGreatDoor
/- files, part gg0 (plain): which names there are. -/
namespace Go.Proofs.YtpecmnaikjbanaaGreatDoor
open Go Go.SL
instance memDec (n : ByteArray) (K : List ByteArray) : Decidable (n ∈ K) := decidable_of_iff (K.any (fun x => decide (x = n)) = true) (by rw [List.any_eq_true]; exact ⟨fun ⟨x, hx, h⟩ => of_decide_eq_true h ▸ hx, fun h => ⟨n, h, decide_eq_true rfl⟩⟩)
def keysA (A : Ab) : List ByteArray := A.names.map (·.1)
theorem nodup_len2 {α : Type} {a b : List α} (ha : a.Nodup) (hb : b.Nodup) (h : ∀ n, n ∈ a ↔ n ∈ b) : a.length = b.length :=
 ((List.perm_ext_iff_of_nodup ha hb).2 h).length_eq
def sortB (l : List ByteArray) : List (List UInt8) := (l.map fun b => b.data.toList).mergeSort fun x y => decide (x ≤ y)
theorem sortB_sorted (l : List ByteArray) : (sortB l).Pairwise (· ≤ ·) :=
 (List.pairwise_mergeSort (le := fun x y : List UInt8 => decide (x ≤ y)) (fun a b c h1 h2 => decide_eq_true (List.le_trans (of_decide_eq_true h1) (of_decide_eq_true h2))) (fun a b => by simpa using List.le_total a b) _).imp fun h => of_decide_eq_true h
theorem sortB_perm0 (l : List ByteArray) : (sortB l).Perm (l.map fun b => b.data.toList) := List.mergeSort_perm _ _
theorem sortB_perm {a b : List ByteArray} (h : a.Perm b) : sortB a = sortB b :=
 List.Perm.eq_of_pairwise (fun x y _ _ h1 h2 => List.le_antisymm h1 h2) (sortB_sorted a) (sortB_sorted b) ((sortB_perm0 a).trans ((h.map _).trans (sortB_perm0 b).symm))
theorem sortB_len (l : List ByteArray) : (sortB l).length = l.length := by rw [(sortB_perm0 l).length_eq, List.length_map]
end Go.Proofs.YtpecmnaikjbanaaGreatDoor
/- blobs, plain: what a store is, and what each change makes of it, as relations. -/
namespace Go.Proofs.YtpecmnaikjbanaaGreatDoor
open Go Go.SL
def kS : List UInt8 := [115, 45]
def kB : List UInt8 := [98, 45]
def kN : List UInt8 := [110, 45]
def kI : List UInt8 := [105, 45]
def hasF (A : Ab) (nm : ByteArray) : Bool := (A.look nm).isSome
def bytesF (A : Ab) (nm : ByteArray) : Option (List UInt8) := match A.look nm with
 | none => none
 | some f => if A.off then none else some (A.now f)
def imageF (A : Ab) (d : Dg) : Option (List Bl) := (bytesF A (fileN kI d)).bind decB
def wholeF (A : Ab) (d : Dg) : Bool := match bytesF A (fileN kB d) with
 | none => false
 | some b => decide (sumL b = d)
def completeF (A : Ab) (d : Dg) : Bool := match imageF A d with
 | none => false
 | some x => decide (nameB x = d) && x.all fun y => wholeF A y.d
def usedF (A : Ab) : Nat := (A.names.map fun x => if (hashN kB x.1).isSome then (A.now x.2).length else 0).sum
def namesF (A : Ab) : List ByteArray := (sortB (keysA A)).map strOf
def imagesF (A : Ab) : List Dg := (namesF A).filterMap (hashN kI)
abbrev Stp := Ab → Nat → Ab → Prop
def stCreate (nm : ByteArray) : Stp := fun A e B => ∃ f, f ∉ A.fs.map (·.1) ∧ (e, B) = A.create (isName nm) nm f
def stRemove (nm : ByteArray) : Stp := fun A e B => (e, B) = A.remove (isName nm) nm
def stWrite (nm : ByteArray) (at_ : Nat) (b : List UInt8) : Stp := fun A e B => (e, B) = A.write (mayW nm at_ b) nm at_ b
def stSync (nm : ByteArray) : Stp := fun A e B => (e, B) = A.sync (isName nm) nm
def stRename (o n : ByteArray) : Stp := fun A e B => (e, B) = A.rename ([o, n].all isName) o n
def stSyncNames : Stp := fun A e B => (e, B) = A.syncNames
def Scrub (kind : List UInt8) (right : Ab → Dg → Bool) : List ByteArray → Stp
 | [], A, e, B => e = 0 ∧ B = A
 | nm :: l, A, e, B => match hashN kind nm with
  | none => Scrub kind right l A e B
  | some d => if right A d then Scrub kind right l A e B else ∃ e1 A1, stRemove nm A e1 A1 ∧ ((e1 ≠ 0 ∧ e = e1 ∧ B = A1) ∨ (e1 = 0 ∧ Scrub kind right l A1 e B))
def stScrub (kind : List UInt8) (right : Ab → Dg → Bool) : Stp := fun A => Scrub kind right (namesF A) A
def OpenS : Stp := fun A e B => ∃ e1 A1, Runs [stScrub kB wholeF, stScrub kN (fun _ _ => false), stScrub kI completeF] A e1 A1 ∧
 if e1 = 0 ∧ A1.names.length < A.names.length then stSyncNames A1 e B else e = e1 ∧ B = A1
structure Sto where
 A : Ab
 beg : List (Dg × Bl)
 brk : Bool
def begL (l : List (Dg × Bl)) (d : Dg) : Option Bl := (l.find? fun x => decide (x.1 = d)).map (·.2)
def openS (s : Sto) (x : Bl) : Bool := decide (begL s.beg x.d = some x)
def usedS (s : Sto) : Int := usedF s.A + (s.beg.map (·.2.size)).sum
def chgS (ss : List Stp) (s : Sto) (e : Nat) (t : Sto) : Prop := ∃ B, Runs ss s.A e B ∧ t = ⟨B, s.beg, s.brk || decide (e ≠ 0)⟩
def mayS (s : Sto) (x : Bl) : Nat := if s.brk then 10 else if openS s x then 0 else 4
def fS (x : Bl) : ByteArray := fileN kS x.d
def fB (x : Bl) : ByteArray := fileN kB x.d
def moveS (o n : ByteArray) : List Stp := [stSync o, stRename o n, stSyncNames]
def BeginR (q : Int) (x : Bl) (s : Sto) (e : Nat) (t : Sto) : Prop :=
 if s.brk then e = 10 ∧ t = s else if rightB x = false then e = 1 ∧ t = s else if (begL s.beg x.d).isSome ∨ hasF s.A (fB x) then e = 5 ∧ t = s
 else if q < usedS s + x.size then e = 11 ∧ t = s
 else if hasF s.A (fS x) then e = 0 ∧ t = ⟨s.A, s.beg ++ [(x.d, x)], s.brk⟩
 else ∃ e1 s1, chgS [stCreate (fS x), stSyncNames] s e1 s1 ∧ ((e1 ≠ 0 ∧ e = e1 ∧ t = s1) ∨ (e1 = 0 ∧ e = 0 ∧ t = ⟨s1.A, s1.beg ++ [(x.d, x)], s1.brk⟩))
def PutS (x : Bl) (i : Int) (b : List UInt8) (s : Sto) (e : Nat) (t : Sto) : Prop :=
 if mayS s x ≠ 0 then e = mayS s x ∧ t = s else match spanB x i with
  | none => e = 1 ∧ t = s
  | some (at_, n) => if (b.length : Int) ≠ n then e = 1 ∧ t = s else chgS [stWrite (fS x) at_.toNat b] s e t
def SyncS (x : Bl) (s : Sto) (e : Nat) (t : Sto) : Prop := if mayS s x ≠ 0 then e = mayS s x ∧ t = s else chgS [stSync (fS x)] s e t
def delB (l : List (Dg × Bl)) (d : Dg) : List (Dg × Bl) := l.filter fun x => !decide (x.1 = d)
def AbortS (x : Bl) (s : Sto) (e : Nat) (t : Sto) : Prop :=
 if mayS s x ≠ 0 then e = mayS s x ∧ t = s else ∃ s1, chgS [stRemove (fS x)] s e s1 ∧ t = if e ≠ 0 then s1 else ⟨s1.A, delB s1.beg x.d, s1.brk⟩
def InstallS (x : Bl) (s : Sto) (e : Nat) (t : Sto) : Prop :=
 if mayS s x ≠ 0 then e = mayS s x ∧ t = s
 else if wholeB x ((bytesF s.A (fS x)).getD []) = false then ∃ e1, AbortS x s e1 t ∧ e = if e1 ≠ 0 then e1 else 8
 else ∃ s1, chgS (moveS (fS x) (fB x)) s e s1 ∧ t = if e ≠ 0 then s1 else ⟨s1.A, delB s1.beg x.d, s1.brk⟩
def CommitS (l : List Bl) (s : Sto) (e : Nat) (t : Sto) : Prop :=
 if s.brk then e = 10 ∧ t = s else if imageB l ≠ 0 then e = imageB l ∧ t = s
 else if hasF s.A (fileN kI (nameB l)) then e = 0 ∧ t = s
 else if l.any (fun y => !hasF s.A (fB y)) then e = 4 ∧ t = s
 else chgS ((if hasF s.A (fileN kN (nameB l)) then [stRemove (fileN kN (nameB l))] else []) ++ [stCreate (fileN kN (nameB l)), stWrite (fileN kN (nameB l)) 0 (encB l)] ++ moveS (fileN kN (nameB l)) (fileN kI (nameB l))) s e t
def keptF (A : Ab) : List Dg := (imagesF A).flatMap fun d => ((imageF A d).getD []).map (·.d)
def SweepL (kept : List Dg) : List Bl → Stp
 | [], A, e, B => e = 0 ∧ B = A
 | y :: l, A, e, B => if y.d ∈ kept ∨ hasF A (fB y) = false then SweepL kept l A e B else ∃ e1 A1, stRemove (fB y) A e1 A1 ∧ ((e1 ≠ 0 ∧ e = e1 ∧ B = A1) ∨ (e1 = 0 ∧ SweepL kept l A1 e B))
def stSweep (x : List Bl) : Stp := fun A e B => ∃ l, l.Perm x ∧ SweepL (keptF A) l A e B
def DropS (d : Dg) (s : Sto) (e : Nat) (t : Sto) : Prop :=
 if s.brk then e = 10 ∧ t = s else match imageF s.A d with
  | none => e = 4 ∧ t = s
  | some x => chgS [stRemove (fileN kI d), stSweep x, stSyncNames] s e t
end Go.Proofs.YtpecmnaikjbanaaGreatDoor
/- Engine, part L: a whole element read where it stands through a region. Nothing here names a program. -/
namespace Go.SL
section
variable {P : Program} {U : Tr} [hU : TabOk P U] {f : FuncId} {n : Nat} {R : Ending → World → Prop} {G : Glob} {k : List Item} {L : Lst} {H H' : List HP} {S : World → Prop} {all : Array Oper} {rest : Pl}
 {ty : TypeId} {pos : String} {af : Array Edge} {gd : Option (Nat × Bool)} {m : Bool} {d : Tmp}
theorem J_loadElemS {Hs : List HP} {t : TypeId} {x : Operand} {b o off nn cap : Nat} {ty' : Ty} {es cs : List Value} {A : HP} (i idx : Nat) (hd : Nat.blt d n = true) (hx : ev L x = some (.pointer (some ⟨b, off, none⟩)))
  (hi : getL Hs i = some A) (hv : Vw A (.slice (some ⟨b, o, none⟩) nn cap) nn cs) (hoff : off = o + idx) (hes : ∀ j v, es[j]? = some v → cs[idx + j]? = some v) (ht : U.get t = some ty') (hg : ty'.isAgg = true) (hl : Nat.beq es.length ty'.info.size = true)
  (h : J P f n R G (fun w => Sat G w Hs) all rest k ((d, .agg es.toArray) :: L) H) : J P f n R G (fun w => Sat G w Hs) all (.cons true true ⟨some d, .load t x, ty, pos, af, gd⟩ rest) k L H :=
 J_readS hd (fun a w ha hw => by
  have hc : ∀ j v, es[j]? = some v → w.cell? ⟨b, off + j, none⟩ = some v := fun j v hj => by
   obtain ⟨h, hh, hA⟩ := Sat.getA hw hi
   have := hv.cell (hes j v hj) h hA
   rw [hoff, show o + idx + j = o + (idx + j) by omega]
   exact cell_of_hcell hh this
  simp [execOp, ha.ev hx, run_loadAgg (P := P) ht hg (Nat.eq_of_beq_eq_true hl) hc]) h
end
end Go.SL
