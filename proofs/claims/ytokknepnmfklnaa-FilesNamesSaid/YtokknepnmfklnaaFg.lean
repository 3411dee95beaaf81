/- files, part g: Write. -/
import Derived.Test.YtokknepnmfklnaaFf
set_option linter.unusedVariables false
set_option linter.unusedSimpArgs false
namespace Go.Proofs.Ytokknepnmfklnaa
open Go Go.SL
attribute [local irreducible] J K Ctr Ends pts slc mapR mapI sbRow stock arrS

def mayW (name : ByteArray) (at_ : Int) (b : List UInt8) : Bool := isName name && decide (0 ≤ at_) && decide (at_ ≤ 1048576) && decide ((b.length : Int) ≤ 1048576 - at_)
theorem find_bad (A : Ab) (name : ByteArray) : A.find name false = (1, none, A) := by simp [Ab.find, Ab.meet]
theorem write_bad (A : Ab) (name : ByteArray) (at_ : Nat) (b : List UInt8) : A.write false name at_ b = (1, A) := by simp [Ab.write, find_bad]

theorem upd_set {fs : List (Nat × List UInt8 × List UInt8)} (hn : (fs.map (·.1)).Nodup) {i f : Nat} {x : List UInt8 × List UInt8} (hi : fs[i]? = some (f, x)) (n : List UInt8) : Ab.upd fs f n = fs.set i (f, n, x.2) := by
  induction fs generalizing i with
  | nil => simp at hi
  | cons y l ih =>
    simp only [List.map_cons, List.nodup_cons] at hn
    cases i with
    | zero =>
      simp at hi
      subst hi
      simp only [Ab.upd, List.map_cons, if_true, List.set_cons_zero, List.cons.injEq, true_and]
      rw [List.map_congr_left (g := id) (fun z hz => ?_), List.map_id]
      have : z.1 ≠ f := fun e => hn.1 (List.mem_map.2 ⟨z, hz, e⟩)
      simp [this]
    | succ i =>
      simp at hi
      have hne : y.1 ≠ f := fun e => hn.1 (List.mem_map.2 ⟨_, List.mem_of_getElem? hi, e.symm⟩)
      have := ih hn.2 hi
      simp only [Ab.upd] at this
      simp only [Ab.upd, List.map_cons, hne, if_false, List.set_cons_succ, this]
theorem upd_ids (fs : List (Nat × List UInt8 × List UInt8)) (f : Nat) (n : List UInt8) : (Ab.upd fs f n).map (·.1) = fs.map (·.1) := by
  simp only [Ab.upd, List.map_map]
  apply List.map_congr_left
  intro x _
  simp only [Function.comp]
  split <;> rfl
theorem Rel.wrote {D : Dk} {A : Ab} (h : Rel D A) {i f at_ : Nat} {v1 v2 v3 v4 : Value} {n b : List UInt8} {arrs' : Arrs} {w : Value} (hi : D.files[i]? = some (f, v1, v2)) (ha : A.fs[i]? = some (f, A.now f, A.sure f))
    (hsub : ∀ x ∈ D.arrs, x ∈ arrs') (hn : BIn arrs' v3 n) (hb : BIn arrs' v4 b) (hnl : n.length ≤ 1048576) (hbl : at_ + b.length ≤ 1048576) :
    Rel { D with files := D.files.set i (f, v3, v2), arrs := arrs', wrs := w, wl := D.wl ++ [(f, at_, v4)] } { A with fs := Ab.upd A.fs f n, writes := A.writes ++ [(f, at_, b)] } where
  room := h.room
  off := h.off
  names := h.names
  states := h.states
  fs := by
    rw [upd_set h.ids ha]
    have h2 := h.fs.2 i _ _ hi ha
    exact All2.set (h.fs.mono fun x y hxy => ⟨hxy.1, hxy.2.1.mono hsub, hxy.2.2.mono hsub⟩) i ⟨rfl, hn, h2.2.2.mono hsub⟩
  writes := All2.snoc (h.writes.mono fun x y hxy => ⟨hxy.1, hxy.2.1, hxy.2.2.mono hsub⟩) ⟨rfl, rfl, hb⟩
  plan := h.plan.mono hsub
  ids := by simp only [upd_ids]; exact h.ids
  known := by simp only [upd_ids]; exact h.known
  knownW := by
    simp only [upd_ids]
    intro x hx
    rcases List.mem_append.1 hx with hx | hx
    · exact h.knownW x hx
    · simp only [List.mem_singleton] at hx; subst hx; exact List.mem_map.2 ⟨_, List.mem_of_getElem? ha, rfl⟩
  nodup := h.nodup
  smallF := by
    intro x hx
    simp only [Ab.upd, List.mem_map] at hx
    obtain ⟨y, hy, rfl⟩ := hx
    have := h.smallF y hy
    split
    · exact ⟨hnl, this.2⟩
    · exact this
  smallW := by
    intro x hx
    rcases List.mem_append.1 hx with hx | hx
    · exact h.smallW x hx
    · simp only [List.mem_singleton] at hx; subst hx; exact hbl
  smallN := h.smallN
  smallR := h.smallR
  smallP := h.smallP
  full := h.full
theorem wroteL_len (old : List UInt8) (at_ : Nat) (b : List UInt8) : (wroteL old at_ b).length = max old.length (at_ + b.length) := by
  unfold wroteL; simp; omega
theorem find_same (A : Ab) (name : ByteArray) (ok : Bool) : (A.find name ok).2.2.fs = A.fs ∧ (A.find name ok).2.2.names = A.names ∧ (A.find name ok).2.2.states = A.states ∧ (A.find name ok).2.2.writes = A.writes ∧ (A.find name ok).2.2.room = A.room := by
  have := meet_fs A ok
  unfold Ab.find
  split
  · cases (A.meet ok).2.look name <;> exact this
  · exact this
theorem Rel.used_le {D : Dk} {A : Ab} (h : Rel D A) : A.used ≤ 209715200 := by
  rw [← sumOf_used (h.nodup _ (List.mem_cons_self ..))]
  have := sumOf_le (fun f => (h.small f).1) (A.names.map (·.1))
  have h2 := h.smallN _ (List.mem_cons_self ..)
  rw [List.length_map] at this
  omega
theorem arrS_slcO (e : TypeId) (v : Value) (bs : List UInt8) (M : Arrs) : ∀ h, star (slc e 1 v bs.length (bV bs)) (arrS e M) h → ∃ M', (BIn M' v bs ∧ ∀ x ∈ M, x ∈ M') ∧ Sep [arrS e M'] h := fun h hs => by
  obtain ⟨M', h1, h2, h3⟩ := arrS_slc e v bs M h hs
  exact ⟨M', ⟨h1, h2⟩, Sep_one' h3⟩
theorem find_parts {A : Ab} {name : ByteArray} {ok : Bool} (h : (A.find name ok).1 = 0) : ok = true ∧ ∃ fl, (A.find name ok).2.1 = some fl ∧ (name, fl) ∈ (A.find name ok).2.2.names := by
  unfold Ab.find at h ⊢
  split
  · rename_i h0
    rw [if_pos h0] at h
    cases hl : (A.meet ok).2.look name with
    | none => rw [hl] at h; cases h
    | some f =>
      refine ⟨?_, f, rfl, lookIn_some hl⟩
      cases ok with
      | true => rfl
      | false => simp [Ab.meet] at h0
  · rename_i h0
    rw [if_neg h0] at h
    exact absurd h h0

theorem Write_any (bd : Nat) (D : Dk) (A : Ab) (hR : Rel D A) (name : ByteArray) (at_ : Int) (X : HP) (bv : Value) (b : List UInt8) (hv : Vw X bv b.length (bV b)) (hwl : A.writes.length ≤ 1000000000) (hbl : b.length ≤ 1000000000) (hat : -9223372036854775808 ≤ at_ ∧ at_ ≤ 9223372036854775807) :
    Ctr Try.prog 13 [ptr bd, .string name, .int .i64 at_, bv] [disk bd D, X]
      (fun v H => ∃ D', Rel D' (A.write (mayW name at_ b) name at_.toNat b).2 ∧ H = [disk bd D', X] ∧ v = .int .i64 (A.write (mayW name at_ b) name at_.toNat b).1) := by
  obtain ⟨a0, c0, rfl⟩ := hv.shape
  refine Ctr.enter Try.func13 (by kernel_rfl) rfl Try.ntmps13 rfl rfl ?_
  intro G F R hE
  (refine go ?_)
  refine J_buildSlice1 (U := tab) rfl rfl rfl rfl rfl rfl rfl rfl rfl (fun _ _ _ => trivial) ?_
  intro b0
  (refine go ?_)
  refine J_call [0] rfl rfl rfl rfl (right_any _ _ [name] (Vw.pts rfl) (by simp)) rfl (fun _ _ _ _ _ => trivial) ?_
  rintro _ _ ⟨rfl, rfl⟩
  have e1 : [name].all isName = isName name := by simp
  rw [e1]
  cases hnm : isName name with
  | false =>
    have hm : mayW name at_ b = false := by simp [mayW, hnm]
    rw [hm, write_bad] at hE
    (refine go ?_)
    refine J_call [1] rfl rfl rfl rfl (find_any bd D A hR name false) rfl (fun _ _ _ _ _ => trivial) ?_
    rw [find_bad]
    rintro _ _ ⟨D', hR', rfl, rfl⟩
    (refine go ?_)
    refine K_return hE Try.func13 rfl _ rfl ⟨D', hR', rfl, rfl⟩ (Ent.fin [0, 2] 1 rfl rfl)
  | true =>
    repeat' (first | (with_reducible intro _hh) | refine go1 ?_ | refine J_fork ?_ ?_ | refine J_gsP rfl rfl rfl rfl ?_ ?_ | refine K_condP rfl rfl ?_ ?_)
    any_goals (
      have hm : mayW name at_ b = false := by simp [mayW, hnm, *]
      rw [hm, write_bad] at hE
      refine J_call [1] rfl rfl rfl rfl (find_any bd D A hR name false) rfl (fun _ _ _ _ _ => trivial) ?_
      rw [find_bad]
      rintro _ _ ⟨D', hR', rfl, rfl⟩
      (refine go ?_)
      refine K_return hE Try.func13 rfl _ rfl ⟨D', hR', rfl, rfl⟩ (Ent.fin [0, 2] 1 rfl rfl))
    rename_i h2
    obtain ⟨at_, rfl⟩ := Int.eq_ofNat_of_zero_le h2
    simp only [Int.toNat_natCast] at hE
    have hm : mayW name at_ b = decide ((b.length : Int) ≤ 1048576 - at_) := by simp [mayW, hnm, *]
    refine J_slot 31 (.bool (mayW name at_ b)) rfl (congrArg Value.bool hm.symm) ?_
    refine J_call [1] rfl rfl rfl rfl (find_any bd D A hR name (mayW name at_ b)) rfl (fun _ _ _ _ _ => trivial) ?_
    generalize hok : mayW name at_ b = ok at hE hm ⊢
    rintro _ _ ⟨D', hR', rfl, rfl⟩
    (refine go ?_)
    refine K_condA rfl rfl ?_ ?_
    · intro h0
      have h0' : ¬ (A.find name ok).1 = 0 := by have := of_decide_eq_true h0; omega
      have hw : A.write ok name at_ b = ((A.find name ok).1, (A.find name ok).2.2) := by simp [Ab.write, h0']
      rw [hw] at hE
      (refine go ?_)
      refine K_return hE Try.func13 rfl _ rfl ⟨D', hR', rfl, rfl⟩ (Ent.fin [0, 2] 1 rfl rfl)
    · intro h0
      have h0' : (A.find name ok).1 = 0 := by have := of_decide_eq_false h0; omega
      obtain ⟨hokt, fl, hfl, hmem⟩ := find_parts h0'
      rw [hokt] at hm
      have hlen := of_decide_eq_true hm.symm
      have hw : A.write ok name at_ b = if (A.find name ok).2.2.room < (A.find name ok).2.2.used + (at_ + b.length - ((A.find name ok).2.2.now fl).length) then (3, (A.find name ok).2.2)
        else (0, { (A.find name ok).2.2 with fs := Ab.upd (A.find name ok).2.2.fs fl (wroteL ((A.find name ok).2.2.now fl) at_ b), writes := (A.find name ok).2.2.writes ++ [(fl, at_, b)] }) := by simp [Ab.write, h0', hfl]
      rw [hfl]
      have hwl' : (A.find name ok).2.2.writes.length ≤ 1000000000 := by rw [(find_same A name ok).2.2.2.1]; exact hwl
      generalize (A.find name ok).2.2 = A1 at *
      obtain ⟨room, bm, sts, wrs, pln, off, maps, arrs, files, stb, wl⟩ := D'
      obtain ⟨i, v1, v2, hi, hfs, hv1, hv2⟩ := hR'.file (f := fl) (hR'.known _ (List.mem_cons_self ..) _ hmem)
      obtain ⟨a, cap, rfl, hcap⟩ := hv1.shape
      have hsm := (hR'.small fl).1
      have hroom := hR'.room
      have hrs := hR'.smallR
      simp only at hroom
      refine K_ent (disk_o _ _ _ _ _ _ _ _ _ _ _ _ _) ?_
      refine K_drawA (fun w => Sat G w ([pts bd (cl [.int .i64 room, .map (some bm), sts, wrs, pln, .bool off] 62), stock fileG files])) (.st 0 (.st 2 (.st 3 (.st 4 (.st 5 (.st 6 (.st 7 (.st 8 (.st 9 (.st 10 (.st 11 (.st 12 (.st 14 (.st 15 (.st 16 (.st 17 (.act 1 (.st 13 (.st 18 .nil))))))))))))))))))) rfl (by kernel_rfl) (by kernel_rfl) (by kernel_rfl) (fun w hw => hw.ent (Ent.pickOnly ([0, 3]) rfl)) ?_
      (refine go ?_)
      refine J_loadS (U := tab) rfl rfl (fun w hw => file_now (i := 1) hw rfl hi) rfl rfl ?_
      (refine go ?_)
      refine J_ent ((Ent.pick [0, 1, 2, 3, 4, 5] rfl).trans (disk_c _ _ _ _ _ _ _ _ _ _ _ _ _)) ?_
      have hul := hR'.used_le
      refine J_call [0] rfl rfl rfl rfl (Used_any bd _ A1 hR') rfl (fun _ _ w hp hw => by obtain ⟨rfl, _⟩ := hp; exact hw.ent ((disk_o _ _ _ _ _ _ _ _ _ _ _ _ _).trans (Ent.pickOnly [0, 3] rfl))) ?_
      rintro _ _ ⟨rfl, rfl⟩
      (refine go ?_)
      refine K_condP rfl rfl ?_ ?_
      · intro hfull
        rw [if_pos (by omega)] at hw
        rw [hw] at hE
        (refine go ?_)
        refine K_return hE Try.func13 rfl _ rfl ⟨_, hR', rfl, rfl⟩ (Ent.fin [0, 2] 1 rfl rfl)
      · intro hfull
        rw [if_neg (by omega)] at hw
        rw [hw] at hE
        (refine go ?_)
        refine J_ent (disk_o _ _ _ _ _ _ _ _ _ _ _ _ _) ?_
        (refine go ?_)
        refine J_ent (Ent.pick [3] rfl) ?_
        refine J_ent (stock_out fileG hi _) ?_
        (refine go ?_)
        refine J_ent (Ent.pick [4, 8] rfl) ?_
        refine J_ent (Ent.join _ _ _) ?_
        refine J_call [0] rfl rfl rfl rfl (wrote_any (star (arrS 5 arrs) X) _ _ (A1.now fl) b at_ (hv1.view _).left hv.right (by omega)) rfl (fun _ _ _ _ _ => trivial) ?_
        rintro _ _ ⟨bl, cap2, rfl, hcap2, rfl⟩
        refine J_ent (Ent.pick [1] rfl) ?_
        refine J_ent (Ent.part _ _ _) ?_
        refine J_ent (Ent.pick [2, 0] rfl) ?_
        refine J_ent (arrS_add 5 bl _ arrs _) ?_
        (refine go ?_)
        refine K_ent (Ent.pick [2, 3] rfl) ?_
        refine K_ent (stock_set fileG (y := (fl, .slice (some ⟨bl, 0, none⟩) (wroteL (A1.now fl) at_ b).length cap2, v2)) hi _) ?_
        refine K_drawA (fun w => Sat G w ([pts bd (cl [.int .i64 room, .map (some bm), sts, wrs, pln, .bool off] 62)])) (.st 0 (.st 1 (.st 2 (.st 3 (.st 4 (.st 5 (.st 6 (.st 7 (.act 8 (.st 9 (.act 10 (.act 11 (.st 12 (.st 13 (.act 14 .nil))))))))))))))) rfl (by kernel_rfl) (by kernel_rfl) (by kernel_rfl) (fun w hw => hw.ent (Ent.pickOnly ([3]) rfl)) ?_
        (refine go ?_)
        refine J_call [2] rfl rfl rfl rfl (Clone_bytes X _ b hv hbl) rfl (fun _ _ w hp hw => by subst hp; exact hw.ent (Ent.pickOnly [4] rfl)) ?_
        rintro r _ rfl
        refine J_shape 0 rfl ?_
        rintro ar cr rfl
        (refine go ?_)
        refine J_buildSlice1 (U := tab) rfl rfl rfl rfl rfl rfl rfl rfl rfl (fun _ w hw => hw.ent (Ent.pickOnly ([5]) rfl)) ?_
        intro b1
        refine J_append (U := tab) (mm := 1) (news := [ptr fl, .int .i64 at_, .slice ar b.length cr]) 8 0 rfl rfl rfl rfl rfl rfl rfl rfl rfl rfl rfl rfl (Vw.pts rfl) rfl (by simp [Value.oneCell', ptr]) (by have := hR'.writes.1; simp only at this; omega) (by have := hR'.writes.1; simp only at this; show _ * 40 ≤ _; omega) (fun _ => rfl) (fun _ w hw => hw.ent (Ent.pickOnly ([5]) rfl)) ?_
        intro v'
        have e2 : wcells wl ++ [ptr fl, .int .i64 at_, .slice ar b.length cr] = wcells (wl ++ [(fl, at_, .slice ar b.length cr)]) := by simp [wcells]
        have e3 : wl.length + 1 = (wl ++ [(fl, at_, Value.slice ar b.length cr)]).length := by simp
        rw [e2, e3]
        refine J_shape 8 rfl ?_
        rintro av cv rfl
        (refine go ?_)
        refine J_isStore ?_; refine J_store (U := tab) 5 (fun _ _ => trivial) rfl rfl rfl rfl rfl rfl rfl rfl rfl ?_
        (refine go ?_)
        refine K_ent (Ent.pick [1, 4] rfl) ?_
        refine K_ent (Ent.join _ _ _) ?_
        refine K_open (arrS_slcO 5 _ b _) ?_
        rintro arrs' ⟨hb', hsub⟩
        have hR2 := hR'.wrote (w := .slice av (wl ++ [(fl, at_, Value.slice ar b.length cr)]).length cv) hi hfs (fun x hx => hsub x (List.mem_cons_of_mem _ hx)) ((BIn.row (cap := cap2) hcap2).mono hsub) hb' (by rw [wroteL_len]; omega) (by omega : at_ + b.length ≤ 1048576)
        refine K_ent (Ent.pick [4, 5, 0, 3, 6, 7] rfl) ?_
        refine K_ent (disk_c bd room bm sts _ pln off maps arrs' _ stb _ _) ?_
        refine K_return hE Try.func13 rfl _ rfl ⟨_, hR2, rfl, rfl⟩ (Ent.fin [0, 2] 2 rfl rfl)
end Go.Proofs.Ytokknepnmfklnaa
