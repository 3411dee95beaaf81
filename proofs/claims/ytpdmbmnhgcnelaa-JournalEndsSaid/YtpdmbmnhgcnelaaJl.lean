/- journal, part l0 (plain): what a file's bytes tell. -/
import Derived.Test.YtpdmbmnhgcnelaaJk0
import Derived.Test.YtpdmbmnhgcnelaaJk
set_option linter.unusedVariables false
set_option linter.unusedSimpArgs false
namespace Go.Proofs.Ytpdmbmnhgcnelaa
open Go Go.SL

theorem toUint_cons {n : Nat} (h : n < 128) : toUintA [UInt8.ofNat n] = some n := by
  have := toUint_uv (n := n) (by omega)
  rwa [uv_small h] at this
theorem toUint_big {c : UInt8} (h : ¬ c.toNat < 128) : toUintA [c] = none := by
  unfold toUintA cutA
  simp [cutL, h]
theorem longA_enc {x : List UInt8} (hx : x.length ≤ 4096) (rest : List UInt8) : longA (encL x ++ rest) = some ((uv x.length).length, x.length) := by
  unfold longA encL
  have hp := uv_pos x.length
  rw [if_pos (by simp only [List.length_append]; omega)]
  by_cases h : x.length < 128
  · rw [uv_small h]
    simp only [List.cons_append, List.nil_append, List.take_succ_cons, List.take_zero, toUint_cons h, List.length_singleton]
  · have h2 : uv x.length = [UInt8.ofNat (x.length % 128 + 128), UInt8.ofNat (x.length / 128)] := by rw [uv_big h, uv_small (by omega)]
    have hu := toUint_uv (n := x.length) (by omega)
    rw [h2] at hu ⊢
    have e : (UInt8.ofNat (x.length % 128 + 128)).toNat = x.length % 128 + 128 := by simp only [UInt8.toNat_ofNat']; omega
    simp only [List.cons_append, List.nil_append, List.take_succ_cons, List.take_zero]
    rw [toUint_big (by rw [e]; omega)]
    simp only [List.length_cons]
    rw [if_pos (by omega), hu]
    rfl
theorem records_enc : ∀ (ls : List (List UInt8)), (∀ x ∈ ls, x.length ≤ 4096) → recordsA (ls.flatMap encL) = ls
  | [], _ => by
    refine recordsA_none ?_
    unfold longA
    simp
  | x :: ls, h => by
    have hx := h x (List.mem_cons_self ..)
    have hl := longA_enc hx (ls.flatMap encL)
    have hen : (encL x).length = (uv x.length).length + x.length := by simp [encL]
    rw [List.flatMap_cons, recordsA_cons hl ⟨hx, by rw [List.length_append, hen]; omega⟩]
    congr 1
    · unfold encL
      rw [List.append_assoc, List.drop_left, List.take_left]
    · rw [← hen, List.drop_left, records_enc ls (fun y hy => h y (List.mem_cons_of_mem _ hy))]
theorem records_nil : recordsA [] = [] := records_enc [] (by simp)
theorem leN_head {n m : Nat} (hn : n < 4294967296) (hm : m < 4294967296) : leN (headL n m) = n ∧ leN ((headL n m).drop 4) = m := by
  unfold headL
  rw [List.append_assoc]
  refine ⟨leN_le4 n hn _, ?_⟩
  rw [show (le4 n ++ (le4 m ++ (le4 n ++ le4 m))).drop 4 = le4 m ++ (le4 n ++ le4 m) from rfl]
  exact leN_le4 m hm _
theorem headOk_at {C : List UInt8} {k last n m : Nat} (h : (C.drop (16 * k)).take 16 = headL n m) (hn : n < 4294967296) (hm : m < 4294967296) : headOk C k last = decide (last < n ∧ n ≤ 1073741824 ∧ n % 2 = k ∧ m + 32 ≤ C.length) := by
  unfold headOk
  rw [h]
  simp only [(leN_head hn hm).1, (leN_head hn hm).2, and_true]
theorem headOk_zero {C : List UInt8} {k last : Nat} (h : (C.drop (16 * k)).take 16 = List.replicate 16 0) : headOk C k last = false := by
  unfold headOk
  rw [h]
  have : leN (List.replicate 16 0) = 0 := by decide
  simp only [this]
  exact decide_eq_false (fun hh => by have := hh.1; omega)
theorem lastOf_at {C : List UInt8} {k n m : Nat} {s : Nat × Nat} (h : (C.drop (16 * k)).take 16 = headL n m) (hn : n < 4294967296) (hm : m < 4294967296) : lastOf2 C k s = if s.1 < n ∧ n ≤ 1073741824 ∧ n % 2 = k ∧ m + 32 ≤ C.length then (n, m) else s := by
  unfold lastOf2
  rw [headOk_at h hn hm, h, (leN_head hn hm).1, (leN_head hn hm).2]
  by_cases hc : s.1 < n ∧ n ≤ 1073741824 ∧ n % 2 = k ∧ m + 32 ≤ C.length
  · rw [if_pos hc, if_pos (decide_eq_true hc)]
  · rw [if_neg hc, if_neg (by rw [decide_eq_false hc]; simp)]
theorem lastOf_zero {C : List UInt8} {k : Nat} {s : Nat × Nat} (h : (C.drop (16 * k)).take 16 = List.replicate 16 0) : lastOf2 C k s = s := by
  unfold lastOf2
  rw [headOk_zero h]; simp
theorem cut16 (a b c : List UInt8) (ha : a.length = 16) (hb : b.length = 16) : ((a ++ b ++ c).drop (16 * 0)).take 16 = a ∧ ((a ++ b ++ c).drop (16 * 1)).take 16 = b ∧ (a ++ b ++ c).drop 32 = c := by
  have h32 : (a ++ b).length = 32 := by rw [List.length_append]; omega
  refine ⟨?_, ?_, ?_⟩
  · rw [List.append_assoc, Nat.mul_zero, List.drop_zero, ← ha, List.take_left]
  · rw [List.append_assoc, show 16 * 1 = a.length from by omega, List.drop_left, ← hb, List.take_left]
  · rw [← h32, List.drop_left]
theorem found_put (m : Nat) (c : List UInt8) (hm : m ≤ c.length) (hm2 : m < 4294967296) : foundL (List.replicate 16 0 ++ headL 1 m ++ c) = c.take m := by
  obtain ⟨h0, h1, h2⟩ := cut16 (List.replicate 16 0) (headL 1 m) c (by simp) (headL_len _ _)
  have hl : (List.replicate 16 0 ++ headL 1 m ++ c).length = 32 + c.length := by simp only [List.length_append, List.length_replicate, headL_len]
  unfold foundL
  rw [if_neg (by omega), h2, lastOf_zero h0, lastOf_at h1 (by omega) hm2, if_pos ⟨by decide, by omega, by decide, by omega⟩]
theorem found_commit (m m1 : Nat) (c : List UInt8) (hm : m ≤ c.length) (hm2 : m < 4294967296) (hm1 : m1 < 4294967296) : foundL (headL 2 m ++ headL 1 m1 ++ c) = c.take m := by
  obtain ⟨h0, h1, h2⟩ := cut16 (headL 2 m) (headL 1 m1) c (headL_len _ _) (headL_len _ _)
  have hl : (headL 2 m ++ headL 1 m1 ++ c).length = 32 + c.length := by simp only [List.length_append, headL_len]
  unfold foundL
  rw [if_neg (by omega), h2, lastOf_at h0 (by omega) hm2, if_pos ⟨by decide, by omega, by decide, by omega⟩, lastOf_at h1 (by omega) hm1, if_neg (by intro h; have := h.1; simp only at this; omega)]
theorem found_nil : foundL [] = [] := rfl
end Go.Proofs.Ytpdmbmnhgcnelaa

/- journal, part l1 (plain): a disk that nothing ails, with one file: what put, Append, Commit, Crash make of it. -/
set_option linter.unusedVariables false
set_option linter.unusedSimpArgs false
namespace Go.Proofs.Ytpdmbmnhgcnelaa
open Go Go.SL

theorem file_cons (A : Ab) (g f : Nat) (x : List UInt8 × List UInt8) : ({ A with fs := (g, x) :: A.fs } : Ab).file f = if g = f then x else A.file f := by
  simp only [Ab.file, List.find?_cons]
  by_cases h : g = f
  · simp [h]
  · simp [h]
theorem find_map_same {fs : List (Nat × List UInt8 × List UInt8)} (u : Nat × List UInt8 × List UInt8 → Nat × List UInt8 × List UInt8) (hu : ∀ x, (u x).1 = x.1) (f : Nat) :
    (fs.map u).find? (fun x => decide (x.1 = f)) = (fs.find? (fun x => decide (x.1 = f))).map u := by
  induction fs with
  | nil => rfl
  | cons x l ih =>
    simp only [List.map_cons, List.find?_cons, hu]
    by_cases h : x.1 = f
    · simp [h]
    · simp [h, ih]
theorem find_mem {fs : List (Nat × List UInt8 × List UInt8)} {f : Nat} (h : f ∈ fs.map (·.1)) : ∃ x, fs.find? (fun x => decide (x.1 = f)) = some x ∧ x.1 = f := by
  obtain ⟨y, hy, hyf⟩ := List.mem_map.1 h
  cases hx : fs.find? (fun x => decide (x.1 = f)) with
  | none => exact absurd hyf (by simpa using List.find?_eq_none.1 hx y hy)
  | some x => exact ⟨x, rfl, by simpa using List.find?_some hx⟩
/-- A file behind a change of all files. -/
theorem file_map (A : Ab) (u : Nat × List UInt8 × List UInt8 → Nat × List UInt8 × List UInt8) (hu : ∀ x, (u x).1 = x.1) {f : Nat} (h : f ∈ A.fs.map (·.1)) : ({ A with fs := A.fs.map u } : Ab).file f = (u (f, A.file f)).2 := by
  obtain ⟨x, hx, hxf⟩ := find_mem h
  simp only [Ab.file]
  rw [find_map_same u hu, hx]
  obtain ⟨a, b⟩ := x
  simp only at hxf
  subst hxf
  rfl
theorem ids_map (fs : List (Nat × List UInt8 × List UInt8)) (u : Nat × List UInt8 × List UInt8 → Nat × List UInt8 × List UInt8) (hu : ∀ x, (u x).1 = x.1) : (fs.map u).map (·.1) = fs.map (·.1) := by
  rw [List.map_map]
  exact List.map_congr_left fun x _ => hu x
theorem meet_ok {A : Ab} (hp : A.plan = []) (ho : A.off = false) : A.meet true = (0, A) := by simp [Ab.meet, hp, ho]
theorem find_ok {A : Ab} (hp : A.plan = []) (ho : A.off = false) {nm : ByteArray} {f : Nat} (hl : A.look nm = some f) : A.find nm true = (0, some f, A) := by simp [Ab.find, meet_ok hp ho, hl]
theorem write_ok {A : Ab} (hp : A.plan = []) (ho : A.off = false) {nm : ByteArray} {f : Nat} (hl : A.look nm = some f) (at_ : Nat) (b : List UInt8) (hr : A.used + (at_ + b.length - (A.now f).length) ≤ A.room) :
    A.write true nm at_ b = (0, { A with fs := Ab.upd A.fs f (wroteL (A.now f) at_ b), writes := A.writes ++ [(f, at_, b)] }) := by
  simp only [Ab.write, find_ok hp ho hl, if_true]
  rw [if_neg (by omega)]
theorem sync_ok {A : Ab} (hp : A.plan = []) (ho : A.off = false) {nm : ByteArray} {f : Nat} (hl : A.look nm = some f) :
    A.sync true nm = (0, { A with fs := Ab.updS A.fs f, writes := A.writes.filter fun x => !decide (x.1 = f) }) := by
  simp only [Ab.sync, find_ok hp ho hl, if_true]
/-- One file, of that name, with these bytes. -/
structure JF (A : Ab) (nm : ByteArray) (f : Nat) (C : List UInt8) : Prop where
  plan : A.plan = []
  off : A.off = false
  names : A.names = [(nm, f)]
  now : A.now f = C
  mem : f ∈ A.fs.map (·.1)
/-- It is sure. -/
structure JS (A : Ab) (nm : ByteArray) (f : Nat) (S : List UInt8) : Prop where
  states : A.states = [[(nm, f)]]
  sure : A.sure f = S
  writes : ∀ w ∈ A.writes, w.1 ≠ f
theorem JF.look {A : Ab} {nm : ByteArray} {f : Nat} {C : List UInt8} (h : JF A nm f C) : A.look nm = some f := by simp [Ab.look, Ab.lookIn, h.names]
theorem JF.used {A : Ab} {nm : ByteArray} {f : Nat} {C : List UInt8} (h : JF A nm f C) : A.used = C.length := by simp [Ab.used, h.names, h.now]
/-- A write into it. -/
theorem JF.write {A : Ab} {nm : ByteArray} {f : Nat} {C : List UInt8} (h : JF A nm f C) (at_ : Nat) (b : List UInt8) (hr : C.length + (at_ + b.length - C.length) ≤ A.room) :
    (A.write true nm at_ b).1 = 0 ∧ JF (A.write true nm at_ b).2 nm f (wroteL C at_ b) ∧ (A.write true nm at_ b).2.room = A.room ∧ (A.write true nm at_ b).2.states = A.states := by
  rw [write_ok h.plan h.off h.look at_ b (by rw [h.used, h.now]; exact hr), h.now]
  refine ⟨rfl, ⟨h.plan, h.off, h.names, ?_, ?_⟩, rfl, rfl⟩
  · have := file_map A (fun x => if x.1 = f then (x.1, wroteL C at_ b, x.2.2) else x) (fun x => by split <;> rfl) h.mem
    simp only [Ab.now, Ab.file] at this ⊢
    simp only [Ab.upd]
    rw [this]; simp
  · simp only [Ab.upd]
    rw [ids_map _ _ (fun x => by split <;> rfl)]
    exact h.mem
/-- It is synced. -/
theorem JF.sync {A : Ab} {nm : ByteArray} {f : Nat} {C : List UInt8} (h : JF A nm f C) :
    (A.sync true nm).1 = 0 ∧ JF (A.sync true nm).2 nm f C ∧ (A.sync true nm).2.room = A.room ∧ (A.sync true nm).2.states = A.states ∧ (A.sync true nm).2.sure f = C ∧ ∀ w ∈ (A.sync true nm).2.writes, w.1 ≠ f := by
  rw [sync_ok h.plan h.off h.look]
  have hf := file_map A (fun x => if x.1 = f then (x.1, x.2.1, x.2.1) else x) (fun x => by split <;> rfl) h.mem
  have hn := h.now
  simp only [Ab.now] at hn
  refine ⟨rfl, ⟨h.plan, h.off, h.names, ?_, ?_⟩, rfl, rfl, ?_, ?_⟩
  · simp only [Ab.now, Ab.file, Ab.updS] at hf ⊢
    rw [hf]; simp only [if_true]; exact hn
  · simp only [Ab.updS]
    rw [ids_map _ _ (fun x => by split <;> rfl)]
    exact h.mem
  · simp only [Ab.sure, Ab.file, Ab.updS] at hf ⊢
    rw [hf]; simp only [if_true]; exact hn
  · intro w hw
    have := (List.mem_filter.1 hw).2
    simpa using this
end Go.Proofs.Ytpdmbmnhgcnelaa

/- journal, part l2 (plain): put on a disk that nothing ails. -/
set_option linter.unusedVariables false
set_option linter.unusedSimpArgs false
namespace Go.Proofs.Ytpdmbmnhgcnelaa
open Go Go.SL

theorem wroteL_nil0 (a : List UInt8) : wroteL [] 0 a = a := by simp [wroteL]
/-- What put needs: no other file but the one that is so named. -/
structure PutOk (A : Ab) (nm : ByteArray) : Prop where
  plan : A.plan = []
  off : A.off = false
  names : A.names = [] ∨ ∃ f, A.names = [(nm, f)]
  ids : ∀ x ∈ A.names, x.2 ∈ A.fs.map (·.1)
  idsW : ∀ w ∈ A.writes, w.1 ∈ A.fs.map (·.1)
theorem put_law {A : Ab} {nm : ByteArray} {ls : List (List UInt8)} {e : Nat} {y : PS} {n s c : Int} (h : PutOk A nm) (hn : isName nm = true) (hf : isName (freshOf nm) = true) (hne : freshOf nm ≠ nm)
    (hroom : A.used + (wholeOf ls).length ≤ A.room) (hw : (wholeOf ls).length ≤ 1048576) (hR : PutR nm ls (A, n, s, c) e y) :
    e = 0 ∧ y.2 = (1, ((ls.flatMap encL).length : Int), ((ls.flatMap encL).length : Int)) ∧ ∃ g, JF y.1 nm g (wholeOf ls) ∧ JS y.1 nm g (wholeOf ls) ∧ y.1.room = A.room ∧ y.1.writes.length ≤ A.writes.length + 1 := by
  obtain ⟨fresh, hfr⟩ : ∃ fresh, fresh = freshOf nm := ⟨_, rfl⟩
  obtain ⟨W, hW⟩ : ∃ W, W = wholeOf ls := ⟨_, rfl⟩
  have hlook : A.look fresh = none := by
    rcases h.names with h0 | ⟨f, h0⟩
    · simp [Ab.look, Ab.lookIn, h0]
    · have : ¬ nm = fresh := fun e => hne (by rw [← hfr, e])
      simp [Ab.look, Ab.lookIn, h0, this]
  have hsize : (A.size fresh).2 = 4 := by simp [Ab.size, hlook]
  have hlen : A.names.length ≤ 1 := by rcases h.names with h0 | ⟨f, h0⟩ <;> simp [h0]
  unfold PutR putSteps at hR
  rw [← hfr, ← hW] at hR
  rw [← hW] at hroom hw ⊢
  simp only at hR
  rw [if_neg (by rw [hsize]; decide)] at hR
  rw [← hfr] at hf hne
  simp only [List.nil_append] at hR
  -- create
  obtain ⟨e1, x1, ⟨⟨g, hg, he1, hx1⟩, hx1'⟩, hR⟩ := hR
  have hcr : A.create true fresh g = (0, { A.chg (A.names ++ [(fresh, g)]) with fs := (g, [], []) :: A.fs }) := by
    unfold Ab.create
    rw [meet_ok h.plan h.off]
    simp only [if_true, hlook, Option.isSome_none, Bool.false_eq_true, if_false]
    rw [if_neg (by omega)]
  simp only at he1 hx1 hx1'
  rw [hf, hcr] at he1 hx1
  obtain ⟨A1, q1⟩ := x1
  simp only at hx1 hx1' he1
  subst hx1'
  rcases hR with ⟨hbad, -⟩ | ⟨-, hR⟩
  · exact absurd he1 hbad
  have hp1 : A1.plan = [] := by rw [hx1]; exact h.plan
  have ho1 : A1.off = false := by rw [hx1]; exact h.off
  have hn1 : A1.names = A.names ++ [(fresh, g)] := by rw [hx1]; rfl
  have hl1 : A1.look fresh = some g := by
    unfold Ab.look Ab.lookIn
    rw [hn1, List.find?_append]
    have : A.names.find? (fun x => decide (x.1 = fresh)) = none := by
      simp only [Ab.look, Ab.lookIn] at hlook
      exact Option.map_eq_none_iff.1 hlook
    rw [this]; simp
  have hfile1 : ∀ f, A1.file f = if g = f then ([], []) else A.file f := by
    intro f; rw [hx1]; exact file_cons (A.chg (A.names ++ [(fresh, g)])) g f ([], [])
  have hm1 : g ∈ A1.fs.map (·.1) := by rw [hx1]; simp
  have hu1 : A1.used = A.used := by
    unfold Ab.used
    rw [hn1, List.map_append, List.sum_append]
    have h1 : (A1.now g).length = 0 := by simp [Ab.now, hfile1]
    have h2 : (A.names.map fun x => (A1.now x.2).length) = A.names.map fun x => (A.now x.2).length := by
      apply List.map_congr_left
      intro x hx
      have : ¬ g = x.2 := fun e => hg (by rw [e]; exact h.ids x hx)
      simp only [Ab.now, hfile1]
      rw [if_neg this]
    rw [h2]; simp [h1]
  have hr1 : A1.room = A.room := by rw [hx1]; rfl
  have hw1 : A1.writes = A.writes := by rw [hx1]; rfl
  have hids1 : A1.fs.map (·.1) = g :: A.fs.map (·.1) := by rw [hx1]; rfl
  clear hx1 hcr
  -- write
  obtain ⟨e2, x2, ⟨⟨he2, hx2⟩, hx2'⟩, hR⟩ := hR
  have hmw : mayW fresh 0 W = true := by unfold mayW; rw [hf]; simp; omega
  have hnow1 : A1.now g = [] := by simp [Ab.now, hfile1]
  rw [hmw, write_ok hp1 ho1 hl1 0 W (by rw [hu1, hnow1, hr1]; simpa using hroom), hnow1, wroteL_nil0] at he2 hx2
  obtain ⟨A2, q2⟩ := x2
  simp only at hx2 hx2' he2
  subst hx2'
  rcases hR with ⟨hbad, -⟩ | ⟨-, hR⟩
  · exact absurd he2 hbad
  have hl2 : A2.look fresh = some g := by rw [hx2]; exact hl1
  have hp2 : A2.plan = [] := by rw [hx2]; exact hp1
  have ho2 : A2.off = false := by rw [hx2]; exact ho1
  have hn2 : A2.names = A.names ++ [(fresh, g)] := by rw [hx2]; exact hn1
  have hr2 : A2.room = A.room := by rw [hx2]; exact hr1
  have hw2 : A2.writes = A.writes ++ [(g, 0, W)] := by rw [hx2, ← hw1]
  have hids2 : A2.fs.map (·.1) = g :: A.fs.map (·.1) := by
    rw [hx2, ← hids1]
    exact ids_map _ _ (fun x => by split <;> rfl)
  have hnow2 : A2.now g = W := by
    have := file_map A1 (fun x => if x.1 = g then (x.1, W, x.2.2) else x) (fun x => by split <;> rfl) hm1
    rw [hx2]
    simp only [Ab.now, Ab.file, Ab.upd] at this ⊢
    rw [this]; simp
  clear hx2
  -- sync
  obtain ⟨e3, x3, ⟨⟨he3, hx3⟩, hx3'⟩, hR⟩ := hR
  rw [hf, sync_ok hp2 ho2 hl2] at he3 hx3
  obtain ⟨A3, q3⟩ := x3
  simp only at hx3 hx3' he3
  subst hx3'
  rcases hR with ⟨hbad, -⟩ | ⟨-, hR⟩
  · exact absurd he3 hbad
  have hl3 : A3.look fresh = some g := by rw [hx3]; exact hl2
  have hp3 : A3.plan = [] := by rw [hx3]; exact hp2
  have ho3 : A3.off = false := by rw [hx3]; exact ho2
  have hn3 : A3.names = A.names ++ [(fresh, g)] := by rw [hx3]; exact hn2
  have hr3 : A3.room = A.room := by rw [hx3]; exact hr2
  have hw3 : A3.writes = A.writes.filter fun x => !decide (x.1 = g) := by rw [hx3]; simp only; rw [hw2, List.filter_append]; simp
  have hids3 : A3.fs.map (·.1) = g :: A.fs.map (·.1) := by
    rw [hx3, ← hids2]
    exact ids_map _ _ (fun x => by split <;> rfl)
  have hf3 : A3.file g = (W, W) := by
    have := file_map A2 (fun x => if x.1 = g then (x.1, x.2.1, x.2.1) else x) (fun x => by split <;> rfl) (by rw [hids2]; exact List.mem_cons_self ..)
    simp only [Ab.now] at hnow2
    rw [hx3]
    simp only [Ab.file, Ab.updS] at this ⊢
    rw [this]
    simp only [if_true]
    simp only [Ab.file] at hnow2
    rw [hnow2]
  clear hx3
  -- rename
  obtain ⟨e4, x4, ⟨⟨he4, hx4⟩, hx4'⟩, hR⟩ := hR
  have hall : [fresh, nm].all isName = true := by simp [hf, hn]
  have hdel : Ab.delN (A.names ++ [(fresh, g)]) fresh = A.names := by
    rcases h.names with h0 | ⟨f, h0⟩
    · simp [Ab.delN, h0]
    · have : ¬ nm = fresh := fun e => hne e.symm
      simp [Ab.delN, h0, this]
  have hset : Ab.setN A.names nm g = [(nm, g)] := by
    rcases h.names with h0 | ⟨f, h0⟩
    · simp [Ab.setN, Ab.lookIn, h0]
    · simp [Ab.setN, Ab.lookIn, h0]
  have hren : A3.rename true fresh nm = (0, A3.chg [(nm, g)]) := by
    unfold Ab.rename
    rw [find_ok hp3 ho3 hl3]
    simp only
    rw [hn3, hdel, hset]
  rw [hall, hren] at he4 hx4
  obtain ⟨A4, q4⟩ := x4
  simp only at hx4 hx4' he4
  subst hx4'
  rcases hR with ⟨hbad, -⟩ | ⟨-, hR⟩
  · exact absurd he4 hbad
  -- names
  obtain ⟨e5, x5, ⟨⟨he5, hx5⟩, hx5'⟩, hR⟩ := hR
  have hsn : A4.syncNames = (0, { A4 with states := [[(nm, g)]] }) := by
    unfold Ab.syncNames
    rw [meet_ok (by rw [hx4]; exact hp3) (by rw [hx4]; exact ho3)]
    simp only [if_true]
    rw [hx4]; rfl
  rw [hsn] at he5 hx5
  obtain ⟨A5, q5⟩ := x5
  simp only at hx5 hx5' he5
  subst hx5'
  rcases hR with ⟨hbad, -⟩ | ⟨-, hR⟩
  · exact absurd he5 hbad
  -- the numbers
  obtain ⟨e6, x6, ⟨he6, hx6⟩, hR⟩ := hR
  rcases hR with ⟨hbad, -⟩ | ⟨-, he, hy⟩
  · exact absurd he6 hbad
  subst hy hx6
  refine ⟨he, rfl, g, ⟨?_, ?_, ?_, ?_, ?_⟩, ⟨?_, ?_, ?_⟩, ?_, ?_⟩
  · simp only; rw [hx5, hx4]; exact hp3
  · simp only; rw [hx5, hx4]; exact ho3
  · simp only; rw [hx5, hx4]; rfl
  · simp only; rw [hx5, hx4]; show (A3.file g).1 = W; rw [hf3]
  · simp only; rw [hx5, hx4]; show g ∈ A3.fs.map (·.1); rw [hids3]; exact List.mem_cons_self ..
  · simp only; rw [hx5]
  · simp only; rw [hx5, hx4]; show (A3.file g).2 = W; rw [hf3]
  · simp only; rw [hx5, hx4]
    intro w hw'
    have : w ∈ A3.writes := hw'
    rw [hw3] at this
    simpa using (List.mem_filter.1 this).2
  · simp only; rw [hx5, hx4]; exact hr3
  · simp only; rw [hx5, hx4]
    show A3.writes.length ≤ _
    rw [hw3]
    have := List.length_filter_le (fun x : Nat × Nat × List UInt8 => !decide (x.1 = g)) A.writes
    omega
end Go.Proofs.Ytpdmbmnhgcnelaa

/- journal, part l3 (plain): Append, Commit, Crash, Open on a disk that nothing ails. -/
set_option linter.unusedVariables false
set_option linter.unusedSimpArgs false
namespace Go.Proofs.Ytpdmbmnhgcnelaa
open Go Go.SL

theorem wroteL_end (C b : List UInt8) : wroteL C C.length b = C ++ b := by
  unfold wroteL
  rw [show C.length + b.length - C.length = b.length from by omega]
  simp
theorem wroteL_head (a h r : List UInt8) (hl : h.length = a.length) : wroteL (a ++ r) 0 h = h ++ r := by
  unfold wroteL
  rw [show 0 + h.length - (a ++ r).length = 0 from by rw [List.length_append]; omega]
  simp only [List.replicate_zero, List.append_nil, List.take_zero, List.nil_append, Nat.zero_add]
  rw [hl, List.drop_left]
/-- A journal's file behind Open: its head counts m of the records' bytes. -/
def jfile (m : Nat) (body : List UInt8) : List UInt8 := List.replicate 16 0 ++ headL 1 m ++ body
theorem jfile_len (m : Nat) (body : List UInt8) : (jfile m body).length = 32 + body.length := by
  unfold jfile; simp only [List.length_append, List.length_replicate, headL_len]
theorem wholeOf_eq (ls : List (List UInt8)) : wholeOf ls = jfile (ls.flatMap encL).length (ls.flatMap encL) := rfl
structure AInv (A : Ab) (nm : ByteArray) (g m rm : Nat) (body : List UInt8) : Prop where
  jf : JF A nm g (jfile m body)
  states : A.states = [[(nm, g)]]
  room : A.room = rm
  le : m ≤ body.length
  same : body.length = m → JS A nm g (jfile m body)
theorem append_law {A : Ab} {nm : ByteArray} {g m rm : Nat} {body b : List UInt8} (h : AInv A nm g m rm body) (hn : isName nm = true) (hb : b.length ≤ 4096) (hfit : body.length + (encL b).length ≤ 524288) (hr : 32 + body.length + (encL b).length ≤ rm) :
    (appendA nm A ⟨1, (body.length : Int), (m : Int), false⟩ b).1 = 0 ∧ (appendA nm A ⟨1, (body.length : Int), (m : Int), false⟩ b).2.2 = ⟨1, ((body ++ encL b).length : Int), (m : Int), false⟩ ∧
    AInv (appendA nm A ⟨1, (body.length : Int), (m : Int), false⟩ b).2.1 nm g m rm (body ++ encL b) ∧ (appendA nm A ⟨1, (body.length : Int), (m : Int), false⟩ b).2.1.writes.length ≤ A.writes.length + 1 := by
  have hpos : 0 < (encL b).length := by have := uv_pos b.length; simp [encL]; omega
  have hmw : mayW nm (32 + (body.length : Int)) (encL b) = true := by unfold mayW; rw [hn]; simp; omega
  have ht : (32 + (body.length : Int)).toNat = (jfile m body).length := by rw [jfile_len]; omega
  obtain ⟨h1, h2, h3, h4⟩ := h.jf.write (jfile m body).length (encL b) (by rw [h.room]; rw [jfile_len]; omega)
  have hgw := grow_write A true nm (jfile m body).length (encL b)
  rw [wroteL_end] at h2
  unfold appendA
  simp only [Bool.false_eq_true, if_false]
  rw [if_neg (by omega), if_neg (by omega), hmw, ht, if_pos h1]
  refine ⟨rfl, by simp, ⟨?_, by rw [h4]; exact h.states, by rw [h3]; exact h.room, by have := h.le; rw [List.length_append]; omega, fun he => ?_⟩, hgw.2⟩
  · unfold jfile at h2 ⊢
    rw [List.append_assoc] at h2
    simpa using h2
  · have := h.le
    rw [List.length_append] at he; omega
theorem append_big {A : Ab} {nm : ByteArray} {x : JN} {b : List UInt8} (hx : x.br = false) (hb : 4096 < b.length) : appendA nm A x b = (1, A, x) := by
  unfold appendA
  rw [if_neg (by rw [hx]; simp), if_pos hb]
theorem commit_law {A A' : Ab} {nm : ByteArray} {g m rm e : Nat} {body : List UInt8} {x' : JN} (h : AInv A nm g m rm body) (hn : isName nm = true) (hb : body.length ≤ 524288) (hr : 32 + body.length ≤ rm)
    (hc : CommitR nm A ⟨1, (body.length : Int), (m : Int), false⟩ e A' x') :
    e = 0 ∧ x'.br = false ∧ A'.room = rm ∧ ∃ C, JF A' nm g C ∧ JS A' nm g C ∧ foundL C = body ∧ C.length = 32 + body.length ∧ A'.writes.length ≤ A.writes.length + 1 := by
  unfold CommitR at hc
  simp only [Bool.false_eq_true, if_false] at hc
  have hle := h.le
  by_cases heq : body.length = m
  · rw [if_pos (by omega)] at hc
    obtain ⟨rfl, rfl, rfl⟩ := hc
    refine ⟨rfl, rfl, h.room, _, h.jf, h.same heq, ?_, jfile_len _ _, by omega⟩
    unfold jfile
    rw [found_put m body hle (by omega), ← heq, List.take_length]
  · rw [if_neg (by omega), if_neg (by omega)] at hc
    obtain ⟨y, hR, rfl, rfl⟩ := hc
    simp only [Int.toNat_natCast, show ((1 : Int)).toNat + 1 = 2 from rfl] at hR
    unfold commitSteps at hR
    obtain ⟨e1, ⟨A1, q1⟩, ⟨⟨he1, hx1⟩, hx1'⟩, hR⟩ := hR
    simp only at he1 hx1 hx1'
    rw [hn] at he1 hx1
    obtain ⟨s1, s2, s3, s4, s5, s6⟩ := h.jf.sync
    rw [← hx1] at s2 s3 s4 s5 s6
    subst hx1'
    rcases hR with ⟨hbad, -⟩ | ⟨-, hR⟩
    · exact absurd (he1.trans s1) hbad
    obtain ⟨e2, ⟨A2, q2⟩, ⟨⟨he2, hx2⟩, hx2'⟩, hR⟩ := hR
    simp only at he2 hx2 hx2'
    have hmw : mayW nm ((2 % 2 * 16 : Nat) : Int) (headL 2 body.length) = true := by unfold mayW; rw [hn, headL_len]; simp
    rw [hmw] at he2 hx2
    obtain ⟨t1, t2, t3, t4⟩ := s2.write (2 % 2 * 16) (headL 2 body.length) (by rw [s3, h.room, jfile_len, headL_len]; omega)
    have hg2 := grow_write A1 true nm (2 % 2 * 16) (headL 2 body.length)
    rw [← hx2] at t2 t3 t4 hg2
    subst hx2'
    rcases hR with ⟨hbad, -⟩ | ⟨-, hR⟩
    · exact absurd (he2.trans t1) hbad
    obtain ⟨e3, ⟨A3, q3⟩, ⟨⟨he3, hx3⟩, hx3'⟩, hR⟩ := hR
    simp only at he3 hx3 hx3'
    rw [hn] at he3 hx3
    obtain ⟨u1, u2, u3, u4, u5, u6⟩ := t2.sync
    rw [← hx3] at u2 u3 u4 u5 u6
    subst hx3'
    rcases hR with ⟨hbad, -⟩ | ⟨-, hR⟩
    · exact absurd (he3.trans u1) hbad
    obtain ⟨e4, x4, ⟨he4, hx4⟩, hR⟩ := hR
    rcases hR with ⟨hbad, -⟩ | ⟨-, he, hy⟩
    · exact absurd he4 hbad
    subst hy hx4 he
    have hC : wroteL (jfile m body) (2 % 2 * 16) (headL 2 body.length) = headL 2 body.length ++ headL 1 m ++ body := by
      unfold jfile
      rw [List.append_assoc, show 2 % 2 * 16 = 0 from rfl, wroteL_head _ _ _ (by simp [headL_len]), List.append_assoc]
    rw [hC] at u2 u5
    have hw3 : A3.writes.length ≤ A.writes.length + 1 := by
      have h1 : A1.writes.length ≤ A.writes.length := by
        rw [hx1, sync_ok h.jf.plan h.jf.off h.jf.look]
        exact List.length_filter_le _ _
      have h3 : A3.writes.length ≤ A2.writes.length := by
        rw [hx3, sync_ok t2.plan t2.off t2.look]
        exact List.length_filter_le _ _
      have := hg2.2
      omega
    refine ⟨rfl, by simp, by simp only; rw [u3, t3, s3]; exact h.room, _, u2, ⟨by rw [u4, t4, s4]; exact h.states, u5, u6⟩, ?_, by simp only [List.length_append, headL_len], hw3⟩
    rw [found_commit body.length m body (Nat.le_refl _) (by omega) (by omega), List.take_length]
end Go.Proofs.Ytpdmbmnhgcnelaa

/- journal, part l4 (plain): a crash, Open. -/
set_option linter.unusedVariables false
set_option linter.unusedSimpArgs false
namespace Go.Proofs.Ytpdmbmnhgcnelaa
open Go Go.SL

theorem updSure_find (fs : List (Nat × List UInt8 × List UInt8)) (k f : Nat) (s : List UInt8) (h : k ≠ f) : (Ab.updSure fs k s).find? (fun x => decide (x.1 = f)) = fs.find? (fun x => decide (x.1 = f)) := by
  unfold Ab.updSure
  rw [find_map_same _ (fun x => by split <;> rfl)]
  cases hx : fs.find? (fun x => decide (x.1 = f)) with
  | none => rfl
  | some x =>
    have : x.1 = f := by simpa using List.find?_some hx
    have hne : ¬ x.1 = k := by rw [this]; exact fun e => h e.symm
    simp [hne]
theorem lasts_find (stay : List UInt8) (torn cut : Int) (f : Nat) : ∀ (ws : List (Nat × Nat × List UInt8)) (i : Nat) (fs : List (Nat × List UInt8 × List UInt8)), (∀ w ∈ ws, w.1 ≠ f) →
    (Ab.lasts stay torn cut i ws fs).find? (fun x => decide (x.1 = f)) = fs.find? (fun x => decide (x.1 = f))
  | [], i, fs, _ => rfl
  | w :: ws, i, fs, h => by
    unfold Ab.lasts
    split
    · exact lasts_find stay torn cut f ws (i + 1) fs (fun v hv => h v (List.mem_cons_of_mem _ hv))
    · rw [lasts_find stay torn cut f ws (i + 1) _ (fun v hv => h v (List.mem_cons_of_mem _ hv)), updSure_find _ _ _ _ (h w (List.mem_cons_self ..))]
theorem lasts_id (stay : List UInt8) (torn cut : Int) : ∀ (ws : List (Nat × Nat × List UInt8)) (i : Nat) (fs : List (Nat × List UInt8 × List UInt8)), (Ab.lasts stay torn cut i ws fs).map (·.1) = fs.map (·.1)
  | [], i, fs => rfl
  | w :: ws, i, fs => by
    unfold Ab.lasts
    split
    · exact lasts_id stay torn cut ws (i + 1) fs
    · rw [lasts_id stay torn cut ws (i + 1) _]
      unfold Ab.updSure
      exact ids_map _ _ (fun x => by split <;> rfl)
/-- What was sure stays. -/
theorem crash_law {A : Ab} {nm : ByteArray} {g : Nat} {C S : List UInt8} (h : JF A nm g C) (hs : JS A nm g S) (stay : List UInt8) (torn cut : Int) :
    JF (A.crash 0 stay torn cut) nm g S ∧ JS (A.crash 0 stay torn cut) nm g S ∧ (A.crash 0 stay torn cut).room = A.room ∧ (A.crash 0 stay torn cut).writes = [] := by
  have hnm : A.states.getD (max 0 (min (0 : Int) (A.states.length - 1))).toNat [] = [(nm, g)] := by rw [hs.states]; rfl
  have hreach : g ∈ Ab.reach (A.states ++ [[(nm, g)]]) := by rw [hs.states]; simp [Ab.reach]
  have hfile : (A.crash 0 stay torn cut).file g = (S, S) := by
    have hl := lasts_find stay torn cut g A.writes 0 A.fs hs.writes
    obtain ⟨x, hx, hxg⟩ := find_mem h.mem
    have hsx : x.2.2 = S := by
      have := hs.sure
      unfold Ab.sure Ab.file at this
      rw [hx] at this
      exact this
    simp only [Ab.crash, Ab.file]
    rw [hnm, find_map_same _ (fun x => by split <;> rfl), hl, hx]
    simp only [Option.map_some, Option.getD_some]
    rw [if_pos (by rw [hxg]; exact hreach)]
    simp only [hsx]
  refine ⟨⟨rfl, rfl, ?_, by unfold Ab.now; rw [hfile], ?_⟩, ⟨?_, by unfold Ab.sure; rw [hfile], by simp [Ab.crash]⟩, rfl, rfl⟩
  · simp only [Ab.crash]; exact hnm
  · simp only [Ab.crash]
    rw [ids_map _ _ (fun x => by split <;> rfl), lasts_id]
    exact h.mem
  · simp only [Ab.crash]; rw [hnm]
theorem JF.putOk {A : Ab} {nm : ByteArray} {g : Nat} {C : List UInt8} (h : JF A nm g C) (hw : ∀ w ∈ A.writes, w.1 ∈ A.fs.map (·.1)) : PutOk A nm :=
  ⟨h.plan, h.off, .inr ⟨g, h.names⟩, fun x hx => by rw [h.names] at hx; simp at hx; subst hx; exact h.mem, hw⟩
theorem JF.fileL {A : Ab} {nm : ByteArray} {g : Nat} {C : List UInt8} (h : JF A nm g C) : fileL A nm = recordsA (foundL C) := by
  have hs : A.size nm = (C.length, 0) := by simp [Ab.size, h.look, h.now]
  have hr : A.read nm 0 (C.length : Int) = (C, 0) := by
    unfold Ab.read
    rw [h.off, h.look]
    simp only [Bool.false_eq_true, if_false, h.now]
    rw [if_neg (by omega)]
    simp
  unfold Proofs.Ytpdmbmnhgcnelaa.fileL
  rw [hs]
  simp only
  rw [hr]
/-- Open, where there is a name for it and room. -/
theorem open_law {A A' : Ab} {nm : ByteArray} {e : Nat} {x : JN} {ls : List (List UInt8)} (h : PutOk A nm) (hn : isName nm = true) (hf : isName (freshOf nm) = true) (hne : freshOf nm ≠ nm) (hls : fileL A nm = ls) (hle : (ls.flatMap encL).length ≤ 524288) (hroom : A.used + 32 + (ls.flatMap encL).length ≤ A.room)
    (hR : OpenR A nm e A' x) : e = 0 ∧ x = ⟨1, ((ls.flatMap encL).length : Int), ((ls.flatMap encL).length : Int), false⟩ ∧ (∃ g, AInv A' nm g (ls.flatMap encL).length A.room (ls.flatMap encL)) ∧ A'.writes.length ≤ A.writes.length + 1 := by
  unfold OpenR at hR
  rw [if_neg (by rw [hn, hf]; simp), if_neg (by rw [h.off]; simp), hls] at hR
  obtain ⟨y, hp, rfl, rfl⟩ := hR
  have hwl : (wholeOf ls).length = 32 + (ls.flatMap encL).length := by rw [wholeOf_eq, jfile_len]
  obtain ⟨h1, h2, g, h3, h4, h5, h6⟩ := put_law h hn hf hne (by rw [hwl]; omega) (by rw [hwl]; omega) hp
  rw [wholeOf_eq] at h3 h4
  refine ⟨h1, by rw [h2], ⟨g, h3, h4.states, h5, Nat.le_refl _, fun _ => h4⟩, h6⟩
theorem new_putOk (room : Nat) (nm : ByteArray) : PutOk (Ab.new room) nm := ⟨rfl, rfl, .inl rfl, by simp [Ab.new], by simp [Ab.new]⟩
theorem new_file (room : Nat) (nm : ByteArray) : fileL (Ab.new room) nm = [] := by
  unfold fileL
  have : (Ab.new room).read nm 0 ((Ab.new room).size nm).1 = ([], 4) := by simp [Ab.new, Ab.read, Ab.size, Ab.look, Ab.lookIn]
  rw [this]
  exact records_nil
theorem new_used (room : Nat) : (Ab.new room).used = 0 := by simp [Ab.new, Ab.used]
/-- A journal's whole way: appended, committed, behind a crash it tells the same. -/
theorem AInv.back {A A1 A2 : Ab} {nm : ByteArray} {g m rm e e2 : Nat} {ls : List (List UInt8)} {x1 x2 : JN} (h : AInv A nm g m rm (ls.flatMap encL)) (hn : isName nm = true) (hf : isName (freshOf nm) = true) (hne : freshOf nm ≠ nm) (hls : ∀ x ∈ ls, x.length ≤ 4096)
    (hb : (ls.flatMap encL).length ≤ 524288) (hr : 64 + 2 * (ls.flatMap encL).length ≤ rm) (hc : CommitR nm A ⟨1, ((ls.flatMap encL).length : Int), (m : Int), false⟩ e A1 x1) (ho : OpenR (A1.crash 0 [] (-1) 0) nm e2 A2 x2) :
    e = 0 ∧ x1.br = false ∧ e2 = 0 ∧ fileL (A1.crash 0 [] (-1) 0) nm = ls ∧ x2 = ⟨1, ((ls.flatMap encL).length : Int), ((ls.flatMap encL).length : Int), false⟩ ∧ (∃ g, AInv A2 nm g (ls.flatMap encL).length rm (ls.flatMap encL)) ∧ A1.writes.length ≤ A.writes.length + 1 ∧ A2.writes.length ≤ 1 := by
  obtain ⟨c1, c2, c3, C, c4, c5, c6, c7, c8⟩ := commit_law h hn hb (by omega) hc
  obtain ⟨d1, d2, d3, d4⟩ := crash_law c4 c5 [] (-1) 0
  have hfl : fileL (A1.crash 0 [] (-1) 0) nm = ls := by rw [d1.fileL, c6, records_enc ls hls]
  obtain ⟨f1, f2, ⟨g2, f3⟩, f4⟩ := open_law (d1.putOk (by rw [d4]; simp)) hn hf hne hfl hb (by rw [d1.used, d3, c3, c7]; omega) ho
  rw [d3, c3] at f3
  rw [d4] at f4
  exact ⟨c1, c2, f1, hfl, f2, ⟨g2, f3⟩, c8, by simpa using f4⟩
theorem AInv.reopen {A A2 : Ab} {nm : ByteArray} {g rm e2 : Nat} {ls : List (List UInt8)} {x2 : JN} (h : AInv A nm g (ls.flatMap encL).length rm (ls.flatMap encL)) (hids : ∀ w ∈ A.writes, w.1 ∈ A.fs.map (·.1)) (hn : isName nm = true) (hf : isName (freshOf nm) = true) (hne : freshOf nm ≠ nm) (hls : ∀ x ∈ ls, x.length ≤ 4096)
    (hb : (ls.flatMap encL).length ≤ 524288) (hr : 64 + 2 * (ls.flatMap encL).length ≤ rm) (ho : OpenR A nm e2 A2 x2) :
    e2 = 0 ∧ fileL A nm = ls ∧ x2 = ⟨1, ((ls.flatMap encL).length : Int), ((ls.flatMap encL).length : Int), false⟩ ∧ (∃ g, AInv A2 nm g (ls.flatMap encL).length rm (ls.flatMap encL)) ∧ A2.writes.length ≤ A.writes.length + 1 := by
  have hfl : fileL A nm = ls := by
    rw [h.jf.fileL]
    unfold jfile
    rw [found_put _ _ (Nat.le_refl _) (by omega), List.take_length, records_enc ls hls]
  obtain ⟨f1, f2, ⟨g2, f3⟩, f4⟩ := open_law (h.jf.putOk hids) hn hf hne hfl hb (by rw [h.jf.used, h.room, jfile_len]; omega) ho
  rw [h.room] at f3
  exact ⟨f1, hfl, f2, ⟨g2, f3⟩, f4⟩
end Go.Proofs.Ytpdmbmnhgcnelaa
