/- Texts of one claim, joined: Jl, Rv, Rn, Ro, Rp, Rq, Rr. -/
import Derived.Test.YtpdmbmnhgcnelaaGreatQJS6
import Derived.Test.YtpdmbmnhgcnelaaGreatQJS8
/- journal, part l0 (plain): what a file's bytes tell. -/
set_option linter.unusedVariables false
set_option linter.unusedSimpArgs false
namespace Go.Proofs.YtpdmbmnhgcnelaaGreat
open Go Go.SL

theorem toUint_cons {n : Nat} (h : n < 128) : toUintA [UInt8.ofNat n] = some n := by
  have := toUint_uv (n := n) (by omega)
  rwa [uv_small h] at this
theorem toUint_big {c : UInt8} (h : ¬ c.toNat < 128) : toUintA [c] = none := by
  unfold toUintA cutA
  simp [cutL, h]
theorem longA_enc {x : List UInt8} (hx : x.length ≤ 4096) (rest : List UInt8) : longA (encL x ++ rest) = some ((uv x.length).length, x.length) := by
  unfold longA encL
  have hp := uv_pos x.length
  rw [if_pos (by simp only [List.length_append]; omega)]
  by_cases h : x.length < 128
  · rw [uv_small h]
    simp only [List.cons_append, List.nil_append, List.take_succ_cons, List.take_zero, toUint_cons h, List.length_singleton]
  · have h2 : uv x.length = [UInt8.ofNat (x.length % 128 + 128), UInt8.ofNat (x.length / 128)] := by rw [uv_big h, uv_small (by omega)]
    have hu := toUint_uv (n := x.length) (by omega)
    rw [h2] at hu ⊢
    have e : (UInt8.ofNat (x.length % 128 + 128)).toNat = x.length % 128 + 128 := by simp only [UInt8.toNat_ofNat']; omega
    simp only [List.cons_append, List.nil_append, List.take_succ_cons, List.take_zero]
    rw [toUint_big (by rw [e]; omega)]
    simp only [List.length_cons]
    rw [if_pos (by omega), hu]
    rfl
theorem records_enc : ∀ (ls : List (List UInt8)), (∀ x ∈ ls, x.length ≤ 4096) → recordsA (ls.flatMap encL) = ls
  | [], _ => by
    refine recordsA_none ?_
    unfold longA
    simp
  | x :: ls, h => by
    have hx := h x (List.mem_cons_self ..)
    have hl := longA_enc hx (ls.flatMap encL)
    have hen : (encL x).length = (uv x.length).length + x.length := by simp [encL]
    rw [List.flatMap_cons, recordsA_cons hl ⟨hx, by rw [List.length_append, hen]; omega⟩]
    congr 1
    · unfold encL
      rw [List.append_assoc, List.drop_left, List.take_left]
    · rw [← hen, List.drop_left, records_enc ls (fun y hy => h y (List.mem_cons_of_mem _ hy))]
theorem records_nil : recordsA [] = [] := records_enc [] (by simp)
theorem leN_head {n m : Nat} (hn : n < 4294967296) (hm : m < 4294967296) : leN (headL n m) = n ∧ leN ((headL n m).drop 4) = m := by
  unfold headL
  rw [List.append_assoc]
  refine ⟨leN_le4 n hn _, ?_⟩
  rw [show (le4 n ++ (le4 m ++ (le4 n ++ le4 m))).drop 4 = le4 m ++ (le4 n ++ le4 m) from rfl]
  exact leN_le4 m hm _
theorem headOk_at {C : List UInt8} {k last n m : Nat} (h : (C.drop (16 * k)).take 16 = headL n m) (hn : n < 4294967296) (hm : m < 4294967296) : headOk C k last = decide (last < n ∧ n ≤ 1073741824 ∧ n % 2 = k ∧ m + 32 ≤ C.length) := by
  unfold headOk
  rw [h]
  simp only [(leN_head hn hm).1, (leN_head hn hm).2, and_true]
theorem headOk_zero {C : List UInt8} {k last : Nat} (h : (C.drop (16 * k)).take 16 = List.replicate 16 0) : headOk C k last = false := by
  unfold headOk
  rw [h]
  have : leN (List.replicate 16 0) = 0 := by decide
  simp only [this]
  exact decide_eq_false (fun hh => by have := hh.1; omega)
theorem lastOf_at {C : List UInt8} {k n m : Nat} {s : Nat × Nat} (h : (C.drop (16 * k)).take 16 = headL n m) (hn : n < 4294967296) (hm : m < 4294967296) : lastOf2 C k s = if s.1 < n ∧ n ≤ 1073741824 ∧ n % 2 = k ∧ m + 32 ≤ C.length then (n, m) else s := by
  unfold lastOf2
  rw [headOk_at h hn hm, h, (leN_head hn hm).1, (leN_head hn hm).2]
  by_cases hc : s.1 < n ∧ n ≤ 1073741824 ∧ n % 2 = k ∧ m + 32 ≤ C.length
  · rw [if_pos hc, if_pos (decide_eq_true hc)]
  · rw [if_neg hc, if_neg (by rw [decide_eq_false hc]; simp)]
theorem lastOf_zero {C : List UInt8} {k : Nat} {s : Nat × Nat} (h : (C.drop (16 * k)).take 16 = List.replicate 16 0) : lastOf2 C k s = s := by
  unfold lastOf2
  rw [headOk_zero h]; simp
theorem cut16 (a b c : List UInt8) (ha : a.length = 16) (hb : b.length = 16) : ((a ++ b ++ c).drop (16 * 0)).take 16 = a ∧ ((a ++ b ++ c).drop (16 * 1)).take 16 = b ∧ (a ++ b ++ c).drop 32 = c := by
  have h32 : (a ++ b).length = 32 := by rw [List.length_append]; omega
  refine ⟨?_, ?_, ?_⟩
  · rw [List.append_assoc, Nat.mul_zero, List.drop_zero, ← ha, List.take_left]
  · rw [List.append_assoc, show 16 * 1 = a.length from by omega, List.drop_left, ← hb, List.take_left]
  · rw [← h32, List.drop_left]
theorem found_put (m : Nat) (c : List UInt8) (hm : m ≤ c.length) (hm2 : m < 4294967296) : foundL (List.replicate 16 0 ++ headL 1 m ++ c) = c.take m := by
  obtain ⟨h0, h1, h2⟩ := cut16 (List.replicate 16 0) (headL 1 m) c (by simp) (headL_len _ _)
  have hl : (List.replicate 16 0 ++ headL 1 m ++ c).length = 32 + c.length := by simp only [List.length_append, List.length_replicate, headL_len]
  unfold foundL
  rw [if_neg (by omega), h2, lastOf_zero h0, lastOf_at h1 (by omega) hm2, if_pos ⟨by decide, by omega, by decide, by omega⟩]
theorem found_commit (m m1 : Nat) (c : List UInt8) (hm : m ≤ c.length) (hm2 : m < 4294967296) (hm1 : m1 < 4294967296) : foundL (headL 2 m ++ headL 1 m1 ++ c) = c.take m := by
  obtain ⟨h0, h1, h2⟩ := cut16 (headL 2 m) (headL 1 m1) c (headL_len _ _) (headL_len _ _)
  have hl : (headL 2 m ++ headL 1 m1 ++ c).length = 32 + c.length := by simp only [List.length_append, headL_len]
  unfold foundL
  rw [if_neg (by omega), h2, lastOf_at h0 (by omega) hm2, if_pos ⟨by decide, by omega, by decide, by omega⟩, lastOf_at h1 (by omega) hm1, if_neg (by intro h; have := h.1; simp only at this; omega)]
theorem found_nil : foundL [] = [] := rfl
end Go.Proofs.YtpdmbmnhgcnelaaGreat

/- journal, part l1 (plain): a disk that nothing ails, with one file: what put, Append, Commit, Crash make of it. -/
set_option linter.unusedVariables false
set_option linter.unusedSimpArgs false
namespace Go.Proofs.YtpdmbmnhgcnelaaGreat
open Go Go.SL

theorem file_cons (A : Ab) (g f : Nat) (x : List UInt8 × List UInt8) : ({ A with fs := (g, x) :: A.fs } : Ab).file f = if g = f then x else A.file f := by
  simp only [Ab.file, List.find?_cons]
  by_cases h : g = f
  · simp [h]
  · simp [h]
theorem find_map_same {fs : List (Nat × List UInt8 × List UInt8)} (u : Nat × List UInt8 × List UInt8 → Nat × List UInt8 × List UInt8) (hu : ∀ x, (u x).1 = x.1) (f : Nat) :
    (fs.map u).find? (fun x => decide (x.1 = f)) = (fs.find? (fun x => decide (x.1 = f))).map u := by
  induction fs with
  | nil => rfl
  | cons x l ih =>
    simp only [List.map_cons, List.find?_cons, hu]
    by_cases h : x.1 = f
    · simp [h]
    · simp [h, ih]
theorem find_mem {fs : List (Nat × List UInt8 × List UInt8)} {f : Nat} (h : f ∈ fs.map (·.1)) : ∃ x, fs.find? (fun x => decide (x.1 = f)) = some x ∧ x.1 = f := by
  obtain ⟨y, hy, hyf⟩ := List.mem_map.1 h
  cases hx : fs.find? (fun x => decide (x.1 = f)) with
  | none => exact absurd hyf (by simpa using List.find?_eq_none.1 hx y hy)
  | some x => exact ⟨x, rfl, by simpa using List.find?_some hx⟩
/-- A file behind a change of all files. -/
theorem file_map (A : Ab) (u : Nat × List UInt8 × List UInt8 → Nat × List UInt8 × List UInt8) (hu : ∀ x, (u x).1 = x.1) {f : Nat} (h : f ∈ A.fs.map (·.1)) : ({ A with fs := A.fs.map u } : Ab).file f = (u (f, A.file f)).2 := by
  obtain ⟨x, hx, hxf⟩ := find_mem h
  simp only [Ab.file]
  rw [find_map_same u hu, hx]
  obtain ⟨a, b⟩ := x
  simp only at hxf
  subst hxf
  rfl
theorem ids_map (fs : List (Nat × List UInt8 × List UInt8)) (u : Nat × List UInt8 × List UInt8 → Nat × List UInt8 × List UInt8) (hu : ∀ x, (u x).1 = x.1) : (fs.map u).map (·.1) = fs.map (·.1) := by
  rw [List.map_map]
  exact List.map_congr_left fun x _ => hu x
theorem meet_ok {A : Ab} (hp : A.plan = []) (ho : A.off = false) : A.meet true = (0, A) := by simp [Ab.meet, hp, ho]
theorem find_ok {A : Ab} (hp : A.plan = []) (ho : A.off = false) {nm : ByteArray} {f : Nat} (hl : A.look nm = some f) : A.find nm true = (0, some f, A) := by simp [Ab.find, meet_ok hp ho, hl]
theorem write_ok {A : Ab} (hp : A.plan = []) (ho : A.off = false) {nm : ByteArray} {f : Nat} (hl : A.look nm = some f) (at_ : Nat) (b : List UInt8) (hr : A.used + (at_ + b.length - (A.now f).length) ≤ A.room) :
    A.write true nm at_ b = (0, { A with fs := Ab.upd A.fs f (wroteL (A.now f) at_ b), writes := A.writes ++ [(f, at_, b)] }) := by
  simp only [Ab.write, find_ok hp ho hl, if_true]
  rw [if_neg (by omega)]
theorem sync_ok {A : Ab} (hp : A.plan = []) (ho : A.off = false) {nm : ByteArray} {f : Nat} (hl : A.look nm = some f) :
    A.sync true nm = (0, { A with fs := Ab.updS A.fs f, writes := A.writes.filter fun x => !decide (x.1 = f) }) := by
  simp only [Ab.sync, find_ok hp ho hl, if_true]
/-- One file, of that name, with these bytes. -/
structure JF (A : Ab) (nm : ByteArray) (f : Nat) (C : List UInt8) : Prop where
  plan : A.plan = []
  off : A.off = false
  names : A.names = [(nm, f)]
  now : A.now f = C
  mem : f ∈ A.fs.map (·.1)
/-- It is sure. -/
structure JS (A : Ab) (nm : ByteArray) (f : Nat) (S : List UInt8) : Prop where
  states : A.states = [[(nm, f)]]
  sure : A.sure f = S
  writes : ∀ w ∈ A.writes, w.1 ≠ f
theorem JF.look {A : Ab} {nm : ByteArray} {f : Nat} {C : List UInt8} (h : JF A nm f C) : A.look nm = some f := by simp [Ab.look, Ab.lookIn, h.names]
theorem JF.used {A : Ab} {nm : ByteArray} {f : Nat} {C : List UInt8} (h : JF A nm f C) : A.used = C.length := by simp [Ab.used, h.names, h.now]
/-- A write into it. -/
theorem JF.write {A : Ab} {nm : ByteArray} {f : Nat} {C : List UInt8} (h : JF A nm f C) (at_ : Nat) (b : List UInt8) (hr : C.length + (at_ + b.length - C.length) ≤ A.room) :
    (A.write true nm at_ b).1 = 0 ∧ JF (A.write true nm at_ b).2 nm f (wroteL C at_ b) ∧ (A.write true nm at_ b).2.room = A.room ∧ (A.write true nm at_ b).2.states = A.states := by
  rw [write_ok h.plan h.off h.look at_ b (by rw [h.used, h.now]; exact hr), h.now]
  refine ⟨rfl, ⟨h.plan, h.off, h.names, ?_, ?_⟩, rfl, rfl⟩
  · have := file_map A (fun x => if x.1 = f then (x.1, wroteL C at_ b, x.2.2) else x) (fun x => by split <;> rfl) h.mem
    simp only [Ab.now, Ab.file] at this ⊢
    simp only [Ab.upd]
    rw [this]; simp
  · simp only [Ab.upd]
    rw [ids_map _ _ (fun x => by split <;> rfl)]
    exact h.mem
/-- It is synced. -/
theorem JF.sync {A : Ab} {nm : ByteArray} {f : Nat} {C : List UInt8} (h : JF A nm f C) :
    (A.sync true nm).1 = 0 ∧ JF (A.sync true nm).2 nm f C ∧ (A.sync true nm).2.room = A.room ∧ (A.sync true nm).2.states = A.states ∧ (A.sync true nm).2.sure f = C ∧ ∀ w ∈ (A.sync true nm).2.writes, w.1 ≠ f := by
  rw [sync_ok h.plan h.off h.look]
  have hf := file_map A (fun x => if x.1 = f then (x.1, x.2.1, x.2.1) else x) (fun x => by split <;> rfl) h.mem
  have hn := h.now
  simp only [Ab.now] at hn
  refine ⟨rfl, ⟨h.plan, h.off, h.names, ?_, ?_⟩, rfl, rfl, ?_, ?_⟩
  · simp only [Ab.now, Ab.file, Ab.updS] at hf ⊢
    rw [hf]; simp only [if_true]; exact hn
  · simp only [Ab.updS]
    rw [ids_map _ _ (fun x => by split <;> rfl)]
    exact h.mem
  · simp only [Ab.sure, Ab.file, Ab.updS] at hf ⊢
    rw [hf]; simp only [if_true]; exact hn
  · intro w hw
    have := (List.mem_filter.1 hw).2
    simpa using this
end Go.Proofs.YtpdmbmnhgcnelaaGreat

/- journal, part l2 (plain): put on a disk that nothing ails. -/
set_option linter.unusedVariables false
set_option linter.unusedSimpArgs false
namespace Go.Proofs.YtpdmbmnhgcnelaaGreat
open Go Go.SL

theorem wroteL_nil0 (a : List UInt8) : wroteL [] 0 a = a := by simp [wroteL]
/-- What put needs: no other file but the one that is so named. -/
structure PutOk (A : Ab) (nm : ByteArray) : Prop where
  plan : A.plan = []
  off : A.off = false
  names : A.names = [] ∨ ∃ f, A.names = [(nm, f)]
  ids : ∀ x ∈ A.names, x.2 ∈ A.fs.map (·.1)
  idsW : ∀ w ∈ A.writes, w.1 ∈ A.fs.map (·.1)
theorem put_law {A : Ab} {nm : ByteArray} {ls : List (List UInt8)} {e : Nat} {y : PS} {n s c : Int} (h : PutOk A nm) (hn : isName nm = true) (hf : isName (freshOf nm) = true) (hne : freshOf nm ≠ nm)
    (hroom : A.used + (wholeOf ls).length ≤ A.room) (hw : (wholeOf ls).length ≤ 1048576) (hR : PutR nm ls (A, n, s, c) e y) :
    e = 0 ∧ y.2 = (1, ((ls.flatMap encL).length : Int), ((ls.flatMap encL).length : Int)) ∧ ∃ g, JF y.1 nm g (wholeOf ls) ∧ JS y.1 nm g (wholeOf ls) ∧ y.1.room = A.room ∧ y.1.writes.length ≤ A.writes.length + 1 := by
  obtain ⟨fresh, hfr⟩ : ∃ fresh, fresh = freshOf nm := ⟨_, rfl⟩
  obtain ⟨W, hW⟩ : ∃ W, W = wholeOf ls := ⟨_, rfl⟩
  have hlook : A.look fresh = none := by
    rcases h.names with h0 | ⟨f, h0⟩
    · simp [Ab.look, Ab.lookIn, h0]
    · have : ¬ nm = fresh := fun e => hne (by rw [← hfr, e])
      simp [Ab.look, Ab.lookIn, h0, this]
  have hsize : (A.size fresh).2 = 4 := by simp [Ab.size, hlook]
  have hlen : A.names.length ≤ 1 := by rcases h.names with h0 | ⟨f, h0⟩ <;> simp [h0]
  unfold PutR putSteps at hR
  rw [← hfr, ← hW] at hR
  rw [← hW] at hroom hw ⊢
  simp only at hR
  rw [if_neg (by rw [hsize]; decide)] at hR
  rw [← hfr] at hf hne
  simp only [List.nil_append] at hR
  -- create
  obtain ⟨e1, x1, ⟨⟨g, hg, he1, hx1⟩, hx1'⟩, hR⟩ := hR
  have hcr : A.create true fresh g = (0, { A.chg (A.names ++ [(fresh, g)]) with fs := (g, [], []) :: A.fs }) := by
    unfold Ab.create
    rw [meet_ok h.plan h.off]
    simp only [if_true, hlook, Option.isSome_none, Bool.false_eq_true, if_false]
    rw [if_neg (by omega)]
  simp only at he1 hx1 hx1'
  rw [hf, hcr] at he1 hx1
  obtain ⟨A1, q1⟩ := x1
  simp only at hx1 hx1' he1
  subst hx1'
  rcases hR with ⟨hbad, -⟩ | ⟨-, hR⟩
  · exact absurd he1 hbad
  have hp1 : A1.plan = [] := by rw [hx1]; exact h.plan
  have ho1 : A1.off = false := by rw [hx1]; exact h.off
  have hn1 : A1.names = A.names ++ [(fresh, g)] := by rw [hx1]; rfl
  have hl1 : A1.look fresh = some g := by
    unfold Ab.look Ab.lookIn
    rw [hn1, List.find?_append]
    have : A.names.find? (fun x => decide (x.1 = fresh)) = none := by
      simp only [Ab.look, Ab.lookIn] at hlook
      exact Option.map_eq_none_iff.1 hlook
    rw [this]; simp
  have hfile1 : ∀ f, A1.file f = if g = f then ([], []) else A.file f := by
    intro f; rw [hx1]; exact file_cons (A.chg (A.names ++ [(fresh, g)])) g f ([], [])
  have hm1 : g ∈ A1.fs.map (·.1) := by rw [hx1]; simp
  have hu1 : A1.used = A.used := by
    unfold Ab.used
    rw [hn1, List.map_append, List.sum_append]
    have h1 : (A1.now g).length = 0 := by simp [Ab.now, hfile1]
    have h2 : (A.names.map fun x => (A1.now x.2).length) = A.names.map fun x => (A.now x.2).length := by
      apply List.map_congr_left
      intro x hx
      have : ¬ g = x.2 := fun e => hg (by rw [e]; exact h.ids x hx)
      simp only [Ab.now, hfile1]
      rw [if_neg this]
    rw [h2]; simp [h1]
  have hr1 : A1.room = A.room := by rw [hx1]; rfl
  have hw1 : A1.writes = A.writes := by rw [hx1]; rfl
  have hids1 : A1.fs.map (·.1) = g :: A.fs.map (·.1) := by rw [hx1]; rfl
  clear hx1 hcr
  -- write
  obtain ⟨e2, x2, ⟨⟨he2, hx2⟩, hx2'⟩, hR⟩ := hR
  have hmw : mayW fresh 0 W = true := by unfold mayW; rw [hf]; simp; omega
  have hnow1 : A1.now g = [] := by simp [Ab.now, hfile1]
  rw [hmw, write_ok hp1 ho1 hl1 0 W (by rw [hu1, hnow1, hr1]; simpa using hroom), hnow1, wroteL_nil0] at he2 hx2
  obtain ⟨A2, q2⟩ := x2
  simp only at hx2 hx2' he2
  subst hx2'
  rcases hR with ⟨hbad, -⟩ | ⟨-, hR⟩
  · exact absurd he2 hbad
  have hl2 : A2.look fresh = some g := by rw [hx2]; exact hl1
  have hp2 : A2.plan = [] := by rw [hx2]; exact hp1
  have ho2 : A2.off = false := by rw [hx2]; exact ho1
  have hn2 : A2.names = A.names ++ [(fresh, g)] := by rw [hx2]; exact hn1
  have hr2 : A2.room = A.room := by rw [hx2]; exact hr1
  have hw2 : A2.writes = A.writes ++ [(g, 0, W)] := by rw [hx2, ← hw1]
  have hids2 : A2.fs.map (·.1) = g :: A.fs.map (·.1) := by
    rw [hx2, ← hids1]
    exact ids_map _ _ (fun x => by split <;> rfl)
  have hnow2 : A2.now g = W := by
    have := file_map A1 (fun x => if x.1 = g then (x.1, W, x.2.2) else x) (fun x => by split <;> rfl) hm1
    rw [hx2]
    simp only [Ab.now, Ab.file, Ab.upd] at this ⊢
    rw [this]; simp
  clear hx2
  -- sync
  obtain ⟨e3, x3, ⟨⟨he3, hx3⟩, hx3'⟩, hR⟩ := hR
  rw [hf, sync_ok hp2 ho2 hl2] at he3 hx3
  obtain ⟨A3, q3⟩ := x3
  simp only at hx3 hx3' he3
  subst hx3'
  rcases hR with ⟨hbad, -⟩ | ⟨-, hR⟩
  · exact absurd he3 hbad
  have hl3 : A3.look fresh = some g := by rw [hx3]; exact hl2
  have hp3 : A3.plan = [] := by rw [hx3]; exact hp2
  have ho3 : A3.off = false := by rw [hx3]; exact ho2
  have hn3 : A3.names = A.names ++ [(fresh, g)] := by rw [hx3]; exact hn2
  have hr3 : A3.room = A.room := by rw [hx3]; exact hr2
  have hw3 : A3.writes = A.writes.filter fun x => !decide (x.1 = g) := by rw [hx3]; simp only; rw [hw2, List.filter_append]; simp
  have hids3 : A3.fs.map (·.1) = g :: A.fs.map (·.1) := by
    rw [hx3, ← hids2]
    exact ids_map _ _ (fun x => by split <;> rfl)
  have hf3 : A3.file g = (W, W) := by
    have := file_map A2 (fun x => if x.1 = g then (x.1, x.2.1, x.2.1) else x) (fun x => by split <;> rfl) (by rw [hids2]; exact List.mem_cons_self ..)
    simp only [Ab.now] at hnow2
    rw [hx3]
    simp only [Ab.file, Ab.updS] at this ⊢
    rw [this]
    simp only [if_true]
    simp only [Ab.file] at hnow2
    rw [hnow2]
  clear hx3
  -- rename
  obtain ⟨e4, x4, ⟨⟨he4, hx4⟩, hx4'⟩, hR⟩ := hR
  have hall : [fresh, nm].all isName = true := by simp [hf, hn]
  have hdel : Ab.delN (A.names ++ [(fresh, g)]) fresh = A.names := by
    rcases h.names with h0 | ⟨f, h0⟩
    · simp [Ab.delN, h0]
    · have : ¬ nm = fresh := fun e => hne e.symm
      simp [Ab.delN, h0, this]
  have hset : Ab.setN A.names nm g = [(nm, g)] := by
    rcases h.names with h0 | ⟨f, h0⟩
    · simp [Ab.setN, Ab.lookIn, h0]
    · simp [Ab.setN, Ab.lookIn, h0]
  have hren : A3.rename true fresh nm = (0, A3.chg [(nm, g)]) := by
    unfold Ab.rename
    rw [find_ok hp3 ho3 hl3]
    simp only
    rw [hn3, hdel, hset]
  rw [hall, hren] at he4 hx4
  obtain ⟨A4, q4⟩ := x4
  simp only at hx4 hx4' he4
  subst hx4'
  rcases hR with ⟨hbad, -⟩ | ⟨-, hR⟩
  · exact absurd he4 hbad
  -- names
  obtain ⟨e5, x5, ⟨⟨he5, hx5⟩, hx5'⟩, hR⟩ := hR
  have hsn : A4.syncNames = (0, { A4 with states := [[(nm, g)]] }) := by
    unfold Ab.syncNames
    rw [meet_ok (by rw [hx4]; exact hp3) (by rw [hx4]; exact ho3)]
    simp only [if_true]
    rw [hx4]; rfl
  rw [hsn] at he5 hx5
  obtain ⟨A5, q5⟩ := x5
  simp only at hx5 hx5' he5
  subst hx5'
  rcases hR with ⟨hbad, -⟩ | ⟨-, hR⟩
  · exact absurd he5 hbad
  -- the numbers
  obtain ⟨e6, x6, ⟨he6, hx6⟩, hR⟩ := hR
  rcases hR with ⟨hbad, -⟩ | ⟨-, he, hy⟩
  · exact absurd he6 hbad
  subst hy hx6
  refine ⟨he, rfl, g, ⟨?_, ?_, ?_, ?_, ?_⟩, ⟨?_, ?_, ?_⟩, ?_, ?_⟩
  · simp only; rw [hx5, hx4]; exact hp3
  · simp only; rw [hx5, hx4]; exact ho3
  · simp only; rw [hx5, hx4]; rfl
  · simp only; rw [hx5, hx4]; show (A3.file g).1 = W; rw [hf3]
  · simp only; rw [hx5, hx4]; show g ∈ A3.fs.map (·.1); rw [hids3]; exact List.mem_cons_self ..
  · simp only; rw [hx5]
  · simp only; rw [hx5, hx4]; show (A3.file g).2 = W; rw [hf3]
  · simp only; rw [hx5, hx4]
    intro w hw'
    have : w ∈ A3.writes := hw'
    rw [hw3] at this
    simpa using (List.mem_filter.1 this).2
  · simp only; rw [hx5, hx4]; exact hr3
  · simp only; rw [hx5, hx4]
    show A3.writes.length ≤ _
    rw [hw3]
    have := List.length_filter_le (fun x : Nat × Nat × List UInt8 => !decide (x.1 = g)) A.writes
    omega
end Go.Proofs.YtpdmbmnhgcnelaaGreat

/- journal, part l3 (plain): Append, Commit, Crash, Open on a disk that nothing ails. -/
set_option linter.unusedVariables false
set_option linter.unusedSimpArgs false
namespace Go.Proofs.YtpdmbmnhgcnelaaGreat
open Go Go.SL

theorem wroteL_end (C b : List UInt8) : wroteL C C.length b = C ++ b := by
  unfold wroteL
  rw [show C.length + b.length - C.length = b.length from by omega]
  simp
theorem wroteL_head (a h r : List UInt8) (hl : h.length = a.length) : wroteL (a ++ r) 0 h = h ++ r := by
  unfold wroteL
  rw [show 0 + h.length - (a ++ r).length = 0 from by rw [List.length_append]; omega]
  simp only [List.replicate_zero, List.append_nil, List.take_zero, List.nil_append, Nat.zero_add]
  rw [hl, List.drop_left]
/-- A journal's file behind Open: its head counts m of the records' bytes. -/
def jfile (m : Nat) (body : List UInt8) : List UInt8 := List.replicate 16 0 ++ headL 1 m ++ body
theorem jfile_len (m : Nat) (body : List UInt8) : (jfile m body).length = 32 + body.length := by
  unfold jfile; simp only [List.length_append, List.length_replicate, headL_len]
theorem wholeOf_eq (ls : List (List UInt8)) : wholeOf ls = jfile (ls.flatMap encL).length (ls.flatMap encL) := rfl
structure AInv (A : Ab) (nm : ByteArray) (g m rm : Nat) (body : List UInt8) : Prop where
  jf : JF A nm g (jfile m body)
  states : A.states = [[(nm, g)]]
  room : A.room = rm
  le : m ≤ body.length
  same : body.length = m → JS A nm g (jfile m body)
theorem append_law {A : Ab} {nm : ByteArray} {g m rm : Nat} {body b : List UInt8} (h : AInv A nm g m rm body) (hn : isName nm = true) (hb : b.length ≤ 4096) (hfit : body.length + (encL b).length ≤ 524288) (hr : 32 + body.length + (encL b).length ≤ rm) :
    (appendA nm A ⟨1, (body.length : Int), (m : Int), false⟩ b).1 = 0 ∧ (appendA nm A ⟨1, (body.length : Int), (m : Int), false⟩ b).2.2 = ⟨1, ((body ++ encL b).length : Int), (m : Int), false⟩ ∧
    AInv (appendA nm A ⟨1, (body.length : Int), (m : Int), false⟩ b).2.1 nm g m rm (body ++ encL b) ∧ (appendA nm A ⟨1, (body.length : Int), (m : Int), false⟩ b).2.1.writes.length ≤ A.writes.length + 1 := by
  have hpos : 0 < (encL b).length := by have := uv_pos b.length; simp [encL]; omega
  have hmw : mayW nm (32 + (body.length : Int)) (encL b) = true := by unfold mayW; rw [hn]; simp; omega
  have ht : (32 + (body.length : Int)).toNat = (jfile m body).length := by rw [jfile_len]; omega
  obtain ⟨h1, h2, h3, h4⟩ := h.jf.write (jfile m body).length (encL b) (by rw [h.room]; rw [jfile_len]; omega)
  have hgw := grow_write A true nm (jfile m body).length (encL b)
  rw [wroteL_end] at h2
  unfold appendA
  simp only [Bool.false_eq_true, if_false]
  rw [if_neg (by omega), if_neg (by omega), hmw, ht, if_pos h1]
  refine ⟨rfl, by simp, ⟨?_, by rw [h4]; exact h.states, by rw [h3]; exact h.room, by have := h.le; rw [List.length_append]; omega, fun he => ?_⟩, hgw.2⟩
  · unfold jfile at h2 ⊢
    rw [List.append_assoc] at h2
    simpa using h2
  · have := h.le
    rw [List.length_append] at he; omega
theorem append_big {A : Ab} {nm : ByteArray} {x : JN} {b : List UInt8} (hx : x.br = false) (hb : 4096 < b.length) : appendA nm A x b = (1, A, x) := by
  unfold appendA
  rw [if_neg (by rw [hx]; simp), if_pos hb]
theorem commit_law {A A' : Ab} {nm : ByteArray} {g m rm e : Nat} {body : List UInt8} {x' : JN} (h : AInv A nm g m rm body) (hn : isName nm = true) (hb : body.length ≤ 524288) (hr : 32 + body.length ≤ rm)
    (hc : CommitR nm A ⟨1, (body.length : Int), (m : Int), false⟩ e A' x') :
    e = 0 ∧ x'.br = false ∧ A'.room = rm ∧ ∃ C, JF A' nm g C ∧ JS A' nm g C ∧ foundL C = body ∧ C.length = 32 + body.length ∧ A'.writes.length ≤ A.writes.length + 1 := by
  unfold CommitR at hc
  simp only [Bool.false_eq_true, if_false] at hc
  have hle := h.le
  by_cases heq : body.length = m
  · rw [if_pos (by omega)] at hc
    obtain ⟨rfl, rfl, rfl⟩ := hc
    refine ⟨rfl, rfl, h.room, _, h.jf, h.same heq, ?_, jfile_len _ _, by omega⟩
    unfold jfile
    rw [found_put m body hle (by omega), ← heq, List.take_length]
  · rw [if_neg (by omega), if_neg (by omega)] at hc
    obtain ⟨y, hR, rfl, rfl⟩ := hc
    simp only [Int.toNat_natCast, show ((1 : Int)).toNat + 1 = 2 from rfl] at hR
    unfold commitSteps at hR
    obtain ⟨e1, ⟨A1, q1⟩, ⟨⟨he1, hx1⟩, hx1'⟩, hR⟩ := hR
    simp only at he1 hx1 hx1'
    rw [hn] at he1 hx1
    obtain ⟨s1, s2, s3, s4, s5, s6⟩ := h.jf.sync
    rw [← hx1] at s2 s3 s4 s5 s6
    subst hx1'
    rcases hR with ⟨hbad, -⟩ | ⟨-, hR⟩
    · exact absurd (he1.trans s1) hbad
    obtain ⟨e2, ⟨A2, q2⟩, ⟨⟨he2, hx2⟩, hx2'⟩, hR⟩ := hR
    simp only at he2 hx2 hx2'
    have hmw : mayW nm ((2 % 2 * 16 : Nat) : Int) (headL 2 body.length) = true := by unfold mayW; rw [hn, headL_len]; simp
    rw [hmw] at he2 hx2
    obtain ⟨t1, t2, t3, t4⟩ := s2.write (2 % 2 * 16) (headL 2 body.length) (by rw [s3, h.room, jfile_len, headL_len]; omega)
    have hg2 := grow_write A1 true nm (2 % 2 * 16) (headL 2 body.length)
    rw [← hx2] at t2 t3 t4 hg2
    subst hx2'
    rcases hR with ⟨hbad, -⟩ | ⟨-, hR⟩
    · exact absurd (he2.trans t1) hbad
    obtain ⟨e3, ⟨A3, q3⟩, ⟨⟨he3, hx3⟩, hx3'⟩, hR⟩ := hR
    simp only at he3 hx3 hx3'
    rw [hn] at he3 hx3
    obtain ⟨u1, u2, u3, u4, u5, u6⟩ := t2.sync
    rw [← hx3] at u2 u3 u4 u5 u6
    subst hx3'
    rcases hR with ⟨hbad, -⟩ | ⟨-, hR⟩
    · exact absurd (he3.trans u1) hbad
    obtain ⟨e4, x4, ⟨he4, hx4⟩, hR⟩ := hR
    rcases hR with ⟨hbad, -⟩ | ⟨-, he, hy⟩
    · exact absurd he4 hbad
    subst hy hx4 he
    have hC : wroteL (jfile m body) (2 % 2 * 16) (headL 2 body.length) = headL 2 body.length ++ headL 1 m ++ body := by
      unfold jfile
      rw [List.append_assoc, show 2 % 2 * 16 = 0 from rfl, wroteL_head _ _ _ (by simp [headL_len]), List.append_assoc]
    rw [hC] at u2 u5
    have hw3 : A3.writes.length ≤ A.writes.length + 1 := by
      have h1 : A1.writes.length ≤ A.writes.length := by
        rw [hx1, sync_ok h.jf.plan h.jf.off h.jf.look]
        exact List.length_filter_le _ _
      have h3 : A3.writes.length ≤ A2.writes.length := by
        rw [hx3, sync_ok t2.plan t2.off t2.look]
        exact List.length_filter_le _ _
      have := hg2.2
      omega
    refine ⟨rfl, by simp, by simp only; rw [u3, t3, s3]; exact h.room, _, u2, ⟨by rw [u4, t4, s4]; exact h.states, u5, u6⟩, ?_, by simp only [List.length_append, headL_len], hw3⟩
    rw [found_commit body.length m body (Nat.le_refl _) (by omega) (by omega), List.take_length]
end Go.Proofs.YtpdmbmnhgcnelaaGreat

/- journal, part l4 (plain): a crash, Open. -/
set_option linter.unusedVariables false
set_option linter.unusedSimpArgs false
namespace Go.Proofs.YtpdmbmnhgcnelaaGreat
open Go Go.SL

theorem updSure_find (fs : List (Nat × List UInt8 × List UInt8)) (k f : Nat) (s : List UInt8) (h : k ≠ f) : (Ab.updSure fs k s).find? (fun x => decide (x.1 = f)) = fs.find? (fun x => decide (x.1 = f)) := by
  unfold Ab.updSure
  rw [find_map_same _ (fun x => by split <;> rfl)]
  cases hx : fs.find? (fun x => decide (x.1 = f)) with
  | none => rfl
  | some x =>
    have : x.1 = f := by simpa using List.find?_some hx
    have hne : ¬ x.1 = k := by rw [this]; exact fun e => h e.symm
    simp [hne]
theorem lasts_find (stay : List UInt8) (torn cut : Int) (f : Nat) : ∀ (ws : List (Nat × Nat × List UInt8)) (i : Nat) (fs : List (Nat × List UInt8 × List UInt8)), (∀ w ∈ ws, w.1 ≠ f) →
    (Ab.lasts stay torn cut i ws fs).find? (fun x => decide (x.1 = f)) = fs.find? (fun x => decide (x.1 = f))
  | [], i, fs, _ => rfl
  | w :: ws, i, fs, h => by
    unfold Ab.lasts
    split
    · exact lasts_find stay torn cut f ws (i + 1) fs (fun v hv => h v (List.mem_cons_of_mem _ hv))
    · rw [lasts_find stay torn cut f ws (i + 1) _ (fun v hv => h v (List.mem_cons_of_mem _ hv)), updSure_find _ _ _ _ (h w (List.mem_cons_self ..))]
theorem lasts_id (stay : List UInt8) (torn cut : Int) : ∀ (ws : List (Nat × Nat × List UInt8)) (i : Nat) (fs : List (Nat × List UInt8 × List UInt8)), (Ab.lasts stay torn cut i ws fs).map (·.1) = fs.map (·.1)
  | [], i, fs => rfl
  | w :: ws, i, fs => by
    unfold Ab.lasts
    split
    · exact lasts_id stay torn cut ws (i + 1) fs
    · rw [lasts_id stay torn cut ws (i + 1) _]
      unfold Ab.updSure
      exact ids_map _ _ (fun x => by split <;> rfl)
/-- What was sure stays. -/
theorem crash_law {A : Ab} {nm : ByteArray} {g : Nat} {C S : List UInt8} (h : JF A nm g C) (hs : JS A nm g S) (stay : List UInt8) (torn cut : Int) :
    JF (A.crash 0 stay torn cut) nm g S ∧ JS (A.crash 0 stay torn cut) nm g S ∧ (A.crash 0 stay torn cut).room = A.room ∧ (A.crash 0 stay torn cut).writes = [] := by
  have hnm : A.states.getD (max 0 (min (0 : Int) (A.states.length - 1))).toNat [] = [(nm, g)] := by rw [hs.states]; rfl
  have hreach : g ∈ Ab.reach (A.states ++ [[(nm, g)]]) := by rw [hs.states]; simp [Ab.reach]
  have hfile : (A.crash 0 stay torn cut).file g = (S, S) := by
    have hl := lasts_find stay torn cut g A.writes 0 A.fs hs.writes
    obtain ⟨x, hx, hxg⟩ := find_mem h.mem
    have hsx : x.2.2 = S := by
      have := hs.sure
      unfold Ab.sure Ab.file at this
      rw [hx] at this
      exact this
    simp only [Ab.crash, Ab.file]
    rw [hnm, find_map_same _ (fun x => by split <;> rfl), hl, hx]
    simp only [Option.map_some, Option.getD_some]
    rw [if_pos (by rw [hxg]; exact hreach)]
    simp only [hsx]
  refine ⟨⟨rfl, rfl, ?_, by unfold Ab.now; rw [hfile], ?_⟩, ⟨?_, by unfold Ab.sure; rw [hfile], by simp [Ab.crash]⟩, rfl, rfl⟩
  · simp only [Ab.crash]; exact hnm
  · simp only [Ab.crash]
    rw [ids_map _ _ (fun x => by split <;> rfl), lasts_id]
    exact h.mem
  · simp only [Ab.crash]; rw [hnm]
theorem JF.putOk {A : Ab} {nm : ByteArray} {g : Nat} {C : List UInt8} (h : JF A nm g C) (hw : ∀ w ∈ A.writes, w.1 ∈ A.fs.map (·.1)) : PutOk A nm :=
  ⟨h.plan, h.off, .inr ⟨g, h.names⟩, fun x hx => by rw [h.names] at hx; simp at hx; subst hx; exact h.mem, hw⟩
theorem JF.fileL {A : Ab} {nm : ByteArray} {g : Nat} {C : List UInt8} (h : JF A nm g C) : fileL A nm = recordsA (foundL C) := by
  have hs : A.size nm = (C.length, 0) := by simp [Ab.size, h.look, h.now]
  have hr : A.read nm 0 (C.length : Int) = (C, 0) := by
    unfold Ab.read
    rw [h.off, h.look]
    simp only [Bool.false_eq_true, if_false, h.now]
    rw [if_neg (by omega)]
    simp
  unfold Proofs.YtpdmbmnhgcnelaaGreat.fileL
  rw [hs]
  simp only
  rw [hr]
/-- Open, where there is a name for it and room. -/
theorem open_law {A A' : Ab} {nm : ByteArray} {e : Nat} {x : JN} {ls : List (List UInt8)} (h : PutOk A nm) (hn : isName nm = true) (hf : isName (freshOf nm) = true) (hne : freshOf nm ≠ nm) (hls : fileL A nm = ls) (hle : (ls.flatMap encL).length ≤ 524288) (hroom : A.used + 32 + (ls.flatMap encL).length ≤ A.room)
    (hR : OpenR A nm e A' x) : e = 0 ∧ x = ⟨1, ((ls.flatMap encL).length : Int), ((ls.flatMap encL).length : Int), false⟩ ∧ (∃ g, AInv A' nm g (ls.flatMap encL).length A.room (ls.flatMap encL)) ∧ A'.writes.length ≤ A.writes.length + 1 := by
  unfold OpenR at hR
  rw [if_neg (by rw [hn, hf]; simp), if_neg (by rw [h.off]; simp), hls] at hR
  obtain ⟨y, hp, rfl, rfl⟩ := hR
  have hwl : (wholeOf ls).length = 32 + (ls.flatMap encL).length := by rw [wholeOf_eq, jfile_len]
  obtain ⟨h1, h2, g, h3, h4, h5, h6⟩ := put_law h hn hf hne (by rw [hwl]; omega) (by rw [hwl]; omega) hp
  rw [wholeOf_eq] at h3 h4
  refine ⟨h1, by rw [h2], ⟨g, h3, h4.states, h5, Nat.le_refl _, fun _ => h4⟩, h6⟩
theorem new_putOk (room : Nat) (nm : ByteArray) : PutOk (Ab.new room) nm := ⟨rfl, rfl, .inl rfl, by simp [Ab.new], by simp [Ab.new]⟩
theorem new_file (room : Nat) (nm : ByteArray) : fileL (Ab.new room) nm = [] := by
  unfold fileL
  have : (Ab.new room).read nm 0 ((Ab.new room).size nm).1 = ([], 4) := by simp [Ab.new, Ab.read, Ab.size, Ab.look, Ab.lookIn]
  rw [this]
  exact records_nil
theorem new_used (room : Nat) : (Ab.new room).used = 0 := by simp [Ab.new, Ab.used]
/-- A journal's whole way: appended, committed, behind a crash it tells the same. -/
theorem AInv.back {A A1 A2 : Ab} {nm : ByteArray} {g m rm e e2 : Nat} {ls : List (List UInt8)} {x1 x2 : JN} (h : AInv A nm g m rm (ls.flatMap encL)) (hn : isName nm = true) (hf : isName (freshOf nm) = true) (hne : freshOf nm ≠ nm) (hls : ∀ x ∈ ls, x.length ≤ 4096)
    (hb : (ls.flatMap encL).length ≤ 524288) (hr : 64 + 2 * (ls.flatMap encL).length ≤ rm) (hc : CommitR nm A ⟨1, ((ls.flatMap encL).length : Int), (m : Int), false⟩ e A1 x1) (ho : OpenR (A1.crash 0 [] (-1) 0) nm e2 A2 x2) :
    e = 0 ∧ x1.br = false ∧ e2 = 0 ∧ fileL (A1.crash 0 [] (-1) 0) nm = ls ∧ x2 = ⟨1, ((ls.flatMap encL).length : Int), ((ls.flatMap encL).length : Int), false⟩ ∧ (∃ g, AInv A2 nm g (ls.flatMap encL).length rm (ls.flatMap encL)) ∧ A1.writes.length ≤ A.writes.length + 1 ∧ A2.writes.length ≤ 1 := by
  obtain ⟨c1, c2, c3, C, c4, c5, c6, c7, c8⟩ := commit_law h hn hb (by omega) hc
  obtain ⟨d1, d2, d3, d4⟩ := crash_law c4 c5 [] (-1) 0
  have hfl : fileL (A1.crash 0 [] (-1) 0) nm = ls := by rw [d1.fileL, c6, records_enc ls hls]
  obtain ⟨f1, f2, ⟨g2, f3⟩, f4⟩ := open_law (d1.putOk (by rw [d4]; simp)) hn hf hne hfl hb (by rw [d1.used, d3, c3, c7]; omega) ho
  rw [d3, c3] at f3
  rw [d4] at f4
  exact ⟨c1, c2, f1, hfl, f2, ⟨g2, f3⟩, c8, by simpa using f4⟩
theorem AInv.reopen {A A2 : Ab} {nm : ByteArray} {g rm e2 : Nat} {ls : List (List UInt8)} {x2 : JN} (h : AInv A nm g (ls.flatMap encL).length rm (ls.flatMap encL)) (hids : ∀ w ∈ A.writes, w.1 ∈ A.fs.map (·.1)) (hn : isName nm = true) (hf : isName (freshOf nm) = true) (hne : freshOf nm ≠ nm) (hls : ∀ x ∈ ls, x.length ≤ 4096)
    (hb : (ls.flatMap encL).length ≤ 524288) (hr : 64 + 2 * (ls.flatMap encL).length ≤ rm) (ho : OpenR A nm e2 A2 x2) :
    e2 = 0 ∧ fileL A nm = ls ∧ x2 = ⟨1, ((ls.flatMap encL).length : Int), ((ls.flatMap encL).length : Int), false⟩ ∧ (∃ g, AInv A2 nm g (ls.flatMap encL).length rm (ls.flatMap encL)) ∧ A2.writes.length ≤ A.writes.length + 1 := by
  have hfl : fileL A nm = ls := by
    rw [h.jf.fileL]
    unfold jfile
    rw [found_put _ _ (Nat.le_refl _) (by omega), List.take_length, records_enc ls hls]
  obtain ⟨f1, f2, ⟨g2, f3⟩, f4⟩ := open_law (h.jf.putOk hids) hn hf hne hfl hb (by rw [h.jf.used, h.room, jfile_len]; omega) ho
  rw [h.room] at f3
  exact ⟨f1, hfl, f2, ⟨g2, f3⟩, f4⟩
end Go.Proofs.YtpdmbmnhgcnelaaGreat

/- the two disks, plain: the program's and the reference's do the same. -/
set_option linter.unusedVariables false
set_option linter.unusedSimpArgs false
namespace Go.Proofs.YtpdmbmnhgcnelaaGreat
open Go Go.SL
def NR (σ : Nat → Nat) (l : List (ByteArray × Nat)) (l' : List Nm) : Prop := (l.map fun x => ((x.1, σ x.2) : Nm)).Perm l' ∧ (l.map (·.1)).Nodup
theorem look_iff {l : List (ByteArray × Nat)} (hn : (l.map (·.1)).Nodup) (name : ByteArray) (v : Nat) : (l.find? fun x => decide (x.1 = name)).map (·.2) = some v ↔ (name, v) ∈ l := by
  induction l with
  | nil => simp
  | cons x l ih =>
    rw [List.map_cons, List.nodup_cons] at hn
    rw [List.find?_cons]
    by_cases h : x.1 = name
    · simp only [h, decide_true, Option.map_some, Option.some.injEq]
      constructor
      · rintro rfl; rw [← h]; exact List.mem_cons_self ..
      · intro hm
        rcases List.mem_cons.1 hm with hm | hm
        · rw [← hm]
        · exact absurd (List.mem_map.2 ⟨(name, v), hm, rfl⟩) (by rw [← h]; exact hn.1)
    · simp only [h, decide_false]
      rw [ih hn.2, List.mem_cons]
      constructor
      · exact .inr
      · rintro (rfl | hm)
        · exact absurd rfl h
        · exact hm
theorem NR.keys {σ : Nat → Nat} {l : List (ByteArray × Nat)} {l' : List Nm} (h : NR σ l l') : (l.map (·.1)).Perm (l'.map (·.1)) := by
  have := h.1.map (·.1)
  rwa [List.map_map] at this
theorem NR.nodup' {σ : Nat → Nat} {l : List (ByteArray × Nat)} {l' : List Nm} (h : NR σ l l') : (l'.map (·.1)).Nodup := h.keys.nodup_iff.1 h.2
theorem NR.len {σ : Nat → Nat} {l : List (ByteArray × Nat)} {l' : List Nm} (h : NR σ l l') : l.length = l'.length := by simpa using h.1.length_eq
theorem NR.find {σ : Nat → Nat} {l : List (ByteArray × Nat)} {l' : List Nm} (h : NR σ l l') (name : ByteArray) : (l'.find? fun x => decide (x.1 = name)).map (·.2) = (Ab.lookIn l name).map σ := by
  apply Option.ext
  intro v
  rw [look_iff h.nodup' name v, Option.map_eq_some_iff, ← h.1.mem_iff, List.mem_map]
  constructor
  · rintro ⟨x, hx, he⟩
    obtain ⟨x1, x2⟩ := x
    simp only [Prod.mk.injEq] at he
    obtain ⟨rfl, rfl⟩ := he
    exact ⟨x2, (look_iff h.2 _ _).2 hx, rfl⟩
  · rintro ⟨f, hf, rfl⟩
    exact ⟨(name, f), (look_iff h.2 _ _).1 hf, rfl⟩
theorem with_perm (l : List Nm) (x : Nm) : (RM.with_ l x).Perm (x :: l) := by
  induction l with
  | nil => exact List.Perm.refl _
  | cons y l ih =>
    unfold RM.with_
    split
    · exact List.Perm.refl _
    · exact (ih.cons y).trans (List.Perm.swap _ _ _)
theorem NR.cons {σ : Nat → Nat} {l : List (ByteArray × Nat)} {l' : List Nm} (h : NR σ l l') {nm : List (ByteArray × Nat)} {k : ByteArray} {f : Nat} (hp : nm.Perm ((k, f) :: l)) (hk : k ∉ l.map (·.1)) : NR σ nm (RM.with_ l' (k, σ f)) :=
  ⟨by
    have h1 := hp.map (fun x => ((x.1, σ x.2) : Nm))
    rw [List.map_cons] at h1
    exact (h1.trans (h.1.cons (k, σ f))).trans (with_perm _ _).symm, (hp.map (·.1)).nodup_iff.2 (by rw [List.map_cons, List.nodup_cons]; exact ⟨hk, h.2⟩)⟩
theorem NR.del {σ : Nat → Nat} {l : List (ByteArray × Nat)} {l' : List Nm} (h : NR σ l l') (k : ByteArray) : NR σ (Ab.delN l k) (RM.without l' k) := by
  refine ⟨?_, ?_⟩
  · unfold Ab.delN RM.without
    have h1 := h.1.filter (fun x => !decide (x.1 = k))
    rw [List.filter_map] at h1
    exact h1
  · exact h.2.sublist (List.Sublist.map _ List.filter_sublist)
theorem delN_no (l : List (ByteArray × Nat)) (k : ByteArray) : k ∉ (Ab.delN l k).map (·.1) := by
  intro h
  obtain ⟨x, hx, rfl⟩ := List.mem_map.1 h
  have := (List.mem_filter.1 hx).2
  simp at this
theorem lookIn_none {l : List (ByteArray × Nat)} {k : ByteArray} (h : Ab.lookIn l k = none) : k ∉ l.map (·.1) := by
  intro hk
  obtain ⟨x, hx, rfl⟩ := List.mem_map.1 hk
  unfold Ab.lookIn at h
  have := List.find?_eq_none.1 (Option.map_eq_none_iff.1 h) x hx
  simp at this
theorem delN_same {l : List (ByteArray × Nat)} {k : ByteArray} (h : k ∉ l.map (·.1)) : Ab.delN l k = l := by
  unfold Ab.delN
  rw [List.filter_eq_self]
  intro x hx
  simpa using fun he => h (List.mem_map.2 ⟨x, hx, he⟩)
theorem rep_perm {l : List (ByteArray × Nat)} {k : ByteArray} {f : Nat} (hn : (l.map (·.1)).Nodup) (h : k ∈ l.map (·.1)) : (l.map fun x => if x.1 = k then (k, f) else x).Perm ((k, f) :: Ab.delN l k) := by
  induction l with
  | nil => simp at h
  | cons x l ih =>
    rw [List.map_cons, List.nodup_cons] at hn
    rw [List.map_cons]
    by_cases hx : x.1 = k
    · rw [if_pos hx]
      have hk : k ∉ l.map (·.1) := by rw [← hx]; exact hn.1
      have h1 : l.map (fun x => if x.1 = k then (k, f) else x) = l := by
        conv => rhs; rw [← List.map_id l]
        refine List.map_congr_left fun y hy => ?_
        rw [if_neg (fun he => hk (List.mem_map.2 ⟨y, hy, he⟩))]; rfl
      rw [h1]
      have h2 : Ab.delN (x :: l) k = l := by
        have := delN_same hk
        unfold Ab.delN at this ⊢
        rw [List.filter_cons, if_neg (by simp [hx]), this]
      rw [h2]
    · rw [if_neg hx]
      have h2 : Ab.delN (x :: l) k = x :: Ab.delN l k := by unfold Ab.delN; rw [List.filter_cons, if_pos (by simp [hx])]
      rw [h2]
      rw [List.map_cons, List.mem_cons] at h
      exact ((ih hn.2 (h.resolve_left fun he => hx he.symm)).cons x).trans (List.Perm.swap _ _ _)
theorem setN_perm {l : List (ByteArray × Nat)} (hn : (l.map (·.1)).Nodup) (k : ByteArray) (f : Nat) : (Ab.setN l k f).Perm ((k, f) :: Ab.delN l k) := by
  unfold Ab.setN
  cases h : Ab.lookIn l k with
  | none =>
    rw [if_neg (by simp), delN_same (lookIn_none h)]
    exact List.perm_append_singleton _ _
  | some g =>
    rw [if_pos (by simp)]
    exact rep_perm hn (List.mem_map.2 ⟨(k, g), (look_iff hn k g).1 h, rfl⟩)
theorem NR.set {σ : Nat → Nat} {l : List (ByteArray × Nat)} {l' : List Nm} (h : NR σ l l') (k : ByteArray) (f : Nat) : NR σ (Ab.setN l k f) (RM.with_ (RM.without l' k) (k, σ f)) :=
  (h.del k).cons (setN_perm h.2 k f) (delN_no _ _)
theorem NR.congr {σ σ' : Nat → Nat} {l : List (ByteArray × Nat)} {l' : List Nm} (h : NR σ l l') (he : ∀ x ∈ l, σ x.2 = σ' x.2) : NR σ' l l' := by
  refine ⟨?_, h.2⟩
  have : l.map (fun x => ((x.1, σ' x.2) : Nm)) = l.map (fun x => ((x.1, σ x.2) : Nm)) := List.map_congr_left fun x hx => by rw [he x hx]
  rw [this]; exact h.1
/-- The two disks stand alike; σ tells which of the reference's files is that of the program's. -/
structure SimR (A : Ab) (m : RM) (σ : Nat → Nat) : Prop where
  room : m.room = (A.room : Int)
  off : m.down = A.off
  plan : m.nxt = A.plan
  ids : (A.fs.map (·.1)).Nodup
  last : A.names ∈ A.states
  names : NR σ A.names m.l
  sts : All2 (NR σ) A.states m.sts
  known : ∀ st ∈ A.states, ∀ x ∈ st, x.2 ∈ A.fs.map (·.1)
  inj : ∀ a ∈ A.fs.map (·.1), ∀ b ∈ A.fs.map (·.1), σ a = σ b → a = b
  lt : ∀ a ∈ A.fs.map (·.1), σ a < m.now.length
  ls : m.sure.length = m.now.length
  now : ∀ st ∈ A.states, ∀ x ∈ st, A.now x.2 = m.file (σ x.2)
  sure : ∀ a ∈ A.fs.map (·.1), A.sure a = m.sure.getD (σ a) []
  wr : All2 (fun x y => x.1 ∈ A.fs.map (·.1) ∧ y.1 = σ x.1 ∧ y.2 = x.2) A.writes m.wr
def Sim (A : Ab) (m : RM) : Prop := ∃ σ, SimR A m σ
theorem Sim.new (room : Nat) : Sim (Ab.new room) ⟨(room : Int), [], [], [], [[]], [], [], false⟩ :=
  ⟨fun _ => 0, { room := rfl, off := rfl, plan := rfl, ids := List.nodup_nil, last := List.mem_singleton.2 rfl, names := ⟨List.Perm.refl _, List.nodup_nil⟩, sts := All2.one ⟨List.Perm.refl _, List.nodup_nil⟩
                 known := fun st hst x hx => (by rw [List.mem_singleton.1 hst] at hx; cases hx), inj := fun a ha => (by cases ha), lt := fun a ha => (by cases ha), ls := rfl
                 now := fun st hst x hx => (by rw [List.mem_singleton.1 hst] at hx; cases hx), sure := fun a ha => (by cases ha), wr := All2.nil }⟩
theorem SimR.plan' {A : Ab} {m : RM} {σ : Nat → Nat} (h : SimR A m σ) (p : List UInt8) (o : Bool) : SimR { A with plan := p, off := o } { m with nxt := p, down := o } σ :=
  ⟨h.room, rfl, rfl, h.ids, h.last, h.names, h.sts, h.known, h.inj, h.lt, h.ls, h.now, h.sure, h.wr⟩
theorem SimR.meet {A : Ab} {m : RM} {σ : Nat → Nat} (h : SimR A m σ) : (A.meet true).1 = m.may.1 ∧ SimR (A.meet true).2 m.may.2 σ := by
  unfold Ab.meet RM.may
  rw [if_neg (by simp), h.off]
  have hp := h.plan
  have ho := h.off
  by_cases h1 : A.off = true
  · rw [if_pos h1, if_pos h1]; exact ⟨rfl, h⟩
  rw [if_neg h1, if_neg h1, hp]
  cases hpl : A.plan with
  | nil => exact ⟨rfl, h⟩
  | cons x p =>
    simp only
    have hq := fun o => h.plan' p o
    by_cases hx : x = 1
    · rw [if_pos hx, if_pos hx]; exact ⟨rfl, by have := hq A.off; rw [← ho] at this ⊢; exact this⟩
    rw [if_neg hx, if_neg hx]
    by_cases hx2 : x = 2
    · rw [if_pos hx2, if_pos hx2]; exact ⟨rfl, hq true⟩
    rw [if_neg hx2, if_neg hx2]; exact ⟨rfl, by have := hq A.off; rw [← ho] at this ⊢; exact this⟩
theorem SimR.look {A : Ab} {m : RM} {σ : Nat → Nat} (h : SimR A m σ) (name : ByteArray) : m.find name = (A.look name).map σ := h.names.find name
theorem SimR.lookK {A : Ab} {m : RM} {σ : Nat → Nat} (h : SimR A m σ) {name : ByteArray} {f : Nat} (hf : A.look name = some f) : (name, f) ∈ A.names := (look_iff h.names.2 name f).1 hf
theorem SimR.used {A : Ab} {m : RM} {σ : Nat → Nat} (h : SimR A m σ) : A.used = m.used := by
  unfold Ab.used RM.used
  have h1 := h.names.1.map (fun x => (m.file x.2).length)
  rw [List.map_map] at h1
  rw [← h1.sum_nat]
  congr 1
  exact List.map_congr_left fun x hx => by rw [h.now _ h.last x hx]; rfl
theorem SimR.chg {A : Ab} {m : RM} {σ : Nat → Nat} (h : SimR A m σ) {nm : List (ByteArray × Nat)} {l' : List Nm} (hn : NR σ nm l') (hk : ∀ x ∈ nm, x.2 ∈ A.fs.map (·.1)) (hw : ∀ x ∈ nm, A.now x.2 = m.file (σ x.2)) : SimR (A.chg nm) (m.named l') σ where
  room := h.room
  off := h.off
  plan := h.plan
  ids := h.ids
  last := List.mem_append_right _ (List.mem_singleton.2 rfl)
  names := hn
  sts := h.sts.snoc hn
  known st hst := by
    rcases List.mem_append.1 hst with hst | hst
    · exact h.known st hst
    · rw [List.mem_singleton.1 hst]; exact hk
  inj := h.inj
  lt := h.lt
  ls := h.ls
  now st hst := by
    rcases List.mem_append.1 hst with hst | hst
    · exact h.now st hst
    · rw [List.mem_singleton.1 hst]; exact hw
  sure := h.sure
  wr := h.wr
theorem getD_snoc {l : List (List UInt8)} {i : Nat} (h : i < l.length) : (l ++ [[]]).getD i [] = l.getD i [] := by
  rw [List.getD_eq_getElem?_getD, List.getD_eq_getElem?_getD, List.getElem?_append_left h]
theorem getD_last (l : List (List UInt8)) : (l ++ [[]]).getD l.length [] = [] := by
  rw [List.getD_eq_getElem?_getD, List.getElem?_append_right (Nat.le_refl _), Nat.sub_self]; rfl
theorem SimR.grow {A : Ab} {m : RM} {σ : Nat → Nat} (h : SimR A m σ) {f : Nat} (hf : f ∉ A.fs.map (·.1)) :
    SimR { A with fs := (f, [], []) :: A.fs } { m with now := m.now ++ [[]], sure := m.sure ++ [[]] } (fun a => if a = f then m.now.length else σ a) := by
  have hne : ∀ a ∈ A.fs.map (·.1), a ≠ f := fun a ha he => hf (he ▸ ha)
  have hs : ∀ a ∈ A.fs.map (·.1), (fun a => if a = f then m.now.length else σ a) a = σ a := fun a ha => if_neg (hne a ha)
  have hfile : ∀ a ∈ A.fs.map (·.1), ({ A with fs := (f, [], []) :: A.fs } : Ab).file a = A.file a := fun a ha => by rw [file_cons, if_neg (fun he => hne a ha he.symm)]
  refine { room := h.room, off := h.off, plan := h.plan, ids := ?_, last := h.last, names := ?_, sts := ?_, known := ?_, inj := ?_, lt := ?_, ls := ?_, now := ?_, sure := ?_, wr := ?_ }
  · rw [List.map_cons, List.nodup_cons]; exact ⟨hf, h.ids⟩
  · exact h.names.congr fun x hx => (hs x.2 (h.known _ h.last x hx)).symm
  · refine ⟨h.sts.1, fun i x y hx hy => ?_⟩
    exact (h.sts.2 i x y hx hy).congr fun z hz => (hs z.2 (h.known _ (List.mem_of_getElem? hx) z hz)).symm
  · exact fun st hst x hx => List.mem_cons_of_mem _ (h.known st hst x hx)
  · intro a ha b hb hab
    rw [List.map_cons, List.mem_cons] at ha hb
    rcases ha with rfl | ha <;> rcases hb with rfl | hb
    · rfl
    · simp only [if_true] at hab
      have := hs b hb
      simp only at this
      rw [this] at hab
      have := h.lt b hb
      omega
    · simp only [if_true] at hab
      have := hs a ha
      simp only at this
      rw [this] at hab
      have := h.lt a ha
      omega
    · have h1 := hs a ha
      have h2 := hs b hb
      simp only at h1 h2
      rw [h1, h2] at hab
      exact h.inj a ha b hb hab
  · intro a ha
    rw [List.map_cons, List.mem_cons] at ha
    simp only [List.length_append, List.length_singleton]
    rcases ha with rfl | ha
    · simp
    · have h1 := hs a ha
      simp only at h1
      rw [h1]
      have := h.lt a ha
      omega
  · simp [h.ls]
  · intro st hst x hx
    have hk := h.known st hst x hx
    have h1 := hs x.2 hk
    simp only at h1
    rw [h1]
    have h2 := h.now st hst x hx
    unfold Ab.now RM.file at h2 ⊢
    rw [hfile _ hk, h2]
    exact (getD_snoc (h.lt _ hk)).symm
  · intro a ha
    rw [List.map_cons, List.mem_cons] at ha
    rcases ha with rfl | ha
    · unfold Ab.sure
      rw [file_cons, if_pos rfl]
      simp only [if_true]
      rw [← h.ls]
      exact (getD_last _).symm
    · have h1 := hs a ha
      simp only at h1
      rw [h1]
      have h2 := h.sure a ha
      unfold Ab.sure at h2 ⊢
      rw [hfile _ ha, h2]
      exact (getD_snoc (by rw [h.ls]; exact h.lt _ ha)).symm
  · exact h.wr.mono fun x y hh => ⟨List.mem_cons_of_mem _ hh.1, hh.2.1.trans (hs _ hh.1).symm, hh.2.2⟩
end Go.Proofs.YtpdmbmnhgcnelaaGreat

/- the reference's disk, part n: names. -/
set_option linter.unusedVariables false
set_option linter.unusedSimpArgs false
namespace Go.Proofs.YtpdmbmnhgcnelaaGreat
open Go Go.SL
def fI : Option Nat → Int
  | none => -1
  | some f => f
theorem eqS_eq {a b : ByteArray} : eqS a b = true ↔ a = b := by
  unfold eqS
  rw [beq_iff_eq]
  constructor
  · intro h; cases a; cases b; simp only [ByteArray.mk.injEq]; exact Array.ext' h
  · rintro rfl; rfl
theorem eqS_of_not {a b : ByteArray} (h : (!(eqS a b)) = false) : a = b := eqS_eq.1 (by simpa using h)
theorem find_first {l : List Nm} {i : Nat} {x : Nm} {name : ByteArray} (hx : l[i]? = some x) (he : x.1 = name) (hb : ∀ y ∈ l.take i, ¬ y.1 = name) : (l.find? fun x => decide (x.1 = name)).map (·.2) = some x.2 := by
  have hi := (List.getElem?_eq_some_iff.1 hx).1
  rw [← List.take_append_drop i l, List.find?_append, List.find?_eq_none.2 (fun y hy => by simpa using hb y hy), Option.none_or, List.drop_eq_getElem_cons hi]
  have : l[i] = x := by rw [List.getElem?_eq_getElem hi] at hx; exact Option.some.inj hx
  rw [this, List.find?_cons_of_pos (by simpa using he)]
  rfl
theorem find_nobody {l : List Nm} {name : ByteArray} (hb : ∀ y ∈ l, ¬ y.1 = name) : (l.find? fun x => decide (x.1 = name)).map (·.2) = none := by
  rw [List.find?_eq_none.2 (fun y hy => by simpa using hb y hy)]; rfl
theorem without_keep {l : List Nm} {i : Nat} {x : Nm} {name : ByteArray} (hx : l[i]? = some x) (h : ¬ x.1 = name) : RM.without (l.take (i + 1)) name = RM.without (l.take i) name ++ [x] := by
  unfold RM.without
  rw [List.take_add_one, hx, Option.toList_some, List.filter_append]
  simp [h]
theorem without_drop {l : List Nm} {i : Nat} {x : Nm} {name : ByteArray} (hx : l[i]? = some x) (h : x.1 = name) : RM.without (l.take (i + 1)) name = RM.without (l.take i) name := by
  unfold RM.without
  rw [List.take_add_one, hx, Option.toList_some, List.filter_append]
  simp [h]
attribute [local irreducible] J K Ctr Ends pts slc mapR mapI sbRow stock arrS

set_option maxRecDepth 20000 in
/-- One of the names' files, or none. -/
theorem mFind_any (br k : Nat) (D : RDk) (m : RM) (hR : RR D m) (hM : MOk m k) (name : ByteArray) : Ctr Tryz.prog 66 [ptr br, .string name] [rd br D] (fun v H => v = .int .i64 (fI (m.find name)) ∧ H = [rd br D]) := by
  obtain ⟨room, now, sure, lv, sts, wrs, nxt, down, nowL, sureL, stsL, wl, arrs, nrows⟩ := D
  have hl := hR.l
  have hlk := hM.ll
  have hkk := hM.kk
  have hfd : m.find name = (m.l.find? fun x => decide (x.1 = name)).map (·.2) := rfl
  generalize m.l = l at hl hlk hfd
  simp only at hl
  rw [hfd]
  obtain ⟨a, cap, rfl, hcap⟩ := hl.shape
  have hv := hl.view 111
  refine Ctr.enter Tryz.func66 (by kernel_rfl) rfl Tryz.ntmps66 rfl rfl ?_
  intro G F R hE
  refine K_ent (rd_o _ _ _ _ _ _ _ _ _ _ _ _ _ _ _ _) ?_
  (refine go ?_)
  refine K_loop (fun i : Nat => i ≤ l.length ∧ ∀ y ∈ l.take i, ¬ y.1 = name) (fun i => l.length - i) (fun i => [(0, ptr br), (1, .string name), (5, .int .i64 i)])
    (fun _ => pts br (cl [.int .i64 room, now, sure, .slice a l.length cap, sts, wrs, nxt, .bool down] 61) :: arrS 5 arrs :: arrS 111 nrows ::
        slc 40 1 now nowL.length nowL :: slc 40 1 sure sureL.length sureL :: slc 58 1 sts stsL.length stsL :: slc 83 3 wrs wl.length (wl.flatMap wcell) :: F) 0 ⟨Nat.zero_le _, by simp⟩ rfl (by repeat (first | exact keep_nil | refine keep_cons rfl ?_)) (Ent.refl _) ?_
  rintro i ⟨hi, hb⟩ ih
  (refine go ?_)
  refine K_condP rfl rfl ?_ ?_
  · intro hlt
    have hi' : i < l.length := by omega
    obtain ⟨x, hx⟩ : ∃ x, l[i]? = some x := ⟨l[i], by simp⟩
    have hg : ∀ q, q < 2 → (l.flatMap ncell)[i * 2 + q]? = (ncell x)[q]? := fun q hq => chunk_get ncell_len hx q hq
    obtain ⟨bb, oo, cc, hsl⟩ := hv.some (by rw [← List.length_pos_iff, chunk_len ncell_len]; omega)
    simp only [Value.slice.injEq, true_and] at hsl
    obtain ⟨rfl, rfl⟩ := hsl
    (refine go ?_)
    refine J_at (U := tab) i 2 rfl rfl rfl rfl rfl rfl rfl rfl hi' ?_
    (refine go ?_)
    refine J_loadAt (U := tab) 2 (i * 2 + 0) rfl rfl rfl hv (Nat.add_assoc _ _ _) (hg 0 (by omega)) rfl rfl ?_
    (refine go ?_)
    refine K_condA rfl rfl ?_ ?_
    · intro he
      (refine go ?_)
      refine J_at (U := tab) i 2 rfl rfl rfl rfl rfl rfl rfl rfl hi' ?_
      (refine go ?_)
      refine J_loadAt (U := tab) 2 (i * 2 + 1) rfl rfl rfl hv (Nat.add_assoc _ _ _) (hg 1 (by omega)) rfl rfl ?_
      (refine go ?_)
      have he2 : x.1 = name := eqS_eq.1 he
      have hff := find_first hx he2 hb
      rw [hff] at hE
      refine K_return hE Tryz.func66 rfl _ rfl ⟨rfl, rfl⟩ ((Ent.pick [0, 1, 2, 3, 4, 5, 6] rfl).trans (rd_c _ _ _ _ _ _ _ _ _ _ _ _ _ _ _ _))
    · intro he
      (refine go ?_)
      refine K_again ih (i + 1) rfl ⟨by omega, allTake hb hx (fun h => by rw [eqS_eq.2 h] at he; cases he)⟩ (by omega) (by repeat (first | exact keep_nil | refine keep_cons rfl ?_)) (Ent.refl _)
  · intro hge
    (refine go ?_)
    rw [find_nobody (fun y hy => hb y (by rw [List.take_of_length_le (by omega)]; exact hy))] at hE
    refine K_return hE Tryz.func66 rfl _ rfl ⟨rfl, rfl⟩ ((Ent.pick [0, 1, 2, 3, 4, 5, 6] rfl).trans (rd_c _ _ _ _ _ _ _ _ _ _ _ _ _ _ _ _))

/-- without: some of the names. -/
theorem mWithout_any (A : HP) (v : Value) (l : List Nm) (name : ByteArray) (hv : Vw A v l.length (l.flatMap ncell)) (hlk : l.length ≤ 1000000) :
    Ctr Tryz.prog 102 [v, .string name] [A] (fun r H => H = [slc 111 2 r (RM.without l name).length ((RM.without l name).flatMap ncell), A]) := by
  obtain ⟨a, cap, rfl⟩ := hv.shape
  refine Ctr.enter Tryz.func102 (by kernel_rfl) rfl Tryz.ntmps102 rfl rfl ?_
  intro G F R hE
  (refine go ?_)
  refine K_ent (slc_lift 111 2 none _) ?_
  refine K_loop (fun s : Nat × List Nm × Option Addr × Nat => s.1 ≤ l.length ∧ s.2.1 = RM.without (l.take s.1) name) (fun s => l.length - s.1)
    (fun s => [(0, .slice a l.length cap), (1, .string name), (5, .slice s.2.2.1 s.2.1.length s.2.2.2), (6, .int .i64 s.1)])
    (fun s => slc 111 2 (.slice s.2.2.1 s.2.1.length s.2.2.2) s.2.1.length (s.2.1.flatMap ncell) :: A :: F) (0, [], none, 0) ⟨Nat.zero_le _, rfl⟩ rfl (by repeat (first | exact keep_nil | refine keep_cons rfl ?_)) (Ent.refl _) ?_
  rintro ⟨i, l', a', c'⟩ ⟨hi, hsub⟩ ih
  simp only at hi hsub
  have hlen : l'.length ≤ i := by rw [hsub]; exact Nat.le_trans (List.length_filter_le _ _) (by rw [List.length_take]; omega)
  (refine go ?_)
  refine K_condP rfl rfl ?_ ?_
  · intro hlt
    simp only at hlt
    have hi' : i < l.length := by omega
    obtain ⟨x, hx⟩ : ∃ x, l[i]? = some x := ⟨l[i], by simp⟩
    have hg : ∀ q, q < 2 → (l.flatMap ncell)[i * 2 + q]? = (ncell x)[q]? := fun q hq => chunk_get ncell_len hx q hq
    obtain ⟨bb, oo, cc, hsl⟩ := hv.some (by rw [← List.length_pos_iff, chunk_len ncell_len]; omega)
    simp only [Value.slice.injEq, true_and] at hsl
    obtain ⟨rfl, rfl⟩ := hsl
    (refine go ?_)
    refine J_at (U := tab) i 2 rfl rfl rfl rfl rfl rfl rfl rfl hi' ?_
    (refine go ?_)
    refine J_loadAt (U := tab) 1 (i * 2 + 0) rfl rfl rfl hv (Nat.add_assoc _ _ _) (hg 0 (by omega)) rfl rfl ?_
    (refine go ?_)
    refine K_condA rfl rfl ?_ ?_
    · intro he
      (refine go ?_)
      refine J_at (U := tab) i 2 rfl rfl rfl rfl rfl rfl rfl rfl hi' ?_
      refine J_loadElem (U := tab) (es := ncell x) 1 (i * 2) rfl rfl rfl hv rfl (fun q v hq => ?_) rfl rfl rfl ?_
      · have hj2 : q < 2 := by
          rcases Nat.lt_or_ge q 2 with h | h
          · exact h
          · rw [List.getElem?_eq_none (by rw [ncell_len]; exact h)] at hq; cases hq
        rw [hg q hj2]; exact hq
      refine J_buildSlice1 (U := tab) (cs := ncell x) rfl rfl rfl rfl rfl rfl rfl rfl rfl (fun _ _ _ => trivial) ?_; intro b1; refine J_append (U := tab) (mm := 1) (news := ncell x) 1 0 rfl rfl rfl rfl rfl rfl rfl rfl rfl rfl rfl rfl (Vw.pts rfl) rfl (by simp [ncell, Value.oneCell']) (by simp only; omega) (by show _ * 24 ≤ _; simp only; omega) (fun _ => rfl) (fun _ _ _ => trivial) ?_; intro v'; rw [show List.flatMap ncell l' ++ ncell x = (l' ++ [x]).flatMap ncell from by simp, show List.length l' + 1 = (l' ++ [x]).length from by simp]; refine J_shape 1 rfl ?_; rintro a2 c2 rfl
      (refine go ?_)
      refine K_again ih (i + 1, l' ++ [x], a2, c2) rfl ⟨by simp only; omega, by simp only; rw [hsub, without_keep hx (fun h => by rw [h] at he; simp [eqS] at he)]⟩ (by simp only; omega) (by repeat (first | exact keep_nil | refine keep_cons rfl ?_)) (Ent.drop _ _)
    · intro he
      (refine go ?_)
      refine K_again ih (i + 1, l', a', c') rfl ⟨by simp only; omega, by simp only; rw [hsub, without_drop hx (eqS_of_not he)]⟩ (by simp only; omega) (by repeat (first | exact keep_nil | refine keep_cons rfl ?_)) (Ent.refl _)
  · intro hge
    (refine go ?_)
    refine K_return hE Tryz.func102 rfl _ rfl (by simp only; rw [hsub, List.take_of_length_le (by omega)]; rfl) (Ent.fin [0, 1] 0 rfl rfl)
end Go.Proofs.YtpdmbmnhgcnelaaGreat

/- the reference's disk, part o: with, named, Used. -/
set_option linter.unusedVariables false
set_option linter.unusedSimpArgs false
namespace Go.Proofs.YtpdmbmnhgcnelaaGreat
open Go Go.SL
theorem with_len (l : List Nm) (x : Nm) : (RM.with_ l x).length = l.length + 1 := by
  induction l with
  | nil => rfl
  | cons y l ih => simp only [RM.with_]; split <;> simp [ih]
structure WI (l : List Nm) (x : Nm) (i : Nat) (l' : List Nm) (put : Bool) : Prop where
  no : put = false → l' = l.take i ∧ RM.with_ l x = l.take i ++ RM.with_ (l.drop i) x
  yes : put = true → l' ++ l.drop i = RM.with_ l x
theorem WI.len {l : List Nm} {x : Nm} {i : Nat} {l' : List Nm} {put : Bool} (h : WI l x i l' put) (hi : i ≤ l.length) : l'.length ≤ i + put.toNat := by
  cases put with
  | false => rw [(h.no rfl).1, List.length_take]; simp; omega
  | true =>
    have := congrArg List.length (h.yes rfl)
    rw [List.length_append, List.length_drop, with_len] at this
    simp only [Bool.toNat_true]
    omega
theorem drop_get {l : List Nm} {i : Nat} {y : Nm} (hy : l[i]? = some y) : l.drop i = y :: l.drop (i + 1) := by
  have hi := (List.getElem?_eq_some_iff.1 hy).1
  rw [List.drop_eq_getElem_cons hi]
  congr 1
  rw [List.getElem?_eq_getElem hi] at hy
  exact Option.some.inj hy
theorem WI.put1 {l : List Nm} {x y : Nm} {i : Nat} {l' : List Nm} (h : WI l x i l' true) (hy : l[i]? = some y) : WI l x (i + 1) (l' ++ [y]) true :=
  ⟨(fun h => by cases h), fun _ => by rw [← h.yes rfl, drop_get hy]; simp⟩
theorem WI.ins {l : List Nm} {x y : Nm} {i : Nat} {l' : List Nm} (h : WI l x i l' false) (hy : l[i]? = some y) (hg : (!(ltS y.1 x.1 || eqS y.1 x.1)) = true) : WI l x (i + 1) (l' ++ [x] ++ [y]) true :=
  ⟨(fun h => by cases h), fun _ => by
    obtain ⟨h1, h2⟩ := h.no rfl
    rw [h2, drop_get hy, h1]
    simp only [RM.with_]
    rw [if_pos hg]
    simp⟩
theorem WI.skip {l : List Nm} {x y : Nm} {i : Nat} {l' : List Nm} (h : WI l x i l' false) (hy : l[i]? = some y) (hg : (!(ltS y.1 x.1 || eqS y.1 x.1)) = false) : WI l x (i + 1) (l' ++ [y]) false :=
  ⟨fun _ => by
    obtain ⟨h1, h2⟩ := h.no rfl
    refine ⟨by rw [h1, List.take_add_one, hy]; rfl, ?_⟩
    rw [h2, drop_get hy, List.take_add_one, hy]
    simp only [RM.with_]
    rw [if_neg (by rw [hg]; simp)]
    simp, fun h => by cases h⟩
theorem WI.end1 {l : List Nm} {x : Nm} {i : Nat} {l' : List Nm} (h : WI l x i l' true) (hi : l.length ≤ i) : l' = RM.with_ l x := by
  have := h.yes rfl
  rwa [List.drop_of_length_le hi, List.append_nil] at this
theorem WI.end0 {l : List Nm} {x : Nm} {i : Nat} {l' : List Nm} (h : WI l x i l' false) (hi : l.length ≤ i) : l' ++ [x] = RM.with_ l x := by
  obtain ⟨h1, h2⟩ := h.no rfl
  rw [h2, h1, List.take_of_length_le hi, List.drop_of_length_le hi]; rfl
theorem used_bound {m : RM} (hn : ∀ b ∈ m.now, b.length ≤ 1048576) (l : List Nm) (k : Nat) (hk : l.length ≤ k) : (l.map fun x => (m.file x.2).length).sum ≤ k * 1048576 := by
  have h1 : (l.map fun x => (m.file x.2).length).sum ≤ l.length * 1048576 := by
    clear hk
    induction l with
    | nil => simp
    | cons x l ih =>
      rw [List.map_cons, List.sum_cons, List.length_cons]
      have : (m.file x.2).length ≤ 1048576 := by
        unfold RM.file
        rw [List.getD_eq_getElem?_getD]
        cases h : m.now[x.2]? with
        | none => simp
        | some b => exact hn b (List.mem_of_getElem? h)
      omega
  exact Nat.le_trans h1 (Nat.mul_le_mul_right _ hk)
attribute [local irreducible] J K Ctr Ends pts slc mapR mapI sbRow stock arrS

set_option maxRecDepth 20000 in
/-- with: the names and one more. -/
theorem mWith_any (A : HP) (v : Value) (l : List Nm) (x : Nm) (hv : Vw A v l.length (l.flatMap ncell)) (hlk : l.length ≤ 1000000) :
    Ctr Tryz.prog 103 [v, .agg (ncell x).toArray] [A] (fun r H => H = [slc 111 2 r (RM.with_ l x).length ((RM.with_ l x).flatMap ncell), A]) := by
  obtain ⟨a, cap, rfl⟩ := hv.shape
  refine Ctr.enter Tryz.func103 (by kernel_rfl) rfl Tryz.ntmps103 rfl rfl ?_
  intro G F R hE
  (refine go ?_)
  refine J_box rfl rfl (fun _ _ _ => trivial) ?_
  intro b0
  rw [cellsL_toArray']
  (refine go ?_)
  refine K_ent (slc_lift 111 2 none _) ?_
  refine K_loop (fun s : Nat × List Nm × Bool × Option Addr × Nat => s.1 ≤ l.length ∧ WI l x s.1 s.2.1 s.2.2.1) (fun s => l.length - s.1)
    (fun s => [(0, .slice a l.length cap), (3, .pointer (some ⟨b0, 0, none⟩)), (5, .slice s.2.2.2.1 s.2.1.length s.2.2.2.2), (6, .bool s.2.2.1), (7, .int .i64 s.1)])
    (fun s => slc 111 2 (.slice s.2.2.2.1 s.2.1.length s.2.2.2.2) s.2.1.length (s.2.1.flatMap ncell) :: pts b0 (cl (ncell x) 111) :: A :: F) (0, [], false, none, 0) ⟨Nat.zero_le _, ⟨fun _ => ⟨rfl, rfl⟩, fun h => by cases h⟩⟩ rfl (by repeat (first | exact keep_nil | refine keep_cons rfl ?_)) (Ent.refl _) ?_
  rintro ⟨i, l', put, a', c'⟩ ⟨hi, hsub⟩ ih
  simp only at hi hsub
  have hlen := hsub.len hi
  have hpb : put.toNat ≤ 1 := by cases put <;> simp
  (refine go ?_)
  refine K_condP rfl rfl ?_ ?_
  · intro hlt
    simp only at hlt
    have hi' : i < l.length := by omega
    obtain ⟨y, hy⟩ : ∃ y, l[i]? = some y := ⟨l[i], by simp⟩
    have hym := List.mem_of_getElem? hy
    have hg : ∀ q, q < 2 → (l.flatMap ncell)[i * 2 + q]? = (ncell y)[q]? := fun q hq => chunk_get ncell_len hy q hq
    obtain ⟨bb, oo, cc, hsl⟩ := hv.some (by rw [← List.length_pos_iff, chunk_len ncell_len]; omega)
    simp only [Value.slice.injEq, true_and] at hsl
    obtain ⟨rfl, rfl⟩ := hsl
    refine K_drawA (fun w => Sat G w ([pts b0 (cl (ncell x) 111), A])) (.st 0 (.st 1 (.st 2 (.st 3 (.st 4 (.st 5 (.st 6 (.st 7 (.st 8 (.st 9 (.st 10 (.st 11 .nil)))))))))))) rfl (by kernel_rfl) (by kernel_rfl) (by kernel_rfl) (fun w hw => hw.ent (Ent.pickOnly ([1, 2]) rfl)) ?_
    cases put with
    | true =>
      (refine go ?_)
      refine J_at (U := tab) i 2 rfl rfl rfl rfl rfl rfl rfl rfl hi' ?_
      (refine J_loadElem (U := tab) (es := ncell y) 2 (i * 2) rfl rfl rfl hv rfl (fun q v hq => (hg q (by rcases Nat.lt_or_ge q 2 with h | h; exact h; rw [List.getElem?_eq_none (by rw [ncell_len]; exact h)] at hq; cases hq)).trans hq) rfl rfl rfl ?_)
      refine J_buildSlice1 (U := tab) (cs := ncell y) rfl rfl rfl rfl rfl rfl rfl rfl rfl (fun _ _ _ => trivial) ?_; intro b1; refine J_append (U := tab) (mm := 1) (news := ncell y) 1 0 rfl rfl rfl rfl rfl rfl rfl rfl rfl rfl rfl rfl (Vw.pts rfl) rfl (by simp [ncell, Value.oneCell']) (by simp only; omega) (by show _ * 24 ≤ _; simp only; omega) (fun _ => rfl) (fun _ _ _ => trivial) ?_; intro v'; rw [show List.flatMap ncell l' ++ ncell y = (l' ++ [y]).flatMap ncell from by simp, show List.length l' + 1 = (l' ++ [y]).length from by simp]; refine J_shape 1 rfl ?_; rintro a2 c2 rfl
      (refine go ?_)
      refine K_again ih (i + 1, l' ++ [y], true, a2, c2) rfl ⟨by simp only; omega, hsub.put1 hy⟩ (by simp only; omega) (by repeat (first | exact keep_nil | refine keep_cons rfl ?_)) (Ent.drop _ _)
    | false =>
      (refine go ?_)
      refine J_at (U := tab) i 2 rfl rfl rfl rfl rfl rfl rfl rfl hi' ?_
      (refine go ?_)
      refine J_loadAtS (U := tab) 1 (i * 2 + 0) rfl rfl rfl hv (Nat.add_assoc _ _ _) (hg 0 (by omega)) rfl rfl ?_
      (refine go ?_)
      refine K_condA rfl rfl ?_ ?_
      · intro hgt
        (refine go ?_)
        refine J_loadElem (U := tab) (es := ncell x) (o := 0) (nn := 1) (cap := 1) 1 0 rfl rfl rfl (Vw.pts rfl) rfl (fun j v h => by simpa using h) rfl rfl rfl ?_
        refine J_buildSlice1 (U := tab) (cs := ncell x) rfl rfl rfl rfl rfl rfl rfl rfl rfl (fun _ _ _ => trivial) ?_; intro b1; refine J_append (U := tab) (mm := 1) (news := ncell x) 1 0 rfl rfl rfl rfl rfl rfl rfl rfl rfl rfl rfl rfl (Vw.pts rfl) rfl (by simp [ncell, Value.oneCell']) (by simp only; omega) (by show _ * 24 ≤ _; simp only; omega) (fun _ => rfl) (fun _ _ _ => trivial) ?_; intro v'; rw [show List.flatMap ncell l' ++ ncell x = (l' ++ [x]).flatMap ncell from by simp, show List.length l' + 1 = (l' ++ [x]).length from by simp]; refine J_shape 1 rfl ?_; rintro a2 c2 rfl
        refine J_ent (Ent.drop _ _) ?_
        (refine go ?_)
        refine J_at (U := tab) i 2 rfl rfl rfl rfl rfl rfl rfl rfl hi' ?_
        (refine J_loadElem (U := tab) (es := ncell y) 2 (i * 2) rfl rfl rfl hv rfl (fun q v hq => (hg q (by rcases Nat.lt_or_ge q 2 with h | h; exact h; rw [List.getElem?_eq_none (by rw [ncell_len]; exact h)] at hq; cases hq)).trans hq) rfl rfl rfl ?_)
        have hlen2 : (l' ++ [x]).length = l'.length + 1 := by simp
        refine J_buildSlice1 (U := tab) (cs := ncell y) rfl rfl rfl rfl rfl rfl rfl rfl rfl (fun _ _ _ => trivial) ?_
        intro b2
        simp only [Bool.toNat_false] at hlen
        refine J_append (U := tab) (mm := 1) (news := ncell y) 1 0 rfl rfl rfl rfl rfl rfl rfl rfl rfl rfl rfl rfl (Vw.pts rfl) rfl (by simp [ncell, Value.oneCell']) (by rw [hlen2]; omega) (by show _ * 24 ≤ _; rw [hlen2]; omega) (fun _ => rfl) (fun _ _ _ => trivial) ?_
        intro v''
        rw [show List.flatMap ncell (l' ++ [x]) ++ ncell y = (l' ++ [x] ++ [y]).flatMap ncell from by simp, show List.length (l' ++ [x]) + 1 = (l' ++ [x] ++ [y]).length from by simp]
        refine J_shape 1 rfl ?_
        rintro a3 c3 rfl
        (refine go ?_)
        refine K_again ih (i + 1, l' ++ [x] ++ [y], true, a3, c3) rfl ⟨by simp only; omega, hsub.ins hy hgt⟩ (by simp only; omega) (by repeat (first | exact keep_nil | refine keep_cons rfl ?_)) (Ent.drop _ _)
      · intro hle
        (refine go ?_)
        refine J_at (U := tab) i 2 rfl rfl rfl rfl rfl rfl rfl rfl hi' ?_
        (refine J_loadElem (U := tab) (es := ncell y) 2 (i * 2) rfl rfl rfl hv rfl (fun q v hq => (hg q (by rcases Nat.lt_or_ge q 2 with h | h; exact h; rw [List.getElem?_eq_none (by rw [ncell_len]; exact h)] at hq; cases hq)).trans hq) rfl rfl rfl ?_)
        refine J_buildSlice1 (U := tab) (cs := ncell y) rfl rfl rfl rfl rfl rfl rfl rfl rfl (fun _ _ _ => trivial) ?_; intro b1; refine J_append (U := tab) (mm := 1) (news := ncell y) 1 0 rfl rfl rfl rfl rfl rfl rfl rfl rfl rfl rfl rfl (Vw.pts rfl) rfl (by simp [ncell, Value.oneCell']) (by simp only; omega) (by show _ * 24 ≤ _; simp only; omega) (fun _ => rfl) (fun _ _ _ => trivial) ?_; intro v'; rw [show List.flatMap ncell l' ++ ncell y = (l' ++ [y]).flatMap ncell from by simp, show List.length l' + 1 = (l' ++ [y]).length from by simp]; refine J_shape 1 rfl ?_; rintro a2 c2 rfl
        (refine go ?_)
        refine K_again ih (i + 1, l' ++ [y], false, a2, c2) rfl ⟨by simp only; omega, hsub.skip hy hle⟩ (by simp only; omega) (by repeat (first | exact keep_nil | refine keep_cons rfl ?_)) (Ent.drop _ _)
  · intro hge
    simp only at hge
    cases put with
    | true =>
      (refine go ?_)
      have hend := hsub.end1 (by omega)
      subst hend
      refine K_return hE Tryz.func103 rfl _ rfl rfl (Ent.fin [0, 2] 1 rfl rfl)
    | false =>
      simp only [Bool.toNat_false] at hlen
      (refine go ?_)
      refine J_loadElem (U := tab) (es := ncell x) (o := 0) (nn := 1) (cap := 1) 1 0 rfl rfl rfl (Vw.pts rfl) rfl (fun j v h => by simpa using h) rfl rfl rfl ?_
      refine J_buildSlice1 (U := tab) (cs := ncell x) rfl rfl rfl rfl rfl rfl rfl rfl rfl (fun _ _ _ => trivial) ?_; intro b1; refine J_append (U := tab) (mm := 1) (news := ncell x) 1 0 rfl rfl rfl rfl rfl rfl rfl rfl rfl rfl rfl rfl (Vw.pts rfl) rfl (by simp [ncell, Value.oneCell']) (by simp only; omega) (by show _ * 24 ≤ _; simp only; omega) (fun _ => rfl) (fun _ _ _ => trivial) ?_; intro v'; rw [show List.flatMap ncell l' ++ ncell x = (l' ++ [x]).flatMap ncell from by simp, show List.length l' + 1 = (l' ++ [x]).length from by simp]; refine J_shape 1 rfl ?_; rintro a2 c2 rfl
      (refine go ?_)
      rw [hsub.end0 (by omega)]
      refine K_return hE Tryz.func103 rfl _ rfl rfl (Ent.fin [1, 3] 2 rfl rfl)

/-- named: the names are these from now on. -/
theorem mNamed_any (br k : Nat) (D : RDk) (m : RM) (hR : RR D m) (hst : m.sts.length ≤ 1000000) (v : Value) (l : List Nm) (hl : RIn D.nrows 2 v l.length (l.flatMap ncell)) :
    Ctr Tryz.prog 101 [ptr br, v] [rd br D] (fun _ H => ∃ D', RR D' (m.named l) ∧ H = [rd br D']) := by
  obtain ⟨room, now, sure, lv, sts, wrs, nxt, down, nowL, sureL, stsL, wl, arrs, nrows⟩ := D
  have hss := hR.sts
  have hsk : stsL.length = m.sts.length := hR.sts.1
  simp only at hl hss ⊢
  obtain ⟨a, cap, rfl, hcap⟩ := hl.shape
  refine Ctr.enter Tryz.func101 (by kernel_rfl) rfl Tryz.ntmps101 rfl rfl ?_
  intro G F R hE
  refine K_ent (rd_o _ _ _ _ _ _ _ _ _ _ _ _ _ _ _ _) ?_
  refine K_shape 5 rfl ?_
  rintro sa sc rfl
  (refine go ?_)
  refine J_buildSlice1 (U := tab) rfl rfl rfl rfl rfl rfl rfl rfl rfl (fun _ _ _ => trivial) ?_
  intro b0
  (refine go ?_)
  refine J_ent (slc_row 58 1 b0 0 0 [] [] _ rfl (Nat.le_refl _) (by simp)) ?_
  refine J_slcVw 6 rfl ?_
  intro hvs
  have hone : ∀ u ∈ stsL, u.oneCell' = true := fun u hu => by
    obtain ⟨i, hi⟩ := List.getElem?_of_mem hu
    obtain ⟨y, _, h⟩ := hss.left hi
    obtain ⟨_, _, rfl, _⟩ := h.shape; rfl
  refine J_append (U := tab) (mm := stsL.length) (news := stsL) 0 6 rfl rfl rfl rfl rfl rfl rfl rfl rfl rfl rfl rfl hvs (by show _ = _ * 1; omega) hone (by omega) (by show _ * 24 ≤ _; omega) (fun _ => rfl) (fun _ _ _ => trivial) ?_
  intro v1
  have e1 : (0 : Nat) + stsL.length = stsL.length := by omega
  rw [e1, List.nil_append]
  refine J_shape 0 rfl ?_
  rintro a1 c1 rfl
  (refine go ?_)
  refine J_buildSlice1 (U := tab) rfl rfl rfl rfl rfl rfl rfl rfl rfl (fun _ _ _ => trivial) ?_
  intro b1
  refine J_append (U := tab) (mm := 1) (news := [.slice a l.length cap]) 1 0 rfl rfl rfl rfl rfl rfl rfl rfl rfl rfl rfl rfl (Vw.pts rfl) rfl (by simp [Value.oneCell']) (by omega) (by show _ * 24 ≤ _; omega) (fun _ => rfl) (fun _ _ _ => trivial) ?_
  intro v2
  have e2 : stsL.length + 1 = (stsL ++ [Value.slice a l.length cap]).length := by simp
  rw [e2]
  refine J_shape 1 rfl ?_
  rintro a2 c2 rfl
  (refine go ?_)
  (refine K_ent (Ent.pick ([2, 3, 4, 5, 6, 1, 8]) rfl) ?_; refine K_ent (rd_c _ _ _ _ _ _ _ _ _ _ _ _ _ _ _ _) ?_)
  have hD2 : RR ⟨room, now, sure, .slice a l.length cap, .slice a2 (stsL ++ [Value.slice a l.length cap]).length c2, wrs, nxt, down, nowL, sureL, stsL ++ [Value.slice a l.length cap], wl, arrs, nrows⟩ (m.named l) :=
    ⟨hR.room, hR.down, hR.nxt, hR.now, hR.sure, hl, hss.snoc hl, hR.wr⟩
  refine K_fallEnd hE Tryz.func101 rfl _ rfl ⟨_, hD2, rfl⟩ (Ent.fin [0] 2 rfl rfl)

/-- Used: some number. -/
theorem mUsed_any (br k : Nat) (D : RDk) (m : RM) (hR : RR D m) (hM : MOk m k) : Ctr Tryz.prog 85 [ptr br] [rd br D] (fun v H => v = .int .i64 (m.used : Int) ∧ H = [rd br D]) := by
  obtain ⟨room, now, sure, lv, sts, wrs, nxt, down, nowL, sureL, stsL, wl, arrs, nrows⟩ := D
  have hl := hR.l
  have hln := hM.l
  have hlk := hM.ll
  have hkk := hM.kk
  have hnow := hR.now
  have hnn := hM.now
  have hnl : nowL.length = m.now.length := hR.now.1
  have hus : m.used = (m.l.map fun x => (m.file x.2).length).sum := rfl
  generalize m.l = l at hl hln hlk hus
  simp only at hl hnow
  obtain ⟨a, cap, rfl, hcap⟩ := hl.shape
  have hv := hl.view 111
  refine Ctr.enter Tryz.func85 (by kernel_rfl) rfl Tryz.ntmps85 rfl rfl ?_
  intro G F R hE
  (refine K_ent (rd_o _ _ _ _ _ _ _ _ _ _ _ _ _ _ _ _) ?_)
  refine K_shape 3 rfl ?_
  rintro na nc rfl
  (refine go ?_)
  refine K_loop (fun s : Nat × Nat => s.1 ≤ l.length ∧ s.2 = ((l.take s.1).map fun x => (m.file x.2).length).sum) (fun s => l.length - s.1) (fun s => [(0, ptr br), (3, .int .i64 s.2), (4, .int .i64 s.1)])
    (fun _ => pts br (cl [.int .i64 room, .slice na nowL.length nc, sure, .slice a l.length cap, sts, wrs, nxt, .bool down] 61) :: arrS 5 arrs :: arrS 111 nrows ::
        slc 40 1 (.slice na nowL.length nc) nowL.length nowL :: slc 40 1 sure sureL.length sureL :: slc 58 1 sts stsL.length stsL :: slc 83 3 wrs wl.length (wl.flatMap wcell) :: F) (0, 0) ⟨Nat.zero_le _, rfl⟩ rfl (by repeat (first | exact keep_nil | refine keep_cons rfl ?_)) (Ent.refl _) ?_
  rintro ⟨i, u⟩ ⟨hi, hu⟩ ih
  simp only at hi hu
  have hub : u ≤ i * 1048576 := by rw [hu]; exact used_bound hnn _ _ (by rw [List.length_take]; omega)
  (refine go ?_)
  refine K_condP rfl rfl ?_ ?_
  · intro hlt
    simp only at hlt
    have hi' : i < l.length := by omega
    obtain ⟨x, hx⟩ : ∃ x, l[i]? = some x := ⟨l[i], by simp⟩
    have hg : ∀ q, q < 2 → (l.flatMap ncell)[i * 2 + q]? = (ncell x)[q]? := fun q hq => chunk_get ncell_len hx q hq
    obtain ⟨bb, oo, cc, hsl⟩ := hv.some (by rw [← List.length_pos_iff, chunk_len ncell_len]; omega)
    simp only [Value.slice.injEq, true_and] at hsl
    obtain ⟨rfl, rfl⟩ := hsl
    have hxn := hln x (List.mem_of_getElem? hx)
    obtain ⟨bv, hbv⟩ : ∃ v, nowL[x.2]? = some v := ⟨nowL[x.2]'(by omega), by simp⟩
    obtain ⟨bs, hbf, hbs⟩ := hnow.left hbv
    have hbl := hnn bs (List.mem_of_getElem? hbf)
    have hfile : m.file x.2 = bs := by unfold RM.file; rw [List.getD_eq_getElem?_getD, hbf]; rfl
    obtain ⟨ba, bc, rfl, _⟩ := hbs.shape
    refine K_ent (Ent.refl _) ?_
    refine K_slcVw 3 rfl ?_
    intro hvn
    obtain ⟨nb, no, nc', hns⟩ := hvn.some (by rw [← List.length_pos_iff]; omega)
    simp only [Value.slice.injEq, true_and] at hns
    obtain ⟨rfl, rfl⟩ := hns
    refine K_drawA (fun w => Sat G w ([pts br (cl [.int .i64 room, .slice (some ⟨nb, no, none⟩) nowL.length nc, sure, .slice (some ⟨bb, oo, none⟩) l.length cap, sts, wrs, nxt, .bool down] 61), arrS 111 nrows, slc 40 1 (.slice (some ⟨nb, no, none⟩) nowL.length nc) nowL.length nowL])) (.st 0 (.st 1 (.st 2 (.st 3 (.st 4 (.st 5 (.st 6 (.st 7 (.st 8 (.st 9 (.st 10 (.st 11 (.st 12 (.st 13 (.st 14 (.st 15 (.st 16 (.st 17 .nil)))))))))))))))))) rfl (by kernel_rfl) (by kernel_rfl) (by kernel_rfl) (fun w hw => hw.ent (Ent.pickOnly ([0, 2, 3]) rfl)) ?_
    (refine go ?_)
    refine J_at (U := tab) i 2 rfl rfl rfl rfl rfl rfl rfl rfl hi' ?_
    (refine go ?_)
    refine J_loadAtS (U := tab) 1 (i * 2 + 1) rfl rfl rfl hv (Nat.add_assoc _ _ _) (hg 1 (by omega)) rfl rfl ?_
    (refine go ?_)
    refine J_at1 (U := tab) x.2 rfl rfl rfl rfl rfl rfl rfl rfl (by omega) ?_
    (refine go ?_)
    refine J_loadAtS (U := tab) 2 x.2 rfl rfl rfl hvn rfl hbv rfl rfl ?_
    (refine go ?_)
    refine K_again ih (i + 1, u + bs.length) rfl ⟨by simp only; omega, by simp only; rw [List.take_add_one, hx, Option.toList_some, List.map_append, List.sum_append, ← hu]; simp [hfile]⟩ (by simp only; omega) (by repeat (first | exact keep_nil | refine keep_cons rfl ?_)) (Ent.refl _)
  · intro hge
    simp only at hge
    have hend : u = m.used := by rw [hu, hus, List.take_of_length_le (by omega)]
    rw [← hend] at hE
    (refine go ?_)
    refine K_return hE Tryz.func85 rfl _ rfl ⟨rfl, rfl⟩ ((Ent.pick [0, 1, 2, 3, 4, 5, 6] rfl).trans (rd_c _ _ _ _ _ _ _ _ _ _ _ _ _ _ _ _))
end Go.Proofs.YtpdmbmnhgcnelaaGreat

/- the reference's disk, part p: what it is asked. -/
set_option linter.unusedVariables false
set_option linter.unusedSimpArgs false
namespace Go.Proofs.YtpdmbmnhgcnelaaGreat
open Go Go.SL
def RM.new (room : Int) : RM := ⟨room, [], [], [], [[]], [], [], false⟩
theorem byteAt_get {s : ByteArray} {i : Nat} (h : i < s.size) : s.data.toList[i]? = some (byteAt s ((i : Int)).toNat) := by
  have hl : i < s.data.toList.length := h
  unfold byteAt
  rw [Int.toNat_natCast, List.getD_eq_getElem?_getD, List.getElem?_eq_getElem hl]; rfl
theorem RM.new_ok (room : Int) (h : room ≤ 1073741824) : MOk (RM.new room) 0 :=
  ⟨rfl, Nat.le_refl _, fun b hb => (by cases hb), fun b hb => (by cases hb), fun b hb => (by cases hb), Nat.le_refl _, fun st hst => (by rw [List.mem_singleton.1 hst]; exact ⟨fun x hx => (by cases hx), Nat.le_refl _⟩), fun h => (by cases h), Nat.le_refl _, fun x hx => (by cases hx), Nat.le_refl _, Nat.zero_le _, h⟩
theorem RR.setSts {D : RDk} {m : RM} (h : RR D m) (v : Value) : RR { D with sts := v, stsL := [D.lv] } { m with sts := [m.l] } := ⟨h.room, h.down, h.nxt, h.now, h.sure, h.l, All2.one h.l, h.wr⟩
attribute [local irreducible] J K Ctr Ends pts slc mapR mapI sbRow stock arrS

set_option maxRecDepth 20000 in
theorem mIsName_any (s : ByteArray) (hs : s.size ≤ 9223372036854775807) : Ctr Tryz.prog 25 [.string s] [] (fun v H => v = .bool (isName s) ∧ H = []) := by
  have hsz : s.data.toList.length = s.size := rfl
  refine Ctr.enter Tryz.func25 (by kernel_rfl) rfl Tryz.ntmps25 rfl rfl ?_
  intro G F R hE
  repeat' (first | (with_reducible intro _hh) | refine go1 ?_ | refine J_fork ?_ ?_ | refine J_gsP rfl rfl rfl rfl ?_ ?_ | refine K_condP rfl rfl ?_ ?_)
  · rw [isName_short (by omega)] at hE
    refine K_return hE Tryz.func25 rfl _ rfl ⟨rfl, rfl⟩ (Ent.fin [] 0 rfl rfl)
  · rw [isName_long (by omega)] at hE
    refine K_return hE Tryz.func25 rfl _ rfl ⟨rfl, rfl⟩ (Ent.fin [] 0 rfl rfl)
  rename_i hs1
  have hnm : isName s = !(s.data.toList.any fun x => !okc x) := isName_of (by omega) (by omega)
  refine K_loop (fun i : Nat => i ≤ s.size ∧ ∀ y ∈ s.data.toList.take i, okc y = true) (fun i => s.size - i) (fun i => [(0, .string s), (3, .int .i64 i)]) (fun _ => F) 0 ⟨Nat.zero_le _, by simp⟩ rfl (by repeat (first | exact keep_nil | refine keep_cons rfl ?_)) (Ent.refl _) ?_
  rintro i ⟨hi, hb⟩ ih
  (refine go ?_)
  refine K_condP rfl rfl ?_ ?_
  · intro hlt
    (refine go ?_)
    refine J_indexStr (U := tab) rfl rfl rfl rfl rfl (by omega) hlt ?_
    obtain ⟨c, hcd, hc⟩ : ∃ c, byteAt s ((i : Int)).toNat = c ∧ s.data.toList[i]? = some c := ⟨_, rfl, byteAt_get (by omega)⟩
    rw [hcd]
    have hbad : okc c = false → isName s = false := fun h => by
      rw [hnm, List.any_eq_true.2 ⟨c, List.mem_of_getElem? hc, by rw [h]; rfl⟩]; rfl
    have hgood : okc c = true → ∀ y ∈ s.data.toList.take (i + 1), okc y = true := fun h => allTake hb hc h
    repeat' (first | (with_reducible intro _hh) | refine go1 ?_ | refine J_fork ?_ ?_ | refine J_gsP rfl rfl rfl rfl ?_ ?_ | refine K_condP rfl rfl ?_ ?_)
    all_goals first
      | (have hok : okc c = true := (by unfold okc; exact decide_eq_true (by omega))
         have hg := hgood hok
         refine K_again ih (i + 1) rfl ⟨by show i + 1 ≤ _; omega, hg⟩ (by omega) (by repeat (first | exact keep_nil | refine keep_cons rfl ?_)) (Ent.refl _))
      | (have hok : okc c = false := (by unfold okc; exact decide_eq_false (by omega))
         rw [hbad hok] at hE
         refine K_return hE Tryz.func25 rfl _ rfl ⟨rfl, rfl⟩ (Ent.fin [] 0 rfl rfl))
      | (by_cases h46 : (c.toNat : Int) = 46
         · have hok : okc c = true := (by unfold okc; exact decide_eq_true (by omega))
           have hg := hgood hok
           (first | refine J_slot 44 ((.bool false)) rfl ((by rw [decide_eq_true h46]; rfl)) ?_ | refine K_slot 44 ((.bool false)) rfl ((by rw [decide_eq_true h46]; rfl)) ?_)
           (refine go ?_)
           refine K_again ih (i + 1) rfl ⟨by show i + 1 ≤ _; omega, hg⟩ (by omega) (by repeat (first | exact keep_nil | refine keep_cons rfl ?_)) (Ent.refl _)
         · have hok : okc c = false := (by unfold okc; exact decide_eq_false (by omega))
           rw [hbad hok] at hE
           (first | refine J_slot 44 ((.bool true)) rfl ((by rw [decide_eq_false h46]; rfl)) ?_ | refine K_slot 44 ((.bool true)) rfl ((by rw [decide_eq_false h46]; rfl)) ?_)
           (refine go ?_)
           refine K_return hE Tryz.func25 rfl _ rfl ⟨rfl, rfl⟩ (Ent.fin [] 0 rfl rfl))
      | trace_state
  · intro hge
    have hall : isName s = true := by
      rw [hnm, List.any_eq_false.2 (fun x hx => by rw [hb x (by rw [List.take_of_length_le (by omega)]; exact hx)]; simp)]; rfl
    rw [hall] at hE
    (refine go ?_)
    refine K_return hE Tryz.func25 rfl _ rfl ⟨rfl, rfl⟩ (Ent.fin [] 0 rfl rfl)

set_option maxRecDepth 20000 in
theorem mNew_any (room : Int) (h1 : 1 ≤ room) (h2 : room ≤ 1073741824) : Ctr Tryz.prog 7 [.int .i64 room] [] (fun v H => ∃ br D, RR D (RM.new room) ∧ v = .tuple #[ptr br, .int .i64 0] ∧ H = [rd br D]) := by
  refine Ctr.enter Tryz.func7 (by kernel_rfl) rfl Tryz.ntmps7 rfl rfl ?_
  intro G F R hE
  repeat' (first | (with_reducible intro _hh) | refine go1 ?_ | refine J_fork ?_ ?_ | refine J_gsP rfl rfl rfl rfl ?_ ?_ | refine K_condP rfl rfl ?_ ?_)
  · omega
  · omega
  refine J_buildSlice1 (U := tab) rfl rfl rfl rfl rfl rfl rfl rfl rfl (fun _ _ _ => trivial) ?_
  intro b0
  (refine go ?_)
  refine J_box rfl rfl (fun _ _ _ => trivial) ?_
  intro br
  (refine go ?_)
  refine K_ent (Ent.pick [1, 0] rfl) ?_
  refine K_ent (slc_row 58 1 b0 1 1 [.slice none 0 0] [] _ rfl (Nat.le_refl _) (by simp)) ?_
  refine K_ent (slc_lift 83 3 none _) ?_
  refine K_ent (slc_lift 40 1 none _) ?_
  refine K_ent (slc_lift 40 1 none _) ?_
  refine K_ent (arrS_nil 111 _) ?_
  refine K_ent (arrS_nil 5 _) ?_
  refine K_ent (Ent.pick [6, 0, 1, 2, 3, 5, 4] rfl) ?_
  refine K_ent (rd_c br room (.slice none 0 0) (.slice none 0 0) (.slice none 0 0) (.slice (some ⟨b0, 0, none⟩) 1 1) (.slice none 0 0) (.slice none 0 0) false [] [] [.slice none 0 0] [] [] [] _) ?_
  have hn : RIn [] 2 (.slice none 0 0) 0 [] := RIn.nil _ _ _ _
  have hD : RR ⟨room, .slice none 0 0, .slice none 0 0, .slice none 0 0, .slice (some ⟨b0, 0, none⟩) 1 1, .slice none 0 0, .slice none 0 0, false, [], [], [.slice none 0 0], [], [], []⟩ (RM.new room) :=
    ⟨rfl, rfl, BIn.nil _ _ _, All2.nil, All2.nil, hn, All2.one hn, All2.nil⟩
  refine K_return hE Tryz.func7 rfl _ rfl ⟨br, _, hD, rfl, rfl⟩ (Ent.fin [0] 0 rfl rfl)

set_option maxRecDepth 20000 in
theorem mSyncNames_any (br : Nat) (D : RDk) (m : RM) (hR : RR D m) : Ctr Tryz.prog 74 [ptr br] [rd br D] (fun v H => ∃ D', RR D' m.syncNames.2 ∧ v = .int .i64 (m.syncNames.1 : Int) ∧ H = [rd br D']) := by
  refine Ctr.enter Tryz.func74 (by kernel_rfl) rfl Tryz.ntmps74 rfl rfl ?_
  intro G F R hE
  (refine go ?_)
  refine J_call [0] rfl rfl rfl rfl (mMay_any br D m hR) rfl (fun _ _ _ _ _ => trivial) ?_
  rintro _ _ ⟨D', hD', rfl, rfl⟩
  by_cases hz : m.may.1 = 0
  case neg =>
    have hm : m.syncNames = m.may := by unfold RM.syncNames; rw [if_pos hz]
    rw [hm] at hE
    (refine go ?_)
    refine K_condP rfl rfl ?_ ?_
    · intro _
      (refine go ?_)
      refine K_return hE Tryz.func74 rfl _ rfl ⟨_, hD', rfl, rfl⟩ (Ent.fin [0] 0 rfl rfl)
    intro h; exact absurd (by simpa using h) hz
  have hm : m.syncNames = (0, { m.may.2 with sts := [m.may.2.l] }) := by unfold RM.syncNames; rw [if_neg (fun h => h hz)]
  rw [hm] at hE
  rw [hz]
  obtain ⟨room, now, sure, lv, sts, wrs, nxt, down, nowL, sureL, stsL, wl, arrs, nrows⟩ := D'
  have hl := hD'.l
  generalize hml : m.may.2.l = l at hl
  simp only at hl
  obtain ⟨a, cap, rfl, hcap⟩ := hl.shape
  (refine go ?_)
  refine J_ent (rd_o _ _ _ _ _ _ _ _ _ _ _ _ _ _ _ _) ?_
  (refine go ?_)
  refine J_buildSlice1 (U := tab) rfl rfl rfl rfl rfl rfl rfl rfl rfl (fun _ _ _ => trivial) ?_
  intro b0
  (refine go ?_)
  refine K_ent (slc_row 58 1 b0 1 1 [.slice a l.length cap] [] _ rfl (Nat.le_refl _) (by simp)) ?_
  refine K_ent (Ent.pick [1, 2, 3, 4, 5, 0, 7] rfl) ?_
  refine K_ent (rd_c br room now sure (.slice a l.length cap) (.slice (some ⟨b0, 0, none⟩) 1 1) wrs nxt down nowL sureL [.slice a l.length cap] wl arrs nrows _) ?_
  refine K_return hE Tryz.func74 rfl _ rfl ⟨_, hD'.setSts _, rfl, rfl⟩ (Ent.fin [0] 1 rfl rfl)
end Go.Proofs.YtpdmbmnhgcnelaaGreat

/- the reference's disk, part q: Create, Size, Read. -/
set_option linter.unusedVariables false
set_option linter.unusedSimpArgs false
namespace Go.Proofs.YtpdmbmnhgcnelaaGreat
open Go Go.SL
theorem RR.grow {D : RDk} {m : RM} (h : RR D m) (v1 v2 : Value) : RR { D with now := v1, sure := v2, nowL := D.nowL ++ [.slice none 0 0], sureL := D.sureL ++ [.slice none 0 0] } { m with now := m.now ++ [[]], sure := m.sure ++ [[]] } :=
  ⟨h.room, h.down, h.nxt, h.now.snoc (BIn.nil _ _ _), h.sure.snoc (BIn.nil _ _ _), h.l, h.sts, h.wr⟩
theorem RR.setRows {D : RDk} {m : RM} (h : RR D m) {nrows' : Arrs} (hs : ∀ x ∈ D.nrows, x ∈ nrows') : RR { D with nrows := nrows' } m :=
  ⟨h.room, h.down, h.nxt, h.now, h.sure, h.l.mono hs, h.sts.mono fun _ _ hh => hh.mono hs, h.wr⟩
theorem RR.setArrs {D : RDk} {m : RM} (h : RR D m) {arrs' : Arrs} (hs : ∀ x ∈ D.arrs, x ∈ arrs') : RR { D with arrs := arrs' } m :=
  ⟨h.room, h.down, h.nxt.mono hs, h.now.mono fun _ _ hh => hh.mono hs, h.sure.mono fun _ _ hh => hh.mono hs, h.l, h.sts, h.wr.mono fun _ _ hh => ⟨hh.1, hh.2.1, hh.2.2.mono hs⟩⟩
attribute [local irreducible] J K Ctr Ends pts slc mapR mapI sbRow stock arrS

set_option maxRecDepth 20000 in
theorem mCreate_any (br k : Nat) (D : RDk) (m : RM) (hR : RR D m) (hM : MOk m k) (name : ByteArray) (hs : name.size ≤ 9223372036854775807) :
    Ctr Tryz.prog 70 [ptr br, .string name] [rd br D] (fun v H => ∃ D', RR D' (m.create (isName name) name).2 ∧ v = .int .i64 ((m.create (isName name) name).1 : Int) ∧ H = [rd br D']) := by
  refine Ctr.enter Tryz.func70 (by kernel_rfl) rfl Tryz.ntmps70 rfl rfl ?_
  intro G F R hE
  (refine go ?_)
  refine J_call [] rfl rfl rfl rfl (mIsName_any name hs) rfl (fun _ _ _ _ _ => trivial) ?_
  rintro _ _ ⟨rfl, rfl⟩
  cases hnm : isName name with
  | false =>
    rw [hnm] at hE
    have hm : m.create false name = (1, m) := by unfold RM.create; rw [if_pos rfl]
    rw [hm] at hE
    (refine go ?_)
    refine K_return hE Tryz.func70 rfl _ rfl ⟨_, hR, rfl, rfl⟩ (Ent.fin [0] 0 rfl rfl)
  | true =>
    rw [hnm] at hE
    (refine go ?_)
    refine J_call [0] rfl rfl rfl rfl (mMay_any br D m hR) rfl (fun _ _ _ _ _ => trivial) ?_
    rintro _ _ ⟨D', hD', rfl, rfl⟩
    by_cases hz : m.may.1 = 0
    case neg =>
      have hm : m.create true name = m.may := by unfold RM.create; rw [if_neg (by simp), if_pos hz]
      rw [hm] at hE
      (refine go ?_)
      (first | refine J_slot 13 ((.bool true)) rfl ((congrArg Value.bool (decide_eq_true (by simpa using hz)))) ?_ | refine K_slot 13 ((.bool true)) rfl ((congrArg Value.bool (decide_eq_true (by simpa using hz)))) ?_)
      (refine go ?_)
      refine K_return hE Tryz.func70 rfl _ rfl ⟨_, hD', rfl, rfl⟩ (Ent.fin [0] 0 rfl rfl)
    have hMm := hM.may
    rw [hz]
    have hm1 : m.create true name = if (m.may.2.find name).isSome = true then (5, m.may.2) else if 200 ≤ m.may.2.l.length then (3, m.may.2) else (0, ({ m.may.2 with now := m.may.2.now ++ [[]], sure := m.may.2.sure ++ [[]] } : RM).named (RM.with_ m.may.2.l (name, m.may.2.now.length))) := by
      unfold RM.create; rw [if_neg (by simp), if_neg (fun h => h hz)]
    rw [hm1] at hE
    generalize m.may.2 = m1 at hD' hMm hE
    (refine go ?_)
    refine J_call [0] rfl rfl rfl rfl (mFind_any br k D' m1 hD' hMm name) rfl (fun _ _ _ _ _ => trivial) ?_
    rintro _ _ ⟨rfl, rfl⟩
    obtain ⟨room, now, sure, lv, sts, wrs, nxt, down, nowL, sureL, stsL, wl, arrs, nrows⟩ := D'
    have hl := hD'.l
    have hlk := hMm.ll
    have hkk := hMm.kk
    have hnl : nowL.length = m1.now.length := hD'.now.1
    have hul : sureL.length = m1.sure.length := hD'.sure.1
    have hnk := hMm.nk
    have hsn := hMm.nl
    have hsk := hMm.sk
    generalize hml : m1.l = l at hl hlk hE
    simp only at hl
    obtain ⟨a, cap, rfl, hcap⟩ := hl.shape
    refine J_ent (rd_o _ _ _ _ _ _ _ _ _ _ _ _ _ _ _ _) ?_
    refine J_shape 3 rfl ?_
    rintro na nc rfl
    refine J_shape 4 rfl ?_
    rintro ua uc rfl
    cases hfd : m1.find name with
    | some f =>
      rw [hfd] at hE
      simp only [fI]
      repeat' (first | (with_reducible intro _hh) | refine go1 ?_ | refine J_fork ?_ ?_ | refine J_gsP rfl rfl rfl rfl ?_ ?_ | refine K_condP rfl rfl ?_ ?_)
      · rw [if_pos (show (some f).isSome = true from rfl)] at hE
        refine K_return hE Tryz.func70 rfl _ rfl ⟨_, hD', rfl, rfl⟩ ((Ent.pick [0, 1, 2, 3, 4, 5, 6] rfl).trans (rd_c _ _ _ _ _ _ _ _ _ _ _ _ _ _ _ _))
      all_goals (exfalso; omega)
    | none =>
    rw [hfd, if_neg (by simp)] at hE
    simp only [fI]
    repeat' (first | (with_reducible intro _hh) | refine go1 ?_ | refine J_fork ?_ ?_ | refine J_gsP rfl rfl rfl rfl ?_ ?_ | refine K_condP rfl rfl ?_ ?_)
    · rw [if_pos (by omega)] at hE
      refine K_return hE Tryz.func70 rfl _ rfl ⟨_, hD', rfl, rfl⟩ ((Ent.pick [0, 1, 2, 3, 4, 5, 6] rfl).trans (rd_c _ _ _ _ _ _ _ _ _ _ _ _ _ _ _ _))
    rw [if_neg (by omega)] at hE
    refine J_buildSlice1 (U := tab) rfl rfl rfl rfl rfl rfl rfl rfl rfl (fun _ _ _ => trivial) ?_
    intro b1
    refine J_append (U := tab) (mm := 1) (news := [.slice none 0 0]) 4 0 rfl rfl rfl rfl rfl rfl rfl rfl rfl rfl rfl rfl (Vw.pts rfl) rfl (by simp [Value.oneCell']) (by omega) (by show _ * 24 ≤ _; omega) (fun _ => rfl) (fun _ _ _ => trivial) ?_
    intro v1
    rw [show nowL.length + 1 = (nowL ++ [Value.slice none 0 0]).length from by simp]
    refine J_shape 4 rfl ?_
    rintro a1 c1 rfl
    refine J_ent (Ent.drop _ _) ?_
    (refine go ?_)
    refine J_buildSlice1 (U := tab) rfl rfl rfl rfl rfl rfl rfl rfl rfl (fun _ _ _ => trivial) ?_
    intro b2
    refine J_append (U := tab) (mm := 1) (news := [.slice none 0 0]) 5 0 rfl rfl rfl rfl rfl rfl rfl rfl rfl rfl rfl rfl (Vw.pts rfl) rfl (by simp [Value.oneCell']) (by omega) (by show _ * 24 ≤ _; omega) (fun _ => rfl) (fun _ _ _ => trivial) ?_
    intro v2
    rw [show sureL.length + 1 = (sureL ++ [Value.slice none 0 0]).length from by simp]
    refine J_shape 5 rfl ?_
    rintro a2 c2 rfl
    refine J_ent (Ent.drop _ _) ?_
    (refine go ?_)
    have hlen1 : (nowL ++ [Value.slice none 0 0]).length = nowL.length + 1 := by simp
    refine K_drawA (fun w => Sat G w ([pts br (cl [.int .i64 room, .slice a1 (nowL ++ [Value.slice none 0 0]).length c1, .slice a2 (sureL ++ [Value.slice none 0 0]).length c2, .slice a l.length cap, sts, wrs, nxt, .bool down] 61)])) (.st 0 (.st 1 (.st 2 (.st 3 (.st 4 (.st 5 (.st 6 (.st 7 (.st 8 (.st 9 (.st 10 (.st 11 (.st 12 (.act 13 (.act 14 .nil))))))))))))))) rfl (by kernel_rfl) (by kernel_rfl) (by kernel_rfl) (fun w hw => hw.ent (Ent.pickOnly ([0]) rfl)) ?_
    (refine go ?_)
    refine J_slot 59 (.agg (ncell (name, nowL.length)).toArray) rfl (by rw [show ((nowL ++ [Value.slice none 0 0]).length : Int) - 1 = (nowL.length : Int) from by omega]; rfl) ?_
    refine J_call [2] rfl rfl rfl rfl (mWith_any (arrS 111 nrows) _ l (name, nowL.length) (hl.view _) (by omega)) rfl (fun _ _ w hp hw => by obtain rfl := hp; exact hw.ent (Ent.pickOnly [2] rfl)) ?_
    rintro r3 _ rfl
    refine J_ent (Ent.join _ _ _) ?_
    refine J_open (row_slcO 111 2 _ _ _ _) ?_
    rintro nrows' ⟨hrin, hsubr⟩
    refine J_ent (Ent.pick [1, 2, 0, 3, 4, 5, 6] rfl) ?_
    refine J_ent (rd_c br room (Value.slice a1 (nowL ++ [Value.slice none 0 0]).length c1) (Value.slice a2 (sureL ++ [Value.slice none 0 0]).length c2) (Value.slice a l.length cap) sts wrs nxt down (nowL ++ [Value.slice none 0 0]) (sureL ++ [Value.slice none 0 0]) stsL wl arrs nrows' _) ?_
    rw [← hnl] at hE
    have hD2 := (hD'.grow (.slice a1 (nowL ++ [Value.slice none 0 0]).length c1) (.slice a2 (sureL ++ [Value.slice none 0 0]).length c2)).setRows hsubr
    (refine go ?_)
    refine J_call [0] rfl rfl rfl rfl (mNamed_any br k _ _ hD2 (by simp only; omega) _ _ hrin) rfl (fun _ _ _ _ _ => trivial) ?_
    rintro _ _ ⟨D3, hD3, rfl⟩
    (refine go ?_)
    refine K_return hE Tryz.func70 rfl _ rfl ⟨_, hD3, rfl, rfl⟩ (Ent.fin [0] 0 rfl rfl)end Go.Proofs.YtpdmbmnhgcnelaaGreat

/- the reference's disk, part r: Size, Read. -/
set_option linter.unusedVariables false
set_option linter.unusedSimpArgs false
namespace Go.Proofs.YtpdmbmnhgcnelaaGreat
open Go Go.SL
theorem RM.find_lt {m : RM} {k : Nat} (h : MOk m k) {name : ByteArray} {f : Nat} (hf : m.find name = some f) : f < m.now.length := by
  unfold RM.find at hf
  obtain ⟨x, hx, rfl⟩ := Option.map_eq_some_iff.1 hf
  exact h.l x (List.mem_of_find?_eq_some hx)
theorem RR.file {D : RDk} {m : RM} (h : RR D m) {k : Nat} (hM : MOk m k) {f : Nat} (hf : f < m.now.length) : ∃ v, D.nowL[f]? = some v ∧ BIn D.arrs v (m.file f) ∧ (m.file f).length ≤ 1048576 := by
  obtain ⟨bs, hbs⟩ : ∃ b, m.now[f]? = some b := ⟨m.now[f], by simp⟩
  obtain ⟨v, hv, hb⟩ := h.now.right hbs
  have hfile : m.file f = bs := by unfold RM.file; rw [List.getD_eq_getElem?_getD, hbs]; rfl
  rw [hfile]
  exact ⟨v, hv, hb, hM.now bs (List.mem_of_getElem? hbs)⟩
attribute [local irreducible] J K Ctr Ends pts slc mapR mapI sbRow stock arrS

set_option maxRecDepth 20000 in
theorem mSize_any (br k : Nat) (D : RDk) (m : RM) (hR : RR D m) (hM : MOk m k) (name : ByteArray) :
    Ctr Tryz.prog 26 [ptr br, .string name] [rd br D] (fun v H => v = .tuple #[.int .i64 ((m.size name).1 : Int), .int .i64 ((m.size name).2 : Int)] ∧ H = [rd br D]) := by
  refine Ctr.enter Tryz.func26 (by kernel_rfl) rfl Tryz.ntmps26 rfl rfl ?_
  intro G F R hE
  (refine go ?_)
  refine J_call [0] rfl rfl rfl rfl (mFind_any br k D m hR hM name) rfl (fun _ _ _ _ _ => trivial) ?_
  rintro _ _ ⟨rfl, rfl⟩
  cases hfd : m.find name with
  | none =>
    have hm : m.size name = (0, 4) := by unfold RM.size; rw [hfd]
    rw [hm] at hE
    simp only [fI]
    (refine go ?_)
    refine K_return hE Tryz.func26 rfl _ rfl ⟨rfl, rfl⟩ (Ent.fin [0] 0 rfl rfl)
  | some f =>
    have hfl := RM.find_lt hM hfd
    obtain ⟨fv, hfv, hb, hlen⟩ := hR.file hM hfl
    have hm : m.size name = ((m.file f).length, 0) := by unfold RM.size; rw [hfd]
    rw [hm] at hE
    simp only [fI]
    obtain ⟨room, now, sure, lv, sts, wrs, nxt, down, nowL, sureL, stsL, wl, arrs, nrows⟩ := D
    simp only at hfv hb
    obtain ⟨ba, bc, rfl, hbc⟩ := hb.shape
    refine J_ent (rd_o _ _ _ _ _ _ _ _ _ _ _ _ _ _ _ _) ?_
    refine J_shape 3 rfl ?_
    rintro na nc rfl
    refine J_slcVw 3 rfl ?_
    intro hvn
    have hfn := (List.getElem?_eq_some_iff.1 hfv).1
    obtain ⟨nb, no, nc', hns⟩ := hvn.some (by rw [← List.length_pos_iff]; omega)
    simp only [Value.slice.injEq, true_and] at hns
    obtain ⟨rfl, rfl⟩ := hns
    repeat' (first | (with_reducible intro _hh) | refine go1 ?_ | refine J_fork ?_ ?_ | refine J_gsP rfl rfl rfl rfl ?_ ?_ | refine K_condP rfl rfl ?_ ?_ | refine J_at1 (U := tab) f rfl rfl rfl rfl rfl rfl rfl rfl hfn ?_ | refine J_loadAt (U := tab) 3 f rfl rfl rfl hvn rfl hfv rfl rfl ?_)
    refine K_return hE Tryz.func26 rfl _ rfl ⟨rfl, rfl⟩ ((Ent.pick [0, 1, 2, 3, 4, 5, 6] rfl).trans (rd_c _ _ _ _ _ _ _ _ _ _ _ _ _ _ _ _))

set_option maxRecDepth 20000 in
theorem mRead_any (br k : Nat) (D : RDk) (m : RM) (hR : RR D m) (hM : MOk m k) (name : ByteArray) (at_ n : Int) (ha : -9223372036854775808 ≤ at_ ∧ at_ ≤ 9223372036854775807) (hn : -9223372036854775808 ≤ n ∧ n ≤ 9223372036854775807) :
    Ctr Tryz.prog 27 [ptr br, .string name, .int .i64 at_, .int .i64 n] [rd br D] (fun v H => ∃ (a : Option Addr) (c : Nat), v = .tuple #[.slice a (m.read name at_ n).1.length c, .int .i64 ((m.read name at_ n).2 : Int)] ∧ H = [slc 5 1 (.slice a (m.read name at_ n).1.length c) (m.read name at_ n).1.length (bV (m.read name at_ n).1), rd br D]) := by
  have hfl := fun f hf => RM.find_lt hM (name := name) (f := f) hf
  have hff := fun f hf => hR.file hM (f := f) hf
  have hdn := hR.down
  have hfa := mFind_any br k D m hR hM name
  obtain ⟨room, now, sure, lv, sts, wrs, nxt, down, nowL, sureL, stsL, wl, arrs, nrows⟩ := D
  simp only at hff hdn
  refine Ctr.enter Tryz.func27 (by kernel_rfl) rfl Tryz.ntmps27 rfl rfl ?_
  intro G F R hE
  (refine K_ent (rd_o _ _ _ _ _ _ _ _ _ _ _ _ _ _ _ _) ?_)
  cases down with
  | true =>
    have hm : m.read name at_ n = ([], 7) := by unfold RM.read; rw [if_pos hdn.symm]
    rw [hm] at hE
    (refine go ?_)
    refine K_ent (slc_lift 5 1 none _) ?_
    (refine K_ent (Ent.pick ([1, 2, 3, 4, 5, 6, 7]) rfl) ?_; refine K_ent (rd_c _ _ _ _ _ _ _ _ _ _ _ _ _ _ _ _) ?_)
    refine K_return hE Tryz.func27 rfl _ rfl ⟨none, 0, rfl, rfl⟩ (Ent.fin [1, 0] 0 rfl rfl)
  | false =>
    (refine go ?_)
    refine J_ent (rd_c _ _ _ _ _ _ _ _ _ _ _ _ _ _ _ _) ?_
    refine J_call [0] rfl rfl rfl rfl (hfa) rfl (fun _ _ _ _ _ => trivial) ?_
    rintro _ _ ⟨rfl, rfl⟩
    cases hfd : m.find name with
    | none =>
      have hm : m.read name at_ n = ([], 4) := by unfold RM.read; rw [if_neg (by rw [← hdn]; simp), hfd]
      rw [hm] at hE
      simp only [fI]
      refine J_ent (rd_o _ _ _ _ _ _ _ _ _ _ _ _ _ _ _ _) ?_
      (refine go ?_)
      refine K_ent (slc_lift 5 1 none _) ?_
      (refine K_ent (Ent.pick ([1, 2, 3, 4, 5, 6, 7]) rfl) ?_; refine K_ent (rd_c _ _ _ _ _ _ _ _ _ _ _ _ _ _ _ _) ?_)
      refine K_return hE Tryz.func27 rfl _ rfl ⟨none, 0, rfl, rfl⟩ (Ent.fin [1, 0] 0 rfl rfl)
    | some r =>
      have hm : m.read name at_ n = if at_ < 0 ∨ n < 0 ∨ ((m.file r).length : Int) < at_ ∨ ((m.file r).length : Int) - at_ < n then ([], 1) else (((m.file r).drop at_.toNat).take n.toNat, 0) := by
        unfold RM.read; rw [if_neg (by rw [← hdn]; simp), hfd]
      rw [hm] at hE
      obtain ⟨bv, hbv, hbs, hbl⟩ := hff r (hfl r hfd)
      generalize m.file r = bs at hbs hbl hE
      simp only [fI]
      obtain ⟨ba, bc, rfl, hbc⟩ := hbs.shape
      have hrn := (List.getElem?_eq_some_iff.1 hbv).1
      refine J_ent (rd_o _ _ _ _ _ _ _ _ _ _ _ _ _ _ _ _) ?_
      refine J_shape 3 rfl ?_
      rintro na nc rfl
      refine J_slcVw 3 rfl ?_
      intro hvn
      obtain ⟨nb, no, nc', hns⟩ := hvn.some (by rw [← List.length_pos_iff]; omega)
      simp only [Value.slice.injEq, true_and] at hns
      obtain ⟨rfl, rfl⟩ := hns
      repeat' (first | (with_reducible intro _hh) | refine go1 ?_ | refine J_fork ?_ ?_ | refine J_gsP rfl rfl rfl rfl ?_ ?_ | refine K_condP rfl rfl ?_ ?_ | refine J_at1 (U := tab) r rfl rfl rfl rfl rfl rfl rfl rfl hrn ?_ | refine J_loadAt (U := tab) 3 r rfl rfl rfl hvn rfl hbv rfl rfl ?_)
      any_goals (
        rw [if_pos (by omega)] at hE
        refine K_ent (slc_lift 5 1 none _) ?_
        (refine K_ent (Ent.pick ([1, 2, 3, 4, 5, 6, 7]) rfl) ?_; refine K_ent (rd_c _ _ _ _ _ _ _ _ _ _ _ _ _ _ _ _) ?_)
        refine K_return hE Tryz.func27 rfl _ rfl ⟨none, 0, rfl, rfl⟩ (Ent.fin [1, 0] 0 rfl rfl))
      rw [if_neg (by omega)] at hE
      obtain ⟨p, rfl⟩ := Int.eq_ofNat_of_zero_le (a := at_) (by omega)
      obtain ⟨q, rfl⟩ := Int.eq_ofNat_of_zero_le (a := n) (by omega)
      simp only [Int.toNat_natCast] at hE
      refine J_buildSlice1 (U := tab) rfl rfl rfl rfl rfl rfl rfl rfl rfl (fun _ _ _ => trivial) ?_
      intro b0
      (refine go ?_)
      refine J_at1 (U := tab) r rfl rfl rfl rfl rfl rfl rfl rfl hrn ?_
      refine J_loadAt (U := tab) 4 r rfl rfl rfl hvn rfl hbv rfl rfl ?_
      (refine go ?_)
      refine J_sliceAny (U := tab) (p := (p : Int)) (q := (p : Int) + (q : Int)) rfl rfl rfl rfl rfl rfl rfl (by omega) (by omega) (.inr (by omega)) ?_
      refine J_slot 64 (.slice (sliceAt ba bc p 1) q (bc - p)) rfl (by simp only [Int.toNat_natCast]; congr 1; omega) ?_
      have hb2 := hbs.cut p q (by omega)
      have hl2 : ((bs.drop p).take q).length = q := by rw [List.length_take, List.length_drop]; omega
      refine J_ent (slc_row 5 1 b0 0 0 [] [] _ rfl (Nat.le_refl _) (by simp)) ?_
      refine J_append (U := tab) (mm := q) (news := bV ((bs.drop p).take q)) 0 2 rfl rfl rfl rfl rfl rfl rfl rfl rfl rfl rfl rfl (by have := hb2.view 5; rw [hl2] at this; exact this) (by show _ = _ * 1; rw [bV_length]; omega) (bV_one _) (by omega) (by show _ * 1 ≤ _; omega) (fun _ => rfl) (fun _ _ _ => trivial) ?_
      intro v1
      rw [show (0 : Nat) + q = ((bs.drop p).take q).length from by omega, List.nil_append]
      refine J_shape 0 rfl ?_
      rintro a1 c1 rfl
      (refine go ?_)
      (refine K_ent (Ent.pick ([1, 2, 3, 4, 5, 6, 7]) rfl) ?_; refine K_ent (rd_c _ _ _ _ _ _ _ _ _ _ _ _ _ _ _ _) ?_)
      refine K_return hE Tryz.func27 rfl _ rfl ⟨a1, c1, rfl, rfl⟩ (Ent.fin [1, 0] 0 rfl rfl)
end Go.Proofs.YtpdmbmnhgcnelaaGreat

