/- files, part s0: plain laws for Crash. -/
import Derived.Test.YtpdmbmnhgcnelaaFq
set_option linter.unusedVariables false
set_option linter.unusedSimpArgs false
namespace Go.Proofs.Ytpdmbmnhgcnelaa
open Go Go.SL
attribute [local irreducible] J K Ctr Ends pts slc mapR mapI sbRow stock arrS

abbrev Fss := List (Nat × List UInt8 × List UInt8)
/-- The memory's files are these. -/
structure FilesAre (arrs0 arrs : Arrs) (files : List (Nat × Value × Value)) (fs : Fss) (ids : List Nat) : Prop where
  all : All2 (fun x y => x.1 = y.1 ∧ BIn arrs x.2.1 y.2.1 ∧ BIn arrs x.2.2 y.2.2) files fs
  sub : ∀ x ∈ arrs0, x ∈ arrs
  ids : fs.map (·.1) = ids
  small : ∀ x ∈ fs, x.2.1.length ≤ 1048576 ∧ x.2.2.length ≤ 1048576
def toldAt (stay : List UInt8) (i : Nat) : Bool := decide (i / 8 < stay.length ∧ ((stay.getD (i / 8) 0).toNat / 2 ^ (i % 8)) % 2 = 1)
theorem map_one (g : Nat × List UInt8 × List UInt8 → Nat × List UInt8 × List UInt8) {fs : Fss} (hn : (fs.map (·.1)).Nodup) {i f : Nat} {x : List UInt8 × List UInt8} (hi : fs[i]? = some (f, x)) : (fs.map fun y => if y.1 = f then g y else y) = fs.set i (g (f, x)) := by
  induction fs generalizing i with
  | nil => simp at hi
  | cons y l ih =>
    simp only [List.map_cons, List.nodup_cons] at hn
    cases i with
    | zero =>
      simp at hi
      subst hi
      simp only [List.map_cons, if_true, List.set_cons_zero, List.cons.injEq, true_and]
      rw [List.map_congr_left (g := id) (fun z hz => ?_), List.map_id]
      have : z.1 ≠ f := fun e => hn.1 (List.mem_map.2 ⟨z, hz, e⟩)
      simp [this]
    | succ i =>
      simp at hi
      have hne : y.1 ≠ f := fun e => hn.1 (List.mem_map.2 ⟨_, List.mem_of_getElem? hi, e.symm⟩)
      have := ih hn.2 hi
      simp only [List.map_cons, hne, if_false, List.set_cons_succ, this]
theorem FilesAre.get {arrs0 arrs : Arrs} {files : List (Nat × Value × Value)} {fs : Fss} {ids : List Nat} (h : FilesAre arrs0 arrs files fs ids) (hn : ids.Nodup) {f : Nat} (hf : f ∈ ids) :
    ∃ (j : Nat) (v1 v2 : Value) (n s : List UInt8), files[j]? = some (f, v1, v2) ∧ fs[j]? = some (f, n, s) ∧ BIn arrs v1 n ∧ BIn arrs v2 s ∧ n.length ≤ 1048576 ∧ s.length ≤ 1048576 ∧ (fs.find? fun x => decide (x.1 = f)) = some (f, n, s) := by
  rw [← h.ids] at hf hn
  obtain ⟨⟨f', n, s⟩, hm, rfl⟩ := List.mem_map.1 hf
  obtain ⟨i, hi⟩ := List.getElem?_of_mem hm
  obtain ⟨⟨f2, v1, v2⟩, hx, h1, h2, h3⟩ := h.all.right hi
  simp only at h1 h2 h3
  subst h1
  exact ⟨i, v1, v2, n, s, hx, hi, h2, h3, (h.small _ hm).1, (h.small _ hm).2, find_nodup hn hi⟩
theorem FilesAre.put {arrs0 arrs arrs' : Arrs} {files : List (Nat × Value × Value)} {fs : Fss} {ids : List Nat} (h : FilesAre arrs0 arrs files fs ids) (hs : ∀ x ∈ arrs, x ∈ arrs') {j f : Nat} {v1 v2 : Value} {n s : List UInt8} {y : List UInt8 × List UInt8}
    (hj : fs[j]? = some (f, y)) (h1 : BIn arrs' v1 n) (h2 : BIn arrs' v2 s) (hl : n.length ≤ 1048576 ∧ s.length ≤ 1048576) : FilesAre arrs0 arrs' (files.set j (f, v1, v2)) (fs.set j (f, n, s)) ids where
  all := All2.set (h.all.mono fun x y hxy => ⟨hxy.1, hxy.2.1.mono hs, hxy.2.2.mono hs⟩) j ⟨rfl, h1, h2⟩
  sub x hx := hs x (h.sub x hx)
  ids := by
    rw [← h.ids, List.map_set]
    apply List.ext_getElem?
    intro i
    rw [List.getElem?_set]
    split
    · rename_i e; subst e; rw [List.getElem?_map, hj]
      have : j < (fs.map (·.1)).length := by
        rw [List.length_map]
        rcases Nat.lt_or_ge j fs.length with h | h
        · exact h
        · rw [List.getElem?_eq_none h] at hj; cases hj
      simp [this]
      rcases Nat.lt_or_ge j fs.length with h | h
      · exact h
      · rw [List.getElem?_eq_none h] at hj; cases hj
    · rfl
  small x hx := by
    rcases List.mem_or_eq_of_mem_set hx with h' | rfl
    · exact h.small x h'
    · exact hl
theorem drop_cons {α : Type} {l : List α} {i : Nat} {x : α} (h : l[i]? = some x) : l.drop i = x :: l.drop (i + 1) := by
  have hlt : i < l.length := by
    rcases Nat.lt_or_ge i l.length with h' | h'
    · exact h'
    · rw [List.getElem?_eq_none h'] at h; cases h
  rw [List.drop_eq_getElem_cons hlt]
  rw [List.getElem?_eq_getElem hlt] at h; cases h; rfl
theorem lasts_some {stay : List UInt8} {torn cut : Int} {i : Nat} {ws : List (Nat × Nat × List UInt8)} {fs : Fss} {f a j : Nat} {b c n s : List UInt8} (h : ws[i]? = some (f, a, b)) (hn : (fs.map (·.1)).Nodup) (hj : fs[j]? = some (f, n, s))
    (hk : Ab.kept stay torn cut i b = some c) : Ab.lasts stay torn cut i (ws.drop i) fs = Ab.lasts stay torn cut (i + 1) (ws.drop (i + 1)) (fs.set j (f, n, wroteL s a c)) := by
  rw [drop_cons h]
  simp only [Ab.lasts, hk]
  rw [find_nodup hn hj]
  have := map_one (fun y => (y.1, y.2.1, wroteL s a c)) hn hj
  unfold Ab.updSure
  simp only [Option.map_some, Option.getD_some]
  rw [this]
theorem lasts_none {stay : List UInt8} {torn cut : Int} {i : Nat} {ws : List (Nat × Nat × List UInt8)} {fs : Fss} {f a : Nat} {b : List UInt8} (h : ws[i]? = some (f, a, b))
    (hk : Ab.kept stay torn cut i b = none) : Ab.lasts stay torn cut i (ws.drop i) fs = Ab.lasts stay torn cut (i + 1) (ws.drop (i + 1)) fs := by
  rw [drop_cons h]
  simp only [Ab.lasts, hk]
theorem kept_torn {stay : List UInt8} {torn cut : Int} {i c : Nat} {b : List UInt8} (hi : (i : Int) = torn) (hc : max 0 (min cut b.length) = (c : Int)) : Ab.kept stay torn cut i b = if c = 0 then none else some (b.take c) := by
  unfold Ab.kept
  rw [if_pos hi]
  have e : (max 0 (min cut (b.length : Int))).toNat = c := by omega
  simp only [e]
  have hcb : c ≤ b.length := by omega
  by_cases h0 : c = 0
  · simp [h0]
  · have hlen : (b.take c).length = c := by rw [List.length_take]; omega
    have : b.take c ≠ [] := fun he => by rw [he] at hlen; simp at hlen; omega
    rw [if_neg this, if_neg h0]
theorem kept_else {stay : List UInt8} {torn cut : Int} {i : Nat} {b : List UInt8} (hi : (i : Int) ≠ torn) : Ab.kept stay torn cut i b = if toldAt stay i = true then some b else none := by
  unfold Ab.kept toldAt
  rw [if_neg hi]
  simp only [decide_eq_true_eq]
/-- Files that are reached are as they surely are. -/
def mark (S : List Nat) (fs : Fss) : Fss := fs.map fun x => if x.1 ∈ S then (x.1, x.2.2, x.2.2) else x
theorem mark_nil (fs : Fss) : mark [] fs = fs := by simp [mark]
theorem mark_ext {S S' : List Nat} (fs : Fss) (h : ∀ x, x ∈ S ↔ x ∈ S') : mark S fs = mark S' fs := by
  unfold mark; apply List.map_congr_left; intro x _; simp only [h]
theorem mark_ids (S : List Nat) (fs : Fss) : (mark S fs).map (·.1) = fs.map (·.1) := by
  unfold mark; rw [List.map_map]; apply List.map_congr_left; intro x _; simp only [Function.comp]; split <;> rfl
theorem mark_set {S : List Nat} {fs : Fss} (hn : (fs.map (·.1)).Nodup) {j f : Nat} {n s : List UInt8} (hj : (mark S fs)[j]? = some (f, n, s)) : (mark S fs).set j (f, s, s) = mark (f :: S) fs := by
  have h1 := map_one (fun y => (y.1, y.2.2, y.2.2)) (by rw [mark_ids]; exact hn) hj
  rw [← h1]
  unfold mark
  rw [List.map_map]
  apply List.map_congr_left
  intro x _
  simp only [Function.comp, List.mem_cons]
  by_cases hx : x.1 ∈ S <;> by_cases hf : x.1 = f <;> simp only [hx, hf, if_true, if_false, or_true, true_or, or_false, false_or, if_pos, if_neg, not_false_eq_true] <;> simp_all
theorem lasts_ids {stay : List UInt8} {torn cut : Int} (ws : List (Nat × Nat × List UInt8)) : ∀ (i : Nat) (fs : Fss), (Ab.lasts stay torn cut i ws fs).map (·.1) = fs.map (·.1) := by
  induction ws with
  | nil => intro i fs; rfl
  | cons w ws ih =>
    intro i fs
    unfold Ab.lasts
    cases Ab.kept stay torn cut i w.2.2 with
    | none => exact ih _ _
    | some c =>
      simp only
      rw [ih]
      unfold Ab.updSure
      rw [List.map_map]; apply List.map_congr_left; intro x _; simp only [Function.comp]; split <;> rfl
/-- The disk behind a crash. -/
theorem Rel.crashed {D : Dk} {A : Ab} (h : Rel D A) {last torn cut : Int} {stay : List UInt8} {q b1 b0 : Nat} {nm : List (ByteArray × Nat)} {arrs' : Arrs} {files' : List (Nat × Value × Value)} {w p : Value} (hw : w = .slice none 0 0) (hp : p = .slice none 0 0)
    (hq : max 0 (min last ((A.states.length : Int) - 1)) = q) (hnm : A.states[q]? = some nm) (hb : (b1, ptrs nm) ∈ D.maps)
    (hF : FilesAre D.arrs arrs' files' (mark (Ab.reach (A.states ++ [nm])) (Ab.lasts stay torn cut 0 A.writes A.fs)) (A.fs.map (·.1))) :
    Rel ⟨D.room, b1, .slice (some ⟨b0, 0, none⟩) 1 1, w, p, false, D.maps, arrs', files', [b1], []⟩ (A.crash last stay torn cut) := by
  subst hw hp
  have hst : nm ∈ A.states := List.mem_of_getElem? hnm
  have e : A.crash last stay torn cut = { A with names := nm, states := [nm], writes := [], plan := [], off := false, fs := mark (Ab.reach (A.states ++ [nm])) (Ab.lasts stay torn cut 0 A.writes A.fs) } := by
    have e1 : (max 0 (min last ((A.states.length : Int) - 1))).toNat = q := by omega
    have e2 : A.states.getD (max 0 (min last ((A.states.length : Int) - 1))).toNat [] = nm := by rw [e1, List.getD_eq_getElem?_getD, hnm]; rfl
    simp only [Ab.crash, e2]; rfl
  rw [e]
  have hsub : ∀ st ∈ nm :: [nm], st ∈ A.names :: A.states := fun st hs => by
    simp only [List.mem_cons, List.not_mem_nil, or_false] at hs
    rcases hs with rfl | rfl <;> exact List.mem_cons_of_mem _ hst
  exact
  { room := h.room, off := rfl, names := hb, states := All2.one hb, fs := hF.all, writes := All2.nil, plan := BIn.nil _ _ _
    ids := by simp only; rw [hF.ids]; exact h.ids
    known := fun st hs x hx => by simp only; rw [hF.ids]; exact h.known st (hsub st hs) x hx
    knownW := by simp
    nodup := fun st hs => h.nodup st (hsub st hs)
    smallF := hF.small
    smallW := by simp
    smallN := fun st hs => h.smallN st (hsub st hs)
    smallR := h.smallR, smallP := by simp, full := by simp }
end Go.Proofs.Ytpdmbmnhgcnelaa
